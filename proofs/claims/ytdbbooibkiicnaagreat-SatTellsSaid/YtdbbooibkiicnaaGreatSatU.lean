/- Truth of a tree that is laid as a list. -/
import Derived.Test.YtdbbooibkiicnaaGreatSatF
import Derived.Test.YtdbbooibkiicnaaGreatTurnS
import Derived.Test.YtdbbooibkiicnaaGreatPileP
import Derived.Test.YtdbbooibkiicnaaGreatPReach
set_option linter.unusedVariables false
set_option linter.unusedSimpArgs false
/-! Truth of a tree that is laid as a list. -/
namespace Go.Proofs.YtdbbooibkiicnaaGreat
open Go.RowKit
theorem sat_eq (X : TrcS) : ∀ {s t : Tr}, EqT s t → satB X s = satB X t
  | .leaf h, .leaf h', e => by
    have e' : ({ h with kids := [] } : Nd) = { h' with kids := [] } := e
    show (leafS X { h with kids := [] }, []) = (leafS X { h' with kids := [] }, [])
    rw [e']
  | .un h a, .un h' a', e => by
    have ih := sat_eq X e.2
    have hk := kind_of_nd e.1
    show (unS X { h with kids := [] } (satB X a).1 (reachT X.n (valL (satB X a).2) a 0), if h.kind = 19 then [(satB X a).1] else (satB X a).2) = (unS X { h' with kids := [] } (satB X a').1 (reachT X.n (valL (satB X a').2) a' 0), if h'.kind = 19 then [(satB X a').1] else (satB X a').2)
    rw [ih, e.1, hk, shape_reach X.n _ 0 (eq_shape e.2)]
  | .bin h a b, .bin h' a' b', e => by
    have ih := sat_eq X e.2.1
    have ih2 := sat_eq X e.2.2
    show (binS X { h with kids := [] } (satB X a).1 (satB X b).1, (satB X a).2 ++ (satB X b).2) = (binS X { h' with kids := [] } (satB X a').1 (satB X b').1, (satB X a').2 ++ (satB X b').2)
    rw [ih, ih2, e.1]
theorem allA_flat (ss : List ByteArray) (es : List Evt) {t : Tr} (hv : validT t = true) : allA ss es (t.flat 0) = satT (trcE ss es) t := by
  obtain ⟨t', h1, _, _⟩ := tree_of_valid hv
  unfold allA
  rw [h1]
  have he : EqT t' t := eq_of_flat t' t 0 (tree_flat h1).symm
  show (satB (trcE ss es) t').1 = (satB (trcE ss es) t).1
  rw [sat_eq _ he]
theorem formL_flat {t : Tr} (hv : validT t = true) (hr : regS t.root.kind = false) : formL (t.flat 0) = true := by
  obtain ⟨t', h1, _, h3⟩ := tree_of_valid hv
  unfold formL
  rw [h1]
  simp only
  rw [h3, hr]
  rfl
end Go.Proofs.YtdbbooibkiicnaaGreat
/-! slices.Equal on two rows of Booleans, wherever they begin. -/
namespace Go.Proofs.YtdbbooibkiicnaaGreat
open Go.RowKit
theorem equalAt_w {w : World} {n c d : Nat} {a b : Addr} {r : Nat → Bool} (hn : n ≤ 1000) (h1 : ∀ j, j < n → w.cell? (a.add j) = some (.bool (r j))) (h2 : ∀ j, j < n → w.cell? (b.add j) = some (.bool (r j))) :
    Calls Tryz.prog 23 #[.slice (some a) n c, .slice (some b) n d] w fun e w' => e = .returned (.bool true) ∧ ∃ k, w' = w.drewN k := by
  go_enter Tryz.func23, Tryz.ntmps23
  go_wp2_with fail
  go_loopw [13] (fun i wr => ∃ j k : Nat, j ≤ n ∧ i = .int .i64 j ∧ wr = w.drewN k) (fun i _ => n - (intOf i).toNat)
  case atStart => exact ⟨0, 0, Nat.zero_le _, rfl, rfl⟩
  case round =>
    obtain ⟨j, k, hj, rfl, rfl⟩ := hrel
    by_cases hjn : j < n
    · have hjI : (j : Int) < (n : Int) := by omega
      have c1 := h1 j hjn
      have c2 := h2 j hjn
      have hne : (r j != r j) = false := by simp
      clear h1 h2
      go_wp2_with fail
      go_quiet (fail)
      go_wp2_with fail
      go_roundw
      case rel => exact ⟨j + 1, _, by omega, by go_num, rfl⟩
      case measure => simp [intOf]; omega
    · obtain rfl : j = n := by omega
      have hdec : decide ((j : Int) < (j : Int)) = false := decide_eq_false (by omega)
      go_wp2_with fail
      go_ret
      exact ⟨rfl, k, rfl⟩
/-- n Booleans at A, if any. -/
def BAt (w : World) (A : Option Addr) (n : Nat) (r : Nat → Bool) : Prop := 0 < n → ∃ a, A = some a ∧ ∀ j, j < n → w.cell? (a.add j) = some (.bool (r j))
theorem BAt.zero (w : World) (A : Option Addr) (r : Nat → Bool) : BAt w A 0 r := fun h => absurd h (by omega)
theorem BAt.row {w : World} {g n : Nat} {r : Nat → Bool} (h : Blk w g 4 (rowV n r)) : BAt w (some ⟨g, 0, none⟩) n r := fun _ => ⟨_, rfl, fun j hj => by rw [add_lit0, h.cell, get_rowV hj]⟩
theorem BAt.take {w : World} {A : Option Addr} {n k : Nat} {r : Nat → Bool} (h : BAt w A n r) (hk : k ≤ n) : BAt w A k r := fun h0 => let ⟨a, e, h2⟩ := h (by omega); ⟨a, e, fun j hj => h2 j (by omega)⟩
theorem BAt.congr {w : World} {A : Option Addr} {n : Nat} {r r' : Nat → Bool} (h : BAt w A n r) (he : ∀ j, j < n → r j = r' j) : BAt w A n r' := fun h0 => let ⟨a, e, h2⟩ := h h0; ⟨a, e, fun j hj => by rw [h2 j hj, he j hj]⟩
theorem equalU_w {w : World} {n c d : Nat} {A B : Option Addr} {r : Nat → Bool} (hn : n ≤ 1000) (h1 : BAt w A n r) (h2 : BAt w B n r) :
    Calls Tryz.prog 23 #[.slice A n c, .slice B n d] w fun e w' => e = .returned (.bool true) ∧ ∃ k, w' = w.drewN k := by
  rcases Nat.eq_zero_or_pos n with h0 | h0
  · subst h0
    clear h1 h2
    go_enter Tryz.func23, Tryz.ntmps23
    go_wp2_with fail
    go_loopw [13] (fun i wr => i = .int .i64 0 ∧ wr = w) (fun _ _ => 0)
    case atStart => exact ⟨rfl, rfl⟩
    case round =>
      obtain ⟨rfl, rfl⟩ := hrel
      go_wp2_with fail
      go_ret
      exact ⟨rfl, 0, rfl⟩
  · obtain ⟨a, e1, g1⟩ := h1 h0
    obtain ⟨b, e2, g2⟩ := h2 h0
    subst e1 e2
    exact equalAt_w hn g1 g2
theorem BAt.drew {w : World} {A : Option Addr} {n : Nat} {r : Nat → Bool} (h : BAt w A n r) : BAt w.drew A n r := h
theorem BAt.lit {w : World} {g n k : Nat} {r : Nat → Bool} (h : BAt w (some ((⟨g, 0, none⟩ : Addr).add k)) n r) : BAt w (some ⟨g, k, none⟩) n r := by rwa [add_lit0] at h
theorem equalV_w {w : World} {n c d : Nat} {A B : Option Addr} {r : Nat → Bool} (hn : n ≤ 1000) (h1 : BAt w A n r) (h2 : BAt w B n r) :
    Calls Tryz.prog 23 #[.slice A n c, .slice B n d] w fun e w' => e = .returned (.bool true) ∧ Below w.heap.size w w' :=
  (equalU_w hn h1 h2).mono fun _ _ ⟨h, k, hk⟩ => ⟨h, by rw [hk]; exact below_drewN (Below.refl _ _) k⟩
end Go.Proofs.YtdbbooibkiicnaaGreat
/-! What sat.All gives of a trace that may be and a formula that may be: a row, where there is a point. -/
namespace Go.Proofs.YtdbbooibkiicnaaGreat
open Go.RowKit
/-- A row of n Booleans of its own comes back; none, where n is none. -/
def RetAllU (w : World) (n : Nat) (S : Nat → Bool) (e : Ending) (w' : World) : Prop :=
  ∃ A, e = .returned (.slice A n n) ∧ Below w.heap.size w w' ∧ ((n = 0 ∧ A = none) ∨ (0 < n ∧ ∃ g, A = some ⟨g, 0, none⟩ ∧ w.heap.size ≤ g ∧ Blk w' g 4 (rowV n S)))
theorem sAllU_w {F : Fz} {w : World} (hF : Sat F w) (ss : List ByteArray) (es : List Evt) (hM : mayT ss es = true) (An : Option Addr) (nn cn : Nat) (hcn : nn ≤ cn) (hN : Rd F 1 An nn (ss.map Value.string)) (Ae : Option Addr) (ne ce : Nat) (hE : EvsF F Ae ne es) (hid : ∀ e ∈ es, e.ids.length ≤ 1000000000) (hn : ne ≤ 1000)
    {t : Tr} (hv : validT t = true) (hr : regS t.root.kind = false) (hs : t.size ≤ 1000) (Al : Option Addr) (N cl : Nat) (hcl : N ≤ cl) (hl : NodesF F Al N (t.flat 0)) (S : Nat → Bool) (hS : ∀ i, i < ne → satT (trcE ss es) t i = S i) :
    Calls Tryz.prog 24 #[.agg #[.slice An nn cn, .slice Ae ne ce], .slice Al N cl] w (RetAllU w ne S) := by
  have hne := hE.1
  refine (sAll_w hF ss es An nn cn hcn hN Ae ne ce hE hid hn (t.flat 0) (by rw [Tr.length_flat]; omega) Al N cl hcl hl (decide (0 < ne)) (by rw [okA, hM, formL_flat hv hr, hne]; rfl) _ (allA_flat ss es hv)).mono ?_
  rintro e w' (⟨h, rfl, hb⟩ | ⟨h, g, rfl, hb, hg, hk⟩)
  · obtain rfl : ne = 0 := by have := of_decide_eq_false h; omega
    exact ⟨none, rfl, hb, .inl ⟨rfl, rfl⟩⟩
  · rw [rowV_congr hS] at hk
    exact ⟨_, rfl, hb, .inr ⟨of_decide_eq_true h, g, rfl, hg, hk⟩⟩
/-- The row as it is read. -/
theorem RetAllU.bat {w : World} {A : Option Addr} {n : Nat} {S : Nat → Bool} (h : (n = 0 ∧ A = none) ∨ (0 < n ∧ ∃ g, A = some ⟨g, 0, none⟩ ∧ Blk w g 4 (rowV n S))) : BAt w A n S := by
  rcases h with ⟨rfl, _⟩ | ⟨_, g, rfl, hk⟩
  · exact BAt.zero _ _ _
  · exact BAt.row hk
end Go.Proofs.YtdbbooibkiicnaaGreat
