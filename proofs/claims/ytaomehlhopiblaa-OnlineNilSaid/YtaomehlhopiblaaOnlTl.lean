/- One pass: a step as such; the pass that every program must know: plain. -/
import Derived.Test.YtaomehlhopiblaaOnlT
import Derived.KernelRfl
import Derived.Test.YtaomehlhopiblaaOnlX
import Derived.Test.YtaomehlhopiblaaOnlV
import Derived.Laws.EntriesVeiled
set_option linter.unusedVariables false
set_option linter.unusedSimpArgs false
/-! One pass: a step as such; the pass that every program must know: plain. -/
namespace Go.Proofs.Ytaomehlhopiblaa
/-- What is there between two points of a pass. -/
structure OnSt where
  pts : Nat
  win : Nat → Win
  pd : Pnd
def on0 : OnSt := ⟨0, fun _ => [], []⟩
/-- A point: what is told, and what is there behind it. -/
def onlS (m d : Nat) (prop : ByteArray → Bool) (t : Tr) (s : OnSt) : List Itm × OnSt :=
  ((tellS m (putPd (stF m d prop t 0 ⟨[], s.win⟩).2.ah s.pd ++ [(s.pts, (stF m d prop t 0 ⟨[], s.win⟩).1.1)])).1,
   ⟨s.pts + 1, (stF m d prop t 0 ⟨[], s.win⟩).2.win, (tellS m (putPd (stF m d prop t 0 ⟨[], s.win⟩).2.ah s.pd ++ [(s.pts, (stF m d prop t 0 ⟨[], s.win⟩).1.1)])).2⟩)
/-! ### p at some point from now on -/
def someL : List Nd := [⟨18, ⟨#[]⟩, 0, 0, []⟩, ⟨22, ⟨#[]⟩, 0, 0, [0]⟩, ⟨3, ⟨#[112]⟩, 0, 0, []⟩, ⟨19, ⟨#[]⟩, 0, 0, [2]⟩, ⟨21, ⟨#[]⟩, 0, 0, [1, 3]⟩, ⟨17, ⟨#[]⟩, 0, -1, [4]⟩]
def someT : Tr := .un ⟨17, ⟨#[]⟩, 0, -1, [4]⟩ (.bin ⟨21, ⟨#[]⟩, 0, 0, [1, 3]⟩ (.un ⟨22, ⟨#[]⟩, 0, 0, [0]⟩ (.leaf ⟨18, ⟨#[]⟩, 0, 0, []⟩)) (.un ⟨19, ⟨#[]⟩, 0, 0, [2]⟩ (.leaf ⟨3, ⟨#[112]⟩, 0, 0, []⟩)))
theorem some_atoms : atomsN someT = 1 := by decide
def awN : ByteArray → Bool := fun _ => false
def aw1 : List Itm × OnSt := onlS 1 0 awN someT on0
def aw2 : List Itm × OnSt := onlS 1 1 awN someT aw1.2
deriving instance DecidableEq for Itm
theorem aw1_is : aw1.1 = [] := by kernel_rfl
theorem aw2_is : aw2.1 = [⟨true, 0, 1, false⟩] := by kernel_rfl
end Go.Proofs.Ytaomehlhopiblaa
/-! One pass: the walk of tell: what is told of pending points. -/
namespace Go.Proofs.Ytaomehlhopiblaa
open Go.RowKit
attribute [local go_sem ↓] Go.wp_at_zero Go.wp_at_succ
theorem sameF_dec (m : Nat) (p q : Fn) : sameF m p q = decide (∀ x, x < 2 ^ m → p x = q x) := by
  cases h : sameF m p q with
  | true => exact (decide_eq_true (sameF_iff.1 h)).symm
  | false => exact (decide_eq_false (fun e => by rw [sameF_iff.2 e] at h; cases h)).symm
set_option maxRecDepth 100000 in
set_option maxHeartbeats 2000000 in
theorem otell1_w {F : Fz} {w : World} (hF : Sat F w) (m : Nat) (hm : m ≤ 10) (g1 go gp : Nat) (h1 : F.cell ⟨g1, 0, none⟩ = some (.pointer (some ⟨go, 0, none⟩))) (h2 : F.cell ⟨go, 1, none⟩ = some (.int .i64 (m : Nat))) (Ap : Option Addr) (np cp : Nat) (p : Fn) (h3 : F.cell ⟨gp, 1, none⟩ = some (.slice Ap np cp)) (hp : WdF m F (.slice Ap np cp) p)
    (iq : Nat) (Aq : Option Addr) (nq cq : Nat) (q : Fn) (hq : WdF m F (.slice Aq nq cq) q) :
    Calls Try.prog 29 #[.agg #[.int .i64 (iq : Nat), .slice Aq nq cq], .pointer (some ⟨g1, 0, none⟩), .pointer (some ⟨gp, 0, none⟩)] w (RetBt w (sameF m p q)) := by
  obtain ⟨W, hW⟩ : ∃ W, W = w.alloc (.cells #[.int .i64 (iq : Nat), .slice Aq nq cq] 52) := ⟨_, rfl⟩
  have hb0 : Below w.heap.size w W := by rw [hW]; exact balloc _ _
  have hBn : Blk W w.heap.size 52 #[.int .i64 (iq : Nat), .slice Aq nq cq] := by rw [hW]; exact Blk.new _ _ _
  have hFW := hF.below hb0
  have c1 := (blkA hBn).2.1
  have y1 := hFW.cell h1
  have y2 := hFW.cell h2
  have y3 := hFW.cell h3
  have l1 : g1 < W.heap.size := hFW.clt h1
  have l2 : go < W.heap.size := hFW.clt h2
  have l3 : gp < W.heap.size := hFW.clt h3
  have l4 : w.heap.size < W.heap.size := hBn.lt
  have HQ := Lib.hid (fun (X : World) (hX : Sat F X) => w_same hm (hp.heap hX) (hq.heap hX) _ (sameF_dec m p q))
  have HFW := Lib.hid hFW
  have HW := Lib.hid hW
  clear hF h1 h2 h3 hp hq hW hFW
  go_enter Try.func29, Try.ntmps29
  go_wp2_with fail
  rw [← HW.out]
  go_region_held3 (fun w' => w'.cell? ⟨g1, 0, none⟩ = some (.pointer (some ⟨go, 0, none⟩)) ∧ w'.cell? ⟨go, 1, none⟩ = some (.int .i64 (m : Nat)) ∧ w'.cell? ⟨gp, 1, none⟩ = some (.slice Ap np cp) ∧ w'.cell? ⟨w.heap.size, 1, none⟩ = some (.slice Aq nq cq)) (first | go_keep | exact ⟨s0, s1, s2, s3⟩)
    (first | (go_at_call 14; refine (HQ.out _ (by first | exact HFW.out | exact HFW.out.drew)).mono ?_; rintro e w1 ⟨rfl, hq1⟩; have hbx : Below W.heap.size W w1 := (by refine bel_trans ?_ hq1; exact bel_eqv (Below.refl _ W) rfl rfl rfl rfl); have s0 := (hbx.cell (p := ⟨g1, 0, none⟩) l1).trans y1; have s1 := (hbx.cell (p := ⟨go, 1, none⟩) l2).trans y2; have s2 := (hbx.cell (p := ⟨gp, 1, none⟩) l3).trans y3; have s3 := (hbx.cell (p := ⟨w.heap.size, 1, none⟩) l4).trans c1))
  all_goals
    go_wp2_with fail
    go_ret
    exact ⟨rfl, bthen hb0 hbx⟩
/-- The first of the points that is one with p; none: -1. -/
def idxP (m : Nat) (p : Fn) (L : Pnd) : Int := firstI (fun j => match L[j]? with | some q => sameF m p q.2 | none => false) L.length 0
theorem firstI_no (p : Nat → Bool) : ∀ m i, (∀ j, j < m → p (i + j) = false) → firstI p m i = -1
  | 0, _, _ => rfl
  | m + 1, i, h => by
    unfold firstI
    rw [if_neg (by have := h 0 (by omega); rw [Nat.add_zero] at this; rw [this]; simp)]
    exact firstI_no p m (i + 1) fun j hj => by rw [Nat.add_right_comm]; exact h (j + 1) (by omega)
theorem firstI_at (p : Nat → Bool) : ∀ k m i, k < m → (∀ j, j < k → p (i + j) = false) → p (i + k) = true → firstI p m i = ((i + k : Nat) : Int)
  | 0, m + 1, i, _, _, h2 => by unfold firstI; rw [Nat.add_zero] at h2; rw [if_pos h2]; rfl
  | k + 1, m + 1, i, h, h1, h2 => by
    unfold firstI
    rw [if_neg (by have := h1 0 (by omega); rw [Nat.add_zero] at this; rw [this]; simp)]
    rw [firstI_at p k m (i + 1) (by omega) (fun j hj => by rw [Nat.add_right_comm]; exact h1 (j + 1) (by omega)) (by rw [Nat.add_right_comm]; exact h2)]
    omega
set_option maxRecDepth 100000 in
set_option maxHeartbeats 2000000 in
theorem oidx_w {F : Fz} {w : World} (hF : Sat F w) (m : Nat) (hm : m ≤ 10) (g1 go gp : Nat) (h1 : F.cell ⟨g1, 0, none⟩ = some (.pointer (some ⟨go, 0, none⟩))) (h2 : F.cell ⟨go, 1, none⟩ = some (.int .i64 (m : Nat))) (Ap : Option Addr) (np cp : Nat) (p : Fn) (h3 : F.cell ⟨gp, 1, none⟩ = some (.slice Ap np cp)) (hp : WdF m F (.slice Ap np cp) p)
    (A : Option Addr) (n c : Nat) (hn : n ≤ 1000000) (L : Pnd) (hL : PlF m F A n L) :
    Calls Try.prog 28 #[.slice A n c, .func (.func 29) #[] #[.pointer (some ⟨g1, 0, none⟩), .pointer (some ⟨gp, 0, none⟩)]] w fun e w' => e = .returned (.int .i64 (idxP m p L)) ∧ Below w.heap.size w w' := by
  have hLn : L.length = n := hL.1
  have HLN := Lib.hid hLn
  have HL := Lib.hid hL
  have HF := Lib.hid hF
  have HT := Lib.hid (fun (X : World) (hX : Sat F X) (iq : Nat) (Aq : Option Addr) (nq cq : Nat) (q : Fn) (hq : WdF m F (.slice Aq nq cq) q) => otell1_w hX m hm g1 go gp h1 h2 Ap np cp p h3 hp iq Aq nq cq q hq)
  obtain ⟨R, hR⟩ : ∃ R, idxP m p L = R := ⟨_, rfl⟩
  have HR := Lib.hid hR
  rw [hR]
  clear hLn hL hF h1 h2 h3 hp hR
  go_enter Try.func28, Try.ntmps28
  go_wp2_with fail
  go_loopw [5, 8] (fun _ i wr => ∃ k : Nat, k ≤ n ∧ i = .int .i64 k ∧ Hid (∀ j q, j < k → L[j]? = some q → sameF m p q.2 = false) ∧ Below w.heap.size w wr) (fun _ i _ => n - (intOf i).toNat)
  case atStart => exact ⟨0, Nat.zero_le _, rfl, Lib.hid (fun j _ h => absurd h (by omega)), Below.refl _ _⟩
  case round =>
    obtain ⟨k, hk, rfl, hr, hb⟩ := hrel
    by_cases hlt : k < n
    · have hltI : (k : Int) < (n : Int) := by omega
      have hkL : k < L.length := by rw [HLN.out]; exact hlt
      obtain ⟨q, hq⟩ : ∃ q, L[k]? = some q := ⟨_, List.getElem?_eq_getElem hkL⟩
      obtain ⟨ad, v, rfl, c0, c1, hv⟩ := HL.out.at_ hq
      obtain ⟨Aq, nq, cq, fq, rfl, hrq⟩ := id hv
      have hFr := HF.out.below hb
      have z0 := hFr.cell c0
      have z1 : wr.cell? ⟨(ad.add (k * 2)).block, (ad.add (k * 2)).off + 1, none⟩ = some (.slice Aq nq cq) := hFr.cell c1
      have hS := HT.out wr hFr q.1 Aq nq cq q.2 hv
      obtain ⟨b, hbb⟩ : ∃ b, sameF m p q.2 = b := ⟨_, rfl⟩
      rw [hbb] at hS
      have HS := Lib.hid hS
      have HB := Lib.hid hbb
      have HQ := Lib.hid hq
      clear hS hbb hq hv hrq c0 c1 hFr
      cases b with
      | false =>
        go_wp2_with (go_at_call 29; refine HS.out.mono ?_; rintro e w1 ⟨rfl, hw1⟩)
        go_roundw
        case rel => exact ⟨k + 1, by omega, by go_num, Lib.hid (fun j q' hj hq' => by
          by_cases e : j = k
          · subst e
            rw [HQ.out] at hq'
            injection hq' with hq'
            rw [← hq']
            exact HB.out
          · exact hr.out j q' (by omega) hq'), bthen hb hw1⟩
        case measure => simp [intOf]; omega
      | true =>
        have HA : Hid (((k : Nat) : Int) = R) := Lib.hid (by
          rw [← HR.out]
          unfold idxP
          rw [firstI_at _ k L.length 0 hkL (fun j hj => ?_) ?_, Nat.zero_add]
          · rw [Nat.zero_add, HQ.out]
            exact HB.out
          · rw [Nat.zero_add]
            cases e : L[j]? with
            | none => rfl
            | some q' => exact hr.out j q' hj e)
        go_wp2_with (go_at_call 29; refine HS.out.mono ?_; rintro e w1 ⟨rfl, hw1⟩)
        go_ret
        exact ⟨by rw [← HA.out]; rfl, bthen hb hw1⟩
    · obtain rfl : k = n := by omega
      have HA : Hid ((-1 : Int) = R) := Lib.hid (by
        rw [← HR.out]
        unfold idxP
        rw [firstI_no _ L.length 0 fun j hj => ?_]
        rw [Nat.zero_add]
        cases e : L[j]? with
        | none => rfl
        | some q' => exact hr.out j q' (by rw [← HLN.out]; exact hj) e)
      have hltI : decide ((k : Int) < (k : Int)) = false := decide_eq_false (by omega)
      go_wp2_with fail
      go_ret
      exact ⟨by rw [← HA.out]; rfl, hb⟩
theorem tab_const {m : Nat} {fs : List (BitVec 64)} {p : Fn} (hp : ∀ x, x < 2 ^ m → bitAt fs x = p x) (b : Bool) : tab m (bitAt fs) = tab m (fun _ => b) ↔ ∀ x, x < 2 ^ m → p x = b := by
  constructor
  · intro e x hx
    have h1 := congrArg (fun l => bitAt l x) e
    simp only [bit_tab, hx, decide_true, Bool.true_and] at h1
    rw [← hp x hx, h1]
  · intro e
    exact tab_congr fun x hx => by rw [hp x hx, e x hx]
/-- Const of a function: is it constant, and which value it has then. -/
theorem oconst_w {F : Fz} {m : Nat} (hm : m ≤ 10) {v : Value} {p : Fn} (h : WdF m F v p) : ∃ a c : Bool, c = constF m p ∧ (c = true → a = p 0) ∧ ∀ X, Sat F X → Calls Try.prog 27 #[.int .i64 (m : Nat), v] X fun e w' => e = .returned (.tuple #[.bool a, .bool c]) ∧ Below X.heap.size X w' := by
  obtain ⟨A, n, c, fs, rfl, hr, hl, hp⟩ := h
  have h0 : 0 < 2 ^ m := Nat.pow_pos (by omega)
  refine ⟨(cV m fs).1, (cV m fs).2, ?_, ?_, fun X hX => const_yes hX m hm fs A n c hr⟩
  · unfold cV
    by_cases h1 : tab m (bitAt fs) = tab m (fun _ => false)
    · rw [if_pos h1]
      have h2 := (tab_const hp false).1 h1
      exact (sameF_iff.2 fun x hx => by rw [h2 x hx, h2 0 h0]).symm
    · rw [if_neg h1]
      by_cases h3 : tab m (bitAt fs) = tab m (fun _ => true)
      · rw [if_pos h3]
        have h2 := (tab_const hp true).1 h3
        exact (sameF_iff.2 fun x hx => by rw [h2 x hx, h2 0 h0]).symm
      · rw [if_neg h3]
        cases hc : constF m p with
        | false => rfl
        | true =>
          have h4 := sameF_iff.1 hc
          exfalso
          cases hp0 : p 0 with
          | false => exact h1 ((tab_const hp false).2 fun x hx => by rw [h4 x hx, hp0])
          | true => exact h3 ((tab_const hp true).2 fun x hx => by rw [h4 x hx, hp0])
  · unfold cV
    by_cases h1 : tab m (bitAt fs) = tab m (fun _ => false)
    · rw [if_pos h1]
      exact fun _ => ((tab_const hp false).1 h1 0 h0).symm
    · rw [if_neg h1]
      by_cases h3 : tab m (bitAt fs) = tab m (fun _ => true)
      · rw [if_pos h3]
        exact fun _ => ((tab_const hp true).1 h3 0 h0).symm
      · rw [if_neg h3]
        exact fun e => (by cases e)
/-- Items, as they lie in memory. -/
def itC (I : List Itm) : List Value := I.flatMap fun i => [.int .i64 (if i.eq = true then 2 else 1), .int .i64 (i.idx : Nat), .bool i.val, .int .i64 (i.dst : Nat)]
theorem itC_append (a b : List Itm) : itC (a ++ b) = itC a ++ itC b := by simp [itC]
theorem item_info : (Try.prog.info? 56).map (fun i => (i.zero, i.size, i.bytes)) = some (some (.agg #[.int .i64 0, .int .i64 0, .bool false, .int .i64 0]), 4, 32) := by kernel_rfl
theorem point_info : (Try.prog.info? 52).map (fun i => (i.zero, i.size, i.bytes)) = some (some (.agg #[.int .i64 0, .slice none 0 0]), 2, 32) := by kernel_rfl
theorem wpList_pushIt {w : World} {ops : Array Oper} {rest : List Oper} {o : Oper} {a : Act} {Q : Exit → Act → World → Prop} (hgd : o.guard = none) (s x : Operand)
    (ho : o.op = .call { callee := .builtin .append, args := #[s, x], argTypes := #[24, 24] })
    {F : Fz} {B n : Nat} {v : Value} {xs : List Value} {k q d : Int} {b : Bool} (hown : Own F w B 56 4 v n xs) (hF : Sat F w) (hs : a.eval s = v)
    (g c : Nat) (hx : a.eval x = .slice (some ⟨g, 0, none⟩) 1 c) (hg : Blk w g 56 #[.int .i64 k, .int .i64 q, .bool b, .int .i64 d]) (hn : n + 1 ≤ 1000000) (hB : B ≤ w.heap.size)
    (h : ∀ v' w', Own F w' B 56 4 v' (n + 1) (xs ++ [.int .i64 k, .int .i64 q, .bool b, .int .i64 d]) → Sat F w' → Below B w w' → w.grownBy w' v.ownBlock → (v'.ownBlock = v.ownBlock ∨ v'.ownBlock = some w.heap.size) → wpList Try.prog ops Q rest (a.put o.dst v') w') :
    wpList Try.prog ops Q (o :: rest) a w :=
  wpList_push hgd s x _ ho 56 _ 4 32 Try.underlying24 item_info rfl (by omega) hown hF hs g c #[.int .i64 k, .int .i64 q, .bool b, .int .i64 d] hx hg rfl (fun u hu => by
    simp at hu
    rcases hu with rfl | rfl | rfl | rfl <;> rfl) (by simp [maxLen]; omega) (by omega) hB h
theorem step_pushIt {w : World} {ops : Array Oper} {o : Oper} {a : Act} {K : Act → World → Prop} {Q : Exit → Act → World → Prop} {E : Prop} (hgd : o.guard = none) (s x : Operand)
    (ho : o.op = .call { callee := .builtin .append, args := #[s, x], argTypes := #[24, 24] })
    {F : Fz} {B n : Nat} {v : Value} {xs : List Value} {k q d : Int} {b : Bool} (hown : Own F w B 56 4 v n xs) (hF : Sat F w) (hs : a.eval s = v)
    (g c : Nat) (hx : a.eval x = .slice (some ⟨g, 0, none⟩) 1 c) (hg : Blk w g 56 #[.int .i64 k, .int .i64 q, .bool b, .int .i64 d]) (hn : n + 1 ≤ 1000000) (hB : B ≤ w.heap.size)
    (h : ∀ v' w', Own F w' B 56 4 v' (n + 1) (xs ++ [.int .i64 k, .int .i64 q, .bool b, .int .i64 d]) → Sat F w' → Below B w w' → w.grownBy w' v.ownBlock → (v'.ownBlock = v.ownBlock ∨ v'.ownBlock = some w.heap.size) → K (a.put o.dst v') w') :
    if Region.wanted o (yielded ops a.tmps) = true then Oper.wp Try.prog o a w K Q else E := by
  have hr : Rd (heapF w) 4 (some ⟨g, 0, none⟩) 1 [.int .i64 k, .int .i64 q, .bool b, .int .i64 d] := by
    refine ⟨rfl, fun _ => ⟨_, rfl, fun j u hu => ?_⟩⟩
    rw [add_lit0]
    unfold Fz.cell heapF
    rw [hg]
    simpa using hu
  refine step_pushAll hgd s x _ ho 56 _ 4 32 Try.underlying24 item_info rfl (by omega) hown hF hs _ 1 c _ hx (sat_heapF w) hr (fun u hu => by
    simp at hu
    rcases hu with rfl | rfl | rfl | rfl <;> rfl) (by simp [maxLen]; omega) (by omega) hB ?_
  exact h
end Go.Proofs.Ytaomehlhopiblaa
