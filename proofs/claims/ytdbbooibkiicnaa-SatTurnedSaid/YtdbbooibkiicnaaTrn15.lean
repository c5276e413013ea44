/- A row of events of the call's own, whose ids are frozen. -/
import Derived.Test.YtdbbooibkiicnaaMk8E
import Derived.Test.YtdbbooibkiicnaaSq
import Derived.Test.YtdbbooibkiicnaaPlanM
import Derived.Test.YtdbbooibkiicnaaSatTrn
import Derived.Test.YtdbbooibkiicnaaSatF
import Derived.Test.YtdbbooibkiicnaaPileP
import Derived.Test.YtdbbooibkiicnaaOver
set_option linter.unusedVariables false
set_option linter.unusedSimpArgs false
/-! A row of events of the call's own, whose ids are frozen. -/
namespace Go.Proofs.Ytdbbooibkiicnaa
open Go.RowKit
/-- Events' cells, their ids frozen. -/
def EvV (F : Fz) (es : List Evt) (xs : List (Nat × Value)) : Prop := xs.length = es.length ∧ ∀ (j : Nat) (e : Evt), es[j]? = some e → e.time < 18446744073709551616 ∧ ∃ Ai ci, xs[j]? = some (e.time, .slice Ai e.ids.length ci) ∧ e.ids.length ≤ ci ∧ Rd F 1 Ai e.ids.length (e.ids.map (Value.int .i64))
theorem EvV.cle {F F' : Fz} {es : List Evt} {xs : List (Nat × Value)} (h : EvV F es xs) (hle : CLe F F') : EvV F' es xs :=
  ⟨h.1, fun j e hj => let ⟨ht, Ai, ci, h1, h2, h3⟩ := h.2 j e hj; ⟨ht, Ai, ci, h1, h2, h3.cle hle⟩⟩
theorem EvV.snoc {F : Fz} {es : List Evt} {xs : List (Nat × Value)} (h : EvV F es xs) {e : Evt} (he : e.time < 18446744073709551616) {Ai : Option Addr} {ci : Nat} (hci : e.ids.length ≤ ci) (hri : Rd F 1 Ai e.ids.length (e.ids.map (Value.int .i64))) : EvV F (es ++ [e]) (xs ++ [(e.time, .slice Ai e.ids.length ci)]) := by
  refine ⟨by simp [h.1], fun j e' hj => ?_⟩
  by_cases hl : j < es.length
  · rw [List.getElem?_append_left hl] at hj
    obtain ⟨ht, A, c, h1, h2, h3⟩ := h.2 j e' hj
    exact ⟨ht, A, c, by rw [List.getElem?_append_left (by rw [h.1]; exact hl)]; exact h1, h2, h3⟩
  · have hj1 := (List.getElem?_eq_some_iff.1 hj).1
    simp at hj1
    obtain rfl : j = es.length := by omega
    rw [List.getElem?_append_right (Nat.le_refl _), Nat.sub_self] at hj
    simp only [List.getElem?_cons_zero, Option.some.injEq] at hj
    subst hj
    exact ⟨he, Ai, ci, by rw [List.getElem?_append_right (by rw [h.1]; exact Nat.le_refl _), h.1, Nat.sub_self]; rfl, hci, hri⟩
def OwnEF (F : Fz) (w : World) (B : Nat) (v : Value) (es : List Evt) : Prop := ∃ xs, Own F w B 45 2 v es.length (evC xs) ∧ EvV F es xs
namespace OwnEF
variable {F F' : Fz} {w w' : World} {B : Nat} {v : Value} {es : List Evt}
theorem nil (F : Fz) (w : World) (B : Nat) : OwnEF F w B (.slice none 0 0) [] := ⟨[], Own.nil _ _ _ _ _, rfl, fun j e h => by simp at h⟩
theorem lt (h : OwnEF F w B v es) : ∀ g, v.ownBlock = some g → B ≤ g ∧ g < w.heap.size := let ⟨_, h1, _⟩ := h; h1.1.lt
theorem call (h : OwnEF F w B v es) (hb : Below w.heap.size w w') : OwnEF F w' B v es := let ⟨xs, h1, h2⟩ := h; ⟨xs, h1.call hb, h2⟩
theorem alloc (h : OwnEF F w B v es) (o : Obj) : OwnEF F (w.alloc o) B v es := h.call (balloc _ _)
theorem setFar (h : OwnEF F w B v es) {a : Addr} (ha : v.ownBlock ≠ some a.block) (u : Value) : OwnEF F (w.setCell a u) B v es := let ⟨xs, h1, h2⟩ := h; ⟨xs, h1.setFar ha u, h2⟩
theorem shape (h : OwnEF F w B v es) : ∃ A c, v = .slice A es.length c ∧ es.length ≤ c := let ⟨_, h1, _⟩ := h; h1.shape
theorem freeze (h : OwnEF F w B v es) (hF : Sat F w) (w0 : World) (hB : w0.heap.size ≤ B) : ∃ F' A c, v = .slice A es.length c ∧ es.length ≤ c ∧ EvsF F' A es.length es ∧ Sat F' w ∧ Fle w0 F F' := by
  obtain ⟨xs, h1, h2⟩ := h
  obtain ⟨F', A, c, e, hc, hr, hs, hle, hb⟩ := h1.freeze hF w0 hB
  refine ⟨F', A, c, e, hc, ⟨rfl, fun h0 => ?_⟩, hs, hle⟩
  obtain ⟨ad, e1, hr2⟩ := hr.2 h0
  refine ⟨ad, e1, fun i hi => ?_⟩
  obtain ⟨ht, Ai, ci, h3, h4, h5⟩ := h2.2 i es[i] (List.getElem?_eq_getElem hi)
  obtain ⟨g1, g2⟩ := get_evC xs i _ h3
  exact ⟨ht, Ai, ci, h4, h5.cle hle.cle, hr2 _ _ g1, by rw [add_of_add]; exact hr2 _ _ g2⟩
end OwnEF
theorem step_pushEF {w : World} {ops : Array Oper} {o : Oper} {a : Act} {K : Act → World → Prop} {Q : Exit → Act → World → Prop} {E : Prop} (hgd : o.guard = none) (s x : Operand)
    (ho : o.op = .call { callee := .builtin .append, args := #[s, x], argTypes := #[39, 39] })
    {F : Fz} {B : Nat} {v : Value} {es : List Evt} (hown : OwnEF F w B v es) (hF : Sat F w) (hs : a.eval s = v)
    (e : Evt) (he : e.time < 18446744073709551616) (Ai : Option Addr) (ci : Nat) (hci : e.ids.length ≤ ci) (hri : Rd F 1 Ai e.ids.length (e.ids.map (Value.int .i64)))
    (g c : Nat) (hx : a.eval x = .slice (some ⟨g, 0, none⟩) 1 c) (hg : Blk w g 45 #[.int .u64 (e.time : Nat), .slice Ai e.ids.length ci]) (hn : es.length + 1 ≤ 1000000) (hB : B ≤ w.heap.size)
    (h : ∀ v' w', OwnEF F w' B v' (es ++ [e]) → Sat F w' → Below B w w' → w.grownBy w' v.ownBlock → (v'.ownBlock = v.ownBlock ∨ v'.ownBlock = some w.heap.size) → K (a.put o.dst v') w') :
    if Region.wanted o (yielded ops a.tmps) = true then Oper.wp Try.prog o a w K Q else E := by
  obtain ⟨xs, h1, h2⟩ := hown
  have hr : Rd (heapF w) 2 (some ⟨g, 0, none⟩) 1 [.int .u64 (e.time : Nat), .slice Ai e.ids.length ci] := by
    refine ⟨rfl, fun _ => ⟨_, rfl, fun j u hu => ?_⟩⟩
    rw [add_lit0]
    unfold Fz.cell heapF
    rw [hg]
    simpa using hu
  refine step_pushAll hgd s x _ ho 45 _ 2 32 Try.underlying39 event_info rfl (by omega) h1 hF hs _ 1 c _ hx (sat_heapF w) hr (fun u hu => by
    simp at hu
    rcases hu with rfl | rfl <;> rfl) (by simp [maxLen]; omega) (by omega) hB ?_
  intro v' w' h4 h5 h6 h7 h8
  exact h v' w' ⟨xs ++ [(e.time, .slice Ai e.ids.length ci)], by rw [evC_append, List.length_append]; exact h4, h2.snoc he hci hri⟩ h5 h6 h7 h8
end Go.Proofs.Ytdbbooibkiicnaa
/-! slices.Reverse on a row of Booleans. -/
namespace Go.Proofs.Ytdbbooibkiicnaa
open Go.RowKit
theorem revNil_w (w : World) : Calls Try.prog 22 #[.slice none 0 0] w fun e w' => e = .returned (.tuple #[]) ∧ w = w' := by
  go_enter Try.func22, Try.ntmps22
  go_wp2_with fail
  go_loop [2, 3] (fun a b => a = .int .i64 0 ∧ b = .int .i64 (-1)) (fun _ _ => 0)
  case atStart => exact ⟨rfl, rfl⟩
  case round =>
    obtain ⟨rfl, rfl⟩ := hrel
    go_wp2_with fail
    go_end0
    exact ⟨rfl, rfl⟩
theorem Wr.drew1 {Gs : List Nat} {w w' : World} (h : Wr Gs w w') : Wr Gs w w'.drew := ⟨h.os, h.tape, h.output, h.size, h.block⟩
set_option maxRecDepth 100000 in
set_option maxHeartbeats 2000000 in
theorem revB_w {w : World} {g n : Nat} {r : Nat → Bool} (h0 : 0 < n) (hn : n ≤ 1000) (h : Blk w g 4 (rowV n r)) :
    Calls Try.prog 22 #[.slice (some ⟨g, 0, none⟩) n n] w fun e w' => e = .returned (.tuple #[]) ∧ Blk w' g 4 (rowV n (fun k => r (n - 1 - k))) ∧ Wr [g] w w' := by
  obtain ⟨j0, hj0⟩ : ∃ j0, n = j0 + 1 := ⟨n - 1, by omega⟩
  have hJ0 : (n : Int) - 1 = (j0 : Int) := by omega
  have HJ := Lib.hid hj0
  clear hj0
  go_enter Try.func22, Try.ntmps22
  go_wp2_with fail
  go_loopw [2, 3] (fun a b wr => ∃ (i j : Nat) (s : Nat → Bool), a = .int .i64 i ∧ b = .int .i64 j ∧ Hid (i + j + 1 = n) ∧ Hid (∀ k, k < n → s k = if k < i ∨ n ≤ k + i then r (n - 1 - k) else r k) ∧ Blk wr g 4 (rowV n s) ∧ Wr [g] w wr) (fun a _ _ => n - (intOf a).toNat)
  case atStart => exact ⟨0, j0, r, rfl, rfl, Lib.hid (by have := HJ.out; omega), Lib.hid (fun k hk => by rw [if_neg (by omega)]), h, .refl _ _⟩
  case round =>
    obtain ⟨i, j, s, rfl, rfl, HS, HE, hB, hwr⟩ := hrel
    by_cases hlt : i < j
    · have hltI : (i : Int) < (j : Int) := by omega
      have hin : (i : Int) < (n : Int) := by have := HS.out; omega
      have hjn : (j : Int) < (n : Int) := by have := HS.out; omega
      have hiN : i < n := by omega
      have hjN : j < n := by omega
      obtain ⟨j1, hj1⟩ : ∃ j1, j = j1 + 1 := ⟨j - 1, by omega⟩
      have hJ1 : (j : Int) - 1 = (j1 : Int) := by omega
      have ci : wr.cell? ⟨g, i, none⟩ = some (.bool (s i)) := by rw [hB.cell, get_rowV hiN]
      have cj : wr.cell? ⟨g, j, none⟩ = some (.bool (s j)) := by rw [hB.cell, get_rowV hjN]
      have fi := hB.frozen i
      have fj := hB.frozen j
      have hne : ¬ (i = j) := by omega
      have HB2 : Hid (Blk ((wr.setCell ⟨g, i, none⟩ (.bool (s j))).setCell ⟨g, j, none⟩ (.bool (s i))) g 4 (rowV n (fun q => if q = j then s i else if q = i then s j else s q))) := Lib.hid (by
        have h1 := (hB.set_ i (.bool (s j))).set_ j (.bool (s i))
        rw [set_rowV (r' := fun q => if q = i then s j else s q) (fun q _ => rfl), set_rowV (r' := fun q => if q = j then s i else if q = i then s j else s q) (fun q _ => rfl)] at h1
        exact h1)
      have HW2 := Lib.hid ((hwr.set (g := g) (by simp) i (.bool (s j))).set (g := g) (by simp) j (.bool (s i)))
      have HN : Hid (∀ k, k < n → (if k = j then s i else if k = i then s j else s k) = if k < i + 1 ∨ n ≤ k + (i + 1) then r (n - 1 - k) else r k) := Lib.hid (fun k hk => by
        have hs := HS.out
        have ei := HE.out i hiN
        have ej := HE.out j hjN
        rw [if_neg (by omega)] at ei ej
        by_cases e1 : k = j
        · rw [if_pos e1, if_pos (by omega), ei]; congr 1; omega
        · rw [if_neg e1]
          by_cases e2 : k = i
          · rw [if_pos e2, if_pos (by omega), ej]; congr 1; omega
          · rw [if_neg e2, HE.out k hk]
            by_cases e3 : k < i ∨ n ≤ k + i
            · rw [if_pos e3, if_pos (by omega)]
            · rw [if_neg e3, if_neg (by omega)])
      have HS2 : Hid (i + 1 + j1 + 1 = n) := Lib.hid (by have := HS.out; omega)
      obtain ⟨bi, hbi⟩ : ∃ b, s i = b := ⟨_, rfl⟩
      obtain ⟨bj, hbj⟩ : ∃ b, s j = b := ⟨_, rfl⟩
      rw [hbi] at ci HB2 HW2 HN
      rw [hbj] at cj HB2 HW2 HN
      clear hbi hbj hB hwr hj1
      go_wp2_with fail
      go_region
      all_goals
        go_wp2_with fail
        go_roundw
        case rel => exact ⟨i + 1, j1, _, by go_num, rfl, HS2, HN, HB2.out, by first | exact HW2.out | exact HW2.out.drew1⟩
        case measure => simp [intOf]; omega
    · have hdec : decide ((i : Int) < (j : Int)) = false := decide_eq_false (by omega)
      have HR : Hid (rowV n s = rowV n (fun k => r (n - 1 - k))) := Lib.hid (by
        have hs := HS.out
        refine rowV_congr fun k hk => ?_
        rw [HE.out k hk]
        by_cases e : k < i ∨ n ≤ k + i
        · rw [if_pos e]
        · rw [if_neg e]; congr 1; omega)
      go_wp2_with fail
      go_end0
      exact ⟨rfl, by rw [← HR.out]; exact hB, hwr⟩
end Go.Proofs.Ytdbbooibkiicnaa
/-! The walk of law 15's turned. -/
/-! A list's lists, told backwards: plain. -/
namespace Go.Proofs.Ytdbbooibkiicnaa
open Go.RowKit
def trnL (t : Tr) (j : Nat) : List Nd := (trnT (t.sub j)).flat 0
theorem trn_length (t : Tr) {j : Nat} (hj : j < t.size) : (trnL t j).length ≤ t.size := by
  unfold trnL
  rw [Tr.length_flat, trn_size]
  have := Tr.sub_size_le t j hj
  omega
theorem trn_over {l : List Nd} {t : Tr} (ht : treeS l = some t) {i : Nat} (hi : i < t.size) (kind : Int) (name : ByteArray) (lo hi' : Int) (kk : List Int) (hnd : l[i]? = some ⟨kind, name, lo, hi', kk⟩) :
    (kk = [] ∧ kind ≠ 21 ∧ overL ⟨trnK kind, name, lo, hi', kk⟩ [] [] = trnL t i) ∨
    (∃ q, q < i ∧ kk = [((q : Nat) : Int)] ∧ kind ≠ 21 ∧ overL ⟨trnK kind, name, lo, hi', kk⟩ (trnL t q) [] = trnL t i) ∨
    (∃ p q, p < i ∧ q < i ∧ kk = [((p : Nat) : Int), ((q : Nat) : Int)] ∧ (kind = 21 → overL ⟨trnK kind, name, lo, hi', kk⟩ (trnL t q) (trnL t p) = trnL t i) ∧ (kind ≠ 21 → overL ⟨trnK kind, name, lo, hi', kk⟩ (trnL t p) (trnL t q) = trnL t i)) := by
  have hlen := tree_len ht
  have hil : i < l.length := by omega
  have hroot := get_flat_root ht i hil
  rw [List.getElem?_eq_getElem hil] at hnd
  injection hnd with hnd
  have hkk : kk = zs (kidsN t i) := by rw [← kidsN_eq ht i hil, hnd]
  rw [hnd] at hroot
  have hvx := sub_valid t i (tree_valid ht)
  unfold kidsN at hkk
  cases hx : t.sub i with
  | leaf hd =>
    rw [hx] at hroot hvx hkk
    simp only [Tr.root, Tr.rootKids, Nd.mk.injEq] at hroot
    obtain ⟨rfl, rfl, rfl, rfl, _⟩ := hroot
    obtain ⟨ha, _⟩ := fields_arity (show fieldsS { hd with kids := [] } = true from hvx)
    refine .inl ⟨by rw [hkk]; rfl, fun e => by rw [e] at ha; exact absurd ha (by decide), ?_⟩
    unfold trnL
    rw [hx]
    simp [overL, overK, Tr.flat, trnT, trnN]
  | un hd a =>
    rw [hx] at hroot hvx hkk
    obtain ⟨k1, k2, _⟩ := kid_un hi hx
    have kp := a.size_pos
    simp only [Tr.root, Tr.rootKids, Nd.mk.injEq] at hroot
    obtain ⟨rfl, rfl, rfl, rfl, _⟩ := hroot
    simp only [validT, Bool.and_eq_true, beq_iff_eq] at hvx
    obtain ⟨⟨hf, hw⟩, _⟩ := hvx
    obtain ⟨ha, _⟩ := fields_arity hf
    refine .inr (.inl ⟨i - 1, by omega, by rw [hkk]; rfl, fun e => by rw [e] at ha; exact absurd ha (by decide), ?_⟩)
    unfold trnL
    rw [hx, k2, over_un]
    rfl
  | bin hd a b =>
    rw [hx] at hroot hvx hkk
    obtain ⟨k1, k2, k3⟩ := sub_bin_kids hi hx
    have kp := a.size_pos
    have kq := b.size_pos
    simp only [Tr.root, Tr.rootKids, Nd.mk.injEq] at hroot
    obtain ⟨rfl, rfl, rfl, rfl, _⟩ := hroot
    refine .inr (.inr ⟨i - 1 - b.size, i - 1, by omega, by omega, by rw [hkk]; rfl, fun e => ?_, fun e => ?_⟩)
    · unfold trnL
      rw [hx, k2, k3, over_bin, show trnT (.bin hd a b) = .bin (trnN hd) (trnT b) (trnT a) by rw [trnT, if_pos e]]
      rfl
    · unfold trnL
      rw [hx, k2, k3, over_bin, show trnT (.bin hd a b) = .bin (trnN hd) (trnT a) (trnT b) by rw [trnT, if_neg e]]
      rfl
/-- Lists that are made one by one: those below i are so. -/
def LTab (F : Fz) (w : World) (g N i : Nat) (f : Nat → List Nd) : Prop :=
  ∃ cs : List Value, Blk w g 23 cs.toArray ∧ cs.length = N ∧ ∀ j, j < i → ∃ A c, cs[j]? = some (.slice A (f j).length c) ∧ (f j).length ≤ c ∧ NodesF F A (f j).length (f j)
namespace LTab
variable {F F' : Fz} {w w' : World} {g N i : Nat} {f : Nat → List Nd}
theorem row (h : LTab F w g N i f) {j : Nat} (hj : j < i) : ∃ A c, w.cell? ⟨g, j, none⟩ = some (.slice A (f j).length c) ∧ (f j).length ≤ c ∧ NodesF F A (f j).length (f j) := by
  obtain ⟨cs, h1, h2, h3⟩ := h
  obtain ⟨A, c, h4, h5, h6⟩ := h3 j hj
  exact ⟨A, c, by rw [h1.cell, List.getElem?_toArray]; exact h4, h5, h6⟩
theorem soft (h : LTab F w g N i f) (j : Nat) : w.frozen? ⟨g, j, none⟩ = false := let ⟨_, h1, _⟩ := h; h1.frozen j
theorem some_ (h : LTab F w g N i f) {j : Nat} (hj : j < N) : ∃ v, w.cell? ⟨g, j, none⟩ = some v := by
  obtain ⟨cs, h1, h2, _⟩ := h
  exact ⟨cs[j]'(by omega), by rw [h1.cell, List.getElem?_toArray, List.getElem?_eq_getElem (by omega)]⟩
theorem lt (h : LTab F w g N i f) : g < w.heap.size := let ⟨_, h1, _⟩ := h; h1.lt
theorem call (h : LTab F w g N i f) (hb : Below w.heap.size w w') : LTab F w' g N i f := let ⟨cs, h1, h2, h3⟩ := h; ⟨cs, h1.call hb, h2, h3⟩
theorem cle (h : LTab F w g N i f) (hle : CLe F F') : LTab F' w g N i f := let ⟨cs, h1, h2, h3⟩ := h; ⟨cs, h1, h2, fun j hj => let ⟨A, c, h4, h5, h6⟩ := h3 j hj; ⟨A, c, h4, h5, h6.cle hle⟩⟩
theorem far (h : LTab F w g N i f) {p : Addr} (hp : g ≠ p.block) (u : Value) : LTab F (w.setCell p u) g N i f := let ⟨cs, h1, h2, h3⟩ := h; ⟨cs, h1.far hp u, h2, h3⟩
theorem put (h : LTab F w g N i f) (hi : i < N) {A : Option Addr} {c : Nat} (hc : (f i).length ≤ c) (hn : NodesF F A (f i).length (f i)) : LTab F (w.setCell ⟨g, i, none⟩ (.slice A (f i).length c)) g N (i + 1) f := by
  obtain ⟨cs, h1, h2, h3⟩ := h
  refine ⟨cs.set i (.slice A (f i).length c), by have := h1.set_ i (.slice A (f i).length c); simpa using this, by simp [h2], fun q hq => ?_⟩
  by_cases e : q = i
  · subst e
    exact ⟨A, c, by simp [h2, hi], hc, hn⟩
  · obtain ⟨A', c', h4, h5, h6⟩ := h3 q (by omega)
    exact ⟨A', c', by rw [List.getElem?_set_ne (fun x => e x.symm)]; exact h4, h5, h6⟩
theorem new (F : Fz) (w : World) (N : Nat) (f : Nat → List Nd) : LTab F (w.alloc (.cells (zeros (.slice none 0 0) N) 23)) w.heap.size N 0 f :=
  ⟨List.replicate N (.slice none 0 0), Blk.new w _ _, by simp, fun q hq => by omega⟩
end LTab
theorem makeNN (n : Nat) (hn : n ≤ 1000000) (w : World) : (Instr.makeSlice 75 (.int .i64 (n : Int)) (.int .i64 (n : Int))).run Try.prog w = .ok (.slice (some ⟨w.heap.size, 0, none⟩) n n) (w.alloc (.cells (zeros (.slice none 0 0) n) 23)) :=
  run_make1 75 23 (.slice none 0 0) 24 Try.underlying75 (by kernel_rfl) rfl n (by omega) (by omega) w
set_option maxRecDepth 100000 in
set_option maxHeartbeats 8000000 in
theorem turned15_w {F : Fz} {w : World} (hF : Sat F w) (l : List Nd) (hlN : l.length ≤ 800) {t : Tr} (ht : treeS l = some t) (A : Option Addr) (N c : Nat) (hl : NodesF F A N l) :
    Calls Try.prog 21 #[.slice A N c] w (RetN F w ((trnT t).flat 0)) := by
  have hts := tree_len ht
  have hNl := hl.1
  have hNt : N = t.size := by omega
  have hsp := t.size_pos
  have hNb : N ≤ 800 := by omega
  obtain ⟨R, hR⟩ : ∃ R, N = R + 1 := ⟨N - 1, by omega⟩
  have hR1 : (N : Int) - 1 = (R : Int) := by omega
  have hR2 : (R : Int) < (N : Int) := by omega
  obtain ⟨f, hf⟩ : ∃ f : Nat → List Nd, f = trnL t := ⟨_, rfl⟩
  have hfl : ∀ j, j < N → (f j).length ≤ 800 := fun j hj => by rw [hf]; have := trn_length t (j := j) (by omega); omega
  have hfk : ∀ j, j < N → KidsB (f j) := fun j hj => by
    rw [hf]
    unfold trnL
    refine flat_kids _ 0 ?_
    rw [trn_size]
    have := Tr.sub_size_le t j (by omega)
    omega
  have hov : ∀ (i : Nat) (kind : Int) (name : ByteArray) (lo hi' : Int) (kk : List Int), i < N → l[i]? = some ⟨kind, name, lo, hi', kk⟩ →
      (kk = [] ∧ kind ≠ 21 ∧ overL ⟨trnK kind, name, lo, hi', kk⟩ [] [] = f i) ∨
      (∃ q, q < i ∧ kk = [((q : Nat) : Int)] ∧ kind ≠ 21 ∧ overL ⟨trnK kind, name, lo, hi', kk⟩ (f q) [] = f i) ∨
      (∃ p q, p < i ∧ q < i ∧ kk = [((p : Nat) : Int), ((q : Nat) : Int)] ∧ (kind = 21 → overL ⟨trnK kind, name, lo, hi', kk⟩ (f q) (f p) = f i) ∧ (kind ≠ 21 → overL ⟨trnK kind, name, lo, hi', kk⟩ (f p) (f q) = f i)) := fun i kind name lo hi' kk hi hnd => by rw [hf]; exact trn_over ht (by omega) kind name lo hi' kk hnd
  have hrt : f R = (trnT t).flat 0 := by rw [hf]; unfold trnL; have := Tr.sub_root t; rw [show t.size - 1 = R by omega] at this; rw [this]
  have HFL := Lib.hid hfl
  have HFK := Lib.hid hfk
  have HOV := Lib.hid hov
  have HRT := Lib.hid hrt
  have HL := Lib.hid hl
  have HR := Lib.hid hR
  obtain ⟨g, hg⟩ : ∃ g, g = w.heap.size := ⟨_, rfl⟩
  obtain ⟨W, hW⟩ : ∃ W, W = w.alloc (.cells (zeros (.slice none 0 0) N) 23) := ⟨_, rfl⟩
  have HT0 : Hid (LTab F W g N 0 f) := Lib.hid (by rw [hW, hg]; exact LTab.new F w N f)
  have hbW : Below w.heap.size w W := by rw [hW]; exact balloc _ _
  have HFW := Lib.hid (hF.below hbW)
  have HFG : Hid (F g = none) := Lib.hid (hF.none_ (by rw [hg]; exact Nat.le_refl _))
  have HBW := Lib.hid hbW
  have hgw : w.heap.size ≤ g := by rw [hg]; exact Nat.le_refl _
  have hmkA := fun (Y : World) => makeNN N (by omega) Y
  have HG := Lib.hid hg
  have HF0 := Lib.hid hF
  have HW := Lib.hid hW
  clear hts hNl hNt hsp hR hf hfl hfk hov hrt hl ht hg hW hbW hF
  go_enter Try.func21, Try.ntmps21
  go_wp2_with fail
  rw [← HW.out, ← HG.out]
  go_loopw [13] (fun v13 wr => ∃ (i : Nat) (F' : Fz), i ≤ N ∧ v13 = .int .i64 i ∧ LTab F' wr g N i f ∧ Sat F' wr ∧ Fle w F F' ∧ Hid (F' g = none) ∧ Below w.heap.size w wr) (fun v13 _ => N - (intOf v13).toNat)
  case atStart => exact ⟨0, F, Nat.zero_le _, rfl, HT0.out, HFW.out, Fle.refl _ _, HFG, HBW.out⟩
  case round =>
    obtain ⟨i, F', hi, rfl, hT, hFr, hle, HFG', hbr⟩ := hrel
    have hgl := hT.lt
    by_cases hlt : i < N
    · have hiI : (i : Int) < (N : Int) := by omega
      have hnl : i < l.length := by have := HL.out.1; omega
      obtain ⟨ad, eA, hL⟩ := HL.out.2 (by omega)
      obtain ⟨Ak, ck, hck, hK, hd⟩ := hL i hnl
      obtain ⟨nd, hnd⟩ : ∃ nd, l[i] = nd := ⟨_, rfl⟩
      have hnd' : l[i]? = some nd := by rw [List.getElem?_eq_getElem hnl, hnd]
      simp only [hnd] at hK hd hck
      obtain ⟨kind, name, lo, hi', kk⟩ := nd
      have HV := Lib.hid (HOV.out i kind name lo hi' kk hlt hnd')
      clear hnd hnd' hL
      dsimp only at hK hd hck
      obtain ⟨K, hKk⟩ : ∃ K, kk.length = K := ⟨_, rfl⟩
      obtain ⟨c0, c1, c2, c3, c4⟩ := hd.sat (HF0.out.below hbr)
      dsimp only at c0 c1 c2 c3 c4
      rw [hKk] at c4
      have HKK := Lib.hid hKk
      have HK := Lib.hid (hK.cle hle.cle)
      have HFR := Lib.hid hFr
      subst eA
      clear hKk hK hd hFr hck
      obtain ⟨gn, hgn⟩ : ∃ gn, gn = wr.heap.size := ⟨_, rfl⟩
      obtain ⟨W1, hW1⟩ : ∃ W1, W1 = wr.alloc (.cells #[.int .i64 kind, .string name, .int .i64 lo, .int .i64 hi', .slice Ak K ck] 29) := ⟨_, rfl⟩
      have hBN : Blk W1 gn 29 #[.int .i64 kind, .string name, .int .i64 lo, .int .i64 hi', .slice Ak K ck] := by rw [hW1, hgn]; exact Blk.new wr _ _
      have hb1 : Below wr.heap.size wr W1 := by rw [hW1]; exact balloc _ _
      have HT1 := Lib.hid (hT.call hb1)
      have HF1 := Lib.hid (HFR.out.below hb1)
      have HB1 := Lib.hid (bthen hbr hb1)
      have hgn1 : g < gn := by omega
      have HFN : Hid (F' gn = none) := Lib.hid (HFR.out.none_ (by omega))
      have hwn : w.heap.size ≤ gn := by have := hbr.size; omega
      have hz1 : W1.heap.size = gn + 1 := by rw [hW1, hgn]; simp
      have HZ1 := Lib.hid hz1
      have HBN := Lib.hid hBN
      have HW1 := Lib.hid hW1
      have HGN := Lib.hid hgn
      clear hT hbr hb1 hBN hW1 hz1 hgn
      go_upto_region 5 with fail
      rw [← HW1.out, ← HGN.out]
      go_cut [19] from 18 to 19 (fun v19 wx => v19 = .int .i64 kind ∧ wx = W1)
      case first =>
        obtain ⟨m0, m1, m2, m3, m4⟩ := blk5 HBN.out
        go_wp2_with fail
        go_meet
        exact ⟨rfl, rfl⟩
      case rest =>
        obtain ⟨rfl, rfl⟩ := hcut
        go_step
        go_cut [20] from 20 to 49 (fun _ wx => Blk wx gn 29 #[.int .i64 (trnK kind), .string name, .int .i64 lo, .int .i64 hi', .slice Ak K ck] ∧ LTab F' wx g N i f ∧ Sat F' wx ∧ Below w.heap.size w wx)
        case first =>
          obtain ⟨m0, m1, m2, m3, m4⟩ := blk5 HBN.out
          have mf := HBN.out.frozen 0
          have key : kind = 8 ∨ kind = 14 ∨ kind = 16 ∨ kind = 9 ∨ kind = 15 ∨ kind = 17 ∨ kind = 10 ∨ kind = 11 ∨ kind = 12 ∨ kind = 13 ∨ (kind ≠ 8 ∧ kind ≠ 14 ∧ kind ≠ 16 ∧ kind ≠ 9 ∧ kind ≠ 15 ∧ kind ≠ 17 ∧ kind ≠ 10 ∧ kind ≠ 11 ∧ kind ≠ 12 ∧ kind ≠ 13) := by omega
          rcases key with rfl | rfl | rfl | rfl | rfl | rfl | rfl | rfl | rfl | rfl | ⟨g1, g2, g3, g4, g5, g6, g7, g8, g9, g10⟩
          · go_wp2_with fail
            go_meet
            exact ⟨HBN.out.set_ 0 (.int .i64 9), HT1.out.far (p := ⟨gn, 0, none⟩) (by show g ≠ gn; omega) _, HF1.out.setCell (p := ⟨gn, 0, none⟩) HFN.out _, HB1.out.setCell (p := ⟨gn, 0, none⟩) hwn _⟩
          · go_wp2_with fail
            go_meet
            exact ⟨HBN.out.set_ 0 (.int .i64 15), HT1.out.far (p := ⟨gn, 0, none⟩) (by show g ≠ gn; omega) _, HF1.out.setCell (p := ⟨gn, 0, none⟩) HFN.out _, HB1.out.setCell (p := ⟨gn, 0, none⟩) hwn _⟩
          · go_wp2_with fail
            go_meet
            exact ⟨HBN.out.set_ 0 (.int .i64 17), HT1.out.far (p := ⟨gn, 0, none⟩) (by show g ≠ gn; omega) _, HF1.out.setCell (p := ⟨gn, 0, none⟩) HFN.out _, HB1.out.setCell (p := ⟨gn, 0, none⟩) hwn _⟩
          · go_wp2_with fail
            go_meet
            exact ⟨HBN.out.set_ 0 (.int .i64 8), HT1.out.far (p := ⟨gn, 0, none⟩) (by show g ≠ gn; omega) _, HF1.out.setCell (p := ⟨gn, 0, none⟩) HFN.out _, HB1.out.setCell (p := ⟨gn, 0, none⟩) hwn _⟩
          · go_wp2_with fail
            go_meet
            exact ⟨HBN.out.set_ 0 (.int .i64 14), HT1.out.far (p := ⟨gn, 0, none⟩) (by show g ≠ gn; omega) _, HF1.out.setCell (p := ⟨gn, 0, none⟩) HFN.out _, HB1.out.setCell (p := ⟨gn, 0, none⟩) hwn _⟩
          · go_wp2_with fail
            go_meet
            exact ⟨HBN.out.set_ 0 (.int .i64 16), HT1.out.far (p := ⟨gn, 0, none⟩) (by show g ≠ gn; omega) _, HF1.out.setCell (p := ⟨gn, 0, none⟩) HFN.out _, HB1.out.setCell (p := ⟨gn, 0, none⟩) hwn _⟩
          · go_wp2_with fail
            go_meet
            exact ⟨HBN.out.set_ 0 (.int .i64 12), HT1.out.far (p := ⟨gn, 0, none⟩) (by show g ≠ gn; omega) _, HF1.out.setCell (p := ⟨gn, 0, none⟩) HFN.out _, HB1.out.setCell (p := ⟨gn, 0, none⟩) hwn _⟩
          · go_wp2_with fail
            go_meet
            exact ⟨HBN.out.set_ 0 (.int .i64 13), HT1.out.far (p := ⟨gn, 0, none⟩) (by show g ≠ gn; omega) _, HF1.out.setCell (p := ⟨gn, 0, none⟩) HFN.out _, HB1.out.setCell (p := ⟨gn, 0, none⟩) hwn _⟩
          · go_wp2_with fail
            go_meet
            exact ⟨HBN.out.set_ 0 (.int .i64 10), HT1.out.far (p := ⟨gn, 0, none⟩) (by show g ≠ gn; omega) _, HF1.out.setCell (p := ⟨gn, 0, none⟩) HFN.out _, HB1.out.setCell (p := ⟨gn, 0, none⟩) hwn _⟩
          · go_wp2_with fail
            go_meet
            exact ⟨HBN.out.set_ 0 (.int .i64 11), HT1.out.far (p := ⟨gn, 0, none⟩) (by show g ≠ gn; omega) _, HF1.out.setCell (p := ⟨gn, 0, none⟩) HFN.out _, HB1.out.setCell (p := ⟨gn, 0, none⟩) hwn _⟩
          · have htk : trnK kind = kind := by unfold trnK; simp [g1, g2, g3, g4, g5, g6, g7, g8, g9, g10]
            have HTK := Lib.hid htk
            clear htk
            have f1 : (kind == 8) = false := by rw [beq_eq_false_iff_ne]; exact g1
            have f2 : (kind == 14) = false := by rw [beq_eq_false_iff_ne]; exact g2
            have f3 : (kind == 16) = false := by rw [beq_eq_false_iff_ne]; exact g3
            have f4 : (kind == 9) = false := by rw [beq_eq_false_iff_ne]; exact g4
            have f5 : (kind == 15) = false := by rw [beq_eq_false_iff_ne]; exact g5
            have f6 : (kind == 17) = false := by rw [beq_eq_false_iff_ne]; exact g6
            have f7 : (kind == 10) = false := by rw [beq_eq_false_iff_ne]; exact g7
            have f8 : (kind == 11) = false := by rw [beq_eq_false_iff_ne]; exact g8
            have f9 : (kind == 12) = false := by rw [beq_eq_false_iff_ne]; exact g9
            have f10 : (kind == 13) = false := by rw [beq_eq_false_iff_ne]; exact g10
            clear g1 g2 g3 g4 g5 g6 g7 g8 g9 g10
            go_wp2_with fail
            go_meet
            rw [HTK.out]
            exact ⟨HBN.out, HT1.out, HF1.out, HB1.out⟩
        case rest =>
          obtain ⟨hBN, hT, hFc, hbc⟩ := hcut
          have HTC := Lib.hid hT
          have HFC := Lib.hid hFc
          have HBC := Lib.hid hbc
          have hg21 : ∀ b : Bool, decide (kind = 21) = b → (trnK kind == 21) = b := fun b e => by
            by_cases h : kind = 21
            · rw [(trn_iff kind 21 (by omega)).2 h]
              rw [decide_eq_true h] at e
              exact e
            · rw [decide_eq_false h] at e
              rw [← e, beq_eq_false_iff_ne]
              exact fun q => h ((trn_iff kind 21 (by omega)).1 q)
          obtain ⟨tk, htk⟩ : ∃ tk, trnK kind = tk := ⟨_, rfl⟩
          rw [htk] at hBN hg21
          have hvv : (kk = [] ∧ kind ≠ 21 ∧ overL ⟨tk, name, lo, hi', kk⟩ [] [] = f i) ∨ (∃ q, q < i ∧ kk = [((q : Nat) : Int)] ∧ kind ≠ 21 ∧ overL ⟨tk, name, lo, hi', kk⟩ (f q) [] = f i) ∨ (∃ p q, p < i ∧ q < i ∧ kk = [((p : Nat) : Int), ((q : Nat) : Int)] ∧ (kind = 21 → overL ⟨tk, name, lo, hi', kk⟩ (f q) (f p) = f i) ∧ (kind ≠ 21 → overL ⟨tk, name, lo, hi', kk⟩ (f p) (f q) = f i)) := by rw [← htk]; exact HV.out
          obtain ⟨m0, m1, m2, m3, m4⟩ := blk5 hBN
          obtain ⟨vz, z5⟩ := hT.some_ hlt
          have fz5 := hT.soft i
          have hlc := hT.lt
          have HLI := HFL.out i hlt
          clear htk hT hFc hbc HV hBN HBN HT1 HF1 HB1 HW1 HFN HGN
          rcases hvv with ⟨rfl, hk21, hov⟩ | ⟨q, hq, rfl, hk21, hov⟩ | ⟨p, q, hp, hq, rfl, h21, hn21⟩
          · obtain rfl : K = 0 := by have := HKK.out; simpa using this.symm
            have g21 := hg21 false (decide_eq_false hk21)
            clear hg21 hk21
            have HOVI := Lib.hid (hov)
            clear hov
            have HO := Lib.hid (fun (X : World) (h : Sat F' X) => over_w h ⟨tk, name, lo, hi', []⟩ Ak 0 ck [] [] (by simp) (by simp) none none 0 0 0 0 (NodesF.nil _ _) (NodesF.nil _ _) (fun _ h => by simp at h))
            clear HK
            go_wp2_with (go_at_call 56; refine (HO.out _ HFC.out).mono ?_; rintro e w2 ⟨A2, c2, F2, rfl, hc2, hN2, hb2, hF2, hle2⟩; rw [HOVI.out] at hc2 hN2; rw [HOVI.out]; have hT2 := HTC.out.call hb2; have fz6 := hT2.soft i; obtain ⟨vz2, z6⟩ := hT2.some_ hlt)
            go_roundw
            case rel => exact ⟨i + 1, F2, by omega, by go_num, (hT2.cle hle2.cle).put hlt hc2 hN2, hF2.setCell (p := ⟨g, i, none⟩) ((hle2.2 g hlc).trans HFG'.out) _, hle.trans hle2 HBC.out.size, Lib.hid ((hle2.2 g hlc).trans HFG'.out), (bthen HBC.out hb2).setCell (p := ⟨g, i, none⟩) hgw _⟩
            case measure => simp [intOf]; omega
          · obtain rfl : K = 1 := by have := HKK.out; simpa using this.symm
            obtain ⟨ak, v, rfl, hv, hk0⟩ := HK.out.at1 (k := 0) (by simp)
            obtain rfl : Value.int .i64 (q : Int) = v := by simpa using hv
            rw [show ak.add 0 = ak by unfold Addr.add; simp] at hk0
            have hq0 := HFC.out.cell hk0
            obtain ⟨Aq, cq, rq, hcq, hNq⟩ := HTC.out.row hq
            have hqN : (q : Int) < (N : Int) := by omega
            have g21 := hg21 false (decide_eq_false hk21)
            have hlq := HFL.out q (by omega)
            obtain ⟨nq, hnq⟩ : ∃ nq, (f q).length = nq := ⟨_, rfl⟩
            rw [hnq] at rq hcq hNq hlq
            have HNQ := Lib.hid hNq
            have HLQ := Lib.hid hnq
            clear hg21 hk21 hv hk0 hNq hnq
            have HOVI := Lib.hid (hov)
            clear hov
            have HO := Lib.hid (fun (X : World) (h : Sat F' X) => over_w h ⟨tk, name, lo, hi', [(q : Int)]⟩ (some ak) 1 ck (f q) [] (by rw [HLQ.out]; omega) (by simp) Aq none nq 0 cq 0 HNQ.out (NodesF.nil _ _) (fun _ h => by simp at h))
            clear HK
            go_wp2_with (go_at_call 56; refine (HO.out _ HFC.out).mono ?_; rintro e w2 ⟨A2, c2, F2, rfl, hc2, hN2, hb2, hF2, hle2⟩; rw [HOVI.out] at hc2 hN2; rw [HOVI.out]; have hT2 := HTC.out.call hb2; have fz6 := hT2.soft i; obtain ⟨vz2, z6⟩ := hT2.some_ hlt)
            go_roundw
            case rel => exact ⟨i + 1, F2, by omega, by go_num, (hT2.cle hle2.cle).put hlt hc2 hN2, hF2.setCell (p := ⟨g, i, none⟩) ((hle2.2 g hlc).trans HFG'.out) _, hle.trans hle2 HBC.out.size, Lib.hid ((hle2.2 g hlc).trans HFG'.out), (bthen HBC.out hb2).setCell (p := ⟨g, i, none⟩) hgw _⟩
            case measure => simp [intOf]; omega
          · obtain rfl : K = 2 := by have := HKK.out; simpa using this.symm
            obtain ⟨ak, v, rfl, hv, hk0⟩ := HK.out.at1 (k := 0) (by simp)
            obtain rfl : Value.int .i64 (p : Int) = v := by simpa using hv
            obtain ⟨ak', v', eak, hv', hk1⟩ := HK.out.at1 (k := 1) (by simp)
            injection eak with eak
            subst eak
            obtain rfl : Value.int .i64 (q : Int) = v' := by simpa using hv'
            rw [show ak.add 0 = ak by unfold Addr.add; simp] at hk0
            rw [show ak.add 1 = ⟨ak.block, ak.off + 1, none⟩ by simp [Addr.add]] at hk1
            have hq0 := HFC.out.cell hk0
            have hq1 := HFC.out.cell hk1
            obtain ⟨Ap, cp, rp, hcp, hNp⟩ := HTC.out.row hp
            obtain ⟨Aq, cq, rq, hcq, hNq⟩ := HTC.out.row hq
            have hpN : (p : Int) < (N : Int) := by omega
            have hqN : (q : Int) < (N : Int) := by omega
            have hlp := HFL.out p (by omega)
            have hlq := HFL.out q (by omega)
            have HKP := Lib.hid (HFK.out p (by omega))
            have HKQ := Lib.hid (HFK.out q (by omega))
            obtain ⟨np, hnp⟩ : ∃ np, (f p).length = np := ⟨_, rfl⟩
            obtain ⟨nq, hnq⟩ : ∃ nq, (f q).length = nq := ⟨_, rfl⟩
            rw [hnp] at rp hcp hNp hlp
            rw [hnq] at rq hcq hNq hlq
            have HNP := Lib.hid hNp
            have HNQ := Lib.hid hNq
            have HLP := Lib.hid hnp
            have HLQ := Lib.hid hnq
            clear hv hv' hk0 hk1 hNp hNq hnp hnq
            by_cases hk21 : kind = 21
            · have g21 := hg21 true (decide_eq_true hk21)
              have hov := h21 hk21
              clear hg21 hk21 h21 hn21
              have HOVI := Lib.hid (hov)
              clear hov
              have HO := Lib.hid (fun (X : World) (h : Sat F' X) => over_w h ⟨tk, name, lo, hi', [(p : Int), (q : Int)]⟩ (some ak) 2 ck (f q) (f p) (by rw [HLQ.out]; omega) (by rw [HLP.out]; omega) Aq Ap nq np cq cp HNQ.out HNP.out HKP.out)
              clear HK
              go_wp2_with (go_at_call 56; refine (HO.out _ HFC.out).mono ?_; rintro e w2 ⟨A2, c2, F2, rfl, hc2, hN2, hb2, hF2, hle2⟩; rw [HOVI.out] at hc2 hN2; rw [HOVI.out]; have hT2 := HTC.out.call hb2; have fz6 := hT2.soft i; obtain ⟨vz2, z6⟩ := hT2.some_ hlt)
              go_roundw
              case rel => exact ⟨i + 1, F2, by omega, by go_num, (hT2.cle hle2.cle).put hlt hc2 hN2, hF2.setCell (p := ⟨g, i, none⟩) ((hle2.2 g hlc).trans HFG'.out) _, hle.trans hle2 HBC.out.size, Lib.hid ((hle2.2 g hlc).trans HFG'.out), (bthen HBC.out hb2).setCell (p := ⟨g, i, none⟩) hgw _⟩
              case measure => simp [intOf]; omega
            · have g21 := hg21 false (decide_eq_false hk21)
              have hov := hn21 hk21
              clear hg21 hk21 h21 hn21
              have HOVI := Lib.hid (hov)
              clear hov
              have HO := Lib.hid (fun (X : World) (h : Sat F' X) => over_w h ⟨tk, name, lo, hi', [(p : Int), (q : Int)]⟩ (some ak) 2 ck (f p) (f q) (by rw [HLP.out]; omega) (by rw [HLQ.out]; omega) Ap Aq np nq cp cq HNP.out HNQ.out HKQ.out)
              clear HK
              go_wp2_with (go_at_call 56; refine (HO.out _ HFC.out).mono ?_; rintro e w2 ⟨A2, c2, F2, rfl, hc2, hN2, hb2, hF2, hle2⟩; rw [HOVI.out] at hc2 hN2; rw [HOVI.out]; have hT2 := HTC.out.call hb2; have fz6 := hT2.soft i; obtain ⟨vz2, z6⟩ := hT2.some_ hlt)
              go_roundw
              case rel => exact ⟨i + 1, F2, by omega, by go_num, (hT2.cle hle2.cle).put hlt hc2 hN2, hF2.setCell (p := ⟨g, i, none⟩) ((hle2.2 g hlc).trans HFG'.out) _, hle.trans hle2 HBC.out.size, Lib.hid ((hle2.2 g hlc).trans HFG'.out), (bthen HBC.out hb2).setCell (p := ⟨g, i, none⟩) hgw _⟩
              case measure => simp [intOf]; omega
    · obtain rfl : i = N := by omega
      have hdec : decide ((i : Int) < (i : Int)) = false := decide_eq_false (by omega)
      have hRN : R < i := by have := HR.out; omega
      obtain ⟨A9, c9, r9, hc9, hN9⟩ := hT.row hRN
      rw [HRT.out] at r9 hc9 hN9
      obtain ⟨L9, hL9⟩ : ∃ L9, ((trnT t).flat 0).length = L9 := ⟨_, rfl⟩
      rw [hL9] at r9 hc9 hN9
      have HL9 := Lib.hid hL9
      have HN9 := Lib.hid hN9
      clear hT hL9 hN9
      go_wp2_with fail
      go_ret
      exact ⟨A9, c9, F', by rw [HL9.out]; rfl, by rw [HL9.out]; exact hc9, by rw [HL9.out]; exact HN9.out, hbr, hFr, hle⟩
end Go.Proofs.Ytdbbooibkiicnaa
