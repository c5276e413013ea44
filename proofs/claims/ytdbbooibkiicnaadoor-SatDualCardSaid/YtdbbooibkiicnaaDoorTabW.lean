/- The walks of table's functions that make memory. -/
import Derived.Test.YtdbbooibkiicnaaDoorTab1
import Derived.Deep.RegionWith
set_option linter.unusedVariables false
set_option linter.unusedSimpArgs false
/-! The walks of table's functions that make memory. -/
namespace Go.Proofs.YtdbbooibkiicnaaDoor
open Go.RowKit
attribute [local go_sem ↓] bits_and bits_or not_bits arith_add arith_sub shift_l shift_r shift_lu shift_ru shift_int conv_uu shift_l1 shift_l1u bits_and1 arith_sub1
attribute [local go_sem] uz_toNat uz_nonneg

/-- Words are handed back, in a block of their own. -/
def RetO (w : World) (xs : List (BitVec 64)) (e : Ending) (w' : World) : Prop :=
  ∃ g c, e = .returned (.slice (some ⟨g, 0, none⟩) xs.length c) ∧ Below w.heap.size w w' ∧ w.heap.size ≤ g ∧ Blk w' g 22 (xs.map u).toArray

theorem Tryd.infoW : (Tryd.prog.info? 22).map (fun i => (i.zero, i.size, i.bytes)) = some (some (.int .u64 0), 1, 8) := by kernel_rfl
theorem Tryd.sizeW : (Tryd.prog.info? 22).map (·.size) = some 1 := by kernel_rfl
theorem makeW (n : Nat) (hn : n ≤ 1000000) (w : World) : (Instr.makeSlice 84 (.int .i64 (n : Int)) (.int .i64 (n : Int))).run Tryd.prog w = .ok (.slice (some ⟨w.heap.size, 0, none⟩) n n) (w.alloc (.cells (zeros (u 0#64) n) 22)) :=
  run_make1 _ _ _ 8 Tryd.underlying84 Tryd.infoW rfl n (by omega) (by omega) w

theorem retO_mk {w w' : World} {xs : List (BitVec 64)} {n c g : Nat} (hb : Below w.heap.size w w') (hg : w.heap.size ≤ g) (h : Blk w' g 22 (xs.map u).toArray) (hn : n = xs.length) :
    RetO w xs (.returned (.slice (some ⟨g, 0, none⟩) n c)) w' := by
  subst hn
  exact ⟨_, _, rfl, hb, hg, h⟩

theorem not_tab (m : Nat) (p : Nat → Bool) : tab m (bitAt ((tab m p).map fun x => ~~~x)) = tab m fun x => !p x := by
  apply tab_congr
  intro x hx
  have hc := words_cover m
  have hl : x / 64 < (tab m p).length := by rw [length_tab]; omega
  have hb := bit_tab m p x
  unfold bitAt at hb ⊢
  rw [List.getD, List.getElem?_map, List.getElem?_eq_getElem hl]
  rw [List.getD, List.getElem?_eq_getElem hl] at hb
  simp only [Option.map_some, Option.getD_some, BitVec.getLsbD_not] at hb ⊢
  rw [hb]
  have : x % 64 < 64 := by omega
  simp [hx, this]
end Go.Proofs.YtdbbooibkiicnaaDoor
/-! The walks of And, Or, Yes, Atom, Same, Const. -/
namespace Go.Proofs.YtdbbooibkiicnaaDoor
open Go.RowKit
attribute [local go_sem ↓] bits_and bits_or not_bits arith_add arith_sub shift_l shift_r shift_lu shift_ru shift_int conv_uu shift_l1 shift_l1u bits_and1 arith_sub1 shift_rn and_one_n
attribute [local go_sem] uz_toNat uz_nonneg wrap_bit

end Go.Proofs.YtdbbooibkiicnaaDoor
/-! The walks of Put, Const; the references' Fun, Put, Const. -/
namespace Go.Proofs.YtdbbooibkiicnaaDoor
open Go.RowKit
attribute [local go_sem ↓] bits_and bits_or not_bits arith_add arith_sub shift_l shift_r shift_lu shift_ru shift_int conv_uu shift_l1 shift_l1u bits_and1 arith_sub1 shift_rn and_one_n
attribute [local go_sem] uz_toNat uz_nonneg wrap_bit

theorem makeWx (m : Nat) (hm : m ≤ 10) (w : World) : (Instr.makeSlice 84 (.int .i64 (wordsN m : Nat)) (.int .i64 (wordsN m : Nat))).run Tryd.prog w = .ok (.slice (some ⟨w.heap.size, 0, none⟩) (wordsN m) (wordsN m)) (w.alloc (.cells (zeros (u 0#64) (wordsN m)) 22)) :=
  makeW _ (by have := words_le m hm; omega) w
theorem zeros_tab (m : Nat) (p : Nat → Bool) : zeros (u 0#64) (wordsN m) = ((tabTo m p 0).map u).toArray := by
  rw [tabTo_zero]
  unfold zeros
  congr 1
  have : (tab m fun _ => false) = List.replicate (wordsN m) 0#64 := by
    apply words_ext (by simp [length_tab])
    intro x _
    rw [bit_tab]
    unfold bitAt
    rw [List.getD, List.getElem?_replicate]
    split <;> simp
  rw [this, List.map_replicate]

end Go.Proofs.YtdbbooibkiicnaaDoor
/-! The walks of Const, the reference's Const, and the law's small helpers. -/
namespace Go.Proofs.YtdbbooibkiicnaaDoor
open Go.RowKit
attribute [local go_sem ↓] bits_and bits_or not_bits arith_add arith_sub shift_l shift_r shift_lu shift_ru shift_int conv_uu shift_l1 shift_l1u bits_and1 arith_sub1 shift_rn and_one_n
attribute [local go_sem] uz_toNat uz_nonneg wrap_bit

/-- Which one value a function has, and whether. -/
def cV (m : Nat) (fs : List (BitVec 64)) : Bool × Bool :=
  if tab m (bitAt fs) = tab m (fun _ => false) then (false, true) else if tab m (bitAt fs) = tab m (fun _ => true) then (true, true) else (false, false)
def rV (m : Nat) (fs : List (BitVec 64)) : Bool × Bool := if ∀ x, x < 2 ^ m → bitAt fs x = bitAt fs 0 then (bitAt fs 0, true) else (false, false)
/-- The two tell the same. -/
theorem cV_rV (m : Nat) (fs : List (BitVec 64)) : cV m fs = rV m fs := by
  have hp1 : 0 < 2 ^ m := Nat.pow_pos (by omega)
  unfold cV rV
  by_cases h1 : tab m (bitAt fs) = tab m (fun _ => false)
  · rw [if_pos h1]
    rw [tab_inj] at h1
    rw [if_pos (fun x hx => by rw [h1 x hx, h1 0 hp1]), h1 0 hp1]
  · rw [if_neg h1]
    by_cases h2 : tab m (bitAt fs) = tab m (fun _ => true)
    · rw [if_pos h2]
      rw [tab_inj] at h2
      rw [if_pos (fun x hx => by rw [h2 x hx, h2 0 hp1]), h2 0 hp1]
    · rw [if_neg h2, if_neg]
      intro h
      cases hb : bitAt fs 0 with
      | false => exact h1 (tab_congr fun x hx => by rw [h x hx, hb])
      | true => exact h2 (tab_congr fun x hx => by rw [h x hx, hb])

def fewN (k : Nat) : Nat := if 250 ≤ k then k % 5 + 6 else k % 7
theorem fewN_le (k : Nat) : fewN k ≤ 10 := by unfold fewN; split <;> omega
end Go.Proofs.YtdbbooibkiicnaaDoor
/-! The law's wake-up call. -/
namespace Go.Proofs.YtdbbooibkiicnaaDoor
open Go.RowKit
attribute [local go_sem ↓] bits_and bits_or not_bits arith_add arith_sub shift_l shift_r shift_lu shift_ru shift_int conv_uu shift_l1 shift_l1u bits_and1 arith_sub1 shift_rn and_one_n
attribute [local go_sem] uz_toNat uz_nonneg wrap_bit

theorem rdT_one (w : World) (x : BitVec 64) (t : TypeId) : Rd (heapF (w.alloc (.cells #[.int .u64 (uz x)] t))) 1 (some ⟨w.heap.size, 0, none⟩) 1 ([x].map u) :=
  Blk.rdH (xs := [x]) (enc := u) (Blk.new w t #[.int .u64 (uz x)])
theorem cV_15 : cV 2 [15#64] = (true, true) := by decide +kernel
theorem atom_2_1 : tab 2 (fun x => x.testBit 1) = [12#64] := by decide +kernel
theorem bit_2_1 : (decide (1 < 2 ^ 1) && bitAt [2#64] 1) = true := by decide +kernel

end Go.Proofs.YtdbbooibkiicnaaDoor
/-! The contracts once more, over values that read as functions of assignments. -/
namespace Go.Proofs.YtdbbooibkiicnaaDoor
open Go.RowKit

/-- The value v is words that tell p, of m atoms, frozen in F. -/
def WdF (m : Nat) (F : Fz) (v : Value) (p : Nat → Bool) : Prop :=
  ∃ (A : Option Addr) (n c : Nat) (fs : List (BitVec 64)), v = .slice A n c ∧ Rd F 1 A n (fs.map u) ∧ fs.length ≤ 1000 ∧ ∀ x, x < 2 ^ m → bitAt fs x = p x
/-- The value v is words that tell p, of m atoms. -/
abbrev Wd (m : Nat) (w : World) (v : Value) (p : Nat → Bool) : Prop := WdF m (heapF w) v p
theorem Rd.below {w w' : World} {size n : Nat} {A : Option Addr} {xs : List Value} (h : Rd (heapF w) size A n xs) (hb : Below w.heap.size w w') : Rd (heapF w') size A n xs := h.heap ((sat_heapF w).below hb)
theorem WdF.heap {m : Nat} {F : Fz} {w : World} {v : Value} {p : Nat → Bool} (h : WdF m F v p) (hF : Sat F w) : Wd m w v p :=
  let ⟨A, n, c, fs, e, hr, hl, hp⟩ := h
  ⟨A, n, c, fs, e, hr.heap hF, hl, hp⟩
theorem WdF.below {m : Nat} {w w' : World} {v : Value} {p : Nat → Bool} (h : Wd m w v p) (hb : Below w.heap.size w w') : Wd m w' v p := h.heap ((sat_heapF w).below hb)
theorem WdF.put {m : Nat} {F : Fz} {v : Value} {p : Nat → Bool} (h : WdF m F v p) {g : Nat} {o : Obj} (hg : F g = none) : WdF m (F.put g o) v p :=
  let ⟨A, n, c, fs, e, hr, hl, hp⟩ := h
  ⟨A, n, c, fs, e, hr.put hg, hl, hp⟩
theorem WdF.same {m : Nat} {F : Fz} {v : Value} {p q : Nat → Bool} (h : WdF m F v p) (e : ∀ x, x < 2 ^ m → p x = q x) : WdF m F v q :=
  let ⟨A, n, c, fs, e1, hr, hl, hp⟩ := h
  ⟨A, n, c, fs, e1, hr, hl, fun x hx => (hp x hx).trans (e x hx)⟩
/-- Words that tell p come back. -/
def RetPt (m : Nat) (w : World) (p : Nat → Bool) (e : Ending) (w' : World) : Prop := ∃ v, e = .returned v ∧ Below w.heap.size w w' ∧ Wd m w' v p
theorem retP {m : Nat} (hm : m ≤ 10) {w : World} {p q : Nat → Bool} (h : ∀ x, x < 2 ^ m → p x = q x) {e : Ending} {w' : World} (r : RetO w (tab m p) e w') : RetPt m w q e w' := by
  obtain ⟨g, c, rfl, hb, hg, hr⟩ := r
  exact ⟨_, rfl, hb, _, _, _, _, rfl, hr.rdH, tab_len m hm p, fun x hx => by rw [bit_tab, h x hx]; simp [hx]⟩
/-- The same, with the block: it may be frozen beside whatever is. -/
def RetQ (m : Nat) (w : World) (p : Nat → Bool) (e : Ending) (w' : World) : Prop :=
  ∃ (A : Option Addr) (n c g : Nat) (o : Obj), e = .returned (.slice A n c) ∧ Below w.heap.size w w' ∧ w.heap.size ≤ g ∧ w'.heap[g]? = some o ∧ ∀ F : Fz, WdF m (F.put g o) (.slice A n c) p
theorem retQ {m : Nat} (hm : m ≤ 10) {w : World} {p q : Nat → Bool} (h : ∀ x, x < 2 ^ m → p x = q x) {e : Ending} {w' : World} (r : RetO w (tab m p) e w') : RetQ m w q e w' := by
  obtain ⟨g, c, rfl, hb, hg, hr⟩ := r
  refine ⟨_, _, _, g, _, rfl, hb, hg, hr, fun F => ⟨_, _, _, _, rfl, ?_, tab_len m hm p, fun x hx => by rw [bit_tab, h x hx]; simp [hx]⟩⟩
  have := Blk.freeze F g 22 ((tab m p).map u).toArray (tab m p).length 1 (by simp)
  simpa using this

/-- A Bool comes back; memory was only made. -/
def RetBt (w : World) (b : Bool) (e : Ending) (w' : World) : Prop := e = .returned (.bool b) ∧ Below w.heap.size w w'
/-- What Const tells of p. -/
def cP (m : Nat) (p : Nat → Bool) : Bool × Bool := if ∀ x, x < 2 ^ m → p x = p 0 then (p 0, true) else (false, false)
theorem cP_of {m : Nat} {p : Nat → Bool} {b : Bool} (h : ∀ x, p x = b) : cP m p = (b, true) := by
  unfold cP
  rw [if_pos (fun x _ => by rw [h x, h 0]), h 0]
def RetB2 (w : World) (a b : Bool) (e : Ending) (w' : World) : Prop := e = .returned (.tuple #[.bool a, .bool b]) ∧ Below w.heap.size w w'
/-! Functions in the places of atoms. -/
def yP (m : Nat) (ps : List (Nat → Bool)) (x : Nat) : Nat := (wordTo (fun i => ps.getD i (fun _ => false) x) m).toNat
theorem yP_lt (m : Nat) (hm : m ≤ 10) (ps : List (Nat → Bool)) (x : Nat) : yP m ps x < 2 ^ m := wordTo_lt _ _ hm
theorem testBit_yP (m : Nat) (hm : m ≤ 10) (ps : List (Nat → Bool)) (x i : Nat) : (yP m ps x).testBit i = (decide (i < m) && ps.getD i (fun _ => false) x) := testBit_wordTo _ _ _ hm
/-- The value v is a slice of words that tell ps, one by one. -/
def Rw (m : Nat) (w : World) (v : Value) (ps : List (Nat → Bool)) : Prop :=
  ∃ (A : Option Addr) (n c : Nat) (gs : List (List (BitVec 64))), v = .slice A n c ∧ RdR (heapF w) A n gs ∧ (∀ g ∈ gs, g.length ≤ 1000) ∧ gs.length = ps.length ∧ ∀ i x, x < 2 ^ m → bitAt (gs.getD i []) x = ps.getD i (fun _ => false) x
theorem RdR.below {w w' : World} {A : Option Addr} {n : Nat} {gs : List (List (BitVec 64))} (h : RdR (heapF w) A n gs) (hb : Below w.heap.size w w') : RdR (heapF w') A n gs :=
  ⟨h.1, fun i hi => let ⟨ad, Ai, ni, ci, e, h1, h2⟩ := h.2 i hi; ⟨ad, Ai, ni, ci, e, ((sat_heapF w).below hb).cell h1, h2.below hb⟩⟩
theorem Rw.below {m : Nat} {w w' : World} {v : Value} {ps : List (Nat → Bool)} (h : Rw m w v ps) (hb : Below w.heap.size w w') : Rw m w' v ps :=
  let ⟨A, n, c, gs, e, hr, hl, hn, hp⟩ := h
  ⟨A, n, c, gs, e, hr.below hb, hl, hn, hp⟩
theorem wordTo_congr {p q : Nat → Bool} : ∀ m, (∀ i, i < m → p i = q i) → wordTo p m = wordTo q m
  | 0, _ => rfl
  | m + 1, h => by rw [wordTo, wordTo, wordTo_congr m fun i hi => h i (by omega), h m (by omega)]
/-- A row of functions in the making. -/
def RowsB (m : Nat) (F : Fz) (w : World) (B : Nat) (v : Value) (ps : List (Nat → Bool)) : Prop :=
  ∃ vs : List Value, Own F w B 84 1 v vs.length vs ∧ vs.length = ps.length ∧ ∀ i x, vs[i]? = some x → WdF m F x (ps.getD i fun _ => false)
theorem RowsB.nil (m : Nat) (F : Fz) (w : World) (B : Nat) : RowsB m F w B (.slice none 0 0) [] := ⟨[], Own.nil _ _ _ _ _, rfl, fun i x h => by simp at h⟩
theorem RowsB.call {m : Nat} {F : Fz} {w w' : World} {B : Nat} {v : Value} {ps : List (Nat → Bool)} (h : RowsB m F w B v ps) (hb : Below w.heap.size w w') : RowsB m F w' B v ps :=
  let ⟨vs, h1, h2, h3⟩ := h
  ⟨vs, h1.call hb, h2, h3⟩
theorem RowsB.put {m : Nat} {F : Fz} {w : World} {B : Nat} {v : Value} {ps : List (Nat → Bool)} (h : RowsB m F w B v ps) {g : Nat} {o : Obj} (hg : F g = none) (hv : v.ownBlock ≠ some g) : RowsB m (F.put g o) w B v ps := by
  obtain ⟨vs, ⟨h1, h1'⟩, h2, h3⟩ := h
  refine ⟨vs, ⟨h1, fun g' hg' => ?_⟩, h2, fun i x hx => (h3 i x hx).put hg⟩
  unfold Fz.put
  rw [if_neg (fun e => hv (by rw [hg', e]))]
  exact h1' g' hg'
theorem RowsB.lt {m : Nat} {F : Fz} {w : World} {B : Nat} {v : Value} {ps : List (Nat → Bool)} (h : RowsB m F w B v ps) : ∀ g, v.ownBlock = some g → B ≤ g ∧ g < w.heap.size :=
  let ⟨_, h1, _, _⟩ := h
  h1.1.lt
theorem RowsB.kept {m : Nat} {F : Fz} {w w' : World} {B : Nat} {v : Value} {ps : List (Nat → Bool)} {row : Option Nat} (h : RowsB m F w B v ps) (hg : w.grownBy w' row) (hne : v.ownBlock = none ∨ v.ownBlock ≠ row) : RowsB m F w' B v ps :=
  let ⟨vs, h1, h2, h3⟩ := h
  ⟨vs, h1.kept hg hne, h2, h3⟩
theorem RowsB.push {m : Nat} {F : Fz} {w' : World} {B : Nat} {v' x : Value} {vs : List Value} {ps : List (Nat → Bool)} {p : Nat → Bool} (h2 : vs.length = ps.length) (h3 : ∀ i x, vs[i]? = some x → WdF m F x (ps.getD i fun _ => false)) (hx : WdF m F x p)
    (ho : Own F w' B 84 1 v' (vs.length + 1) (vs ++ [x])) : RowsB m F w' B v' (ps ++ [p]) := by
  refine ⟨vs ++ [x], by simpa using ho, by simp [h2], fun i y hy => ?_⟩
  rw [List.getElem?_append] at hy
  split at hy
  · rename_i hlt
    rw [List.getD, List.getElem?_append_left (by omega)]
    exact h3 i y hy
  · rename_i hge
    have hi : i = vs.length := by
      rcases Nat.lt_or_ge vs.length i with h | h
      · rw [List.getElem?_eq_none (by simp; omega)] at hy; cases hy
      · omega
    subst hi
    simp at hy
    subst hy
    rw [h2]
    simpa [List.getD] using hx
/-- It is made: it reads as functions, one by one. -/
theorem RowsB.done {m : Nat} {F : Fz} {w : World} {B : Nat} {v : Value} {ps : List (Nat → Bool)} (h : RowsB m F w B v ps) (hF : Sat F w) : Rw m w v ps := by
  obtain ⟨vs, ⟨h1, _⟩, h2, h3⟩ := h
  have hform : ∃ (A : Option Addr) (c : Nat), v = .slice A vs.length c ∧ ∀ i x, vs[i]? = some x → ∃ ad, A = some ad ∧ (heapF w).cell (ad.add i) = some x := by
    rcases h1.2 with ⟨rfl, h0⟩ | ⟨g, cap, cur, rfl, _, hh, _, _, _, htake⟩
    · rw [h0]
      exact ⟨none, 0, rfl, fun i x hx => by rw [List.getElem?_eq_none (by omega)] at hx; cases hx⟩
    · exact ⟨_, cap, rfl, fun i x hx => ⟨_, rfl, h1.cells (g := g) rfl i x hx⟩⟩
  obtain ⟨A, c, rfl, hcell⟩ := hform
  have each : ∀ k, k ≤ vs.length → ∃ gs : List (List (BitVec 64)), gs.length = k ∧ ∀ i, i < k → ∃ (Ai : Option Addr) (ni ci : Nat), vs[i]? = some (.slice Ai ni ci) ∧ Rd (heapF w) 1 Ai ni ((gs.getD i []).map u) ∧ (gs.getD i []).length ≤ 1000 ∧ ∀ x, x < 2 ^ m → bitAt (gs.getD i []) x = ps.getD i (fun _ => false) x := by
    intro k
    induction k with
    | zero => intro _; exact ⟨[], rfl, fun i hi => absurd hi (by omega)⟩
    | succ k ih =>
      intro hk
      obtain ⟨gs, hl, hg⟩ := ih (by omega)
      have hvk : vs[k]? = some (vs[k]'(by omega)) := List.getElem?_eq_getElem (by omega)
      obtain ⟨Ak, nk, ck, fk, ek, rk, lk, pk⟩ := (h3 k _ hvk).heap hF
      refine ⟨gs ++ [fk], by simp [hl], fun i hi => ?_⟩
      rcases Nat.lt_or_ge i k with hlt | hge
      · rw [show (gs ++ [fk]).getD i [] = gs.getD i [] by rw [List.getD, List.getElem?_append_left (by omega)]; rfl]
        exact hg i hlt
      · obtain rfl : i = k := by omega
        rw [show (gs ++ [fk]).getD i [] = fk by rw [List.getD, List.getElem?_append_right (by omega), hl]; simp]
        exact ⟨Ak, nk, ck, by rw [hvk, ek], rk, lk, pk⟩
  obtain ⟨gs, hl, hg⟩ := each vs.length (Nat.le_refl _)
  refine ⟨A, vs.length, c, gs, rfl, ⟨hl.symm, fun i hi => ?_⟩, fun g hgm => ?_, by omega, fun i x hx => ?_⟩
  · obtain ⟨Ai, ni, ci, e, r, _, _⟩ := hg i (by omega)
    obtain ⟨ad, eA, hc⟩ := hcell i _ e
    exact ⟨ad, Ai, ni, ci, eA, hc, r⟩
  · obtain ⟨i, hi, rfl⟩ := List.getElem_of_mem hgm
    obtain ⟨_, _, _, _, _, l, _⟩ := hg i (by omega)
    simpa [List.getD, hi] using l
  · rcases Nat.lt_or_ge i vs.length with hlt | hge
    · obtain ⟨_, _, _, _, _, _, p⟩ := hg i hlt
      exact p x hx
    · have e1 : gs.getD i [] = [] := by simp [List.getD, show gs.length ≤ i by omega]
      have e2 : ps.getD i (fun _ => false) = fun _ => false := by simp [List.getD, show ps.length ≤ i by omega]
      rw [e1, e2, bit_nil]
theorem WdF.one {m : Nat} {F : Fz} {v : Value} {p : Nat → Bool} (h : WdF m F v p) : v.oneCell' = true := by
  obtain ⟨A, n, c, fs, rfl, _⟩ := h
  rfl
theorem Tryd.infoR : (Tryd.prog.info? 84).map (fun i => (i.zero, i.size, i.bytes)) = some (some (.slice none 0 0), 1, 24) := by kernel_rfl
/-- append of one function onto a row in the making. -/
theorem wpList_pushR {w : World} {ops : Array Oper} {rest : List Oper} {o : Oper} {a : Act} {Q : Exit → Act → World → Prop} (hgd : o.guard = none) (s x : Operand)
    (ho : o.op = .call { callee := .builtin .append, args := #[s, x], argTypes := #[83, 83] })
    {m : Nat} {F : Fz} {B : Nat} {v y : Value} {ps : List (Nat → Bool)} {p : Nat → Bool} (hR : RowsB m F w B v ps) (hy : WdF m F y p) (hF : Sat F w) (hs : a.eval s = v) (g c : Nat) (hx : a.eval x = .slice (some ⟨g, 0, none⟩) 1 c) (hg : Blk w g 84 #[y])
    (hl : ps.length ≤ 1000) (hB : B ≤ w.heap.size)
    (h : ∀ v' w', RowsB m F w' B v' (ps ++ [p]) → Sat F w' → Below B w w' → w.grownBy w' v.ownBlock → (v'.ownBlock = v.ownBlock ∨ v'.ownBlock = some w.heap.size) → wpList Tryd.prog ops Q rest (a.put o.dst v') w') :
    wpList Tryd.prog ops Q (o :: rest) a w := by
  obtain ⟨vs, h1, h2, h3⟩ := hR
  refine wpList_push hgd s x _ ho 84 (.slice none 0 0) 1 24 Tryd.underlying83 Tryd.infoR rfl (by omega) h1 hF hs g c #[y] hx hg rfl ?_ (by unfold maxLen; omega) (by omega) hB ?_
  · intro u hu
    obtain rfl : u = y := by simpa using hu
    exact hy.one
  · intro v' w' h4 h5 h6 h7 h8
    exact h v' w' (RowsB.push h2 h3 hy h4) h5 h6 h7 h8
theorem rw_rows {m : Nat} {w : World} {A : Option Addr} {n c : Nat} {gs : List (List (BitVec 64))} (h : RdR (heapF w) A n gs) (hl : ∀ g ∈ gs, g.length ≤ 1000) : Rw m w (.slice A n c) (gs.map bitAt) := by
  refine ⟨A, n, c, gs, rfl, h, hl, by simp, fun i x _ => ?_⟩
  rcases Nat.lt_or_ge i gs.length with hi | hi
  · simp [List.getD, hi]
  · simp [List.getD, hi, bit_nil]
/-- The functions of a list, made one by one. -/
def listP (q : Nat → Nat → Bool) (k : Nat) : List (Nat → Bool) := (List.range k).map q
theorem listP_succ (q : Nat → Nat → Bool) (k : Nat) : listP q (k + 1) = listP q k ++ [q k] := by simp [listP, List.range_succ]
theorem length_listP (q : Nat → Nat → Bool) (k : Nat) : (listP q k).length = k := by simp [listP]
theorem getD_listP (q : Nat → Nat → Bool) (k i : Nat) (h : i < k) : (listP q k).getD i (fun _ => false) = q i := by simp [listP, List.getD, h]
theorem yP_eq {m : Nat} (hm : m ≤ 10) {ps : List (Nat → Bool)} {x y : Nat} (hy : y < 2 ^ m) (h : ∀ i, i < m → ps.getD i (fun _ => false) x = y.testBit i) : yP m ps x = y := by
  apply Nat.eq_of_testBit_eq
  intro i
  rw [testBit_yP m hm]
  by_cases hi : i < m
  · simp [hi, h i hi]
  · have : y.testBit i = false := Nat.testBit_lt_two_pow (Nat.lt_of_lt_of_le hy (Nat.pow_le_pow_right (by omega) (by omega)))
    simp [hi, this]
theorem apart_symm {o t : Value} (h : ∀ g, o.ownBlock = some g → t.ownBlock ≠ some g) : ∀ g, t.ownBlock = some g → o.ownBlock ≠ some g := fun g h1 h2 => h g h2 h1
theorem apart_or {o t : Value} (h : ∀ g, o.ownBlock = some g → t.ownBlock ≠ some g) : t.ownBlock = none ∨ t.ownBlock ≠ o.ownBlock := by
  cases ho : o.ownBlock with
  | none =>
    cases ht : t.ownBlock with
    | none => exact .inl rfl
    | some g => exact .inr (by simp)
  | some g => exact .inr (h g ho)
theorem apart_push {o t o' : Value} {S : Nat} (hne : ∀ g, o.ownBlock = some g → t.ownBlock ≠ some g) (ht : ∀ g, t.ownBlock = some g → g < S) (hat : o'.ownBlock = o.ownBlock ∨ o'.ownBlock = some S) : ∀ g, o'.ownBlock = some g → t.ownBlock ≠ some g := by
  intro g hg h2
  rcases hat with h | h
  · exact hne g (by rw [← h]; exact hg) h2
  · rw [hg] at h
    injection h with h
    have := ht g h2
    omega
theorem RowsB.fresh {m : Nat} {F : Fz} {w w' : World} {B g : Nat} {v : Value} {ps : List (Nat → Bool)} {o : Obj} (h : RowsB m F w B v ps) (hF : Sat F w) (hb : Below w.heap.size w w') (hg : w.heap.size ≤ g) : RowsB m (F.put g o) w' B v ps :=
  (h.call hb).put (hF.none_ hg) (fun e => by have := (h.lt _ e).2; omega)
theorem Rw.row {m : Nat} {w : World} {C : Option Addr} {n c k : Nat} {ps : List (Nat → Bool)} (h : Rw m w (.slice C n c) ps) (hk : k < n) :
    ∃ (ad : Addr) (Ai : Option Addr) (ni ci : Nat), C = some ad ∧ w.cell? (ad.add k) = some (.slice Ai ni ci) ∧ Wd m w (.slice Ai ni ci) (ps.getD k fun _ => false) := by
  obtain ⟨A, n', c', gs, e, ⟨hn, hr⟩, hl, hlen, hp⟩ := h
  injection e with e1 e2 e3
  subst e1 e2 e3
  obtain ⟨ad, Ai, ni, ci, eA, hc, hrd⟩ := hr k (by omega)
  refine ⟨ad, Ai, ni, ci, eA, hc, Ai, ni, ci, gs.getD k [], rfl, hrd, ?_, fun x hx => hp k x hx⟩
  rw [List.getD, List.getElem?_eq_getElem (by omega)]
  exact hl _ (List.getElem_mem _)
/-- A row of n functions, made whole: block g. -/
def RowsGt (m : Nat) (F : Fz) (w : World) (g n : Nat) (q : Nat → Nat → Bool) : Prop :=
  ∃ vs : List Value, Blk w g 84 vs.toArray ∧ F g = none ∧ vs.length = n ∧ ∀ i x, vs[i]? = some x → WdF m F x (q i)
section
variable {m : Nat} {F : Fz} {w w' : World} {g n : Nat} {q : Nat → Nat → Bool}
theorem RowsGt.lt (h : RowsGt m F w g n q) : g < w.heap.size := let ⟨_, h1, _⟩ := h; h1.lt
theorem RowsGt.call (h : RowsGt m F w g n q) (hb : Below w.heap.size w w') : RowsGt m F w' g n q := let ⟨vs, h1, h2⟩ := h; ⟨vs, h1.call hb, h2⟩
theorem RowsGt.far (h : RowsGt m F w g n q) {a : Addr} (ha : g ≠ a.block) (v : Value) : RowsGt m F (w.setCell a v) g n q := let ⟨vs, h1, h2⟩ := h; ⟨vs, h1.far ha v, h2⟩
theorem RowsGt.put (h : RowsGt m F w g n q) {g' : Nat} {o : Obj} (hg : F g' = none) (hne : g ≠ g') : RowsGt m (F.put g' o) w g n q :=
  let ⟨vs, h1, h2, h3, h4⟩ := h
  ⟨vs, h1, by unfold Fz.put; rw [if_neg hne]; exact h2, h3, fun i x hx => (h4 i x hx).put hg⟩
theorem RowsGt.fresh (h : RowsGt m F w g n q) {g' : Nat} {o : Obj} (hF : Sat F w) (hb : Below w.heap.size w w') (hg : w.heap.size ≤ g') : RowsGt m (F.put g' o) w' g n q :=
  (h.call hb).put (hF.none_ hg) (by have := h.lt; omega)
theorem RowsGt.set_ (h : RowsGt m F w g n q) (k : Nat) {x : Value} {p : Nat → Bool} (hx : WdF m F x p) : RowsGt m F (w.setCell ⟨g, k, none⟩ x) g n (fun i => if i = k then p else q i) := by
  obtain ⟨vs, h1, h2, h3, h4⟩ := h
  refine ⟨vs.set k x, ?_, h2, by simpa using h3, fun i y hy => ?_⟩
  · have := h1.set_ k x
    rwa [List.setIfInBounds_toArray] at this
  · rw [List.getElem?_set] at hy
    by_cases hi : k = i
    · subst hi
      rw [if_pos rfl] at hy
      split at hy
      · injection hy with hy
        subst hy
        simpa using hx
      · cases hy
    · rw [if_neg hi] at hy
      show WdF m F y (if i = k then p else q i)
      rw [if_neg (fun e => hi e.symm)]
      exact h4 i y hy
theorem RowsGt.sat (h : RowsGt m F w g n q) (hF : Sat F w) (k : Nat) (x : Value) : Sat F (w.setCell ⟨g, k, none⟩ x) := let ⟨_, _, h2, _⟩ := h; hF.setCell h2 x
theorem RowsGt.cell (h : RowsGt m F w g n q) {k : Nat} (hk : k < n) : (∃ v, w.cell? ⟨g, k, none⟩ = some v) ∧ w.frozen? ⟨g, k, none⟩ = false := by
  obtain ⟨vs, h1, _, h3, _⟩ := h
  exact ⟨⟨vs[k]'(by omega), by rw [h1.cell k]; simp [show k < vs.length by omega]⟩, h1.frozen k⟩
theorem RowsGt.as (h : RowsGt m F w g n q) {q' : Nat → Nat → Bool} (e : ∀ i, i < n → q i = q' i) : RowsGt m F w g n q' := by
  obtain ⟨vs, h1, h2, h3, h4⟩ := h
  refine ⟨vs, h1, h2, h3, fun i x hx => ?_⟩
  rw [← e i (by have := (List.getElem?_eq_some_iff.1 hx).1; omega)]
  exact h4 i x hx
theorem RowsGt.made (F : Fz) (w : World) (g n : Nat) (hg : Blk w g 84 (zeros (.slice none 0 0) n)) (hF : F g = none) : RowsGt m F w g n (fun _ _ => false) := by
  refine ⟨List.replicate n (.slice none 0 0), hg, hF, by simp, fun i x hx => ?_⟩
  rw [List.getElem?_replicate] at hx
  split at hx
  · injection hx with hx
    subst hx
    exact ⟨none, 0, 0, [], rfl, Rd.nil, by simp, fun x _ => bit_nil x⟩
  · cases hx
theorem RowsGt.done (h : RowsGt m F w g n q) (hF : Sat F w) (hn : n ≤ 1000) (c : Nat) : Rw m w (.slice (some ⟨g, 0, none⟩) n c) (listP q n) := by
  obtain ⟨vs, h1, h2, h3, h4⟩ := h
  have hB : RowsB m F w 0 (.slice (some ⟨g, 0, none⟩) n n) (listP q n) := by
    refine ⟨vs, ⟨⟨by simp, .inr ⟨g, n, vs.toArray, by rw [h3], Nat.zero_le _, h1, by omega, by unfold maxLen; omega, by simp [h3], by simp⟩⟩, fun g' hg' => ?_⟩, by rw [length_listP, h3], fun i x hx => ?_⟩
    · have : g = g' := by simpa [Value.ownBlock] using hg'
      rw [← this]; exact h2
    · rw [getD_listP _ _ _ (by have := (List.getElem?_eq_some_iff.1 hx).1; omega)]
      exact h4 i x hx
  obtain ⟨A, n', c', gs, e, hr, hl, hlen, hp⟩ := hB.done hF
  injection e with e1 e2 e3
  subst e1 e2
  exact ⟨_, _, c, gs, rfl, hr, hl, hlen, hp⟩
end
theorem makeR (n : Nat) (hn : n ≤ 1000000) (w : World) : (Instr.makeSlice 83 (.int .i64 (n : Int)) (.int .i64 (n : Int))).run Tryd.prog w = .ok (.slice (some ⟨w.heap.size, 0, none⟩) n n) (w.alloc (.cells (zeros (.slice none 0 0) n) 84)) :=
  run_make1 _ _ _ 24 Tryd.underlying83 Tryd.infoR rfl n (by omega) (by omega) w
/-- What is frozen, but for two blocks. -/
def but2 (w : World) (a b : Nat) : Fz := fun x => if x = a ∨ x = b then none else w.heap[x]?
theorem sat_but2 (w : World) (a b : Nat) : Sat (but2 w a b) w := by
  intro x o h
  unfold but2 at h
  split at h
  · cases h
  · exact h
end Go.Proofs.YtdbbooibkiicnaaDoor
