/- The walks of table's functions that make memory. -/
import Derived.Test.YtdbbooibkiicnaaGreatTab1
import Derived.Deep.RegionWith
set_option linter.unusedVariables false
set_option linter.unusedSimpArgs false
/-! The walks of table's functions that make memory. -/
namespace Go.Proofs.YtdbbooibkiicnaaGreat
open Go.RowKit
attribute [local go_sem ↓] bits_and bits_or not_bits arith_add arith_sub shift_l shift_r shift_lu shift_ru shift_int conv_uu shift_l1 shift_l1u bits_and1 arith_sub1
attribute [local go_sem] uz_toNat uz_nonneg

/-- Words are handed back, in a block of their own. -/
def RetO (w : World) (xs : List (BitVec 64)) (e : Ending) (w' : World) : Prop :=
  ∃ g c, e = .returned (.slice (some ⟨g, 0, none⟩) xs.length c) ∧ Below w.heap.size w w' ∧ w.heap.size ≤ g ∧ Blk w' g 44 (xs.map u).toArray

theorem Tryz.infoW : (Tryz.prog.info? 44).map (fun i => (i.zero, i.size, i.bytes)) = some (some (.int .u64 0), 1, 8) := by kernel_rfl
theorem makeW (n : Nat) (hn : n ≤ 1000000) (w : World) : (Instr.makeSlice 33 (.int .i64 (n : Int)) (.int .i64 (n : Int))).run Tryz.prog w = .ok (.slice (some ⟨w.heap.size, 0, none⟩) n n) (w.alloc (.cells (zeros (u 0#64) n) 44)) :=
  run_make1 _ _ _ 8 Tryz.underlying33 Tryz.infoW rfl n (by omega) (by omega) w

end Go.Proofs.YtdbbooibkiicnaaGreat
/-! The walks of And, Or, Yes, Atom, Same, Const. -/
namespace Go.Proofs.YtdbbooibkiicnaaGreat
open Go.RowKit
attribute [local go_sem ↓] bits_and bits_or not_bits arith_add arith_sub shift_l shift_r shift_lu shift_ru shift_int conv_uu shift_l1 shift_l1u bits_and1 arith_sub1 shift_rn and_one_n
attribute [local go_sem] uz_toNat uz_nonneg wrap_bit

end Go.Proofs.YtdbbooibkiicnaaGreat
/-! The walks of Put, Const; the references' Fun, Put, Const. -/
namespace Go.Proofs.YtdbbooibkiicnaaGreat
open Go.RowKit
attribute [local go_sem ↓] bits_and bits_or not_bits arith_add arith_sub shift_l shift_r shift_lu shift_ru shift_int conv_uu shift_l1 shift_l1u bits_and1 arith_sub1 shift_rn and_one_n
attribute [local go_sem] uz_toNat uz_nonneg wrap_bit

end Go.Proofs.YtdbbooibkiicnaaGreat
/-! The walks of Const, the reference's Const, and the law's small helpers. -/
namespace Go.Proofs.YtdbbooibkiicnaaGreat
open Go.RowKit
attribute [local go_sem ↓] bits_and bits_or not_bits arith_add arith_sub shift_l shift_r shift_lu shift_ru shift_int conv_uu shift_l1 shift_l1u bits_and1 arith_sub1 shift_rn and_one_n
attribute [local go_sem] uz_toNat uz_nonneg wrap_bit

/-- Which one value a function has, and whether. -/
def cV (m : Nat) (fs : List (BitVec 64)) : Bool × Bool :=
  if tab m (bitAt fs) = tab m (fun _ => false) then (false, true) else if tab m (bitAt fs) = tab m (fun _ => true) then (true, true) else (false, false)
end Go.Proofs.YtdbbooibkiicnaaGreat
/-! The law's wake-up call. -/
namespace Go.Proofs.YtdbbooibkiicnaaGreat
open Go.RowKit
attribute [local go_sem ↓] bits_and bits_or not_bits arith_add arith_sub shift_l shift_r shift_lu shift_ru shift_int conv_uu shift_l1 shift_l1u bits_and1 arith_sub1 shift_rn and_one_n
attribute [local go_sem] uz_toNat uz_nonneg wrap_bit

end Go.Proofs.YtdbbooibkiicnaaGreat
/-! The contracts once more, over values that read as functions of assignments. -/
namespace Go.Proofs.YtdbbooibkiicnaaGreat
open Go.RowKit

/-- The value v is words that tell p, of m atoms, frozen in F. -/
def WdF (m : Nat) (F : Fz) (v : Value) (p : Nat → Bool) : Prop :=
  ∃ (A : Option Addr) (n c : Nat) (fs : List (BitVec 64)), v = .slice A n c ∧ Rd F 1 A n (fs.map u) ∧ fs.length ≤ 1000 ∧ ∀ x, x < 2 ^ m → bitAt fs x = p x
/-- The value v is words that tell p, of m atoms. -/
abbrev Wd (m : Nat) (w : World) (v : Value) (p : Nat → Bool) : Prop := WdF m (heapF w) v p
theorem Rd.below {w w' : World} {size n : Nat} {A : Option Addr} {xs : List Value} (h : Rd (heapF w) size A n xs) (hb : Below w.heap.size w w') : Rd (heapF w') size A n xs := h.heap ((sat_heapF w).below hb)
theorem WdF.heap {m : Nat} {F : Fz} {w : World} {v : Value} {p : Nat → Bool} (h : WdF m F v p) (hF : Sat F w) : Wd m w v p :=
  let ⟨A, n, c, fs, e, hr, hl, hp⟩ := h
  ⟨A, n, c, fs, e, hr.heap hF, hl, hp⟩
theorem WdF.below {m : Nat} {w w' : World} {v : Value} {p : Nat → Bool} (h : Wd m w v p) (hb : Below w.heap.size w w') : Wd m w' v p := h.heap ((sat_heapF w).below hb)
theorem WdF.put {m : Nat} {F : Fz} {v : Value} {p : Nat → Bool} (h : WdF m F v p) {g : Nat} {o : Obj} (hg : F g = none) : WdF m (F.put g o) v p :=
  let ⟨A, n, c, fs, e, hr, hl, hp⟩ := h
  ⟨A, n, c, fs, e, hr.put hg, hl, hp⟩
theorem WdF.same {m : Nat} {F : Fz} {v : Value} {p q : Nat → Bool} (h : WdF m F v p) (e : ∀ x, x < 2 ^ m → p x = q x) : WdF m F v q :=
  let ⟨A, n, c, fs, e1, hr, hl, hp⟩ := h
  ⟨A, n, c, fs, e1, hr, hl, fun x hx => (hp x hx).trans (e x hx)⟩
/-- The same, with the block: it may be frozen beside whatever is. -/
def RetQ (m : Nat) (w : World) (p : Nat → Bool) (e : Ending) (w' : World) : Prop :=
  ∃ (A : Option Addr) (n c g : Nat) (o : Obj), e = .returned (.slice A n c) ∧ Below w.heap.size w w' ∧ w.heap.size ≤ g ∧ w'.heap[g]? = some o ∧ ∀ F : Fz, WdF m (F.put g o) (.slice A n c) p
/-! Functions in the places of atoms. -/
/-- The value v is a slice of words that tell ps, one by one. -/
def Rw (m : Nat) (w : World) (v : Value) (ps : List (Nat → Bool)) : Prop :=
  ∃ (A : Option Addr) (n c : Nat) (gs : List (List (BitVec 64))), v = .slice A n c ∧ RdR (heapF w) A n gs ∧ (∀ g ∈ gs, g.length ≤ 1000) ∧ gs.length = ps.length ∧ ∀ i x, x < 2 ^ m → bitAt (gs.getD i []) x = ps.getD i (fun _ => false) x
theorem RdR.below {w w' : World} {A : Option Addr} {n : Nat} {gs : List (List (BitVec 64))} (h : RdR (heapF w) A n gs) (hb : Below w.heap.size w w') : RdR (heapF w') A n gs :=
  ⟨h.1, fun i hi => let ⟨ad, Ai, ni, ci, e, h1, h2⟩ := h.2 i hi; ⟨ad, Ai, ni, ci, e, ((sat_heapF w).below hb).cell h1, h2.below hb⟩⟩
theorem Rw.below {m : Nat} {w w' : World} {v : Value} {ps : List (Nat → Bool)} (h : Rw m w v ps) (hb : Below w.heap.size w w') : Rw m w' v ps :=
  let ⟨A, n, c, gs, e, hr, hl, hn, hp⟩ := h
  ⟨A, n, c, gs, e, hr.below hb, hl, hn, hp⟩
/-- A row of functions in the making. -/
def RowsB (m : Nat) (F : Fz) (w : World) (B : Nat) (v : Value) (ps : List (Nat → Bool)) : Prop :=
  ∃ vs : List Value, Own F w B 33 1 v vs.length vs ∧ vs.length = ps.length ∧ ∀ i x, vs[i]? = some x → WdF m F x (ps.getD i fun _ => false)
theorem RowsB.nil (m : Nat) (F : Fz) (w : World) (B : Nat) : RowsB m F w B (.slice none 0 0) [] := ⟨[], Own.nil _ _ _ _ _, rfl, fun i x h => by simp at h⟩
theorem RowsB.call {m : Nat} {F : Fz} {w w' : World} {B : Nat} {v : Value} {ps : List (Nat → Bool)} (h : RowsB m F w B v ps) (hb : Below w.heap.size w w') : RowsB m F w' B v ps :=
  let ⟨vs, h1, h2, h3⟩ := h
  ⟨vs, h1.call hb, h2, h3⟩
theorem RowsB.put {m : Nat} {F : Fz} {w : World} {B : Nat} {v : Value} {ps : List (Nat → Bool)} (h : RowsB m F w B v ps) {g : Nat} {o : Obj} (hg : F g = none) (hv : v.ownBlock ≠ some g) : RowsB m (F.put g o) w B v ps := by
  obtain ⟨vs, ⟨h1, h1'⟩, h2, h3⟩ := h
  refine ⟨vs, ⟨h1, fun g' hg' => ?_⟩, h2, fun i x hx => (h3 i x hx).put hg⟩
  unfold Fz.put
  rw [if_neg (fun e => hv (by rw [hg', e]))]
  exact h1' g' hg'
theorem RowsB.lt {m : Nat} {F : Fz} {w : World} {B : Nat} {v : Value} {ps : List (Nat → Bool)} (h : RowsB m F w B v ps) : ∀ g, v.ownBlock = some g → B ≤ g ∧ g < w.heap.size :=
  let ⟨_, h1, _, _⟩ := h
  h1.1.lt
theorem RowsB.kept {m : Nat} {F : Fz} {w w' : World} {B : Nat} {v : Value} {ps : List (Nat → Bool)} {row : Option Nat} (h : RowsB m F w B v ps) (hg : w.grownBy w' row) (hne : v.ownBlock = none ∨ v.ownBlock ≠ row) : RowsB m F w' B v ps :=
  let ⟨vs, h1, h2, h3⟩ := h
  ⟨vs, h1.kept hg hne, h2, h3⟩
theorem RowsB.push {m : Nat} {F : Fz} {w' : World} {B : Nat} {v' x : Value} {vs : List Value} {ps : List (Nat → Bool)} {p : Nat → Bool} (h2 : vs.length = ps.length) (h3 : ∀ i x, vs[i]? = some x → WdF m F x (ps.getD i fun _ => false)) (hx : WdF m F x p)
    (ho : Own F w' B 33 1 v' (vs.length + 1) (vs ++ [x])) : RowsB m F w' B v' (ps ++ [p]) := by
  refine ⟨vs ++ [x], by simpa using ho, by simp [h2], fun i y hy => ?_⟩
  rw [List.getElem?_append] at hy
  split at hy
  · rename_i hlt
    rw [List.getD, List.getElem?_append_left (by omega)]
    exact h3 i y hy
  · rename_i hge
    have hi : i = vs.length := by
      rcases Nat.lt_or_ge vs.length i with h | h
      · rw [List.getElem?_eq_none (by simp; omega)] at hy; cases hy
      · omega
    subst hi
    simp at hy
    subst hy
    rw [h2]
    simpa [List.getD] using hx
/-- It is made: it reads as functions, one by one. -/
theorem RowsB.done {m : Nat} {F : Fz} {w : World} {B : Nat} {v : Value} {ps : List (Nat → Bool)} (h : RowsB m F w B v ps) (hF : Sat F w) : Rw m w v ps := by
  obtain ⟨vs, ⟨h1, _⟩, h2, h3⟩ := h
  have hform : ∃ (A : Option Addr) (c : Nat), v = .slice A vs.length c ∧ ∀ i x, vs[i]? = some x → ∃ ad, A = some ad ∧ (heapF w).cell (ad.add i) = some x := by
    rcases h1.2 with ⟨rfl, h0⟩ | ⟨g, cap, cur, rfl, _, hh, _, _, _, htake⟩
    · rw [h0]
      exact ⟨none, 0, rfl, fun i x hx => by rw [List.getElem?_eq_none (by omega)] at hx; cases hx⟩
    · exact ⟨_, cap, rfl, fun i x hx => ⟨_, rfl, h1.cells (g := g) rfl i x hx⟩⟩
  obtain ⟨A, c, rfl, hcell⟩ := hform
  have each : ∀ k, k ≤ vs.length → ∃ gs : List (List (BitVec 64)), gs.length = k ∧ ∀ i, i < k → ∃ (Ai : Option Addr) (ni ci : Nat), vs[i]? = some (.slice Ai ni ci) ∧ Rd (heapF w) 1 Ai ni ((gs.getD i []).map u) ∧ (gs.getD i []).length ≤ 1000 ∧ ∀ x, x < 2 ^ m → bitAt (gs.getD i []) x = ps.getD i (fun _ => false) x := by
    intro k
    induction k with
    | zero => intro _; exact ⟨[], rfl, fun i hi => absurd hi (by omega)⟩
    | succ k ih =>
      intro hk
      obtain ⟨gs, hl, hg⟩ := ih (by omega)
      have hvk : vs[k]? = some (vs[k]'(by omega)) := List.getElem?_eq_getElem (by omega)
      obtain ⟨Ak, nk, ck, fk, ek, rk, lk, pk⟩ := (h3 k _ hvk).heap hF
      refine ⟨gs ++ [fk], by simp [hl], fun i hi => ?_⟩
      rcases Nat.lt_or_ge i k with hlt | hge
      · rw [show (gs ++ [fk]).getD i [] = gs.getD i [] by rw [List.getD, List.getElem?_append_left (by omega)]; rfl]
        exact hg i hlt
      · obtain rfl : i = k := by omega
        rw [show (gs ++ [fk]).getD i [] = fk by rw [List.getD, List.getElem?_append_right (by omega), hl]; simp]
        exact ⟨Ak, nk, ck, by rw [hvk, ek], rk, lk, pk⟩
  obtain ⟨gs, hl, hg⟩ := each vs.length (Nat.le_refl _)
  refine ⟨A, vs.length, c, gs, rfl, ⟨hl.symm, fun i hi => ?_⟩, fun g hgm => ?_, by omega, fun i x hx => ?_⟩
  · obtain ⟨Ai, ni, ci, e, r, _, _⟩ := hg i (by omega)
    obtain ⟨ad, eA, hc⟩ := hcell i _ e
    exact ⟨ad, Ai, ni, ci, eA, hc, r⟩
  · obtain ⟨i, hi, rfl⟩ := List.getElem_of_mem hgm
    obtain ⟨_, _, _, _, _, l, _⟩ := hg i (by omega)
    simpa [List.getD, hi] using l
  · rcases Nat.lt_or_ge i vs.length with hlt | hge
    · obtain ⟨_, _, _, _, _, _, p⟩ := hg i hlt
      exact p x hx
    · have e1 : gs.getD i [] = [] := by simp [List.getD, show gs.length ≤ i by omega]
      have e2 : ps.getD i (fun _ => false) = fun _ => false := by simp [List.getD, show ps.length ≤ i by omega]
      rw [e1, e2, bit_nil]
theorem WdF.one {m : Nat} {F : Fz} {v : Value} {p : Nat → Bool} (h : WdF m F v p) : v.oneCell' = true := by
  obtain ⟨A, n, c, fs, rfl, _⟩ := h
  rfl
theorem Tryz.infoR : (Tryz.prog.info? 33).map (fun i => (i.zero, i.size, i.bytes)) = some (some (.slice none 0 0), 1, 24) := by kernel_rfl
/-- The functions of a list, made one by one. -/
def listP (q : Nat → Nat → Bool) (k : Nat) : List (Nat → Bool) := (List.range k).map q
theorem length_listP (q : Nat → Nat → Bool) (k : Nat) : (listP q k).length = k := by simp [listP]
theorem getD_listP (q : Nat → Nat → Bool) (k i : Nat) (h : i < k) : (listP q k).getD i (fun _ => false) = q i := by simp [listP, List.getD, h]
theorem RowsB.fresh {m : Nat} {F : Fz} {w w' : World} {B g : Nat} {v : Value} {ps : List (Nat → Bool)} {o : Obj} (h : RowsB m F w B v ps) (hF : Sat F w) (hb : Below w.heap.size w w') (hg : w.heap.size ≤ g) : RowsB m (F.put g o) w' B v ps :=
  (h.call hb).put (hF.none_ hg) (fun e => by have := (h.lt _ e).2; omega)
theorem Rw.row {m : Nat} {w : World} {C : Option Addr} {n c k : Nat} {ps : List (Nat → Bool)} (h : Rw m w (.slice C n c) ps) (hk : k < n) :
    ∃ (ad : Addr) (Ai : Option Addr) (ni ci : Nat), C = some ad ∧ w.cell? (ad.add k) = some (.slice Ai ni ci) ∧ Wd m w (.slice Ai ni ci) (ps.getD k fun _ => false) := by
  obtain ⟨A, n', c', gs, e, ⟨hn, hr⟩, hl, hlen, hp⟩ := h
  injection e with e1 e2 e3
  subst e1 e2 e3
  obtain ⟨ad, Ai, ni, ci, eA, hc, hrd⟩ := hr k (by omega)
  refine ⟨ad, Ai, ni, ci, eA, hc, Ai, ni, ci, gs.getD k [], rfl, hrd, ?_, fun x hx => hp k x hx⟩
  rw [List.getD, List.getElem?_eq_getElem (by omega)]
  exact hl _ (List.getElem_mem _)
/-- A row of n functions, made whole: block g. -/
def RowsGt (m : Nat) (F : Fz) (w : World) (g n : Nat) (q : Nat → Nat → Bool) : Prop :=
  ∃ vs : List Value, Blk w g 33 vs.toArray ∧ F g = none ∧ vs.length = n ∧ ∀ i x, vs[i]? = some x → WdF m F x (q i)
section
variable {m : Nat} {F : Fz} {w w' : World} {g n : Nat} {q : Nat → Nat → Bool}
theorem RowsGt.lt (h : RowsGt m F w g n q) : g < w.heap.size := let ⟨_, h1, _⟩ := h; h1.lt
theorem RowsGt.call (h : RowsGt m F w g n q) (hb : Below w.heap.size w w') : RowsGt m F w' g n q := let ⟨vs, h1, h2⟩ := h; ⟨vs, h1.call hb, h2⟩
theorem RowsGt.far (h : RowsGt m F w g n q) {a : Addr} (ha : g ≠ a.block) (v : Value) : RowsGt m F (w.setCell a v) g n q := let ⟨vs, h1, h2⟩ := h; ⟨vs, h1.far ha v, h2⟩
theorem RowsGt.put (h : RowsGt m F w g n q) {g' : Nat} {o : Obj} (hg : F g' = none) (hne : g ≠ g') : RowsGt m (F.put g' o) w g n q :=
  let ⟨vs, h1, h2, h3, h4⟩ := h
  ⟨vs, h1, by unfold Fz.put; rw [if_neg hne]; exact h2, h3, fun i x hx => (h4 i x hx).put hg⟩
theorem RowsGt.fresh (h : RowsGt m F w g n q) {g' : Nat} {o : Obj} (hF : Sat F w) (hb : Below w.heap.size w w') (hg : w.heap.size ≤ g') : RowsGt m (F.put g' o) w' g n q :=
  (h.call hb).put (hF.none_ hg) (by have := h.lt; omega)
theorem RowsGt.set_ (h : RowsGt m F w g n q) (k : Nat) {x : Value} {p : Nat → Bool} (hx : WdF m F x p) : RowsGt m F (w.setCell ⟨g, k, none⟩ x) g n (fun i => if i = k then p else q i) := by
  obtain ⟨vs, h1, h2, h3, h4⟩ := h
  refine ⟨vs.set k x, ?_, h2, by simpa using h3, fun i y hy => ?_⟩
  · have := h1.set_ k x
    rwa [List.setIfInBounds_toArray] at this
  · rw [List.getElem?_set] at hy
    by_cases hi : k = i
    · subst hi
      rw [if_pos rfl] at hy
      split at hy
      · injection hy with hy
        subst hy
        simpa using hx
      · cases hy
    · rw [if_neg hi] at hy
      show WdF m F y (if i = k then p else q i)
      rw [if_neg (fun e => hi e.symm)]
      exact h4 i y hy
theorem RowsGt.sat (h : RowsGt m F w g n q) (hF : Sat F w) (k : Nat) (x : Value) : Sat F (w.setCell ⟨g, k, none⟩ x) := let ⟨_, _, h2, _⟩ := h; hF.setCell h2 x
theorem RowsGt.cell (h : RowsGt m F w g n q) {k : Nat} (hk : k < n) : (∃ v, w.cell? ⟨g, k, none⟩ = some v) ∧ w.frozen? ⟨g, k, none⟩ = false := by
  obtain ⟨vs, h1, _, h3, _⟩ := h
  exact ⟨⟨vs[k]'(by omega), by rw [h1.cell k]; simp [show k < vs.length by omega]⟩, h1.frozen k⟩
theorem RowsGt.made (F : Fz) (w : World) (g n : Nat) (hg : Blk w g 33 (zeros (.slice none 0 0) n)) (hF : F g = none) : RowsGt m F w g n (fun _ _ => false) := by
  refine ⟨List.replicate n (.slice none 0 0), hg, hF, by simp, fun i x hx => ?_⟩
  rw [List.getElem?_replicate] at hx
  split at hx
  · injection hx with hx
    subst hx
    exact ⟨none, 0, 0, [], rfl, Rd.nil, by simp, fun x _ => bit_nil x⟩
  · cases hx
theorem RowsGt.done (h : RowsGt m F w g n q) (hF : Sat F w) (hn : n ≤ 1000) (c : Nat) : Rw m w (.slice (some ⟨g, 0, none⟩) n c) (listP q n) := by
  obtain ⟨vs, h1, h2, h3, h4⟩ := h
  have hB : RowsB m F w 0 (.slice (some ⟨g, 0, none⟩) n n) (listP q n) := by
    refine ⟨vs, ⟨⟨by simp, .inr ⟨g, n, vs.toArray, by rw [h3], Nat.zero_le _, h1, by omega, by unfold maxLen; omega, by simp [h3], by simp⟩⟩, fun g' hg' => ?_⟩, by rw [length_listP, h3], fun i x hx => ?_⟩
    · have : g = g' := by simpa [Value.ownBlock] using hg'
      rw [← this]; exact h2
    · rw [getD_listP _ _ _ (by have := (List.getElem?_eq_some_iff.1 hx).1; omega)]
      exact h4 i x hx
  obtain ⟨A, n', c', gs, e, hr, hl, hlen, hp⟩ := hB.done hF
  injection e with e1 e2 e3
  subst e1 e2
  exact ⟨_, _, c, gs, rfl, hr, hl, hlen, hp⟩
end
theorem makeR (n : Nat) (hn : n ≤ 1000000) (w : World) : (Instr.makeSlice 29 (.int .i64 (n : Int)) (.int .i64 (n : Int))).run Tryz.prog w = .ok (.slice (some ⟨w.heap.size, 0, none⟩) n n) (w.alloc (.cells (zeros (.slice none 0 0) n) 33)) :=
  run_make1 _ _ _ 24 Tryz.underlying29 Tryz.infoR rfl n (by omega) (by omega) w
end Go.Proofs.YtdbbooibkiicnaaGreat
