/- The contracts once more, over values that read as functions of assignments. -/
import Derived.Test.YtkffofolhckjeaaTab6
namespace Go.Proofs.Ytkffofolhckjeaa
open Go.RowKit

/-- The value v is words that tell p, of m atoms, frozen in F. -/
def WdF (m : Nat) (F : Fz) (v : Value) (p : Nat → Bool) : Prop :=
  ∃ (A : Option Addr) (n c : Nat) (fs : List (BitVec 64)), v = .slice A n c ∧ Rd F 1 A n (fs.map u) ∧ fs.length ≤ 1000 ∧ ∀ x, x < 2 ^ m → bitAt fs x = p x
/-- The value v is words that tell p, of m atoms. -/
abbrev Wd (m : Nat) (w : World) (v : Value) (p : Nat → Bool) : Prop := WdF m (heapF w) v p
theorem Rd.below {w w' : World} {size n : Nat} {A : Option Addr} {xs : List Value} (h : Rd (heapF w) size A n xs) (hb : Below w.heap.size w w') : Rd (heapF w') size A n xs := h.heap ((sat_heapF w).below hb)
theorem WdF.heap {m : Nat} {F : Fz} {w : World} {v : Value} {p : Nat → Bool} (h : WdF m F v p) (hF : Sat F w) : Wd m w v p :=
  let ⟨A, n, c, fs, e, hr, hl, hp⟩ := h
  ⟨A, n, c, fs, e, hr.heap hF, hl, hp⟩
theorem WdF.below {m : Nat} {w w' : World} {v : Value} {p : Nat → Bool} (h : Wd m w v p) (hb : Below w.heap.size w w') : Wd m w' v p := h.heap ((sat_heapF w).below hb)
theorem WdF.put {m : Nat} {F : Fz} {v : Value} {p : Nat → Bool} (h : WdF m F v p) {g : Nat} {o : Obj} (hg : F g = none) : WdF m (F.put g o) v p :=
  let ⟨A, n, c, fs, e, hr, hl, hp⟩ := h
  ⟨A, n, c, fs, e, hr.put hg, hl, hp⟩
theorem WdF.same {m : Nat} {F : Fz} {v : Value} {p q : Nat → Bool} (h : WdF m F v p) (e : ∀ x, x < 2 ^ m → p x = q x) : WdF m F v q :=
  let ⟨A, n, c, fs, e1, hr, hl, hp⟩ := h
  ⟨A, n, c, fs, e1, hr, hl, fun x hx => (hp x hx).trans (e x hx)⟩
/-- Words that tell p come back. -/
def RetP (m : Nat) (w : World) (p : Nat → Bool) (e : Ending) (w' : World) : Prop := ∃ v, e = .returned v ∧ Below w.heap.size w w' ∧ Wd m w' v p
theorem retP {m : Nat} (hm : m ≤ 10) {w : World} {p q : Nat → Bool} (h : ∀ x, x < 2 ^ m → p x = q x) {e : Ending} {w' : World} (r : RetO w (tab m p) e w') : RetP m w q e w' := by
  obtain ⟨g, c, rfl, hb, hg, hr⟩ := r
  exact ⟨_, rfl, hb, _, _, _, _, rfl, hr.rdH, tab_len m hm p, fun x hx => by rw [bit_tab, h x hx]; simp [hx]⟩
/-- The same, with the block: it may be frozen beside whatever is. -/
def RetQ (m : Nat) (w : World) (p : Nat → Bool) (e : Ending) (w' : World) : Prop :=
  ∃ (A : Option Addr) (n c g : Nat) (o : Obj), e = .returned (.slice A n c) ∧ Below w.heap.size w w' ∧ w.heap.size ≤ g ∧ w'.heap[g]? = some o ∧ ∀ F : Fz, WdF m (F.put g o) (.slice A n c) p
theorem retQ {m : Nat} (hm : m ≤ 10) {w : World} {p q : Nat → Bool} (h : ∀ x, x < 2 ^ m → p x = q x) {e : Ending} {w' : World} (r : RetO w (tab m p) e w') : RetQ m w q e w' := by
  obtain ⟨g, c, rfl, hb, hg, hr⟩ := r
  refine ⟨_, _, _, g, _, rfl, hb, hg, hr, fun F => ⟨_, _, _, _, rfl, ?_, tab_len m hm p, fun x hx => by rw [bit_tab, h x hx]; simp [hx]⟩⟩
  have := Blk.freeze F g 27 ((tab m p).map u).toArray (tab m p).length 1 (by simp)
  simpa using this

theorem w_not {m : Nat} (hm : m ≤ 10) {w : World} {v : Value} {p : Nat → Bool} (h : Wd m w v p) : Calls Try.prog 17 #[.int .i64 m, v] w (RetP m w fun x => !p x) := by
  obtain ⟨A, n, c, fs, rfl, hr, hl, hp⟩ := h
  exact (notf_yes (sat_heapF w) m hm fs A n c hr).mono fun e w' r => retP hm (fun x hx => by rw [hp x hx]) r
theorem w_and {m : Nat} (hm : m ≤ 10) {w : World} {v v' : Value} {p q : Nat → Bool} (h : Wd m w v p) (h' : Wd m w v' q) : Calls Try.prog 18 #[.int .i64 m, v, v'] w (RetP m w fun x => and (p x) (q x)) := by
  obtain ⟨A, n, c, fs, rfl, hr, hl, hp⟩ := h
  obtain ⟨A', n', c', fs', rfl, hr', hl', hp'⟩ := h'
  exact (andf_yes (sat_heapF w) m hm fs fs' A A' n n' c c' hr hr').mono fun e w' r => retP hm (fun x hx => by rw [hp x hx, hp' x hx]) r
theorem w_or {m : Nat} (hm : m ≤ 10) {w : World} {v v' : Value} {p q : Nat → Bool} (h : Wd m w v p) (h' : Wd m w v' q) : Calls Try.prog 19 #[.int .i64 m, v, v'] w (RetP m w fun x => or (p x) (q x)) := by
  obtain ⟨A, n, c, fs, rfl, hr, hl, hp⟩ := h
  obtain ⟨A', n', c', fs', rfl, hr', hl', hp'⟩ := h'
  exact (orf_yes (sat_heapF w) m hm fs fs' A A' n n' c c' hr hr').mono fun e w' r => retP hm (fun x hx => by rw [hp x hx, hp' x hx]) r
theorem w_no {m : Nat} (hm : m ≤ 10) {w : World} : Calls Try.prog 26 #[.int .i64 m] w (RetP m w fun _ => false) :=
  (no_yes m hm).mono fun _ _ r => retP hm (fun _ _ => rfl) r
theorem w_yes {m : Nat} (hm : m ≤ 10) {w : World} : Calls Try.prog 25 #[.int .i64 m] w (RetP m w fun _ => true) :=
  (yes_yes m hm).mono fun _ _ r => retP hm (fun _ _ => rfl) r
theorem w_atom {m : Nat} (hm : m ≤ 10) {w : World} (i : Nat) (hi : i < m) : Calls Try.prog 34 #[.int .i64 m, .int .i64 i] w (RetP m w fun x => x.testBit i) :=
  (atom_in m hm i hi).mono fun _ _ r => retP hm (fun _ _ => rfl) r
/-- A Bool comes back; memory was only made. -/
def RetB (w : World) (b : Bool) (e : Ending) (w' : World) : Prop := e = .returned (.bool b) ∧ Below w.heap.size w w'
theorem w_same {m : Nat} (hm : m ≤ 10) {w : World} {v v' : Value} {p q : Nat → Bool} (h : Wd m w v p) (h' : Wd m w v' q) (b : Bool) (hb : b = decide (∀ x, x < 2 ^ m → p x = q x)) : Calls Try.prog 23 #[.int .i64 m, v, v'] w (RetB w b) := by
  obtain ⟨A, n, c, fs, rfl, hr, hl, hp⟩ := h
  obtain ⟨A', n', c', fs', rfl, hr', hl', hp'⟩ := h'
  refine (same_yes (sat_heapF w) m hm fs fs' A A' n n' c c' hr hr').mono fun e w' ⟨he, hb'⟩ => ⟨?_, hb'⟩
  rw [he, hb]
  congr 2
  apply decide_eq_decide.2
  rw [tab_inj]
  exact ⟨fun h x hx => by rw [← hp x hx, ← hp' x hx]; exact h x hx, fun h x hx => by rw [hp x hx, hp' x hx]; exact h x hx⟩
theorem w_sameT {m : Nat} (hm : m ≤ 10) {w : World} {v v' : Value} {p q : Nat → Bool} (h : Wd m w v p) (h' : Wd m w v' q) (e : ∀ x, x < 2 ^ m → p x = q x) : Calls Try.prog 23 #[.int .i64 m, v, v'] w (RetB w true) :=
  w_same hm h h' true (decide_eq_true e).symm
/-- What Const tells of p. -/
def cP (m : Nat) (p : Nat → Bool) : Bool × Bool := if ∀ x, x < 2 ^ m → p x = p 0 then (p 0, true) else (false, false)
theorem cP_of {m : Nat} {p : Nat → Bool} {b : Bool} (h : ∀ x, p x = b) : cP m p = (b, true) := by
  unfold cP
  rw [if_pos (fun x _ => by rw [h x, h 0]), h 0]
def RetB2 (w : World) (a b : Bool) (e : Ending) (w' : World) : Prop := e = .returned (.tuple #[.bool a, .bool b]) ∧ Below w.heap.size w w'
theorem w_const {m : Nat} (hm : m ≤ 10) {w : World} {v : Value} {p : Nat → Bool} (h : Wd m w v p) (a b : Bool) (hab : cP m p = (a, b)) : Calls Try.prog 24 #[.int .i64 m, v] w (RetB2 w a b) := by
  obtain ⟨A, n, c, fs, rfl, hr, hl, hp⟩ := h
  have h0 : 0 < 2 ^ m := Nat.pow_pos (by omega)
  have e : cV m fs = (a, b) := by
    rw [cV_rV, ← hab]
    unfold rV cP
    have : (∀ x, x < 2 ^ m → bitAt fs x = bitAt fs 0) ↔ (∀ x, x < 2 ^ m → p x = p 0) :=
      ⟨fun h x hx => by rw [← hp x hx, ← hp 0 h0]; exact h x hx, fun h x hx => by rw [hp x hx, hp 0 h0]; exact h x hx⟩
    rw [hp 0 h0]
    by_cases hall : ∀ x, x < 2 ^ m → p x = p 0
    · rw [if_pos hall, if_pos (fun x hx => by rw [hp x hx]; exact hall x hx)]
    · rw [if_neg hall, if_neg (fun h => hall fun x hx => by rw [← hp x hx]; exact h x hx)]
  refine (const_yes (sat_heapF w) m hm fs A n c hr).mono fun e' w' ⟨he, hb'⟩ => ⟨?_, hb'⟩
  rw [he, e]

/-! Functions in the places of atoms. -/
def yP (m : Nat) (ps : List (Nat → Bool)) (x : Nat) : Nat := (wordTo (fun i => ps.getD i (fun _ => false) x) m).toNat
theorem yP_lt (m : Nat) (hm : m ≤ 10) (ps : List (Nat → Bool)) (x : Nat) : yP m ps x < 2 ^ m := wordTo_lt _ _ hm
theorem testBit_yP (m : Nat) (hm : m ≤ 10) (ps : List (Nat → Bool)) (x i : Nat) : (yP m ps x).testBit i = (decide (i < m) && ps.getD i (fun _ => false) x) := testBit_wordTo _ _ _ hm
/-- The value v is a slice of words that tell ps, one by one. -/
def Rw (m : Nat) (w : World) (v : Value) (ps : List (Nat → Bool)) : Prop :=
  ∃ (A : Option Addr) (n c : Nat) (gs : List (List (BitVec 64))), v = .slice A n c ∧ RdR (heapF w) A n gs ∧ (∀ g ∈ gs, g.length ≤ 1000) ∧ gs.length = ps.length ∧ ∀ i x, x < 2 ^ m → bitAt (gs.getD i []) x = ps.getD i (fun _ => false) x
theorem RdR.below {w w' : World} {A : Option Addr} {n : Nat} {gs : List (List (BitVec 64))} (h : RdR (heapF w) A n gs) (hb : Below w.heap.size w w') : RdR (heapF w') A n gs :=
  ⟨h.1, fun i hi => let ⟨ad, Ai, ni, ci, e, h1, h2⟩ := h.2 i hi; ⟨ad, Ai, ni, ci, e, ((sat_heapF w).below hb).cell h1, h2.below hb⟩⟩
theorem q_not {m : Nat} (hm : m ≤ 10) {w : World} {v : Value} {p : Nat → Bool} (h : Wd m w v p) : Calls Try.prog 17 #[.int .i64 m, v] w (RetQ m w fun x => !p x) := by
  obtain ⟨A, n, c, fs, rfl, hr, hl, hp⟩ := h
  exact (notf_yes (sat_heapF w) m hm fs A n c hr).mono fun e w' r => retQ hm (fun x hx => by rw [hp x hx]) r
theorem q_no {m : Nat} (hm : m ≤ 10) {w : World} : Calls Try.prog 26 #[.int .i64 m] w (RetQ m w fun _ => false) :=
  (no_yes m hm).mono fun _ _ r => retQ hm (fun _ _ => rfl) r
theorem q_yes {m : Nat} (hm : m ≤ 10) {w : World} : Calls Try.prog 25 #[.int .i64 m] w (RetQ m w fun _ => true) :=
  (yes_yes m hm).mono fun _ _ r => retQ hm (fun _ _ => rfl) r
theorem q_atom {m : Nat} (hm : m ≤ 10) {w : World} (i : Nat) (hi : i < m) : Calls Try.prog 34 #[.int .i64 m, .int .i64 i] w (RetQ m w fun x => x.testBit i) :=
  (atom_in m hm i hi).mono fun _ _ r => retQ hm (fun _ _ => rfl) r
theorem Rw.below {m : Nat} {w w' : World} {v : Value} {ps : List (Nat → Bool)} (h : Rw m w v ps) (hb : Below w.heap.size w w') : Rw m w' v ps :=
  let ⟨A, n, c, gs, e, hr, hl, hn, hp⟩ := h
  ⟨A, n, c, gs, e, hr.below hb, hl, hn, hp⟩
theorem wordTo_congr {p q : Nat → Bool} : ∀ m, (∀ i, i < m → p i = q i) → wordTo p m = wordTo q m
  | 0, _ => rfl
  | m + 1, h => by rw [wordTo, wordTo, wordTo_congr m fun i hi => h i (by omega), h m (by omega)]
theorem w_put {m : Nat} (hm : m ≤ 10) {w : World} {v v' : Value} {p : Nat → Bool} {ps : List (Nat → Bool)} (h : Wd m w v p) (h' : Rw m w v' ps) : Calls Try.prog 28 #[.int .i64 m, v, v'] w (RetP m w fun x => p (yP m ps x)) := by
  obtain ⟨A, n, c, fs, rfl, hr, hl, hp⟩ := h
  obtain ⟨A', n', c', gs, rfl, hr', hl', _, hp'⟩ := h'
  refine (put_yes (sat_heapF w) m hm fs hl A n c hr gs hl' A' n' c' hr').mono fun e w' r => retP hm (fun x hx => ?_) r
  have e : putY m gs x = yP m ps x := by
    unfold putY yP
    rw [show wordTo (putP gs x) m = _ from wordTo_congr m fun i _ => hp' i x hx]
  rw [e, hp _ (yP_lt m hm ps x)]
theorem q_put {m : Nat} (hm : m ≤ 10) {w : World} {v v' : Value} {p : Nat → Bool} {ps : List (Nat → Bool)} (h : Wd m w v p) (h' : Rw m w v' ps) : Calls Try.prog 28 #[.int .i64 m, v, v'] w (RetQ m w fun x => p (yP m ps x)) := by
  obtain ⟨A, n, c, fs, rfl, hr, hl, hp⟩ := h
  obtain ⟨A', n', c', gs, rfl, hr', hl', _, hp'⟩ := h'
  refine (put_yes (sat_heapF w) m hm fs hl A n c hr gs hl' A' n' c' hr').mono fun e w' r => retQ hm (fun x hx => ?_) r
  have e : putY m gs x = yP m ps x := by
    unfold putY yP
    rw [show wordTo (putP gs x) m = _ from wordTo_congr m fun i _ => hp' i x hx]
  rw [e, hp _ (yP_lt m hm ps x)]

/-- A row of functions in the making. -/
def RowsB (m : Nat) (F : Fz) (w : World) (B : Nat) (v : Value) (ps : List (Nat → Bool)) : Prop :=
  ∃ vs : List Value, Own F w B 22 1 v vs.length vs ∧ vs.length = ps.length ∧ ∀ i x, vs[i]? = some x → WdF m F x (ps.getD i fun _ => false)
theorem RowsB.nil (m : Nat) (F : Fz) (w : World) (B : Nat) : RowsB m F w B (.slice none 0 0) [] := ⟨[], Own.nil _ _ _ _ _, rfl, fun i x h => by simp at h⟩
theorem RowsB.call {m : Nat} {F : Fz} {w w' : World} {B : Nat} {v : Value} {ps : List (Nat → Bool)} (h : RowsB m F w B v ps) (hb : Below w.heap.size w w') : RowsB m F w' B v ps :=
  let ⟨vs, h1, h2, h3⟩ := h
  ⟨vs, h1.call hb, h2, h3⟩
theorem RowsB.put {m : Nat} {F : Fz} {w : World} {B : Nat} {v : Value} {ps : List (Nat → Bool)} (h : RowsB m F w B v ps) {g : Nat} {o : Obj} (hg : F g = none) (hv : v.ownBlock ≠ some g) : RowsB m (F.put g o) w B v ps := by
  obtain ⟨vs, ⟨h1, h1'⟩, h2, h3⟩ := h
  refine ⟨vs, ⟨h1, fun g' hg' => ?_⟩, h2, fun i x hx => (h3 i x hx).put hg⟩
  unfold Fz.put
  rw [if_neg (fun e => hv (by rw [hg', e]))]
  exact h1' g' hg'
theorem RowsB.lt {m : Nat} {F : Fz} {w : World} {B : Nat} {v : Value} {ps : List (Nat → Bool)} (h : RowsB m F w B v ps) : ∀ g, v.ownBlock = some g → B ≤ g ∧ g < w.heap.size :=
  let ⟨_, h1, _, _⟩ := h
  h1.1.lt
theorem RowsB.kept {m : Nat} {F : Fz} {w w' : World} {B : Nat} {v : Value} {ps : List (Nat → Bool)} {row : Option Nat} (h : RowsB m F w B v ps) (hg : w.grownBy w' row) (hne : v.ownBlock = none ∨ v.ownBlock ≠ row) : RowsB m F w' B v ps :=
  let ⟨vs, h1, h2, h3⟩ := h
  ⟨vs, h1.kept hg hne, h2, h3⟩
theorem RowsB.push {m : Nat} {F : Fz} {w' : World} {B : Nat} {v' x : Value} {vs : List Value} {ps : List (Nat → Bool)} {p : Nat → Bool} (h2 : vs.length = ps.length) (h3 : ∀ i x, vs[i]? = some x → WdF m F x (ps.getD i fun _ => false)) (hx : WdF m F x p)
    (ho : Own F w' B 22 1 v' (vs.length + 1) (vs ++ [x])) : RowsB m F w' B v' (ps ++ [p]) := by
  refine ⟨vs ++ [x], by simpa using ho, by simp [h2], fun i y hy => ?_⟩
  rw [List.getElem?_append] at hy
  split at hy
  · rename_i hlt
    rw [List.getD, List.getElem?_append_left (by omega)]
    exact h3 i y hy
  · rename_i hge
    have hi : i = vs.length := by
      rcases Nat.lt_or_ge vs.length i with h | h
      · rw [List.getElem?_eq_none (by simp; omega)] at hy; cases hy
      · omega
    subst hi
    simp at hy
    subst hy
    rw [h2]
    simpa [List.getD] using hx
/-- It is made: it reads as functions, one by one. -/
theorem RowsB.done {m : Nat} {F : Fz} {w : World} {B : Nat} {v : Value} {ps : List (Nat → Bool)} (h : RowsB m F w B v ps) (hF : Sat F w) : Rw m w v ps := by
  obtain ⟨vs, ⟨h1, _⟩, h2, h3⟩ := h
  have hform : ∃ (A : Option Addr) (c : Nat), v = .slice A vs.length c ∧ ∀ i x, vs[i]? = some x → ∃ ad, A = some ad ∧ (heapF w).cell (ad.add i) = some x := by
    rcases h1.2 with ⟨rfl, h0⟩ | ⟨g, cap, cur, rfl, _, hh, _, _, _, htake⟩
    · rw [h0]
      exact ⟨none, 0, rfl, fun i x hx => by rw [List.getElem?_eq_none (by omega)] at hx; cases hx⟩
    · exact ⟨_, cap, rfl, fun i x hx => ⟨_, rfl, h1.cells (g := g) rfl i x hx⟩⟩
  obtain ⟨A, c, rfl, hcell⟩ := hform
  have each : ∀ k, k ≤ vs.length → ∃ gs : List (List (BitVec 64)), gs.length = k ∧ ∀ i, i < k → ∃ (Ai : Option Addr) (ni ci : Nat), vs[i]? = some (.slice Ai ni ci) ∧ Rd (heapF w) 1 Ai ni ((gs.getD i []).map u) ∧ (gs.getD i []).length ≤ 1000 ∧ ∀ x, x < 2 ^ m → bitAt (gs.getD i []) x = ps.getD i (fun _ => false) x := by
    intro k
    induction k with
    | zero => intro _; exact ⟨[], rfl, fun i hi => absurd hi (by omega)⟩
    | succ k ih =>
      intro hk
      obtain ⟨gs, hl, hg⟩ := ih (by omega)
      have hvk : vs[k]? = some (vs[k]'(by omega)) := List.getElem?_eq_getElem (by omega)
      obtain ⟨Ak, nk, ck, fk, ek, rk, lk, pk⟩ := (h3 k _ hvk).heap hF
      refine ⟨gs ++ [fk], by simp [hl], fun i hi => ?_⟩
      rcases Nat.lt_or_ge i k with hlt | hge
      · rw [show (gs ++ [fk]).getD i [] = gs.getD i [] by rw [List.getD, List.getElem?_append_left (by omega)]; rfl]
        exact hg i hlt
      · obtain rfl : i = k := by omega
        rw [show (gs ++ [fk]).getD i [] = fk by rw [List.getD, List.getElem?_append_right (by omega), hl]; simp]
        exact ⟨Ak, nk, ck, by rw [hvk, ek], rk, lk, pk⟩
  obtain ⟨gs, hl, hg⟩ := each vs.length (Nat.le_refl _)
  refine ⟨A, vs.length, c, gs, rfl, ⟨hl.symm, fun i hi => ?_⟩, fun g hgm => ?_, by omega, fun i x hx => ?_⟩
  · obtain ⟨Ai, ni, ci, e, r, _, _⟩ := hg i (by omega)
    obtain ⟨ad, eA, hc⟩ := hcell i _ e
    exact ⟨ad, Ai, ni, ci, eA, hc, r⟩
  · obtain ⟨i, hi, rfl⟩ := List.getElem_of_mem hgm
    obtain ⟨_, _, _, _, _, l, _⟩ := hg i (by omega)
    simpa [List.getD, hi] using l
  · rcases Nat.lt_or_ge i vs.length with hlt | hge
    · obtain ⟨_, _, _, _, _, _, p⟩ := hg i hlt
      exact p x hx
    · have e1 : gs.getD i [] = [] := by simp [List.getD, show gs.length ≤ i by omega]
      have e2 : ps.getD i (fun _ => false) = fun _ => false := by simp [List.getD, show ps.length ≤ i by omega]
      rw [e1, e2, bit_nil]
theorem WdF.one {m : Nat} {F : Fz} {v : Value} {p : Nat → Bool} (h : WdF m F v p) : v.oneCell' = true := by
  obtain ⟨A, n, c, fs, rfl, _⟩ := h
  rfl
theorem Try.infoR : (Try.prog.info? 22).map (fun i => (i.zero, i.size, i.bytes)) = some (some (.slice none 0 0), 1, 24) := by kernel_rfl
/-- append of one function onto a row in the making. -/
theorem wpList_pushR {w : World} {ops : Array Oper} {rest : List Oper} {o : Oper} {a : Act} {Q : Exit → Act → World → Prop} (hgd : o.guard = none) (s x : Operand)
    (ho : o.op = .call { callee := .builtin .append, args := #[s, x], argTypes := #[36, 36] })
    {m : Nat} {F : Fz} {B : Nat} {v y : Value} {ps : List (Nat → Bool)} {p : Nat → Bool} (hR : RowsB m F w B v ps) (hy : WdF m F y p) (hF : Sat F w) (hs : a.eval s = v) (g c : Nat) (hx : a.eval x = .slice (some ⟨g, 0, none⟩) 1 c) (hg : Blk w g 22 #[y])
    (hl : ps.length ≤ 1000) (hB : B ≤ w.heap.size)
    (h : ∀ v' w', RowsB m F w' B v' (ps ++ [p]) → Sat F w' → Below B w w' → w.grownBy w' v.ownBlock → (v'.ownBlock = v.ownBlock ∨ v'.ownBlock = some w.heap.size) → wpList Try.prog ops Q rest (a.put o.dst v') w') :
    wpList Try.prog ops Q (o :: rest) a w := by
  obtain ⟨vs, h1, h2, h3⟩ := hR
  refine wpList_push hgd s x _ ho 22 (.slice none 0 0) 1 24 Try.underlying36 Try.infoR rfl (by omega) h1 hF hs g c #[y] hx hg rfl ?_ (by unfold maxLen; omega) (by omega) hB ?_
  · intro u hu
    obtain rfl : u = y := by simpa using hu
    exact hy.one
  · intro v' w' h4 h5 h6 h7 h8
    exact h v' w' (RowsB.push h2 h3 hy h4) h5 h6 h7 h8
theorem q_atomI {m : Nat} (hm : m ≤ 10) {w : World} (i : Int) (h0 : 0 ≤ i) (hi : i < (m : Int)) : Calls Try.prog 34 #[.int .i64 m, .int .i64 i] w (RetQ m w fun x => x.testBit i.toNat) := by
  obtain ⟨j, rfl⟩ := Int.eq_ofNat_of_zero_le h0
  exact q_atom hm j (by omega)
theorem rw_rows {m : Nat} {w : World} {A : Option Addr} {n c : Nat} {gs : List (List (BitVec 64))} (h : RdR (heapF w) A n gs) (hl : ∀ g ∈ gs, g.length ≤ 1000) : Rw m w (.slice A n c) (gs.map bitAt) := by
  refine ⟨A, n, c, gs, rfl, h, hl, by simp, fun i x _ => ?_⟩
  rcases Nat.lt_or_ge i gs.length with hi | hi
  · simp [List.getD, hi]
  · simp [List.getD, hi, bit_nil]
/-- The functions of a list, made one by one. -/
def listP (q : Nat → Nat → Bool) (k : Nat) : List (Nat → Bool) := (List.range k).map q
theorem listP_succ (q : Nat → Nat → Bool) (k : Nat) : listP q (k + 1) = listP q k ++ [q k] := by simp [listP, List.range_succ]
theorem length_listP (q : Nat → Nat → Bool) (k : Nat) : (listP q k).length = k := by simp [listP]
theorem getD_listP (q : Nat → Nat → Bool) (k i : Nat) (h : i < k) : (listP q k).getD i (fun _ => false) = q i := by simp [listP, List.getD, h]
theorem yP_eq {m : Nat} (hm : m ≤ 10) {ps : List (Nat → Bool)} {x y : Nat} (hy : y < 2 ^ m) (h : ∀ i, i < m → ps.getD i (fun _ => false) x = y.testBit i) : yP m ps x = y := by
  apply Nat.eq_of_testBit_eq
  intro i
  rw [testBit_yP m hm]
  by_cases hi : i < m
  · simp [hi, h i hi]
  · have : y.testBit i = false := Nat.testBit_lt_two_pow (Nat.lt_of_lt_of_le hy (Nat.pow_le_pow_right (by omega) (by omega)))
    simp [hi, this]
theorem apart_symm {o t : Value} (h : ∀ g, o.ownBlock = some g → t.ownBlock ≠ some g) : ∀ g, t.ownBlock = some g → o.ownBlock ≠ some g := fun g h1 h2 => h g h2 h1
theorem apart_or {o t : Value} (h : ∀ g, o.ownBlock = some g → t.ownBlock ≠ some g) : t.ownBlock = none ∨ t.ownBlock ≠ o.ownBlock := by
  cases ho : o.ownBlock with
  | none =>
    cases ht : t.ownBlock with
    | none => exact .inl rfl
    | some g => exact .inr (by simp)
  | some g => exact .inr (h g ho)
theorem apart_push {o t o' : Value} {S : Nat} (hne : ∀ g, o.ownBlock = some g → t.ownBlock ≠ some g) (ht : ∀ g, t.ownBlock = some g → g < S) (hat : o'.ownBlock = o.ownBlock ∨ o'.ownBlock = some S) : ∀ g, o'.ownBlock = some g → t.ownBlock ≠ some g := by
  intro g hg h2
  rcases hat with h | h
  · exact hne g (by rw [← h]; exact hg) h2
  · rw [hg] at h
    injection h with h
    have := ht g h2
    omega
theorem RowsB.fresh {m : Nat} {F : Fz} {w w' : World} {B g : Nat} {v : Value} {ps : List (Nat → Bool)} {o : Obj} (h : RowsB m F w B v ps) (hF : Sat F w) (hb : Below w.heap.size w w') (hg : w.heap.size ≤ g) : RowsB m (F.put g o) w' B v ps :=
  (h.call hb).put (hF.none_ hg) (fun e => by have := (h.lt _ e).2; omega)
theorem Rw.row {m : Nat} {w : World} {C : Option Addr} {n c k : Nat} {ps : List (Nat → Bool)} (h : Rw m w (.slice C n c) ps) (hk : k < n) :
    ∃ (ad : Addr) (Ai : Option Addr) (ni ci : Nat), C = some ad ∧ w.cell? (ad.add k) = some (.slice Ai ni ci) ∧ Wd m w (.slice Ai ni ci) (ps.getD k fun _ => false) := by
  obtain ⟨A, n', c', gs, e, ⟨hn, hr⟩, hl, hlen, hp⟩ := h
  injection e with e1 e2 e3
  subst e1 e2 e3
  obtain ⟨ad, Ai, ni, ci, eA, hc, hrd⟩ := hr k (by omega)
  refine ⟨ad, Ai, ni, ci, eA, hc, Ai, ni, ci, gs.getD k [], rfl, hrd, ?_, fun x hx => hp k x hx⟩
  rw [List.getD, List.getElem?_eq_getElem (by omega)]
  exact hl _ (List.getElem_mem _)
/-- A row of n functions, made whole: block g. -/
def RowsG (m : Nat) (F : Fz) (w : World) (g n : Nat) (q : Nat → Nat → Bool) : Prop :=
  ∃ vs : List Value, Blk w g 22 vs.toArray ∧ F g = none ∧ vs.length = n ∧ ∀ i x, vs[i]? = some x → WdF m F x (q i)
section
variable {m : Nat} {F : Fz} {w w' : World} {g n : Nat} {q : Nat → Nat → Bool}
theorem RowsG.lt (h : RowsG m F w g n q) : g < w.heap.size := let ⟨_, h1, _⟩ := h; h1.lt
theorem RowsG.call (h : RowsG m F w g n q) (hb : Below w.heap.size w w') : RowsG m F w' g n q := let ⟨vs, h1, h2⟩ := h; ⟨vs, h1.call hb, h2⟩
theorem RowsG.far (h : RowsG m F w g n q) {a : Addr} (ha : g ≠ a.block) (v : Value) : RowsG m F (w.setCell a v) g n q := let ⟨vs, h1, h2⟩ := h; ⟨vs, h1.far ha v, h2⟩
theorem RowsG.put (h : RowsG m F w g n q) {g' : Nat} {o : Obj} (hg : F g' = none) (hne : g ≠ g') : RowsG m (F.put g' o) w g n q :=
  let ⟨vs, h1, h2, h3, h4⟩ := h
  ⟨vs, h1, by unfold Fz.put; rw [if_neg hne]; exact h2, h3, fun i x hx => (h4 i x hx).put hg⟩
theorem RowsG.fresh (h : RowsG m F w g n q) {g' : Nat} {o : Obj} (hF : Sat F w) (hb : Below w.heap.size w w') (hg : w.heap.size ≤ g') : RowsG m (F.put g' o) w' g n q :=
  (h.call hb).put (hF.none_ hg) (by have := h.lt; omega)
theorem RowsG.set_ (h : RowsG m F w g n q) (k : Nat) {x : Value} {p : Nat → Bool} (hx : WdF m F x p) : RowsG m F (w.setCell ⟨g, k, none⟩ x) g n (fun i => if i = k then p else q i) := by
  obtain ⟨vs, h1, h2, h3, h4⟩ := h
  refine ⟨vs.set k x, ?_, h2, by simpa using h3, fun i y hy => ?_⟩
  · have := h1.set_ k x
    rwa [List.setIfInBounds_toArray] at this
  · rw [List.getElem?_set] at hy
    by_cases hi : k = i
    · subst hi
      rw [if_pos rfl] at hy
      split at hy
      · injection hy with hy
        subst hy
        simpa using hx
      · cases hy
    · rw [if_neg hi] at hy
      show WdF m F y (if i = k then p else q i)
      rw [if_neg (fun e => hi e.symm)]
      exact h4 i y hy
theorem RowsG.sat (h : RowsG m F w g n q) (hF : Sat F w) (k : Nat) (x : Value) : Sat F (w.setCell ⟨g, k, none⟩ x) := let ⟨_, _, h2, _⟩ := h; hF.setCell h2 x
theorem RowsG.cell (h : RowsG m F w g n q) {k : Nat} (hk : k < n) : (∃ v, w.cell? ⟨g, k, none⟩ = some v) ∧ w.frozen? ⟨g, k, none⟩ = false := by
  obtain ⟨vs, h1, _, h3, _⟩ := h
  exact ⟨⟨vs[k]'(by omega), by rw [h1.cell k]; simp [show k < vs.length by omega]⟩, h1.frozen k⟩
theorem RowsG.as (h : RowsG m F w g n q) {q' : Nat → Nat → Bool} (e : ∀ i, i < n → q i = q' i) : RowsG m F w g n q' := by
  obtain ⟨vs, h1, h2, h3, h4⟩ := h
  refine ⟨vs, h1, h2, h3, fun i x hx => ?_⟩
  rw [← e i (by have := (List.getElem?_eq_some_iff.1 hx).1; omega)]
  exact h4 i x hx
theorem RowsG.made (F : Fz) (w : World) (g n : Nat) (hg : Blk w g 22 (zeros (.slice none 0 0) n)) (hF : F g = none) : RowsG m F w g n (fun _ _ => false) := by
  refine ⟨List.replicate n (.slice none 0 0), hg, hF, by simp, fun i x hx => ?_⟩
  rw [List.getElem?_replicate] at hx
  split at hx
  · injection hx with hx
    subst hx
    exact ⟨none, 0, 0, [], rfl, Rd.nil, by simp, fun x _ => bit_nil x⟩
  · cases hx
theorem RowsG.done (h : RowsG m F w g n q) (hF : Sat F w) (hn : n ≤ 1000) (c : Nat) : Rw m w (.slice (some ⟨g, 0, none⟩) n c) (listP q n) := by
  obtain ⟨vs, h1, h2, h3, h4⟩ := h
  have hB : RowsB m F w 0 (.slice (some ⟨g, 0, none⟩) n n) (listP q n) := by
    refine ⟨vs, ⟨⟨by simp, .inr ⟨g, n, vs.toArray, by rw [h3], Nat.zero_le _, h1, by omega, by unfold maxLen; omega, by simp [h3], by simp⟩⟩, fun g' hg' => ?_⟩, by rw [length_listP, h3], fun i x hx => ?_⟩
    · have : g = g' := by simpa [Value.ownBlock] using hg'
      rw [← this]; exact h2
    · rw [getD_listP _ _ _ (by have := (List.getElem?_eq_some_iff.1 hx).1; omega)]
      exact h4 i x hx
  obtain ⟨A, n', c', gs, e, hr, hl, hlen, hp⟩ := hB.done hF
  injection e with e1 e2 e3
  subst e1 e2
  exact ⟨_, _, c, gs, rfl, hr, hl, hlen, hp⟩
end
theorem makeR (n : Nat) (hn : n ≤ 1000000) (w : World) : (Instr.makeSlice 36 (.int .i64 (n : Int)) (.int .i64 (n : Int))).run Try.prog w = .ok (.slice (some ⟨w.heap.size, 0, none⟩) n n) (w.alloc (.cells (zeros (.slice none 0 0) n) 22)) :=
  run_make1 _ _ _ 24 Try.underlying36 Try.infoR rfl n (by omega) (by omega) w
/-- What is frozen, but for two blocks. -/
def but2 (w : World) (a b : Nat) : Fz := fun x => if x = a ∨ x = b then none else w.heap[x]?
theorem sat_but2 (w : World) (a b : Nat) : Sat (but2 w a b) w := by
  intro x o h
  unfold but2 at h
  split at h
  · cases h
  · exact h
end Go.Proofs.Ytkffofolhckjeaa
