/- One pass: what lies in memory: plain. -/
import Derived.Test.YtaomehlhopiblaaPlanO
import Derived.Test.YtaomehlhopiblaaOnlM
set_option linter.unusedVariables false
set_option linter.unusedSimpArgs false
/-! One pass: what lies in memory: plain. -/
namespace Go.Proofs.Ytaomehlhopiblaa
open Go.RowKit
/-- A row of words: entry q tells f q. -/
def RwF (m : Nat) (F : Fz) (A : Option Addr) (n : Nat) (f : Nat → Fn) : Prop := ∀ q, q < n → ∃ ad v, A = some ad ∧ F.cell (ad.add q) = some v ∧ WdF m F v (f q)
theorem RwF.cle {m : Nat} {F F' : Fz} {A : Option Addr} {n : Nat} {f : Nat → Fn} (h : RwF m F A n f) (hle : CLe F F') : RwF m F' A n f := fun q hq =>
  let ⟨ad, v, e, h1, h2⟩ := h q hq
  ⟨ad, v, e, hle _ _ h1, h2.cle hle⟩
theorem RwF.congr {m : Nat} {F : Fz} {A : Option Addr} {n : Nat} {f g : Nat → Fn} (h : RwF m F A n f) (e : ∀ q, q < n → f q = g q) : RwF m F A n g := fun q hq => by
  rw [← e q hq]; exact h q hq
theorem RwF.ts {m : Nat} {F : Fz} {A : Option Addr} {zs : List Fn} (h : RwF m F A zs.length (zOf zs)) : TsF m F A zs.length (zOf zs) := by
  refine ⟨h, fun q hq x => ?_⟩
  unfold zOf
  rw [List.getD, List.getElem?_eq_none hq]; rfl
/-- The states of a class: 0 to M. -/
def StF (m : Nat) (F : Fz) (M : Nat) (v : Value) (f : Nat → Fn) : Prop := ∃ g c, v = .slice (some ⟨g, 0, none⟩) (M + 1) c ∧ RwF m F (some ⟨g, 0, none⟩) (M + 1) f
theorem StF.cle {m : Nat} {F F' : Fz} {M : Nat} {v : Value} {f : Nat → Fn} (h : StF m F M v f) (hle : CLe F F') : StF m F' M v f := let ⟨g, c, e, h1⟩ := h; ⟨g, c, e, h1.cle hle⟩
theorem StF.one {m : Nat} {F : Fz} {M : Nat} {v : Value} {f : Nat → Fn} (h : StF m F M v f) : v.oneCell' = true := let ⟨_, _, e, _⟩ := h; e ▸ rfl
/-- A window: of each class its states. -/
def BkV (m : Nat) (F : Fz) (M : Nat) (W : Win) (ps : List (Nat × Value)) : Prop := ps.length = W.length ∧ ∀ (j : Nat) (b : Nat × (Nat → Fn)), W[j]? = some b → ∃ v, ps[j]? = some (b.1, v) ∧ StF m F M v b.2
def BkF (m : Nat) (F : Fz) (M : Nat) (A : Option Addr) (n : Nat) (W : Win) : Prop := W.length = n ∧ ∃ ps, Rd F 2 A n (plC ps) ∧ BkV m F M W ps
section
variable {m M n : Nat} {F F' : Fz} {W W' : Win} {ps ps' : List (Nat × Value)} {A : Option Addr}
theorem BkV.cle (h : BkV m F M W ps) (hle : CLe F F') : BkV m F' M W ps :=
  ⟨h.1, fun j p hj => let ⟨v, h1, h2⟩ := h.2 j p hj; ⟨v, h1, h2.cle hle⟩⟩
theorem BkV.nil (m : Nat) (F : Fz) (M : Nat) : BkV m F M [] [] := ⟨rfl, fun j p h => by simp at h⟩
theorem BkV.append (h : BkV m F M W ps) (h' : BkV m F M W' ps') : BkV m F M (W ++ W') (ps ++ ps') := by
  refine ⟨by simp [h.1, h'.1], fun j p hj => ?_⟩
  by_cases hl : j < W.length
  · rw [List.getElem?_append_left hl] at hj
    rw [List.getElem?_append_left (by rw [h.1]; exact hl)]
    exact h.2 j p hj
  · rw [List.getElem?_append_right (by omega)] at hj
    rw [List.getElem?_append_right (by rw [h.1]; omega), h.1]
    exact h'.2 _ p hj
theorem BkV.one (q : Nat) {v : Value} {f : Nat → Fn} (h : StF m F M v f) : BkV m F M [(q, f)] [(q, v)] := by
  refine ⟨rfl, fun j p hj => ?_⟩
  cases j with
  | zero => simp at hj; subst hj; exact ⟨v, rfl, h⟩
  | succ j => simp at hj
theorem BkV.ones (h : BkV m F M W ps) : ∀ x ∈ plC ps, x.oneCell' = true := by
  intro x hx
  simp only [plC, List.mem_flatMap] at hx
  obtain ⟨p, hp, hx⟩ := hx
  simp only [List.mem_cons, List.mem_nil_iff, or_false] at hx
  rcases hx with rfl | rfl
  · rfl
  · obtain ⟨j, hj, e⟩ := List.getElem_of_mem hp
    obtain ⟨v, h1, h2⟩ := h.2 j (W[j]'(by rw [← h.1]; exact hj)) (List.getElem?_eq_getElem _)
    rw [List.getElem?_eq_getElem hj, e] at h1
    injection h1 with h1
    rw [h1]
    exact h2.one
theorem BkF.cle (h : BkF m F M A n W) (hle : CLe F F') : BkF m F' M A n W :=
  let ⟨h1, ps, h2, h3⟩ := h
  ⟨h1, ps, h2.cle hle, h3.cle hle⟩
theorem BkF.nil (m : Nat) (F : Fz) (M : Nat) (A : Option Addr) : BkF m F M A 0 [] := ⟨rfl, [], Rd.nil, .nil _ _ _⟩
theorem BkF.at_ (h : BkF m F M A n W) {j : Nat} {b : Nat × (Nat → Fn)} (hj : W[j]? = some b) : ∃ ad v, A = some ad ∧ F.cell (ad.add (j * 2)) = some (.int .i64 (b.1 : Nat)) ∧ F.cell ((ad.add (j * 2)).add 1) = some v ∧ StF m F M v b.2 := by
  obtain ⟨h1, ps, h2, h3, h4⟩ := h
  obtain ⟨v, hv, hw⟩ := h4 j b hj
  have hl : j < W.length := (List.getElem?_eq_some_iff.1 hj).1
  obtain ⟨ad, e, hc⟩ := h2.2 (by omega)
  obtain ⟨g1, g2⟩ := get_plC ps j _ hv
  exact ⟨ad, v, e, hc _ _ g1, by rw [add_of_add]; exact hc _ _ g2, hw⟩
end
end Go.Proofs.Ytaomehlhopiblaa
/-! One pass: rows of words in blocks of their own, in the making: plain. -/
namespace Go.Proofs.Ytaomehlhopiblaa
open Go.RowKit
/-- A row of n words in a block of its own (one of Gs): entry q tells f q. -/
def RowA (m n : Nat) (Gs : List Nat) (T : TypeId) (w : World) (g : Nat) (f : Nat → Fn) : Prop := ∃ cs : List Value, Blk w g T cs.toArray ∧ cs.length = n ∧ ∀ q, q < n → ∃ v, cs[q]? = some v ∧ WdF m (hx w Gs) v (f q)
theorem cle_fresh {w : World} {Gs : List Nat} (o : Obj) : CLe (hx w Gs) (hx (w.alloc o) (w.heap.size :: Gs)) := fun a v hc => by
  have h1 := (Wr.of_below (Gs := Gs) (balloc w o)).cle a v hc
  have hb : a.block < w.heap.size := by
    unfold Fz.cell at hc
    by_cases hg : a.block ∈ Gs
    · rw [hx_in hg] at hc; cases hc
    · rw [hx_out hg] at hc
      cases e : w.heap[a.block]? with
      | none => rw [e] at hc; cases hc
      | some o => exact (Array.getElem?_eq_some_iff.1 e).1
  unfold Fz.cell at h1 ⊢
  by_cases hg : a.block ∈ Gs
  · rw [hx_in hg] at h1; cases h1
  · rw [hx_out hg] at h1
    rw [hx_out (by simp; exact ⟨by omega, hg⟩)]
    exact h1
section
variable {m n : Nat} {Gs : List Nat} {T : TypeId} {w w' : World} {g : Nat} {f f' : Nat → Fn}
theorem RowA.wr (h : RowA m n Gs T w g f) (hb : Wr Gs w w') (hB : ∀ cs, Blk w g T cs → Blk w' g T cs) : RowA m n Gs T w' g f :=
  let ⟨cs, h1, h2, h3⟩ := h
  ⟨cs, hB _ h1, h2, fun q hq => let ⟨v, e, hv⟩ := h3 q hq; ⟨v, e, hv.cle hb.cle⟩⟩
theorem RowA.call (h : RowA m n Gs T w g f) (hb : Below w.heap.size w w') : RowA m n Gs T w' g f := h.wr (Wr.of_below hb) fun _ h => h.call hb
theorem RowA.far (h : RowA m n Gs T w g f) {g' i : Nat} (hg : g' ∈ Gs) (hne : g ≠ g') (u : Value) : RowA m n Gs T (w.setCell ⟨g', i, none⟩ u) g f :=
  h.wr ((Wr.refl Gs w).set hg i u) fun _ h => h.far (p := ⟨g', i, none⟩) hne u
theorem RowA.set (h : RowA m n Gs T w g f) (hg : g ∈ Gs) {k : Nat} {u : Value} {p : Fn} (hk : k < n) (hu : WdF m (hx w Gs) u p) : RowA m n Gs T (w.setCell ⟨g, k, none⟩ u) g fun q => if q = k then p else f q := by
  obtain ⟨cs, h1, h2, h3⟩ := h
  have hle := ((Wr.refl Gs w).set hg k u).cle
  refine ⟨cs.set k u, by have := h1.set_ k u; simpa using this, by simp [h2], fun q hq => ?_⟩
  by_cases e : q = k
  · subst e
    refine ⟨u, by rw [List.getElem?_set_self (by omega)], ?_⟩
    show WdF m _ u (if q = q then p else f q)
    rw [if_pos rfl]
    exact hu.cle hle
  · obtain ⟨v, e1, hv⟩ := h3 q hq
    refine ⟨v, by rw [List.getElem?_set_ne (Ne.symm e)]; exact e1, ?_⟩
    show WdF m _ v (if q = k then p else f q)
    rw [if_neg e]
    exact hv.cle hle
theorem RowA.congr (h : RowA m n Gs T w g f) (e : ∀ q, q < n → f q = f' q) : RowA m n Gs T w g f' :=
  let ⟨cs, h1, h2, h3⟩ := h
  ⟨cs, h1, h2, fun q hq => by rw [← e q hq]; exact h3 q hq⟩
theorem RowA.more (h : RowA m n Gs T w g f) (o : Obj) : RowA m n (w.heap.size :: Gs) T (w.alloc o) g f :=
  let ⟨cs, h1, h2, h3⟩ := h
  ⟨cs, h1.alloc o, h2, fun q hq => let ⟨v, e, hv⟩ := h3 q hq; ⟨v, e, hv.cle (cle_fresh o)⟩⟩
theorem RowA.new (m n : Nat) (Gs : List Nat) (T : TypeId) (w : World) : RowA m n Gs T (w.alloc (.cells (zeros (.slice none 0 0) n) T)) w.heap.size fun _ => noFn :=
  ⟨List.replicate n (.slice none 0 0), Blk.new w T _, by simp, fun q hq => ⟨_, by simp [hq], WdF.nil _ _⟩⟩
theorem RowA.rwf (h : RowA m n Gs T w g f) : RwF m (heapF w) (some ⟨g, 0, none⟩) n f := fun q hq => by
  obtain ⟨cs, h1, h2, h3⟩ := h
  obtain ⟨v, e, hv⟩ := h3 q hq
  refine ⟨_, v, rfl, ?_, hv.cle (sat_hx w Gs).cle⟩
  rw [add_lit0]
  show w.cell? ⟨g, q, none⟩ = some v
  rw [h1.cell]
  simpa using e
end
end Go.Proofs.Ytaomehlhopiblaa
