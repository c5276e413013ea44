/- One pass: rows and tests as they are handed on; what fore fills in: plain. -/
import Derived.Test.YtaomehlhopiblaaOnlC
import Derived.Test.YtaomehlhopiblaaOnlW
set_option linter.unusedVariables false
set_option linter.unusedSimpArgs false
/-! One pass: rows and tests as they are handed on; what fore fills in: plain. -/
namespace Go.Proofs.Ytaomehlhopiblaa
open Go.RowKit
theorem rw_of_rwf {m : Nat} {w : World} {A : Option Addr} {n c : Nat} {f : Nat → Fn} (h : RwF m (heapF w) A n f) : Rw m w (.slice A n c) ((List.range n).map f) := by
  have hx : ∀ q : Fin n, ∃ fs : List (BitVec 64), ∃ ad Ai ni ci, A = some ad ∧ (heapF w).cell (ad.add q.1) = some (.slice Ai ni ci) ∧ Rd (heapF w) 1 Ai ni (fs.map u) ∧ fs.length ≤ 1000 ∧ ∀ x, x < 2 ^ m → bitAt fs x = f q.1 x := fun q => by
    obtain ⟨ad, v, e, h1, Ai, ni, ci, fs, rfl, h2, h3, h4⟩ := h q.1 q.2
    exact ⟨fs, ad, Ai, ni, ci, e, h1, h2, h3, h4⟩
  have hG := fun q => Classical.choose_spec (hx q)
  obtain ⟨G, hGe⟩ : ∃ G : Fin n → List (BitVec 64), (fun q => Classical.choose (hx q)) = G := ⟨_, rfl⟩
  have hG' : ∀ q : Fin n, ∃ ad Ai ni ci, A = some ad ∧ (heapF w).cell (ad.add q.1) = some (.slice Ai ni ci) ∧ Rd (heapF w) 1 Ai ni ((G q).map u) ∧ (G q).length ≤ 1000 ∧ ∀ x, x < 2 ^ m → bitAt (G q) x = f q.1 x := fun q => by
    rw [← hGe]; exact hG q
  have hget : ∀ i (hi : i < n), (List.ofFn G).getD i [] = G ⟨i, hi⟩ := fun i hi => by
    rw [List.getD, List.getElem?_eq_getElem (by simpa using hi)]
    simp
  refine ⟨A, n, c, List.ofFn G, rfl, ⟨by simp, fun i hi => ?_⟩, fun g hg => ?_, by simp, fun i x hx => ?_⟩
  · have hi' : i < n := by simpa using hi
    obtain ⟨ad, Ai, ni, ci, e, h1, h2, _⟩ := hG' ⟨i, hi'⟩
    exact ⟨ad, Ai, ni, ci, e, h1, by rw [hget i hi']; exact h2⟩
  · obtain ⟨q, rfl⟩ := (List.mem_ofFn ..).1 hg
    obtain ⟨_, _, _, _, _, _, _, h3, _⟩ := hG' q
    exact h3
  · by_cases hi : i < n
    · obtain ⟨_, _, _, _, _, _, _, _, h4⟩ := hG' ⟨i, hi⟩
      rw [hget i hi, h4 x hx, List.getD, List.getElem?_eq_getElem (by simpa using hi)]
      simp
    · rw [List.getD, List.getElem?_eq_none (by simp; omega), List.getD, List.getElem?_eq_none (by simp; omega)]
      exact bit_nil x
theorem yP_asg {m : Nat} (hm : m ≤ 10) {ah : List Fn} (h : ah.length ≤ m) (x : Nat) : yP m ((List.range m).map fun q => ah.getD q noFn) x = asg ah x := by
  refine Nat.eq_of_testBit_eq fun i => ?_
  rw [testBit_yP m hm, asg_bit]
  by_cases hi : i < m
  · rw [List.getD, List.getElem?_eq_getElem (by simpa using hi)]
    simp [hi]
  · have e : ah.getD i noFn = noFn := by rw [List.getD, List.getElem?_eq_none (by omega)]; rfl
    rw [e]
    simp [hi, noFn]
/-- The atoms' functions while fore fills in its own. -/
def foW (h : Nd) (a : Tr) (zs : List Fn) (P d : Nat) (f : Nat → Fn) (n : Nat) : Nat → Fn := fun q => if P ≤ q ∧ q < P + n then aheadF h a zs P d ((q - P) / wideN h + 1) ((q - P) % wideN h) else f q
theorem foW_zero (h : Nd) (a : Tr) (zs : List Fn) (P d : Nat) (f : Nat → Fn) : foW h a zs P d f 0 = f := by
  funext q
  unfold foW
  rw [if_neg (by omega)]
theorem foW_step (h : Nd) (a : Tr) (zs : List Fn) (P d : Nat) (f : Nat → Fn) (k c : Nat) (hc : c < wideN h) : (fun q => if q = P + (k * wideN h + c) then aheadF h a zs P d (k + 1) c else foW h a zs P d f (k * wideN h + c) q) = foW h a zs P d f (k * wideN h + (c + 1)) := by
  have h1 : (k * wideN h + c) / wideN h = k := by rw [Nat.mul_comm, Nat.mul_add_div (by omega), Nat.div_eq_of_lt hc]; rfl
  have h2 : (k * wideN h + c) % wideN h = c := by rw [Nat.mul_comm, Nat.mul_add_mod, Nat.mod_eq_of_lt hc]
  funext q
  unfold foW
  by_cases e : q = P + (k * wideN h + c)
  · rw [if_pos e, if_pos (by omega), show q - P = k * wideN h + c by omega, h1, h2]
  · rw [if_neg e]
    by_cases e2 : P ≤ q ∧ q < P + (k * wideN h + c)
    · rw [if_pos e2, if_pos (by omega)]
    · rw [if_neg e2, if_neg (by omega)]
theorem foW_done (h : Nd) (a : Tr) (zs : List Fn) (d : Nat) (ah : List Fn) : foW h a zs ah.length d (fun q => ah.getD q noFn) (stepsN a * wideN h) = fun q => (ah ++ aheadL h a zs ah.length d).getD q noFn := by
  funext q
  unfold foW
  by_cases h1 : q < ah.length
  · rw [if_neg (by omega)]
    simp only [List.getD]
    rw [List.getElem?_append_left h1]
  · by_cases h2 : q < ah.length + stepsN a * wideN h
    · rw [if_pos (by omega)]
      simp only [List.getD]
      rw [List.getElem?_append_right (by omega)]
      unfold aheadL
      rw [List.getElem?_map, List.getElem?_range (by omega)]
      rfl
    · rw [if_neg (by omega)]
      simp only [List.getD]
      rw [List.getElem?_eq_none (by omega), List.getElem?_eq_none (by rw [List.length_append, length_aheadL]; omega)]
theorem aheadF_none {h : Nd} {a : Tr} {zs : List Fn} {P d k c : Nat} (e : laterC h c d = none) (x : Nat) : aheadF h a zs P d k c x = false := by
  unfold aheadF
  rw [e]
theorem aheadF_some {h : Nd} {a : Tr} {zs : List Fn} {P d k c c' : Nat} (e : laterC h c d = some c') (x : Nat) : aheadF h a zs P d k c x = (laterF (stepsN a) P (wideN h) c' (stateO (zOf zs) a k).1 x || (inC h c' && (stateO (zOf zs) a k).2 x)) := by
  unfold aheadF laterF
  rw [e]
  exact Bool.or_comm _ _
theorem foreF_is (h : Nd) (a : Tr) (zs : List Fn) (P : Nat) (x : Nat) : foreF h a zs P x = (laterF (stepsN a) P (wideN h) 0 (stateO (zOf zs) a 0).1 x || (inC h 0 && (stateO (zOf zs) a 0).2 x)) := by
  unfold foreF laterF
  simp only [Nat.add_zero]
  exact Bool.or_comm _ _
end Go.Proofs.Ytaomehlhopiblaa
/-! One pass: windows in the making: plain. -/
namespace Go.Proofs.Ytaomehlhopiblaa
open Go.RowKit
theorem hx_cell {w : World} {Gs : List Nat} {g i : Nat} {v : Value} (h : w.cell? ⟨g, i, none⟩ = some v) (hg : g ∉ Gs) : (hx w Gs).cell ⟨g, i, none⟩ = some v := by
  unfold Fz.cell
  rw [hx_out hg]
  exact h
theorem hx_less {w : World} {Gs Hs : List Nat} (h : ∀ g, g ∈ Gs → g ∈ Hs) : CLe (hx w Hs) (hx w Gs) := fun a v hc => by
  unfold Fz.cell at hc ⊢
  by_cases hg : a.block ∈ Hs
  · rw [hx_in hg] at hc; cases hc
  · rw [hx_out hg] at hc
    rw [hx_out fun e => hg (h _ e)]
    exact hc
section
variable {m n M : Nat} {Gs : List Nat} {T : TypeId} {w w' : World} {g : Nat} {f f' : Nat → Fn}
theorem RowA.lt (h : RowA m n Gs T w g f) : g < w.heap.size := let ⟨_, h1, _⟩ := h; h1.lt
theorem RowA.soft (h : RowA m n Gs T w g f) (i : Nat) : w.frozen? ⟨g, i, none⟩ = false := let ⟨_, h1, _⟩ := h; h1.frozen i
theorem RowA.at_ (h : RowA m n Gs T w g f) {q : Nat} (hq : q < n) : ∃ v, w.cell? ⟨g, q, none⟩ = some v ∧ WdF m (hx w Gs) v (f q) := by
  obtain ⟨cs, h1, h2, h3⟩ := h
  obtain ⟨v, e, hv⟩ := h3 q hq
  exact ⟨v, by rw [h1.cell]; simpa using e, hv⟩
theorem RowA.stf (h : RowA m (M + 1) (g :: Gs) T w g f) (hg : g ∉ Gs) (c : Nat) : StF m (hx w Gs) M (.slice (some ⟨g, 0, none⟩) (M + 1) c) f := by
  refine ⟨g, c, rfl, fun q hq => ?_⟩
  obtain ⟨v, e, hv⟩ := h.at_ hq
  refine ⟨_, v, rfl, ?_, hv.cle (hx_less fun g' hg' => List.mem_cons_of_mem _ hg')⟩
  rw [add_lit0]
  exact hx_cell e hg
theorem RowA.less {Hs : List Nat} (h : RowA m n Hs T w g f) (hs : ∀ g, g ∈ Gs → g ∈ Hs) : RowA m n Gs T w g f :=
  let ⟨cs, h1, h2, h3⟩ := h
  ⟨cs, h1, h2, fun q hq => let ⟨v, e, hv⟩ := h3 q hq; ⟨v, e, hv.cle (hx_less hs)⟩⟩
end
/-- What reads as words does not lie in a row of words. -/
theorem RowA.off {m n : Nat} {Gs Hs : List Nat} {T : TypeId} {w : World} {g k : Nat} {f : Nat → Fn} {A : Option Addr} {fs : List (BitVec 64)} (h : RowA m n Gs T w g f) (hr : Rd (hx w Hs) 1 A k (fs.map u)) : Rd (hx w (g :: Hs)) 1 A k (fs.map u) := by
  refine ⟨hr.1, fun h0 => ?_⟩
  obtain ⟨ad, e, hc⟩ := hr.2 h0
  refine ⟨ad, e, fun j v hj => ?_⟩
  have h1 := hc j v hj
  by_cases hb : (ad.add j).block = g
  · exfalso
    obtain ⟨cs, hB, h2, h3⟩ := h
    unfold Fz.cell at h1
    rw [hb] at h1
    by_cases hg : g ∈ Hs
    · rw [hx_in hg] at h1; cases h1
    · rw [hx_out hg, show w.heap[g]? = some (.cells cs.toArray T (0, 0)) from hB] at h1
      dsimp only at h1
      split at h1
      · cases h1
      · have hq : (ad.add j).off < n := by
          rw [← h2]
          have := (Array.getElem?_eq_some_iff.1 h1).1
          simpa using this
        obtain ⟨v', e', A', n', c', fs', rfl, _⟩ := h3 _ hq
        have h4 : cs[(ad.add j).off]? = some v := by simpa using h1
        rw [e'] at h4
        injection h4 with h4
        rw [List.getElem?_map] at hj
        obtain ⟨x, _, hx⟩ := Option.map_eq_some_iff.1 hj
        rw [← h4] at hx
        cases hx
  · unfold Fz.cell at h1 ⊢
    have e2 : hx w (g :: Hs) (ad.add j).block = hx w Hs (ad.add j).block := by
      unfold hx
      simp [hb]
    rw [e2]
    exact h1
theorem RowA.offF {m n : Nat} {Gs Hs : List Nat} {T : TypeId} {w : World} {g m' : Nat} {f : Nat → Fn} {v : Value} {p : Fn} (h : RowA m n Gs T w g f) (hv : WdF m' (hx w Hs) v p) : WdF m' (hx w (g :: Hs)) v p :=
  let ⟨A, k, c, fs, e, hr, hl, hp⟩ := hv
  ⟨A, k, c, fs, e, h.off hr, hl, hp⟩
theorem RowA.offG {m n : Nat} {Gs Hs : List Nat} {T : TypeId} {w : World} {g m' : Nat} {f : Nat → Fn} {v : Value} {p : Fn} (h : RowA m n Gs T w g f) (hv : WdG m' (hx w Hs) v p) : WdG m' (hx w (g :: Hs)) v p :=
  let ⟨hm, A, c, e, hr⟩ := hv
  ⟨hm, A, c, e, h.off hr⟩
theorem RowA.offR {m n : Nat} {Gs Hs : List Nat} {T : TypeId} {w : World} {g m' k : Nat} {f z : Nat → Fn} {A : Option Addr} (h : RowA m n Gs T w g f) (hv : RwF m' (hx w Hs) A k z) (hne : ∀ a, A = some a → a.block ≠ g) : RwF m' (hx w (g :: Hs)) A k z := fun q hq => by
  obtain ⟨ad, v, e, h1, h2⟩ := hv q hq
  refine ⟨ad, v, e, ?_, h.offF h2⟩
  unfold Fz.cell at h1 ⊢
  rw [block_of_add] at h1 ⊢
  have e2 : hx w (g :: Hs) ad.block = hx w Hs ad.block := by
    unfold hx
    simp [hne ad e]
  rw [e2]
  exact h1
/-- Rows of states, one behind the other, each in a block of its own. -/
abbrev EntW := Nat × Nat × (Nat → Fn)
def OutS (m M : Nat) (Gs : List Nat) (w : World) (E : List EntW) : Prop := (E.map fun e => e.2.1).Nodup ∧ ∀ e ∈ E, e.2.1 ∈ Gs ∧ RowA m (M + 1) Gs 49 w e.2.1 e.2.2
def outP (M : Nat) (E : List EntW) : List (Nat × Value) := E.map fun e => (e.1, Value.slice (some ⟨e.2.1, 0, none⟩) (M + 1) (M + 1))
def outW (E : List EntW) : Win := E.map fun e => (e.1, e.2.2)
theorem length_outP (M : Nat) (E : List EntW) : (outP M E).length = E.length := by simp [outP]
theorem length_outC (M : Nat) (E : List EntW) : (plC (outP M E)).length = E.length * 2 := by rw [length_plC, length_outP]
theorem outP_append (M : Nat) (E E' : List EntW) : outP M (E ++ E') = outP M E ++ outP M E' := by simp [outP]
theorem outP_last (M : Nat) (E : List EntW) (c g : Nat) (f f' : Nat → Fn) : outP M (E ++ [(c, g, f)]) = outP M (E ++ [(c, g, f')]) := by simp [outP]
theorem OutS.wr {m M : Nat} {Gs : List Nat} {w w' : World} {E : List EntW} (h : OutS m M Gs w E) (hb : Wr Gs w w') (hB : ∀ e ∈ E, w'.heap[e.2.1]? = w.heap[e.2.1]?) : OutS m M Gs w' E :=
  ⟨h.1, fun e he => let ⟨h1, h2⟩ := h.2 e he; ⟨h1, h2.wr hb fun cs h => (hB e he).trans h⟩⟩
theorem OutS.call {m M : Nat} {Gs : List Nat} {w w' : World} {E : List EntW} (h : OutS m M Gs w E) (hb : Below w.heap.size w w') : OutS m M Gs w' E :=
  h.wr (Wr.of_below hb) fun e he => hb.block _ (h.2 e he).2.lt
theorem OutS.far {m M : Nat} {Gs : List Nat} {w : World} {E : List EntW} (h : OutS m M Gs w E) {g' i : Nat} (hg : g' ∈ Gs) (hne : ∀ e ∈ E, e.2.1 ≠ g') (v : Value) : OutS m M Gs (w.setCell ⟨g', i, none⟩ v) E :=
  ⟨h.1, fun e he => let ⟨h1, h2⟩ := h.2 e he; ⟨h1, h2.far hg (hne e he) v⟩⟩
theorem OutS.more {m M : Nat} {Gs : List Nat} {w : World} {E : List EntW} (h : OutS m M Gs w E) (o : Obj) : OutS m M (w.heap.size :: Gs) (w.alloc o) E :=
  ⟨h.1, fun e he => let ⟨h1, h2⟩ := h.2 e he; ⟨List.mem_cons_of_mem _ h1, h2.more o⟩⟩
/-- A block that was made since is written from now on. -/
theorem cle_new {w w' : World} {Gs : List Nat} (hb : Wr Gs w w') {g : Nat} (hg : w.heap.size ≤ g) : CLe (hx w Gs) (hx w' (g :: Gs)) := fun a v hc => by
  have h1 := hb.cle a v hc
  have hlt : a.block < w.heap.size := by
    unfold Fz.cell at hc
    by_cases hg : a.block ∈ Gs
    · rw [hx_in hg] at hc; cases hc
    · rw [hx_out hg] at hc
      cases e : w.heap[a.block]? with
      | none => rw [e] at hc; cases hc
      | some o => exact (Array.getElem?_eq_some_iff.1 e).1
  unfold Fz.cell at h1 ⊢
  by_cases hg' : a.block ∈ Gs
  · rw [hx_in hg'] at h1; cases h1
  · rw [hx_out hg'] at h1
    rw [hx_out (by simp; exact ⟨by omega, hg'⟩)]
    exact h1
theorem OutS.new {m M : Nat} {Gs : List Nat} {w w' : World} {E : List EntW} (h : OutS m M Gs w E) (hb : Wr Gs w w') (hB : ∀ e ∈ E, w'.heap[e.2.1]? = w.heap[e.2.1]?) {g : Nat} (hg : w.heap.size ≤ g) : OutS m M (g :: Gs) w' E := by
  refine ⟨h.1, fun e he => ?_⟩
  obtain ⟨h1, cs, h2, h3, h4⟩ := h.2 e he
  exact ⟨List.mem_cons_of_mem _ h1, cs, (hB e he).trans h2, h3, fun q hq => let ⟨v, e, hv⟩ := h4 q hq; ⟨v, e, hv.cle (cle_new hb hg)⟩⟩
/-- The last one's states are written. -/
theorem OutS.set {m M : Nat} {Gs : List Nat} {w : World} {E : List EntW} {c g : Nat} {f : Nat → Fn} (h : OutS m M Gs w (E ++ [(c, g, f)])) {k : Nat} {v : Value} {p : Fn} (hk : k < M + 1) (hv : WdF m (hx w Gs) v p) :
    OutS m M Gs (w.setCell ⟨g, k, none⟩ v) (E ++ [(c, g, fun q => if q = k then p else f q)]) := by
  obtain ⟨h1, h2⟩ := h
  obtain ⟨hg, hl⟩ := h2 (c, g, f) (by simp)
  refine ⟨by simpa using h1, fun e he => ?_⟩
  rcases List.mem_append.1 he with he | he
  · obtain ⟨h3, h4⟩ := h2 e (List.mem_append_left _ he)
    refine ⟨h3, h4.far hg (fun e' => ?_) v⟩
    rw [List.map_append, List.nodup_append] at h1
    exact h1.2.2 e.2.1 (List.mem_map_of_mem he) g (by simp) e'
  · simp at he
    subst he
    exact ⟨hg, hl.set hg hk hv⟩
theorem OutS.congr {m M : Nat} {Gs : List Nat} {w : World} {E : List EntW} {c g : Nat} {f f' : Nat → Fn} (h : OutS m M Gs w (E ++ [(c, g, f)])) (e : ∀ q, q < M + 1 → f q = f' q) : OutS m M Gs w (E ++ [(c, g, f')]) := by
  obtain ⟨h1, h2⟩ := h
  obtain ⟨hg, hl⟩ := h2 (c, g, f) (by simp)
  refine ⟨by simpa using h1, fun x hx => ?_⟩
  rcases List.mem_append.1 hx with hx | hx
  · exact h2 x (List.mem_append_left _ hx)
  · simp at hx
    subst hx
    exact ⟨hg, hl.congr e⟩
theorem OutS.first {m M : Nat} {Gs : List Nat} {w : World} {E : List EntW} {c g : Nat} {f : Nat → Fn} (h : OutS m M Gs w ((c, g, f) :: E)) {k : Nat} {v : Value} {p : Fn} (hk : k < M + 1) (hv : WdF m (hx w Gs) v p) :
    OutS m M Gs (w.setCell ⟨g, k, none⟩ v) ((c, g, fun q => if q = k then p else f q) :: E) := by
  obtain ⟨h1, h2⟩ := h
  obtain ⟨hg, hl⟩ := h2 (c, g, f) (by simp)
  refine ⟨by simpa using h1, fun e he => ?_⟩
  rcases List.mem_cons.1 he with rfl | he
  · exact ⟨hg, hl.set hg hk hv⟩
  · obtain ⟨h3, h4⟩ := h2 e (List.mem_cons_of_mem _ he)
    refine ⟨h3, h4.far hg (fun e' => ?_) v⟩
    rw [List.map_cons, List.nodup_cons] at h1
    exact h1.1 (List.mem_map.2 ⟨e, he, e'⟩)
theorem OutS.push {m M : Nat} {Gs : List Nat} {w : World} {E : List EntW} (h : OutS m M Gs w E) {c g : Nat} {f : Nat → Fn} (hg : g ∈ Gs) (hne : ∀ e ∈ E, e.2.1 ≠ g) (hr : RowA m (M + 1) Gs 49 w g f) : OutS m M Gs w (E ++ [(c, g, f)]) := by
  obtain ⟨h1, h2⟩ := h
  refine ⟨?_, fun e he => ?_⟩
  · rw [List.map_append, List.nodup_append]
    refine ⟨h1, by simp, fun a ha b hb => ?_⟩
    obtain ⟨e, he, rfl⟩ := List.mem_map.1 ha
    simp at hb
    subst hb
    exact hne e he
  · rcases List.mem_append.1 he with he | he
    · exact h2 e he
    · simp at he
      subst he
      exact ⟨hg, hr⟩
/-! ### Windows, step by step -/
theorem go_append (h : Nd) (d : Nat) (ah : List Fn) (b : Nat × (Nat → Fn)) : ∀ (W out : Win), goW h d ah (W ++ [b]) out = (match laterC h b.1 d with | none => goW h d ah W out | some c => addW (goW h d ah W out) c fun k x => b.2 k (asg ah x))
  | [], out => by
    show goW h d ah [b] out = _
    unfold goW
    cases laterC h b.1 d <;> rfl
  | b' :: W, out => by
    show goW h d ah (b' :: (W ++ [b])) out = _
    unfold goW
    rw [go_append h d ah b W]
/-- What `at` makes of a window: its last class, or one more. -/
theorem at_add {E : List EntW} {c : Nat} (hl : ∀ e, E.getLast? = some e → e.1 ≠ c) (g : Nat) (f f' : Nat → Fn) (hf : ∀ q x, f' q x = f q x) : outW (E ++ [(c, g, f')]) = addW (outW E) c f := by
  have e1 : f' = f := by funext q x; exact hf q x
  subst e1
  unfold addW outW
  rw [List.getLast?_map]
  cases h : E.getLast? with
  | none =>
    rw [List.getLast?_eq_none_iff] at h
    subst h
    rfl
  | some e =>
    show _ = if e.1 = c then _ else _
    rw [if_neg (hl e h), List.map_append]
    rfl
theorem at_last {E : List EntW} {c g : Nat} {b : Nat → Fn} (f : Nat → Fn) : outW (E ++ [(c, g, fun q x => b q x || f q x)]) = addW (outW (E ++ [(c, g, b)])) c f := by
  unfold addW outW
  rw [List.map_append, List.map_append]
  show _ = match (List.map _ E ++ [(c, b)]).getLast? with | some b => _ | none => _
  rw [List.getLast?_concat]
  show _ = if c = c then _ else _
  rw [if_pos rfl]
  show List.map _ E ++ _ = (List.map _ E ++ [(c, b)]).dropLast ++ _
  rw [List.dropLast_concat]
  rfl
end Go.Proofs.Ytaomehlhopiblaa
