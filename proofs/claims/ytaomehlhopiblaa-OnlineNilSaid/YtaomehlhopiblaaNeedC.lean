/- One pass: what lies in memory while a point is gone through: plain. -/
import Derived.Test.YtaomehlhopiblaaOnlF
import Derived.Test.YtaomehlhopiblaaJoin
import Derived.Test.YtaomehlhopiblaaApp
import Derived.Test.YtaomehlhopiblaaOwn
import Derived.Test.YtaomehlhopiblaaOnlT
import Derived.Test.YtaomehlhopiblaaTab1
import Derived.Deep.RegionHeld3
import Derived.Deep.DeepCutAuto
import Derived.Test.YtaomehlhopiblaaPileP
import Derived.Test.YtaomehlhopiblaaHand
import Derived.Test.YtaomehlhopiblaaBoundA
import Derived.Deep.CutRange
set_option linter.unusedVariables false
set_option linter.unusedSimpArgs false
/-! One pass: what lies in memory while a point is gone through: plain. -/
namespace Go.Proofs.Ytaomehlhopiblaa
open Go.RowKit
/-- What stands of each match: its regular expression, its steps, the places of its tests' formulas. -/
def RxF (F : Fz) (t : Tr) (gx : Nat) : Prop := ∀ (i : Nat) (h : Nd) (a : Tr), i < t.size → t.sub i = .un h a → (h.kind = 16 ∨ h.kind = 17) →
  ∃ Ar cr Ap np cp, F.cell ⟨gx, i * 3, none⟩ = some (.slice Ar a.size cr) ∧ a.size ≤ cr ∧ NodesF F Ar a.size (a.flat 0) ∧ F.cell ⟨gx, i * 3 + 1, none⟩ = some (.int .i64 (stepsN a : Nat)) ∧
    F.cell ⟨gx, i * 3 + 2, none⟩ = some (.slice Ap np cp) ∧ np ≤ cp ∧ Rd F 1 Ap np ((partsP a (i - a.size)).map fun p => .int .i64 (p : Nat)) ∧ np ≤ 1000
theorem RxF.cle {F F' : Fz} {t : Tr} {gx : Nat} (h : RxF F t gx) (hle : CLe F F') : RxF F' t gx := fun i hd a h1 h2 h3 =>
  let ⟨Ar, cr, Ap, np, cp, e1, e2, e3, e4, e5, e6, e7, e8⟩ := h i hd a h1 h2 h3
  ⟨Ar, cr, Ap, np, cp, hle _ _ e1, e2, e3.cle hle, hle _ _ e4, hle _ _ e5, e6, e7.cle hle, e8⟩
/-- The windows, by places. -/
def WnW (m : Nat) (t : Tr) (gw : Nat) (Gs : List Nat) (w : World) (win : Nat → Win) : Prop := ∃ cs : List Value, BlkL w gw 57 cs ∧ cs.length = t.size ∧
  ∀ i, i < t.size → ∃ A n c, cs[i]? = some (.slice A n c) ∧ (∀ h a, t.sub i = .un h a → h.kind = 16 → BkF m (hx w Gs) (stepsN a) A n (win i)) ∧ ((∀ h a, t.sub i = .un h a → h.kind ≠ 16) → n = 0)
/-- The truth of the first k places, in block g. -/
def TrW (m : Nat) (t : Tr) (g : Nat) (Gs : List Nat) (w : World) (k : Nat) (tr : Nat → Fn) : Prop := ∃ cs : List Value, BlkL w g 49 cs ∧ cs.length = t.size ∧
  ∀ j, j < k → (t.sub j).root.kind < 18 → ∃ v, cs[j]? = some v ∧ WdF m (hx w Gs) v (tr j)
section
variable {m : Nat} {t : Tr} {g gw : Nat} {Gs : List Nat} {w w' : World} {win : Nat → Win} {tr : Nat → Fn} {k : Nat}
theorem WnW.wr (h : WnW m t gw Gs w win) (hb : Wr Gs w w') (hB : w'.heap[gw]? = w.heap[gw]?) : WnW m t gw Gs w' win :=
  let ⟨cs, ⟨ds, h1, h1'⟩, h2, h3⟩ := h
  ⟨cs, ⟨ds, hB.trans h1, h1'⟩, h2, fun i hi => let ⟨A, n, c, e, hw, hz⟩ := h3 i hi; ⟨A, n, c, e, fun hd a hx hk => (hw hd a hx hk).cle hb.cle, hz⟩⟩
theorem WnW.lt (h : WnW m t gw Gs w win) : gw < w.heap.size := let ⟨_, h1, _⟩ := h; h1.lt
theorem WnW.soft (h : WnW m t gw Gs w win) (i : Nat) : w.frozen? ⟨gw, i, none⟩ = false := let ⟨_, h1, _⟩ := h; h1.frozen i
theorem WnW.at_ (h : WnW m t gw Gs w win) {i : Nat} (hi : i < t.size) : ∃ A n c, w.cell? ⟨gw, i, none⟩ = some (.slice A n c) ∧ ∀ h a, t.sub i = .un h a → h.kind = 16 → BkF m (hx w Gs) (stepsN a) A n (win i) :=
  let ⟨_, h1, _, h3⟩ := h
  let ⟨A, n, c, e, hw, _⟩ := h3 i hi
  ⟨A, n, c, h1.cell e, hw⟩
theorem WnW.zero (h : WnW m t gw Gs w win) {i : Nat} (hi : i < t.size) (hz : ∀ h a, t.sub i = .un h a → h.kind ≠ 16) : ∃ A c, w.cell? ⟨gw, i, none⟩ = some (.slice A 0 c) :=
  let ⟨_, h1, _, h3⟩ := h
  let ⟨A, n, c, e, _, h4⟩ := h3 i hi
  ⟨A, c, by rw [← h4 hz]; exact h1.cell e⟩
theorem WnW.set (h : WnW m t gw Gs w win) (hg : gw ∈ Gs) {i : Nat} (hi : i < t.size) {A : Option Addr} {n c : Nat} {V : Win} (hV : ∀ h a, t.sub i = .un h a → h.kind = 16 → BkF m (hx w Gs) (stepsN a) A n V) (hz : (∀ h a, t.sub i = .un h a → h.kind ≠ 16) → n = 0) :
    WnW m t gw Gs (w.setCell ⟨gw, i, none⟩ (.slice A n c)) (updW win i V) := by
  obtain ⟨cs, h1, h2, h3⟩ := h
  have hle := (wr_set (w := w) hg i (.slice A n c)).cle
  refine ⟨cs.set i (.slice A n c), h1.set_ i _, by rw [List.length_set]; exact h2, fun j hj => ?_⟩
  by_cases e : j = i
  · subst e
    refine ⟨A, n, c, by rw [List.getElem?_set_self (by omega)], fun hd a hx hk => ?_, hz⟩
    have e2 : updW win j V j = V := if_pos rfl
    rw [e2]
    exact (hV hd a hx hk).cle hle
  · obtain ⟨A', n', c', e1, hw, hz'⟩ := h3 j hj
    refine ⟨A', n', c', by rw [List.getElem?_set_ne (Ne.symm e)]; exact e1, fun hd a hx hk => ?_, hz'⟩
    have e2 : updW win i V j = win j := if_neg e
    rw [e2]
    exact (hw hd a hx hk).cle hle
theorem WnW.congr (h : WnW m t gw Gs w win) {win' : Nat → Win} (e : ∀ i, i < t.size → win i = win' i) : WnW m t gw Gs w win' :=
  let ⟨cs, h1, h2, h3⟩ := h
  ⟨cs, h1, h2, fun i hi => by rw [← e i hi]; exact h3 i hi⟩
theorem TrW.wr (h : TrW m t g Gs w k tr) (hb : Wr Gs w w') (hB : w'.heap[g]? = w.heap[g]?) : TrW m t g Gs w' k tr :=
  let ⟨cs, ⟨ds, h1, h1'⟩, h2, h3⟩ := h
  ⟨cs, ⟨ds, hB.trans h1, h1'⟩, h2, fun j hj hk => let ⟨v, e, hv⟩ := h3 j hj hk; ⟨v, e, hv.cle hb.cle⟩⟩
theorem TrW.soft (h : TrW m t g Gs w k tr) (i : Nat) : w.frozen? ⟨g, i, none⟩ = false := let ⟨_, h1, _⟩ := h; h1.frozen i
theorem TrW.lt (h : TrW m t g Gs w k tr) : g < w.heap.size := let ⟨_, h1, _⟩ := h; h1.lt
theorem TrW.at_ (h : TrW m t g Gs w k tr) {j : Nat} (hj : j < k) (hk : (t.sub j).root.kind < 18) : ∃ v, w.cell? ⟨g, j, none⟩ = some v ∧ WdF m (hx w Gs) v (tr j) :=
  let ⟨_, h1, _, h3⟩ := h
  let ⟨v, e, hv⟩ := h3 j hj hk
  ⟨v, h1.cell e, hv⟩
theorem TrW.new (m : Nat) (t : Tr) (Gs : List Nat) (w : World) (tr : Nat → Fn) : TrW m t w.heap.size Gs (w.alloc (.cells (zeros (.slice none 0 0) t.size) 49)) 0 tr :=
  ⟨List.replicate t.size (.slice none 0 0), .of (Blk.new w _ _), by simp, fun j hj => by omega⟩
/-- One more: a place's truth is written. -/
theorem TrW.set (h : TrW m t g Gs w k tr) (hg : g ∈ Gs) (hk : k < t.size) {v : Value} {p : Fn} (hv : WdF m (hx w Gs) v p) : TrW m t g Gs (w.setCell ⟨g, k, none⟩ v) (k + 1) (updT tr k p) := by
  obtain ⟨cs, h1, h2, h3⟩ := h
  have hle := (wr_set (w := w) hg k v).cle
  refine ⟨cs.set k v, h1.set_ k _, by rw [List.length_set]; exact h2, fun j hj hf => ?_⟩
  by_cases e : j = k
  · subst e
    refine ⟨v, by rw [List.getElem?_set_self (by omega)], ?_⟩
    rw [updT_at]
    exact hv.cle hle
  · obtain ⟨u, e1, hw⟩ := h3 j (by omega) hf
    refine ⟨u, by rw [List.getElem?_set_ne (Ne.symm e)]; exact e1, ?_⟩
    rw [updT_ne e]
    exact hw.cle hle
/-- One more that is no formula. -/
theorem TrW.skip (h : TrW m t g Gs w k tr) (hk : 18 ≤ (t.sub k).root.kind) {tr' : Nat → Fn} (e : ∀ j, j < k → tr j = tr' j) : TrW m t g Gs w (k + 1) tr' := by
  obtain ⟨cs, h1, h2, h3⟩ := h
  refine ⟨cs, h1, h2, fun j hj hf => ?_⟩
  have : j ≠ k := fun e => by subst e; omega
  rw [← e j (by omega)]
  exact h3 j (by omega) hf
theorem TrW.congr (h : TrW m t g Gs w k tr) {tr' : Nat → Fn} (e : ∀ j, j < k → tr j = tr' j) : TrW m t g Gs w k tr' :=
  let ⟨cs, h1, h2, h3⟩ := h
  ⟨cs, h1, h2, fun j hj => by rw [← e j hj]; exact h3 j hj⟩
end
end Go.Proofs.Ytaomehlhopiblaa
/-! One pass: a part of a formula is what it is: the contracts of Next, Ends and Zero over it. -/
namespace Go.Proofs.Ytaomehlhopiblaa
open Go.RowKit
theorem zeroO_shape (z : Zf) (own : Bool) : ∀ {s t : Tr} (k : Nat), ShapeT s t → zeroO z own s k = zeroO z own t k
  | .leaf _, .leaf _, _, _ => rfl
  | .un h a, .un h' a', k, e => by simp [zeroO, e.1]
  | .bin h a b, .bin h' a' b', k, e => by simp [zeroO, e.1, zeroO_shape z own k e.2.1, zeroO_shape z own (k + testsT a') e.2.2, shape_tests e.2.1]
theorem firstO_shape (z : Zf) (own : Bool) : ∀ {s t : Tr} (k q : Nat), ShapeT s t → firstO z own s k q = firstO z own t k q
  | .leaf h, .leaf h', _, _, e => by
    have e' : h.kind = h'.kind := e
    simp [firstO, e']
  | .un h a, .un h' a', k, q, e => by simp [firstO, e.1, firstO_shape z own k q e.2]
  | .bin h a b, .bin h' a' b', k, q, e => by simp [firstO, e.1, firstO_shape z own k q e.2.1, firstO_shape z own (k + testsT a') (q + stepsN a') e.2.2, shape_tests e.2.1, shape_steps e.2.1, zeroO_shape z own k e.2.1]
theorem aheadO_shape (z : Zf) : ∀ {s t : Tr} (k q j : Nat), ShapeT s t → aheadO z s k q j = aheadO z t k q j
  | .leaf _, .leaf _, _, _, _, _ => rfl
  | .un h a, .un h' a', k, q, j, e => by simp [aheadO, e.1, aheadO_shape z k q j e.2, firstO_shape z true k q e.2]
  | .bin h a b, .bin h' a' b', k, q, j, e => by simp [aheadO, e.1, aheadO_shape z k q j e.2.1, aheadO_shape z (k + testsT a') (q + stepsN a') j e.2.2, firstO_shape z true (k + testsT a') (q + stepsN a') e.2.2, zeroO_shape z true (k + testsT a') e.2.2, shape_tests e.2.1, shape_steps e.2.1]
theorem stateO_shape (z : Zf) {s t : Tr} (k : Nat) (e : ShapeT s t) : stateO z s k = stateO z t k := by
  unfold stateO
  rw [zeroO_shape z true 0 e, firstO_shape z true 0 0 e, shape_steps e, aheadO_shape z 0 0 (k - 1) e]
theorem flat_tree {a : Tr} (hva : validT a = true) : ∃ a', treeS (a.flat 0) = some a' ∧ ShapeT a' a ∧ a'.root.kind = a.root.kind := by
  obtain ⟨a', e1, e2, e3, e4, _⟩ := fold_flat a [] hva
  refine ⟨a', ?_, eq_shape (eq_of_flat a' a 0 (e4 0)), e3⟩
  unfold treeS parseS
  rw [show (Tr.flat a 0) = Tr.flat a (total []) from rfl, e1]
theorem stateK_nat (z : Zf) (t : Tr) (k : Nat) : stateK z t (k : Int) = stateO z t k := by
  unfold stateK
  rw [if_pos (by omega), Int.toNat_natCast]
section
variable {F : Fz} {w : World} (hF : Sat F w) (m : Nat) (hm : m ≤ 10) (a : Tr) (hva : validT a = true) (hr : regS a.root.kind = true) (ha : a.size ≤ 1000) (Al : Option Addr) (cl : Nat) (hl : NodesF F Al a.size (a.flat 0)) (At : Option Addr) (nt ct : Nat) (hnt : nt ≤ 1000) (z : Zf) (hT : TsF m F At nt z)
include hF hm hva hr ha hl hnt hT
theorem onext_w (k : Nat) : Calls Try.prog 41 #[.int .i64 (m : Nat), .slice Al a.size cl, .int .i64 (k : Nat), .slice At nt ct] w (RetNx m (stepsN a) w (stateO z a k).1) := by
  obtain ⟨a', h1, h2, h3⟩ := flat_tree hva
  have := anext_w hF m hm (a.flat 0) (by rw [Tr.length_flat]; exact ha) Al a.size cl hl h1 (by rw [h3]; exact hr) (k : Int) At nt ct hnt z hT
  rw [stateK_nat, stateO_shape z k h2, shape_steps h2] at this
  exact this
theorem oends_w (k : Nat) : Calls Try.prog 42 #[.int .i64 (m : Nat), .slice Al a.size cl, .int .i64 (k : Nat), .slice At nt ct] w (RetEn m w (stateO z a k).2) := by
  obtain ⟨a', h1, h2, h3⟩ := flat_tree hva
  have := aends_w hF m hm (a.flat 0) (by rw [Tr.length_flat]; exact ha) Al a.size cl hl h1 (by rw [h3]; exact hr) (k : Int) At nt ct hnt z hT
  rw [stateK_nat, stateO_shape z k h2] at this
  exact this
theorem ozero_w : Calls Try.prog 48 #[.int .i64 (m : Nat), .slice Al a.size cl, .slice At nt ct] w (RetEn m w (stateO z a 0).2) := by
  obtain ⟨a', h1, h2, h3⟩ := flat_tree hva
  have := azero_w hF m hm (a.flat 0) (by rw [Tr.length_flat]; exact ha) Al a.size cl hl h1 (by rw [h3]; exact hr) At nt ct hnt z hT
  rw [show stateK z a' 0 = stateO z a' 0 from stateK_nat z a' 0, stateO_shape z 0 h2] at this
  exact this
end
/-- What Next gives, as a row of words. -/
theorem retNx_row {m M : Nat} {w w' : World} {O : Nat → Nat → Bool} {e : Ending} (h : RetNx m M w O e w') : ∃ go, e = .returned (.slice (some ⟨go, 0, none⟩) M M) ∧ w.heap.size ≤ go ∧ Below w.heap.size w w' ∧ RwF m (heapF w') (some ⟨go, 0, none⟩) M O := by
  obtain ⟨go, h1, h2, h3, h4⟩ := h
  refine ⟨go, h1, h2, h3, fun q hq => ?_⟩
  obtain ⟨v, hv, hw⟩ := h4.at_ hq
  refine ⟨_, v, rfl, ?_, by rw [← hx_nil]; exact hw⟩
  rw [add_lit0]
  exact hv
end Go.Proofs.Ytaomehlhopiblaa
/-! The walks of the reference's Form, Reg, Plain, Same. -/
/-! The walks of the reference's Form, Reg, Plain, Same. -/
namespace Go.Proofs.Ytaomehlhopiblaa
open Go.RowKit

end Go.Proofs.Ytaomehlhopiblaa
/-! The walks of the reference's inside, places, Tests, Steps, number. -/
namespace Go.Proofs.Ytaomehlhopiblaa
open Go.RowKit
theorem get_kind {l : List Nd} {t : Tr} (h : treeS l = some t) (j : Nat) (hj : j < l.length) : l[j].kind = (t.sub j).root.kind := by
  have h1 := Tr.get_flat t j 0 (by rw [← tree_len h]; exact hj)
  rw [← tree_flat h, List.getElem?_eq_getElem hj] at h1
  injection h1 with h1
  rw [h1]
end Go.Proofs.Ytaomehlhopiblaa
/-! The walk of the reference's reach, kind by kind. -/
/-! The walk of the reference's reach, kind by kind. -/
namespace Go.Proofs.Ytaomehlhopiblaa
open Go.RowKit
end Go.Proofs.Ytaomehlhopiblaa
/-! The walk of the reference's reach at a test. -/
namespace Go.Proofs.Ytaomehlhopiblaa
open Go.RowKit
end Go.Proofs.Ytaomehlhopiblaa
/-! The walk of the reference's reach at a union. -/
namespace Go.Proofs.Ytaomehlhopiblaa
open Go.RowKit
end Go.Proofs.Ytaomehlhopiblaa
/-! The walk of the reference's reach at a sequence. -/
namespace Go.Proofs.Ytaomehlhopiblaa
open Go.RowKit
end Go.Proofs.Ytaomehlhopiblaa
/-! The walk of the reference's reach at a closure. -/
namespace Go.Proofs.Ytaomehlhopiblaa
open Go.RowKit
end Go.Proofs.Ytaomehlhopiblaa
/-! The reference's reach over a whole tree, and its Reach. -/
namespace Go.Proofs.Ytaomehlhopiblaa
open Go.RowKit
theorem RdR.cle {F F' : Fz} {A : Option Addr} {n : Nat} {gs : List (List (BitVec 64))} (h : RdR F A n gs) (hle : CLe F F') : RdR F' A n gs :=
  ⟨h.1, fun i hi => let ⟨ad, Ai, ni, ci, e, h1, h2⟩ := h.2 i hi; ⟨ad, Ai, ni, ci, e, hle _ _ h1, h2.1, fun h0 => let ⟨a, e2, h3⟩ := h2.2 h0; ⟨a, e2, fun j u hu => hle _ _ (h3 j u hu)⟩⟩⟩
end Go.Proofs.Ytaomehlhopiblaa
namespace Go.Proofs.Ytaomehlhopiblaa
open Go.RowKit
theorem blkNew {w : World} {g : Nat} {t : TypeId} {cs : Array Value} (h : w.heap.size = g) : Blk (w.alloc (.cells cs t)) g t cs := h ▸ Blk.new w t cs
end Go.Proofs.Ytaomehlhopiblaa
