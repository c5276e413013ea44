/- The walk of slices.Clone on ints. -/
import Derived.Test.YtdbbooibkiicnaaGreatNodes
set_option linter.unusedVariables false
set_option linter.unusedSimpArgs false
/-! The walk of slices.Clone on ints. -/
namespace Go.Proofs.YtdbbooibkiicnaaGreat
open Go.RowKit
theorem clone_w {F : Fz} {w : World} (hF : Sat F w) (ks : List Int) (A : Option Addr) (n c : Nat) (hn : n ≤ 100000) (hk : Rd F 1 A n (ks.map (Value.int .i64))) :
    Calls Tryz.prog 127 #[.slice A n c] w fun e w' => ∃ v, e = .returned v ∧ Own F w' w.heap.size 3 1 v n (ks.map (Value.int .i64)) ∧ Below w.heap.size w w' ∧ Sat F w' := by
  rcases A with _ | ad
  · have hn0 : n = 0 := by
      rcases Nat.eq_zero_or_pos n with h0 | h0
      · exact h0
      · obtain ⟨ad, h, _⟩ := hk.2 h0
        cases h
    subst hn0
    have hk0 : ks = [] := by have := hk.1; simpa using this
    subst hk0
    have q22 : ∀ (w : World) (a : Option Addr) (n c n' c' : Nat), (binOp .eql 31 (.slice a n c) (.slice none n' c')).run Tryz.prog w = .ok (.bool a.isNone) w := fun w a n c n' c' => Lib.run_eql_slice_nil w _ _ a n c n' c' Tryz.underlying31
    go_enter Tryz.func127, Tryz.ntmps127
    go_wp2_with fail
    go_ret
    exact ⟨_, rfl, Own.nil _ _ _ _ _, Below.refl _ _, hF⟩
  · have q22 : ∀ (w : World) (a : Option Addr) (n c n' c' : Nat), (binOp .eql 31 (.slice a n c) (.slice none n' c')).run Tryz.prog w = .ok (.bool a.isNone) w := fun w a n c n' c' => Lib.run_eql_slice_nil w _ _ a n c n' c' Tryz.underlying31
    go_enter Tryz.func127, Tryz.ntmps127
    go_wp2_with (at_builtin; refine wpList_allI rfl (.tmp 5) (.tmp 6) rfl (xs := []) (B := w.heap.size) (Own.empty F w w.heap.size _ 1 hF rfl (Nat.le_refl _)) (hF.alloc _) (by rfl) (some ad) n c ks (by rfl) (hF.alloc _) hk (by omega) (by simp) ?_; intro v1 w1 hO1 hF1 hb1 hg1 hat1)
    go_ret
    exact ⟨_, rfl, by simpa using hO1, (balloc _ _).trans (hb1), hF1⟩
end Go.Proofs.YtdbbooibkiicnaaGreat
/-! Rows of nodes that are made and then stored into; ints of the call's own that are turned in place. -/
namespace Go.Proofs.YtdbbooibkiicnaaGreat
open Go.RowKit

/-- Block g has room for n nodes; its first ones read as l. -/
def NodesG (F : Fz) (w : World) (g n : Nat) (l : List Nd) : Prop := ∃ cs xs, Blk w g 62 cs ∧ cs.size = n * 5 ∧ NodesV F l xs ∧ ∀ (j : Nat) (u : Value), xs[j]? = some u → cs[j]? = some u
abbrev set5 (w : World) (g o : Nat) (a b c d e : Value) : World := ((((w.setCell ⟨g, o, none⟩ a).setCell ⟨g, o + 1, none⟩ b).setCell ⟨g, o + 2, none⟩ c).setCell ⟨g, o + 3, none⟩ d).setCell ⟨g, o + 4, none⟩ e
namespace NodesG
variable {F F' : Fz} {w w' : World} {g n : Nat} {l : List Nd}
theorem lt (h : NodesG F w g n l) : g < w.heap.size := let ⟨_, _, h1, _⟩ := h; h1.lt
theorem call (h : NodesG F w g n l) (hb : Below w.heap.size w w') : NodesG F w' g n l := let ⟨cs, xs, h1, h2⟩ := h; ⟨cs, xs, h1.call hb, h2⟩
theorem alloc (h : NodesG F w g n l) (o : Obj) : NodesG F (w.alloc o) g n l := let ⟨cs, xs, h1, h2⟩ := h; ⟨cs, xs, h1.alloc o, h2⟩
theorem drewN (h : NodesG F w g n l) (k : Nat) : NodesG F (w.drewN k) g n l := h
theorem far (h : NodesG F w g n l) {p : Addr} (hp : g ≠ p.block) (u : Value) : NodesG F (w.setCell p u) g n l := let ⟨cs, xs, h1, h2⟩ := h; ⟨cs, xs, h1.far hp u, h2⟩
theorem cle (h : NodesG F w g n l) (hle : CLe F F') : NodesG F' w g n l := let ⟨cs, xs, h1, h2, h3, h4⟩ := h; ⟨cs, xs, h1, h2, h3.cle hle, h4⟩
theorem made (F : Fz) (w : World) (g n : Nat) (z : Array Value) (h : Blk w g 62 (madeCells z (n * 5))) : NodesG F w g n [] := ⟨_, [], h, size_madeCells _ _, .nil, fun j u hj => by simp at hj⟩
theorem room (h : NodesG F w g n l) (hl : l.length < n) : (∀ j, j < 5 → ∃ v, w.cell? ⟨g, l.length * 5 + j, none⟩ = some v) ∧ ∀ o, w.frozen? ⟨g, o, none⟩ = false := by
  obtain ⟨cs, xs, h1, h2, _, _⟩ := h
  refine ⟨fun j hj => ?_, fun o => h1.frozen o⟩
  rw [h1.cell]
  have : l.length * 5 + j < cs.size := by omega
  exact ⟨_, Array.getElem?_eq_getElem this⟩
theorem store (h : NodesG F w g n l) (hl : l.length < n) {nd : Nd} {A : Option Addr} {c : Nat} (hc : nd.kids.length ≤ c) (hr : Rd F 1 A nd.kids.length (nd.kids.map (Value.int .i64))) :
    NodesG F (set5 w g (l.length * 5) (.int .i64 nd.kind) (.string nd.name) (.int .i64 nd.lo) (.int .i64 nd.hi) (.slice A nd.kids.length c)) g n (l ++ [nd]) := by
  obtain ⟨cs, xs, h1, h2, h3, h4⟩ := h
  have hlen := h3.len
  refine ⟨_, _, ((((h1.set_ _ _).set_ _ _).set_ _ _).set_ _ _).set_ _ _, by simp [h2], h3.snoc hc hr, fun j u hj => ?_⟩
  by_cases hjx : j < xs.length
  · rw [List.getElem?_append_left hjx] at hj
    rw [Array.getElem?_setIfInBounds_ne (by omega), Array.getElem?_setIfInBounds_ne (by omega), Array.getElem?_setIfInBounds_ne (by omega), Array.getElem?_setIfInBounds_ne (by omega), Array.getElem?_setIfInBounds_ne (by omega)]
    exact h4 j u hj
  · rw [List.getElem?_append_right (by omega)] at hj
    have hj5 : j - xs.length < 5 := by
      have := (List.getElem?_eq_some_iff.1 hj).1
      simpa [ndVals] using this
    have hsz : l.length * 5 + 4 < cs.size := by omega
    obtain ⟨i, rfl⟩ : ∃ i, j = xs.length + i := ⟨j - xs.length, by omega⟩
    rw [Nat.add_sub_cancel_left] at hj hj5
    rw [hlen] at *
    match i, hj5 with
    | 0, _ => rw [Array.getElem?_setIfInBounds_ne (by omega), Array.getElem?_setIfInBounds_ne (by omega), Array.getElem?_setIfInBounds_ne (by omega), Array.getElem?_setIfInBounds_ne (by omega)]; rw [Nat.add_zero, Array.getElem?_setIfInBounds_self_of_lt (by omega)]; simpa [ndVals] using hj
    | 1, _ => rw [Array.getElem?_setIfInBounds_ne (by omega), Array.getElem?_setIfInBounds_ne (by omega), Array.getElem?_setIfInBounds_ne (by omega)]; rw [Array.getElem?_setIfInBounds_self_of_lt (by simp; omega)]; simpa [ndVals] using hj
    | 2, _ => rw [Array.getElem?_setIfInBounds_ne (by omega), Array.getElem?_setIfInBounds_ne (by omega)]; rw [Array.getElem?_setIfInBounds_self_of_lt (by simp; omega)]; simpa [ndVals] using hj
    | 3, _ => rw [Array.getElem?_setIfInBounds_ne (by omega)]; rw [Array.getElem?_setIfInBounds_self_of_lt (by simp; omega)]; simpa [ndVals] using hj
    | 4, _ => rw [Array.getElem?_setIfInBounds_self_of_lt (by simp; omega)]; simpa [ndVals] using hj
theorem freeze (h : NodesG F w g n l) (hl : l.length = n) (hF : Sat F w) (hg : F g = none) (w0 : World) (h0 : w0.heap.size ≤ g) : ∃ F', Sat F' w ∧ Fle w0 F F' ∧ NodesF F' (some ⟨g, 0, none⟩) n l := by
  obtain ⟨cs, xs, h1, h2, h3, h4⟩ := h
  have hlen := h3.len
  obtain ⟨o, h5, h6⟩ := BlkL.freeze (F := F) ⟨cs, h1, h4⟩ hF (n := n) (size := 5) (by rw [hlen, hl])
  have hle : Fle w0 F (F.put g o) := Fle.put o hg h0
  exact ⟨_, h5, hle, (h3.cle hle.cle).toF h6⟩
end NodesG
/-- Below B all is as it was, and so it stays when the five cells of a node are stored. -/
theorem below_set5 {B : Nat} {w w' : World} (h : Below B w w') {g : Nat} (hg : B ≤ g) (o : Nat) (a b c d e : Value) : Below B w (set5 w' g o a b c d e) := ((((h.setCell hg _).setCell hg _).setCell hg _).setCell hg _).setCell hg _
theorem Sat.set5 {F : Fz} {w : World} (h : Sat F w) {g : Nat} (hg : F g = none) (o : Nat) (a b c d e : Value) : Sat F (Go.Proofs.YtdbbooibkiicnaaGreat.set5 w g o a b c d e) := ((((h.setCell hg _).setCell hg _).setCell hg _).setCell hg _).setCell hg _
/-- The ints of a slice that is the call's own, or empty. -/
def IntsB (F : Fz) (w : World) (B : Nat) (A : Option Addr) (ks : List Int) : Prop := 0 < ks.length → ∃ g, A = some ⟨g, 0, none⟩ ∧ B ≤ g ∧ F g = none ∧ BlkL w g 3 (ks.map (Value.int .i64))
namespace IntsB
variable {F F' : Fz} {w w' : World} {B : Nat} {A : Option Addr} {ks : List Int}
theorem of {v : Value} {n : Nat} (h : Own F w B 3 1 v n (ks.map (Value.int .i64))) : ∃ A c, v = .slice A ks.length c ∧ ks.length ≤ c ∧ n = ks.length ∧ IntsB F w B A ks := by
  have hn : n = ks.length := by have := h.1.1; simpa using this.symm
  subst hn
  rcases h.blk with ⟨rfl, h1, h2⟩ | ⟨g, cap, rfl, h1, h2, h3, h4⟩
  · exact ⟨none, 0, by rw [h1], by omega, rfl, fun h => by omega⟩
  · exact ⟨_, cap, rfl, h1, rfl, fun _ => ⟨g, rfl, h2, h3, h4⟩⟩
theorem call (h : IntsB F w B A ks) (hb : Below w.heap.size w w') : IntsB F w' B A ks := fun h0 => let ⟨g, h1, h2, h3, h4⟩ := h h0; ⟨g, h1, h2, h3, h4.call hb⟩
theorem alloc (h : IntsB F w B A ks) (o : Obj) : IntsB F (w.alloc o) B A ks := fun h0 => let ⟨g, h1, h2, h3, h4⟩ := h h0; ⟨g, h1, h2, h3, h4.alloc o⟩
theorem drewN (h : IntsB F w B A ks) (k : Nat) : IntsB F (w.drewN k) B A ks := h
theorem far (h : IntsB F w B A ks) {p : Addr} (hp : p.block < B) (u : Value) : IntsB F (w.setCell p u) B A ks := fun h0 => let ⟨g, h1, h2, h3, h4⟩ := h h0; ⟨g, h1, h2, h3, h4.far (by omega) u⟩
/-- They are frozen. -/
theorem freeze (h : IntsB F w B A ks) (hF : Sat F w) (w0 : World) (h0 : w0.heap.size ≤ B) : ∃ F', Sat F' w ∧ Fle w0 F F' ∧ Rd F' 1 A ks.length (ks.map (Value.int .i64)) ∧ ∀ b, b < B → F' b = F b := by
  rcases Nat.eq_zero_or_pos ks.length with hz | hz
  · obtain rfl := List.eq_nil_of_length_eq_zero hz
    exact ⟨F, hF, Fle.refl _ _, Rd.nil, fun _ _ => rfl⟩
  · obtain ⟨g, rfl, h2, h3, h4⟩ := h hz
    obtain ⟨o, h5, h6⟩ := h4.freeze hF (n := ks.length) (size := 1) (by simp)
    refine ⟨_, h5, Fle.put o h3 (by omega), h6, fun b hb => ?_⟩
    unfold Fz.put
    rw [if_neg (by omega)]
end IntsB
theorem makeN (w : World) (n : Nat) (hn : n ≤ 1000000) : (Instr.makeSlice 22 (.int .i64 (n : Int)) (.int .i64 (n : Int))).run Tryz.prog w = .ok (.slice (some ⟨w.heap.size, 0, none⟩) n n) (w.alloc (.cells (madeCells (Value.agg #[.int .i64 0, .string ⟨#[]⟩, .int .i64 0, .int .i64 0, .slice none 0 0]).cells (n * 5)) 62)) := by
  obtain ⟨i, hi, hz0, hz1, hz2⟩ := info_parts node_info
  have h := run_make (P := Tryz.prog) w 22 62 i _ Tryz.underlying22 hi hz0 .i64 .i64 n n (by omega) (by omega) (by rw [hz2]; omega) (by omega)
  rw [hz1] at h
  simpa using h
end Go.Proofs.YtdbbooibkiicnaaGreat
