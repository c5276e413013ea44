/- The walk of slices.Clone on ints. -/
import Derived.Test.YtaomehlhopiblaaNodes
import Derived.Test.YtaomehlhopiblaaTreeP
set_option linter.unusedVariables false
set_option linter.unusedSimpArgs false
/-! The walk of slices.Clone on ints. -/
/-! The walk of slices.Clone on ints. -/
namespace Go.Proofs.Ytaomehlhopiblaa
open Go.RowKit
theorem clone_w {F : Fz} {w : World} (hF : Sat F w) (ks : List Int) (A : Option Addr) (n c : Nat) (hn : n ≤ 100000) (hk : Rd F 1 A n (ks.map (Value.int .i64))) :
    Calls Try.prog 68 #[.slice A n c] w fun e w' => ∃ v, e = .returned v ∧ Own F w' w.heap.size 3 1 v n (ks.map (Value.int .i64)) ∧ Below w.heap.size w w' ∧ Sat F w' := by
  rcases A with _ | ad
  · have hn0 : n = 0 := by
      rcases Nat.eq_zero_or_pos n with h0 | h0
      · exact h0
      · obtain ⟨ad, h, _⟩ := hk.2 h0
        cases h
    subst hn0
    have hk0 : ks = [] := by have := hk.1; simpa using this
    subst hk0
    have q22 : ∀ (w : World) (a : Option Addr) (n c n' c' : Nat), (binOp .eql 30 (.slice a n c) (.slice none n' c')).run Try.prog w = .ok (.bool a.isNone) w := fun w a n c n' c' => Lib.run_eql_slice_nil w _ _ a n c n' c' Try.underlying30
    go_enter Try.func68, Try.ntmps68
    go_wp2_with fail
    go_ret
    exact ⟨_, rfl, Own.nil _ _ _ _ _, Below.refl _ _, hF⟩
  · have q22 : ∀ (w : World) (a : Option Addr) (n c n' c' : Nat), (binOp .eql 30 (.slice a n c) (.slice none n' c')).run Try.prog w = .ok (.bool a.isNone) w := fun w a n c n' c' => Lib.run_eql_slice_nil w _ _ a n c n' c' Try.underlying30
    go_enter Try.func68, Try.ntmps68
    go_wp2_with (at_builtin; refine wpList_allI rfl (.tmp 5) (.tmp 6) rfl (xs := []) (B := w.heap.size) (Own.empty F w w.heap.size _ 1 hF rfl (Nat.le_refl _)) (hF.alloc _) (by rfl) (some ad) n c ks (by rfl) (hF.alloc _) hk (by omega) (by simp) ?_; intro v1 w1 hO1 hF1 hb1 hg1 hat1)
    go_ret
    exact ⟨_, rfl, by simpa using hO1, (balloc _ _).trans (hb1), hF1⟩
end Go.Proofs.Ytaomehlhopiblaa
/-! Rows of nodes that are made and then stored into; ints of the call's own that are turned in place. -/
namespace Go.Proofs.Ytaomehlhopiblaa
open Go.RowKit

/-- Block g has room for n nodes; its first ones read as l. -/
def NodesG (F : Fz) (w : World) (g n : Nat) (l : List Nd) : Prop := ∃ cs xs, Blk w g 48 cs ∧ cs.size = n * 5 ∧ NodesV F l xs ∧ ∀ (j : Nat) (u : Value), xs[j]? = some u → cs[j]? = some u
abbrev set5 (w : World) (g o : Nat) (a b c d e : Value) : World := ((((w.setCell ⟨g, o, none⟩ a).setCell ⟨g, o + 1, none⟩ b).setCell ⟨g, o + 2, none⟩ c).setCell ⟨g, o + 3, none⟩ d).setCell ⟨g, o + 4, none⟩ e
namespace NodesG
variable {F F' : Fz} {w w' : World} {g n : Nat} {l : List Nd}
theorem lt (h : NodesG F w g n l) : g < w.heap.size := let ⟨_, _, h1, _⟩ := h; h1.lt
theorem call (h : NodesG F w g n l) (hb : Below w.heap.size w w') : NodesG F w' g n l := let ⟨cs, xs, h1, h2⟩ := h; ⟨cs, xs, h1.call hb, h2⟩
theorem alloc (h : NodesG F w g n l) (o : Obj) : NodesG F (w.alloc o) g n l := let ⟨cs, xs, h1, h2⟩ := h; ⟨cs, xs, h1.alloc o, h2⟩
theorem drewN (h : NodesG F w g n l) (k : Nat) : NodesG F (w.drewN k) g n l := h
theorem far (h : NodesG F w g n l) {p : Addr} (hp : g ≠ p.block) (u : Value) : NodesG F (w.setCell p u) g n l := let ⟨cs, xs, h1, h2⟩ := h; ⟨cs, xs, h1.far hp u, h2⟩
theorem cle (h : NodesG F w g n l) (hle : CLe F F') : NodesG F' w g n l := let ⟨cs, xs, h1, h2, h3, h4⟩ := h; ⟨cs, xs, h1, h2, h3.cle hle, h4⟩
theorem made (F : Fz) (w : World) (g n : Nat) (z : Array Value) (h : Blk w g 48 (madeCells z (n * 5))) : NodesG F w g n [] := ⟨_, [], h, size_madeCells _ _, .nil, fun j u hj => by simp at hj⟩
theorem room (h : NodesG F w g n l) (hl : l.length < n) : (∀ j, j < 5 → ∃ v, w.cell? ⟨g, l.length * 5 + j, none⟩ = some v) ∧ ∀ o, w.frozen? ⟨g, o, none⟩ = false := by
  obtain ⟨cs, xs, h1, h2, _, _⟩ := h
  refine ⟨fun j hj => ?_, fun o => h1.frozen o⟩
  rw [h1.cell]
  have : l.length * 5 + j < cs.size := by omega
  exact ⟨_, Array.getElem?_eq_getElem this⟩
theorem store (h : NodesG F w g n l) (hl : l.length < n) {nd : Nd} {A : Option Addr} {c : Nat} (hc : nd.kids.length ≤ c) (hr : Rd F 1 A nd.kids.length (nd.kids.map (Value.int .i64))) :
    NodesG F (set5 w g (l.length * 5) (.int .i64 nd.kind) (.string nd.name) (.int .i64 nd.lo) (.int .i64 nd.hi) (.slice A nd.kids.length c)) g n (l ++ [nd]) := by
  obtain ⟨cs, xs, h1, h2, h3, h4⟩ := h
  have hlen := h3.len
  refine ⟨_, _, ((((h1.set_ _ _).set_ _ _).set_ _ _).set_ _ _).set_ _ _, by simp [h2], h3.snoc hc hr, fun j u hj => ?_⟩
  by_cases hjx : j < xs.length
  · rw [List.getElem?_append_left hjx] at hj
    rw [Array.getElem?_setIfInBounds_ne (by omega), Array.getElem?_setIfInBounds_ne (by omega), Array.getElem?_setIfInBounds_ne (by omega), Array.getElem?_setIfInBounds_ne (by omega), Array.getElem?_setIfInBounds_ne (by omega)]
    exact h4 j u hj
  · rw [List.getElem?_append_right (by omega)] at hj
    have hj5 : j - xs.length < 5 := by
      have := (List.getElem?_eq_some_iff.1 hj).1
      simpa [ndVals] using this
    have hsz : l.length * 5 + 4 < cs.size := by omega
    obtain ⟨i, rfl⟩ : ∃ i, j = xs.length + i := ⟨j - xs.length, by omega⟩
    rw [Nat.add_sub_cancel_left] at hj hj5
    rw [hlen] at *
    match i, hj5 with
    | 0, _ => rw [Array.getElem?_setIfInBounds_ne (by omega), Array.getElem?_setIfInBounds_ne (by omega), Array.getElem?_setIfInBounds_ne (by omega), Array.getElem?_setIfInBounds_ne (by omega)]; rw [Nat.add_zero, Array.getElem?_setIfInBounds_self_of_lt (by omega)]; simpa [ndVals] using hj
    | 1, _ => rw [Array.getElem?_setIfInBounds_ne (by omega), Array.getElem?_setIfInBounds_ne (by omega), Array.getElem?_setIfInBounds_ne (by omega)]; rw [Array.getElem?_setIfInBounds_self_of_lt (by simp; omega)]; simpa [ndVals] using hj
    | 2, _ => rw [Array.getElem?_setIfInBounds_ne (by omega), Array.getElem?_setIfInBounds_ne (by omega)]; rw [Array.getElem?_setIfInBounds_self_of_lt (by simp; omega)]; simpa [ndVals] using hj
    | 3, _ => rw [Array.getElem?_setIfInBounds_ne (by omega)]; rw [Array.getElem?_setIfInBounds_self_of_lt (by simp; omega)]; simpa [ndVals] using hj
    | 4, _ => rw [Array.getElem?_setIfInBounds_self_of_lt (by simp; omega)]; simpa [ndVals] using hj
theorem freeze (h : NodesG F w g n l) (hl : l.length = n) (hF : Sat F w) (hg : F g = none) (w0 : World) (h0 : w0.heap.size ≤ g) : ∃ F', Sat F' w ∧ Fle w0 F F' ∧ NodesF F' (some ⟨g, 0, none⟩) n l := by
  obtain ⟨cs, xs, h1, h2, h3, h4⟩ := h
  have hlen := h3.len
  obtain ⟨o, h5, h6⟩ := BlkL.freeze (F := F) ⟨cs, h1, h4⟩ hF (n := n) (size := 5) (by rw [hlen, hl])
  have hle : Fle w0 F (F.put g o) := Fle.put o hg h0
  exact ⟨_, h5, hle, (h3.cle hle.cle).toF h6⟩
end NodesG
/-- Below B all is as it was, and so it stays when the five cells of a node are stored. -/
theorem below_set5 {B : Nat} {w w' : World} (h : Below B w w') {g : Nat} (hg : B ≤ g) (o : Nat) (a b c d e : Value) : Below B w (set5 w' g o a b c d e) := ((((h.setCell hg _).setCell hg _).setCell hg _).setCell hg _).setCell hg _
theorem Sat.set5 {F : Fz} {w : World} (h : Sat F w) {g : Nat} (hg : F g = none) (o : Nat) (a b c d e : Value) : Sat F (Go.Proofs.Ytaomehlhopiblaa.set5 w g o a b c d e) := ((((h.setCell hg _).setCell hg _).setCell hg _).setCell hg _).setCell hg _
/-- The ints of a slice that is the call's own, or empty. -/
def IntsB (F : Fz) (w : World) (B : Nat) (A : Option Addr) (ks : List Int) : Prop := 0 < ks.length → ∃ g, A = some ⟨g, 0, none⟩ ∧ B ≤ g ∧ F g = none ∧ BlkL w g 3 (ks.map (Value.int .i64))
namespace IntsB
variable {F F' : Fz} {w w' : World} {B : Nat} {A : Option Addr} {ks : List Int}
theorem of {v : Value} {n : Nat} (h : Own F w B 3 1 v n (ks.map (Value.int .i64))) : ∃ A c, v = .slice A ks.length c ∧ ks.length ≤ c ∧ n = ks.length ∧ IntsB F w B A ks := by
  have hn : n = ks.length := by have := h.1.1; simpa using this.symm
  subst hn
  rcases h.blk with ⟨rfl, h1, h2⟩ | ⟨g, cap, rfl, h1, h2, h3, h4⟩
  · exact ⟨none, 0, by rw [h1], by omega, rfl, fun h => by omega⟩
  · exact ⟨_, cap, rfl, h1, rfl, fun _ => ⟨g, rfl, h2, h3, h4⟩⟩
theorem call (h : IntsB F w B A ks) (hb : Below w.heap.size w w') : IntsB F w' B A ks := fun h0 => let ⟨g, h1, h2, h3, h4⟩ := h h0; ⟨g, h1, h2, h3, h4.call hb⟩
theorem alloc (h : IntsB F w B A ks) (o : Obj) : IntsB F (w.alloc o) B A ks := fun h0 => let ⟨g, h1, h2, h3, h4⟩ := h h0; ⟨g, h1, h2, h3, h4.alloc o⟩
theorem drewN (h : IntsB F w B A ks) (k : Nat) : IntsB F (w.drewN k) B A ks := h
theorem far (h : IntsB F w B A ks) {p : Addr} (hp : p.block < B) (u : Value) : IntsB F (w.setCell p u) B A ks := fun h0 => let ⟨g, h1, h2, h3, h4⟩ := h h0; ⟨g, h1, h2, h3, h4.far (by omega) u⟩
/-- They are frozen. -/
theorem freeze (h : IntsB F w B A ks) (hF : Sat F w) (w0 : World) (h0 : w0.heap.size ≤ B) : ∃ F', Sat F' w ∧ Fle w0 F F' ∧ Rd F' 1 A ks.length (ks.map (Value.int .i64)) ∧ ∀ b, b < B → F' b = F b := by
  rcases Nat.eq_zero_or_pos ks.length with hz | hz
  · obtain rfl := List.eq_nil_of_length_eq_zero hz
    exact ⟨F, hF, Fle.refl _ _, Rd.nil, fun _ _ => rfl⟩
  · obtain ⟨g, rfl, h2, h3, h4⟩ := h hz
    obtain ⟨o, h5, h6⟩ := h4.freeze hF (n := ks.length) (size := 1) (by simp)
    refine ⟨_, h5, Fle.put o h3 (by omega), h6, fun b hb => ?_⟩
    unfold Fz.put
    rw [if_neg (by omega)]
end IntsB
theorem makeN (w : World) (n : Nat) (hn : n ≤ 1000000) : (Instr.makeSlice 35 (.int .i64 (n : Int)) (.int .i64 (n : Int))).run Try.prog w = .ok (.slice (some ⟨w.heap.size, 0, none⟩) n n) (w.alloc (.cells (madeCells (Value.agg #[.int .i64 0, .string ⟨#[]⟩, .int .i64 0, .int .i64 0, .slice none 0 0]).cells (n * 5)) 48)) := by
  obtain ⟨i, hi, hz0, hz1, hz2⟩ := info_parts node_info
  have h := run_make (P := Try.prog) w 35 48 i _ Try.underlying35 hi hz0 .i64 .i64 n n (by omega) (by omega) (by rw [hz2]; omega) (by omega)
  rw [hz1] at h
  simpa using h
end Go.Proofs.Ytaomehlhopiblaa
/-! The walk of tree.moved. -/
namespace Go.Proofs.Ytaomehlhopiblaa
open Go.RowKit
/-- A list whose kids are small numbers. -/
def KidsB (l : List Nd) : Prop := ∀ n ∈ l, n.kids.length ≤ 2 ∧ ∀ k ∈ n.kids, -100000 ≤ k ∧ k ≤ 100000
theorem ndBlk' {w : World} {g : Nat} {t : TypeId} {a b c d e : Value} (h : Blk w g t #[a, b, c, d, e]) :
    w.cell? ⟨g, 0, none⟩ = some a ∧ w.cell? ⟨g, 1, none⟩ = some b ∧ w.cell? ⟨g, 2, none⟩ = some c ∧ w.cell? ⟨g, 3, none⟩ = some d ∧ w.cell? ⟨g, 4, none⟩ = some e := blk5 h
set_option maxRecDepth 100000 in
set_option maxHeartbeats 4000000 in
theorem moved_w {F : Fz} {w : World} (hF : Sat F w) (l : List Nd) (hn : l.length ≤ 1000) (A : Option Addr) (n c : Nat) (hl : NodesF F A n l) (hkb : KidsB l) (d : Int) (hd1 : -100000 ≤ d) (hd2 : d ≤ 100000) :
    Calls Try.prog 54 #[.slice A n c, .int .i64 d] w (RetN F w (l.map (shiftN d))) := by
  obtain ⟨rfl, hl2⟩ := hl
  have hmk := makeN w l.length (by omega)
  have hFg : F w.heap.size = none := hF.none_ (Nat.le_refl _)
  have HFg := Lib.hid hFg
  clear hFg
  go_enter Try.func54, Try.ntmps54
  go_wp2_with fail
  go_loopw [6, 7, 8, 14] (fun _ _ _ i wr => ∃ (k : Nat) (F' : Fz), k ≤ l.length ∧ i = .int .i64 k ∧ Below w.heap.size w wr ∧ Sat F' wr ∧ Fle w F F' ∧ Hid (F' w.heap.size = none) ∧ NodesG F' wr w.heap.size l.length ((l.take k).map (shiftN d))) (fun _ _ _ i _ => l.length - (intOf i).toNat)
  case atStart => exact ⟨0, F, Nat.zero_le _, rfl, balloc _ _, hF.alloc _, Fle.refl _ _, HFg, NodesG.made F _ _ _ _ (Blk.new _ _ _)⟩
  case round =>
    obtain ⟨k, F', hk, rfl, hbl, hF', hle, hFg', hG⟩ := hrel
    obtain ⟨W, hW⟩ : ∃ W, W = wr := ⟨_, rfl⟩
    subst hW
    by_cases hlt : k < l.length
    · obtain ⟨ad, rfl, hL⟩ := hl2 (by omega)
      obtain ⟨Ak, ck, hck, hK, hd⟩ := hL k hlt
      obtain ⟨c0, c1, c2, c3, c4⟩ := hd.sat (hF.below hbl)
      have hltI : (k : Int) < (l.length : Int) := by omega
      have htk : (l.take (k + 1)).map (shiftN d) = (l.take k).map (shiftN d) ++ [shiftN d l[k]] := by
        rw [List.take_succ_eq_append_getElem hlt, List.map_append]; rfl
      obtain ⟨hk2, hkk⟩ := hkb _ (List.getElem_mem hlt)
      generalize hnd : l[k] = nd at *
      have HTK := Lib.hid htk
      have HKK := Lib.hid hkk
      have hC := fun (W : World) (h : Sat F' W) => clone_w h nd.kids Ak nd.kids.length ck (by omega) (hK.cle hle.cle)
      have HC := Lib.hid hC
      clear hnd htk hkk hd hC
      have hgr := hG.lt
      have hFn : F' W.heap.size = none := hF'.none_ (Nat.le_refl _)
      have HFn := Lib.hid hFn
      have hNB := Blk.new W 48 #[.int .i64 nd.kind, .string nd.name, .int .i64 nd.lo, .int .i64 nd.hi, .slice Ak nd.kids.length ck]
      clear hFn
      go_wp2_with (go_at_call 68; refine (HC.out _ (hF'.alloc _)).mono ?_; rintro e w1 ⟨v, rfl, hO, hw1, hF1⟩; obtain ⟨A1, c1', rfl, hc1, _, hI⟩ := IntsB.of hO; have hNB1 := hNB.call hw1; obtain ⟨f0, f1, f2, f3, f4⟩ := ndBlk (n := nd) hNB1; have fz4 := hNB1.frozen 4)
      have hbw1 : Below w.heap.size w w1 := hbl.trans (((balloc _ _).trans (hw1.mono (by simp))).mono hbl.size)
      have hG1 := (hG.alloc (.cells #[.int .i64 nd.kind, .string nd.name, .int .i64 nd.lo, .int .i64 nd.hi, .slice Ak nd.kids.length ck] 48)).call hw1
      have hz1 : W.heap.size + 1 ≤ w1.heap.size := by have := hw1.size; simpa using this
      go_loopw [8, 26] (fun _ j wr2 => ∃ jj : Nat, jj ≤ nd.kids.length ∧ j = .int .i64 jj ∧ Below w.heap.size w wr2 ∧ Sat F' wr2 ∧ NodesG F' wr2 w.heap.size l.length ((l.take k).map (shiftN d)) ∧ Blk wr2 W.heap.size 48 #[.int .i64 nd.kind, .string nd.name, .int .i64 nd.lo, .int .i64 nd.hi, .slice A1 nd.kids.length c1'] ∧ IntsB F' wr2 (W.heap.size + 1) A1 (upto (· + d) jj nd.kids)) (fun _ j _ => nd.kids.length - (intOf j).toNat)
      case atStart =>
        exact ⟨0, Nat.zero_le _, rfl, hbw1.setCell hbl.size _, hF1.setCell HFn.out _, hG1.far (by show w.heap.size ≠ W.heap.size; omega) _, hNB1.set_ 4 _, by
          rw [upto_zero]
          have hI' : IntsB F' w1 (W.heap.size + 1) A1 nd.kids := by simpa using hI
          exact hI'.far (by show W.heap.size < W.heap.size + 1; omega) _⟩
      case round =>
        obtain ⟨jj, hjj, rfl, hb2, hF2, hG2, hN2, hI2⟩ := hrel
        obtain ⟨g0, g1, g2, g3, g4⟩ := ndBlk' hN2
        by_cases hjl : jj < nd.kids.length
        · obtain ⟨g', rfl, hg', hFg2, hBL⟩ := hI2 (by rw [length_upto]; omega)
          have hcz := hBL.cell (j := jj) (u := .int .i64 nd.kids[jj]) (by rw [List.getElem?_map, upto_get _ hjl]; rfl)
          have hfz := hBL.frozen jj
          obtain ⟨hK1, hK2⟩ := HKK.out _ (List.getElem_mem hjl)
          have HU := Lib.hid (upto_set (· + d) hjl)
          have hjI : (jj : Int) < (nd.kids.length : Int) := by omega
          have hwz := hbl.size
          have hwg : w.heap.size ≤ g' := by omega
          have hn1 : w.heap.size ≠ g' := by omega
          have hn2 : W.heap.size ≠ g' := by omega
          generalize nd.kids[jj] = K at *
          go_wp2_with fail
          go_roundw
          case rel => exact ⟨jj + 1, by omega, by go_num, hb2.setCell hwg _, hF2.setCell hFg2 _, hG2.far hn1 _, hN2.far hn2 _, fun _ => ⟨g', rfl, hg', hFg2, by
            have h5 := hBL.set_ jj (.int .i64 (K + d))
            have h6 : ((upto (· + d) jj nd.kids).map (Value.int .i64)).set jj (.int .i64 (K + d)) = (upto (· + d) (jj + 1) nd.kids).map (Value.int .i64) := by rw [← List.map_set, HU.out]
            rw [← h6]
            exact h5⟩⟩
          case measure => simp [intOf]; omega
        · obtain rfl : jj = nd.kids.length := by omega
          have hdec : decide ((nd.kids.length : Int) < (nd.kids.length : Int)) = false := decide_eq_false (by omega)
          rw [upto_all _ (Nat.le_refl _)] at hI2
          obtain ⟨F2, hF3, hle2, hRd, hFb⟩ := hI2.freeze hF2 w (by omega)
          have hlen : ((l.take k).map (shiftN d)).length = k := by simp; omega
          obtain ⟨hroom, hfzg⟩ := hG2.room (by rw [hlen]; exact hlt)
          have hst := (hG2.cle hle2.cle).store (nd := shiftN d nd) (A := A1) (c := c1') (by rw [hlen]; exact hlt) (by simpa [shiftN] using hc1) hRd
          rw [hlen] at hroom hst
          rw [← HTK.out] at hst
          have hkl : (shiftN d nd).kids.length = nd.kids.length := by simp [shiftN]
          rw [hkl] at hst
          have HST := Lib.hid hst
          obtain ⟨v0, hv0⟩ := hroom 0 (by omega)
          obtain ⟨v1, hv1⟩ := hroom 1 (by omega)
          obtain ⟨v2, hv2⟩ := hroom 2 (by omega)
          obtain ⟨v3, hv3⟩ := hroom 3 (by omega)
          obtain ⟨v4, hv4⟩ := hroom 4 (by omega)
          rw [Nat.add_zero] at hv0
          have z0 := hfzg (k * 5)
          have z1 := hfzg (k * 5 + 1)
          have z2 := hfzg (k * 5 + 2)
          have z3 := hfzg (k * 5 + 3)
          have z4 := hfzg (k * 5 + 4)
          have hFw : F2 w.heap.size = none := (hFb _ (by omega)).trans hFg'.out
          have HFw := Lib.hid hFw
          clear hst hroom hfzg hFw hlen hkl
          go_wp2_with fail
          go_roundw
          case rel => exact ⟨k + 1, F2, by omega, by go_num, below_set5 hb2 (Nat.le_refl _) _ _ _ _ _ _, hF3.set5 HFw.out _ _ _ _ _ _, hle.trans hle2 (Nat.le_refl _), HFw, HST.out⟩
          case measure => simp [intOf]; omega
    · obtain rfl : k = l.length := by omega
      have hdec : decide ((l.length : Int) < (l.length : Int)) = false := decide_eq_false (by omega)
      rw [List.take_length] at hG
      obtain ⟨F2, h1, h2, h3⟩ := hG.freeze (by simp) hF' hFg'.out w (Nat.le_refl _)
      go_wp2_with fail
      go_ret
      exact ⟨_, l.length, F2, by rw [List.length_map] <;> rfl, by simp, by rw [List.length_map]; exact h3, hbl, h1, hle.trans h2 (Nat.le_refl _)⟩
end Go.Proofs.Ytaomehlhopiblaa
