/- The walks of law 14's Points and square. -/
import Derived.Test.YtedeppgipciblaaPReach
import Derived.Test.YtedeppgipciblaaBuild
import Derived.Test.YtedeppgipciblaaEq
import Derived.Test.YtedeppgipciblaaPathsP
import Derived.Test.YtedeppgipciblaaOver
import Derived.Test.YtedeppgipciblaaTab1
import Derived.Test.YtedeppgipciblaaApp
import Derived.Test.YtedeppgipciblaaOwn
import Derived.Test.YtedeppgipciblaaRPaths
set_option linter.unusedVariables false
set_option linter.unusedSimpArgs false
/-! The walks of law 14's Points and square. -/
namespace Go.Proofs.Ytedeppgipciblaa
open Go.RowKit
/-- The cells of rows of one word each. -/
def RowsO (F : Fz) (xs : List Value) (fs : List (BitVec 64)) : Prop := xs.length = fs.length ∧ ∀ i (h : i < fs.length), ∃ Ai ci, xs[i]? = some (.slice Ai 1 ci) ∧ Rd F 1 Ai 1 [u fs[i]]
theorem RowsO.snoc {F F' : Fz} {xs : List Value} {fs : List (BitVec 64)} (h : RowsO F xs fs) (hle : CLe F F') {x : BitVec 64} {A : Option Addr} {c : Nat} (hx : Rd F' 1 A 1 [u x]) : RowsO F' (xs ++ [.slice A 1 c]) (fs ++ [x]) := by
  obtain ⟨h1, h2⟩ := h
  refine ⟨by simp [h1], fun i hi => ?_⟩
  by_cases h3 : i < fs.length
  · obtain ⟨Ai, ci, h4, h5⟩ := h2 i h3
    refine ⟨Ai, ci, by rw [List.getElem?_append_left (by omega)]; exact h4, ?_⟩
    rw [List.getElem_append_left h3]
    exact Rd.cle h5 hle
  · simp at hi
    obtain rfl : i = fs.length := by omega
    refine ⟨A, c, by rw [List.getElem?_append_right (by omega)]; simp [h1], ?_⟩
    rw [List.getElem_append_right (Nat.le_refl _)]
    simpa using hx
theorem RowsO.cle {F F' : Fz} {xs : List Value} {fs : List (BitVec 64)} (h : RowsO F xs fs) (hle : CLe F F') : RowsO F' xs fs := ⟨h.1, fun i hi => let ⟨Ai, ci, a, b⟩ := h.2 i hi; ⟨Ai, ci, a, Rd.cle b hle⟩⟩
theorem RowsO.rdR {F : Fz} {xs : List Value} {fs : List (BitVec 64)} (h : RowsO F xs fs) {B : Option Addr} (hr : Rd F 1 B fs.length xs) : RdR F B fs.length (fs.map fun x => [x]) := by
  refine ⟨by simp, fun i hi => ?_⟩
  rw [List.length_map] at hi
  obtain ⟨Ai, ci, h4, h5⟩ := h.2 i hi
  obtain ⟨ad, v, rfl, hv, hc⟩ := hr.at1 hi
  rw [h4] at hv
  injection hv with hv
  subst hv
  refine ⟨ad, Ai, 1, ci, rfl, hc, ?_⟩
  rw [List.getD, List.getElem?_map, List.getElem?_eq_getElem hi]
  exact h5
theorem Own.capnil {F : Fz} {w : World} {B : Nat} {e : TypeId} {size n c k : Nat} {A : Option Addr} {xs : List Value} (h : Own F w B e size (.slice A n c) k xs) : A = none → c = 0 := by
  intro hA
  subst hA
  rcases h.1.2 with ⟨h1, _⟩ | ⟨g, cap, cur, h1, _⟩
  · injection h1
  · cases h1
set_option maxRecDepth 100000 in
set_option maxHeartbeats 2000000 in
theorem points_w {F : Fz} {w : World} (hF : Sat F w) (fs : List (BitVec 64)) (A : Option Addr) (n c : Nat) (hf : Rd F 1 A n (fs.map u)) (gs : List (BitVec 64)) (hgs : fs.take 9 = gs) (k : Nat) (hk : gs.length = k) :
    Calls Try.prog 22 #[.slice A n c] w fun e w' => ∃ B d, e = .returned (.slice B k d) ∧ k ≤ d ∧ (B = none → d = 0) ∧ RdR (heapF w') B k (gs.map fun x => [x]) ∧ Below w.heap.size w w' := by
  have HGS := Lib.hid hgs
  have HKL := Lib.hid hk
  clear hgs hk
  have hlen : n = fs.length := rd_len hf
  have HLEN := Lib.hid hlen
  clear hlen
  go_enter Try.func22, Try.ntmps22
  go_wp2_with fail
  go_loopw [3, 4, 5, 8] (fun v3 _ _ i wr => ∃ (m : Nat) (F' : Fz) (xs : List Value) (A3 : Option Addr) (c3 : Nat), m ≤ n ∧ m ≤ 9 ∧ i = .int .i64 m ∧ v3 = .slice A3 m c3 ∧ m ≤ c3 ∧ Own F' wr w.heap.size 37 1 (.slice A3 m c3) m xs ∧ RowsO F' xs (fs.take m) ∧ Sat F' wr ∧ Fle w F F' ∧ Below w.heap.size w wr) (fun _ _ _ i _ => n - (intOf i).toNat)
  case atStart => exact ⟨0, F, [], none, 0, Nat.zero_le _, Nat.zero_le _, rfl, rfl, Nat.le_refl _, Own.nil _ _ _ _ _, ⟨by simp, fun i h => by simp at h⟩, hF, Fle.refl _ _, Below.refl _ _⟩
  case round =>
    obtain ⟨m, F', xs, A3, c3, hm, hm9, rfl, rfl, hc3, hO, hR, hF', hle, hbl⟩ := hrel
    have HCN := Lib.hid hO.capnil
    by_cases h9 : m = 9
    · subst h9
      have HT : Hid (k = 9) := Lib.hid (by rw [← HKL.out, ← HGS.out, List.length_take, ← HLEN.out]; omega)
      rw [HGS.out] at hR
      obtain ⟨F2, B, d, e1, hd, hrd, hS2, hle2, _⟩ := hO.freeze hF' w (Nat.le_refl _)
      injection e1 with e1 _ e3
      subst e1 e3
      have hRR0 := RowsO.rdR (hR.cle hle2.cle) (B := A3) (by rw [HKL.out, HT.out]; exact hrd)
      have hRR := Lib.hid (hRR0.cle hS2.cle)
      clear hRR0
      by_cases hn9 : 9 < n
      · have hnI : (9 : Int) < (n : Int) := by omega
        obtain ⟨a0, v0, rfl, hv0, hc0⟩ := hf.at1 hn9
        have hz0 := (hF.below hbl).cell hc0
        rw [show a0.add 9 = ⟨a0.block, a0.off + 9, none⟩ by simp [Addr.add]] at hz0
        clear hR hO hv0 hc0
        go_wp2_with fail
        go_ret
        exact ⟨A3, c3, by rw [HT.out]; rfl, by rw [HT.out]; exact hc3, HCN.out, by have := hRR.out; rwa [HKL.out] at this, hbl⟩
      · obtain rfl : n = 9 := by omega
        have hnI : decide ((9 : Int) < ((9 : Nat) : Int)) = false := by decide
        clear hR hO
        go_wp2_with fail
        go_ret
        exact ⟨A3, c3, by rw [HT.out]; rfl, by rw [HT.out]; exact hc3, HCN.out, by have := hRR.out; rwa [HKL.out] at this, hbl⟩
    · by_cases hmn : m < n
      · have hmI : (m : Int) < (n : Int) := by omega
        have h9b : ((m : Int) == 9) = false := by rw [beq_eq_false_iff_ne]; omega
        have hml : m < fs.length := by rw [← HLEN.out]; exact hmn
        obtain ⟨a0, v0, rfl, hv0, hc0⟩ := hf.at1 hmn
        rw [List.getElem?_map, List.getElem?_eq_getElem hml] at hv0
        injection hv0 with hv0
        subst hv0
        have hz0 := (hF.below hbl).cell hc0
        have htk : fs.take (m + 1) = fs.take m ++ [fs[m]] := List.take_succ_eq_append_getElem hml
        generalize fs[m] = x at *
        have hg : F' wr.heap.size = none := hF'.none_ (Nat.le_refl _)
        have hzl := hbl.size
        have hle2 := Fle.put (w := wr) (.cells #[u x] 46 (0, 0)) hg (Nat.le_refl _)
        have hS2 := (hF'.alloc (.cells #[u x] 46)).put (Blk.new wr 46 #[u x])
        have hO2 := (hO.le hle2).alloc (.cells #[u x] 46)
        have hrx : Rd (F'.put wr.heap.size (.cells #[u x] 46 (0, 0))) 1 (some ⟨wr.heap.size, 0, none⟩) 1 [u x] := Blk.freeze F' wr.heap.size 46 #[u x] 1 1 rfl
        have hR2 := hR.snoc (c := 1) hle2.cle hrx
        rw [← htk] at hR2
        have hle3 := hle.trans hle2 hzl
        have hb2 := (hbl.alloc hzl (.cells #[u x] 46)).alloc (by simp; omega) (.cells #[.slice (some ⟨wr.heap.size, 0, none⟩) 1 1] 37)
        generalize F'.put wr.heap.size (.cells #[u x] 46 (0, 0)) = F2 at *
        have HR2 := Lib.hid hR2
        clear hR hR2 htk hrx hc0 hg hO hF' hle hle2
        go_wp2_with (at_builtin; refine wpList_push rfl (.tmp 15) (.tmp 18) _ rfl 37 (.slice none 0 0) 1 24 Try.underlying38 (by kernel_rfl) rfl (by omega) (hO2.alloc _) (hS2.alloc _) (by rfl) (wr.heap.size + 1) 1 #[.slice (some ⟨wr.heap.size, 0, none⟩) 1 1] (by rfl) (Blk.new2 _ _ _ _) rfl (by intro u hu; simp at hu; subst hu; rfl) (by unfold maxLen; omega) (by omega) (by simp; omega) ?_; intro v2 w2 hO3 hF3 hb3 hg3 hat3)
        obtain ⟨A2, c2, rfl, hc2⟩ := hO3.shape
        go_roundw
        case rel => exact ⟨m + 1, F2, _, A2, c2, by omega, by omega, by go_num, rfl, hc2, hO3, HR2.out, hF3, hle3, hb2.trans hb3⟩
        case measure => simp [intOf]; omega
      · obtain rfl : m = n := by omega
        have hdec : decide ((m : Int) < (m : Int)) = false := decide_eq_false (by omega)
        have HT : Hid (k = m) := Lib.hid (by rw [← HKL.out, ← HGS.out, List.length_take, ← HLEN.out]; omega)
        have HT2 : Hid (fs.take m = gs) := Lib.hid (by rw [← HGS.out, List.take_of_length_le (by rw [← HLEN.out]; exact Nat.le_refl _), List.take_of_length_le (by rw [← HLEN.out]; omega)])
        rw [HT2.out] at hR
        obtain ⟨F2, B, d, e1, hd, hrd, hS2, hle2, _⟩ := hO.freeze hF' w (Nat.le_refl _)
        injection e1 with e1 _ e3
        subst e1 e3
        have hRR0 := RowsO.rdR (hR.cle hle2.cle) (B := A3) (by rw [HKL.out, HT.out]; exact hrd)
        have hRR := Lib.hid (hRR0.cle hS2.cle)
        clear hRR0
        clear hR hO
        go_wp2_with fail
        go_ret
        exact ⟨A3, c3, by rw [HT.out]; rfl, by rw [HT.out]; exact hc3, HCN.out, by have := hRR.out; rwa [HKL.out] at this, hbl⟩
/-- A part of rows reads as a part of the list. -/
theorem RdR.cutR {F : Fz} {A : Option Addr} {n : Nat} {gs : List (List (BitVec 64))} (h : RdR F A n gs) {i k cap : Nat} (hik : i ≤ k) (hk : k ≤ n) (hc : n ≤ cap) : RdR F (if cap = i then A else A.map (·.add i)) (k - i) ((gs.drop i).take (k - i)) := by
  obtain ⟨h1, h2⟩ := h
  refine ⟨by rw [List.length_take, List.length_drop]; omega, fun j hj => ?_⟩
  rw [List.length_take, List.length_drop] at hj
  obtain ⟨ad, Ai, ni, ci, rfl, h3, h4⟩ := h2 (i + j) (by omega)
  rw [if_neg (by omega)]
  refine ⟨ad.add i, Ai, ni, ci, rfl, by rw [add_of_add]; exact h3, ?_⟩
  have e : ((gs.drop i).take (k - i)).getD j [] = gs.getD (i + j) [] := by
    rw [List.getD, List.getElem?_take_of_lt (by omega), List.getElem?_drop]; rfl
  rw [e]
  exact h4
theorem valS_cut (gs : List (List (BitVec 64))) (i k x q : Nat) (hx : x < k - i) : valS ((gs.drop i).take (k - i)) x q = valS gs (i + x) q := by
  unfold valS
  rw [List.getD, List.getElem?_take_of_lt hx, List.getElem?_drop]; rfl
end Go.Proofs.Ytedeppgipciblaa
/-! The walk of law 14's awake. -/
/-! The walk of law 14's awake. -/
namespace Go.Proofs.Ytedeppgipciblaa
open Go.RowKit
/-- The regular expression that every program must know. -/
def awakeM : List Nd := [⟨18, ⟨#[]⟩, 0, 0, []⟩, ⟨22, ⟨#[]⟩, 0, 0, [0]⟩]
def awakeMT : Tr := .un ⟨22, ⟨#[]⟩, 0, 0, [0]⟩ (.leaf ⟨18, ⟨#[]⟩, 0, 0, []⟩)
theorem awakeM_tree : treeS awakeM = some awakeMT := by kernel_rfl
theorem awakeM_reg : regL awakeM = true := by kernel_rfl
theorem awakeM_steps : (zs (kindS awakeM 18)).length = 1 := by kernel_rfl
theorem awakeM_nodes {w : World} {g1 g2 : Nat} (h1 : Blk w g1 3 #[.int .i64 0]) (h2 : Blk w g2 66 #[.int .i64 18, .string ⟨#[]⟩, .int .i64 0, .int .i64 0, .slice none 0 0, .int .i64 22, .string ⟨#[]⟩, .int .i64 0, .int .i64 0, .slice (some ⟨g1, 0, none⟩) 1 1]) :
    NodesF (heapF w) (some ⟨g2, 0, none⟩) 2 awakeM := by
  have hk : Rd (heapF w) 1 (some ⟨g1, 0, none⟩) 1 ([(0 : Int)].map (Value.int .i64)) := by
    refine ⟨rfl, fun _ => ⟨_, rfl, fun j u hu => ?_⟩⟩
    rw [add_lit0]
    unfold Fz.cell heapF
    rw [h1]
    simpa using hu
  have hv : NodesV (heapF w) awakeM [.int .i64 18, .string ⟨#[]⟩, .int .i64 0, .int .i64 0, .slice none 0 0, .int .i64 22, .string ⟨#[]⟩, .int .i64 0, .int .i64 0, .slice (some ⟨g1, 0, none⟩) 1 1] :=
    .cons _ _ none 0 _ (Nat.le_refl _) Rd.nil (.cons _ _ (some ⟨g1, 0, none⟩) 1 [] (Nat.le_refl _) hk .nil)
  refine hv.toF ⟨rfl, fun _ => ⟨_, rfl, fun j u hu => ?_⟩⟩
  rw [add_lit0]
  unfold Fz.cell heapF
  rw [h2]
  simpa using hu
theorem awakeM_vals {w : World} {g : Nat} (h : Blk w g 37 (zeros (.slice none 0 0) 2)) : RdR (heapF w) (some ⟨g, 0, none⟩) 2 [[], []] := by
  refine ⟨rfl, fun i hi => ⟨⟨g, 0, none⟩, none, 0, 0, rfl, ?_, ?_⟩⟩
  · rw [add_lit0]
    unfold Fz.cell heapF
    rw [h]
    simp at hi
    have : i = 0 ∨ i = 1 := by omega
    rcases this with rfl | rfl <;> rfl
  · simp at hi
    have : i = 0 ∨ i = 1 := by omega
    rcases this with rfl | rfl <;> exact Rd.nil
theorem awakeM_m (v : Nat → Nat → Bool) : reachT 2 v awakeMT 0 0 0 = true ∧ reachT 2 v awakeMT 0 0 1 = true ∧ reachT 2 v awakeMT 0 1 0 = false ∧ reachT 2 v awakeMT 0 1 1 = true := by
  have e : reachT 2 v awakeMT 0 = starM 2 stepM := rfl
  rw [e]
  decide
theorem makeR14 (w : World) : (Instr.makeSlice 38 (.int .i64 2) (.int .i64 2)).run Try.prog w = .ok (.slice (some ⟨w.heap.size, 0, none⟩) 2 2) (w.alloc (.cells (zeros (.slice none 0 0) 2) 37)) := by
  exact run_make1 38 37 (.slice none 0 0) 24 Try.underlying38 (by kernel_rfl) rfl 2 (by omega) (by omega) w
end Go.Proofs.Ytedeppgipciblaa
/-! The walk of the law PathsParts. -/
namespace Go.Proofs.Ytedeppgipciblaa
open Go.RowKit
theorem kindS_len (l : List Nd) (k : Int) : (kindS l k).length ≤ l.length := Nat.le_trans (List.length_filter_le _ _) (ownS_len l)
end Go.Proofs.Ytedeppgipciblaa
/-! Trees whose lists are one have one shape. -/
/-! Trees whose lists are one have one shape. -/
namespace Go.Proofs.Ytedeppgipciblaa
/-- Two trees of one shape, kind by kind. -/
def ShapeT : Tr → Tr → Prop
  | .leaf h, .leaf h' => h.kind = h'.kind
  | .un h a, .un h' a' => h.kind = h'.kind ∧ ShapeT a a'
  | .bin h a b, .bin h' a' b' => h.kind = h'.kind ∧ ShapeT a a' ∧ ShapeT b b'
  | _, _ => False
theorem shape_of_flat : ∀ (s t : Tr) (o : Nat), s.flat o = t.flat o → ShapeT s t
  | .leaf h, .leaf h', o, e => by
    simp only [Tr.flat, List.cons.injEq, and_true] at e
    have h1 := congrArg Nd.kind e
    exact h1
  | .leaf h, .un h' a', o, e => by
    have h1 := congrArg List.length e
    have := a'.size_pos
    simp [Tr.flat, Tr.length_flat] at h1; omega
  | .leaf h, .bin h' a' b', o, e => by
    have h1 := congrArg List.length e
    have := a'.size_pos
    simp [Tr.flat, Tr.length_flat] at h1; omega
  | .un h a, .leaf h', o, e => by
    have h1 := congrArg List.length e
    have := a.size_pos
    simp [Tr.flat, Tr.length_flat] at h1; omega
  | .bin h a b, .leaf h', o, e => by
    have h1 := congrArg List.length e
    have := a.size_pos
    simp [Tr.flat, Tr.length_flat] at h1; omega
  | .un h a, .un h' a', o, e => by
    simp only [Tr.flat] at e
    obtain ⟨h1, h2⟩ := List.append_inj' e rfl
    simp only [List.cons.injEq, and_true] at h2
    have h9 := congrArg Nd.kind h2
    exact ⟨h9, shape_of_flat a a' o h1⟩
  | .un h a, .bin h' a' b', o, e => by
    simp only [Tr.flat] at e
    obtain ⟨h1, h2⟩ := List.append_inj' e rfl
    simp only [List.cons.injEq, and_true] at h2
    have h3 := congrArg Nd.kids h2
    simp at h3
  | .bin h a b, .un h' a', o, e => by
    simp only [Tr.flat] at e
    obtain ⟨h1, h2⟩ := List.append_inj' e rfl
    simp only [List.cons.injEq, and_true] at h2
    have h3 := congrArg Nd.kids h2
    simp at h3
  | .bin h a b, .bin h' a' b', o, e => by
    simp only [Tr.flat] at e
    obtain ⟨h1, h2⟩ := List.append_inj' e rfl
    simp only [List.cons.injEq, and_true] at h2
    have h3 := congrArg Nd.kids h2
    simp only [List.cons.injEq, and_true] at h3
    have hsz : a.size = a'.size := by omega
    obtain ⟨h4, h5⟩ := List.append_inj h1 (by rw [Tr.length_flat, Tr.length_flat, hsz])
    rw [hsz] at h5
    have h9 := congrArg Nd.kind h2
    exact ⟨h9, shape_of_flat a a' o h4, shape_of_flat b b' _ h5⟩
theorem shape_tests : ∀ {s t : Tr}, ShapeT s t → testsT s = testsT t
  | .leaf _, .leaf _, _ => rfl
  | .un h a, .un h' a', e => by simp [testsT, e.1, shape_tests e.2]
  | .bin h a b, .bin h' a' b', e => by simp [testsT, shape_tests e.2.1, shape_tests e.2.2]
theorem shape_reach (n : Nat) (v : Nat → Nat → Bool) : ∀ {s t : Tr} (k : Nat), ShapeT s t → reachT n v s k = reachT n v t k
  | .leaf _, .leaf _, _, _ => rfl
  | .un h a, .un h' a', k, e => by simp [reachT, e.1, shape_reach n v k e.2]
  | .bin h a b, .bin h' a' b', k, e => by simp [reachT, e.1, shape_reach n v k e.2.1, shape_reach n v (k + testsT a') e.2.2, shape_tests e.2.1]
/-- What is read out of a tree's list reaches what the tree reaches. -/
theorem reach_of_flat {l : List Nd} {s t : Tr} (h : treeS l = some s) (e : l = t.flat 0) (n : Nat) (v : Nat → Nat → Bool) (k : Nat) : reachT n v s k = reachT n v t k :=
  shape_reach n v k (shape_of_flat s t 0 (by rw [← tree_flat h, e]))
/-! ### Steps one behind the other -/
def nd18 : Nd := ⟨18, ⟨#[]⟩, 0, 0, []⟩
def nd21 : Nd := ⟨21, ⟨#[]⟩, 0, 0, []⟩
def nd22 : Nd := ⟨22, ⟨#[]⟩, 0, 0, []⟩
/-- So many steps and one. -/
def seqT : Nat → Tr
  | 0 => .leaf nd18
  | p + 1 => .bin nd21 (seqT p) (.leaf nd18)
def manyT : Tr := .un nd22 (.leaf nd18)
theorem size_seq : ∀ p, (seqT p).size = 2 * p + 1
  | 0 => rfl
  | p + 1 => by simp [seqT, Tr.size, size_seq p]; omega
theorem seq_reach (n : Nat) (v : Nat → Nat → Bool) : ∀ (p k : Nat), EqM n (reachT n v (seqT p) k) (fun i j => decide (i + (p + 1) = j))
  | 0, k => fun i j _ _ => by simp [seqT, reachT, stepM]
  | p + 1, k => fun i j hi hj => by
    have ih := seq_reach n v p k
    rw [Bool.eq_iff_iff]
    show reachT n v (.bin nd21 (seqT p) (.leaf nd18)) k i j = true ↔ _
    have e : reachT n v (.bin nd21 (seqT p) (.leaf nd18)) k = prodM n (reachT n v (seqT p) k) stepM := rfl
    rw [e, prodM_iff]
    constructor
    · rintro ⟨x, hx, h1, h2⟩
      rw [ih i x hi hx] at h1
      simp [stepM] at h1 h2 ⊢
      omega
    · intro h
      simp at h
      refine ⟨i + (p + 1), by omega, ?_, ?_⟩
      · rw [ih i _ hi (by omega)]; simp
      · simp [stepM]; omega
theorem star_step (n : Nat) : EqM n (starM n stepM) (fun i j => decide (i ≤ j)) := fun i j hi hj => by
  rw [Bool.eq_iff_iff, star_iff step_fw hi hj]
  simp only [decide_eq_true_eq]
  constructor
  · rintro ⟨k, h⟩
    exact (pw_short step_fw k hi h).1
  · intro h
    refine ⟨j - i, ?_⟩
    generalize hd : j - i = d
    induction d generalizing i with
    | zero => exact pw_zero.2 (by omega)
    | succ d ih => exact pw_succ.2 ⟨i + 1, by omega, refl_iff.2 (.inr (by simp [stepM])), ih (i + 1) (by omega) (by omega) (by omega)⟩
theorem any_reach (n : Nat) (v : Nat → Nat → Bool) (p : Nat) : EqM n (reachT n v (.bin nd21 (seqT p) manyT) 0) (fun i j => decide (i + (p + 1) ≤ j)) := fun i j hi hj => by
  have e : reachT n v (.bin nd21 (seqT p) manyT) 0 = prodM n (reachT n v (seqT p) 0) (starM n stepM) := rfl
  have h1 := seq_reach n v p 0
  have h2 := star_step n
  rw [Bool.eq_iff_iff, e, prodM_iff]
  constructor
  · rintro ⟨x, hx, h3, h4⟩
    rw [h1 i x hi hx] at h3
    rw [h2 x j hx hj] at h4
    simp at h3 h4 ⊢
    omega
  · intro h
    simp at h
    refine ⟨i + (p + 1), by omega, ?_, ?_⟩
    · rw [h1 i _ hi (by omega)]; simp
    · rw [h2 _ j (by omega) hj]; simp; exact h
end Go.Proofs.Ytedeppgipciblaa
/-! The walk of the law PathsSteps. -/
namespace Go.Proofs.Ytedeppgipciblaa
open Go.RowKit
theorem ok_regS {b : Bool} {t : Tr} (h : okR b t = true) : ∃ t', treeS (t.flat 0) = some t' ∧ regS t'.root.kind = true := by
  obtain ⟨h1, h2, _⟩ := okR_iff.1 h
  obtain ⟨t', e1, _, e2⟩ := tree_of_valid h1
  exact ⟨t', e1, by rw [e2]; exact h2⟩
theorem node18 {w : World} {g : Nat} (h : Blk w g 66 #[.int .i64 18, .string ⟨#[]⟩, .int .i64 0, .int .i64 0, .slice none 0 0]) : NodesF (heapF w) (some ⟨g, 0, none⟩) 1 ((Tr.leaf nd18).flat 0) := by
  have hv : NodesV (heapF w) ((Tr.leaf nd18).flat 0) [.int .i64 18, .string ⟨#[]⟩, .int .i64 0, .int .i64 0, .slice none 0 0] := .cons _ _ none 0 [] (Nat.le_refl _) Rd.nil .nil
  refine hv.toF ⟨rfl, fun _ => ⟨_, rfl, fun j u hu => ?_⟩⟩
  rw [add_lit0]
  unfold Fz.cell heapF
  rw [h]
  simpa using hu
theorem many_flat : manyT.flat 0 = awakeM := rfl
theorem seq_ok : ∀ p, okR false (seqT p) = true
  | 0 => by decide
  | p + 1 => binR (n := nd21) (fK2 21 (by omega)) (by decide) (by decide) (by decide) _ _ (seq_ok p) (by decide)
theorem any_ok (p : Nat) : okR false (.bin nd21 (seqT p) manyT) = true := binR (n := nd21) (fK2 21 (by omega)) (by decide) (by decide) (by decide) _ _ (seq_ok p) (by decide)
theorem nil_rows {w : World} {g n : Nat} (h : Blk w g 37 (zeros (.slice none 0 0) n)) : RdR (heapF w) (some ⟨g, 0, none⟩) n (List.replicate n []) := by
  refine ⟨by simp, fun i hi => ⟨⟨g, 0, none⟩, none, 0, 0, rfl, ?_, ?_⟩⟩
  · rw [add_lit0]
    unfold Fz.cell heapF
    rw [h]
    simp at hi
    simp [zeros, hi]
  · simp at hi
    rw [List.getD, List.getElem?_replicate, if_pos hi]
    exact Rd.nil
theorem makeRn (n : Nat) (hn : n ≤ 1000000) (w : World) : (Instr.makeSlice 38 (.int .i64 (n : Int)) (.int .i64 (n : Int))).run Try.prog w = .ok (.slice (some ⟨w.heap.size, 0, none⟩) n n) (w.alloc (.cells (zeros (.slice none 0 0) n) 37)) :=
  run_make1 38 37 (.slice none 0 0) 24 Try.underlying38 (by kernel_rfl) rfl n (by omega) (by omega) w
end Go.Proofs.Ytedeppgipciblaa
/-! The walks of the reference's functions on sets by words: Trim, Of, List, Cut. -/
/-! The walks of the reference's functions on sets by words: Trim, Of, List, Cut. -/
namespace Go.Proofs.Ytedeppgipciblaa
open Go.RowKit
attribute [local go_sem ↓] bits_and bits_or not_bits arith_add arith_sub shift_l shift_r shift_lu shift_ru shift_int conv_uu shift_l1 shift_l1u bits_and1 arith_sub1
attribute [local go_sem] uz_toNat uz_nonneg
/-- What a function that gives a set leaves: its words, of which P holds. -/
def RetU (F : Fz) (w : World) (P : List (BitVec 64) → Prop) (e : Ending) (w' : World) : Prop := ∃ gs A c F', e = .returned (.slice A gs.length c) ∧ gs.length ≤ c ∧ Rd F' 1 A gs.length (gs.map u) ∧ Below w.heap.size w w' ∧ Sat F' w' ∧ Fle w F F' ∧ P gs
theorem wpList_allU {w : World} {ops : Array Oper} {rest : List Oper} {o : Oper} {a : Act} {Q : Exit → Act → World → Prop} (hgd : o.guard = none) (s x : Operand)
    (ho : o.op = .call { callee := .builtin .append, args := #[s, x], argTypes := #[37, 37] })
    {F F' : Fz} {B n : Nat} {v : Value} {xs : List (BitVec 64)} (hown : Own F w B 46 1 v n (xs.map u)) (hF : Sat F w) (hs : a.eval s = v)
    (A : Option Addr) (m c : Nat) (ys : List (BitVec 64)) (hx : a.eval x = .slice A m c) (hF' : Sat F' w) (hr : Rd F' 1 A m (ys.map u)) (hn : n + m ≤ 1000000) (hB : B ≤ w.heap.size)
    (h : ∀ v' w', Own F w' B 46 1 v' (n + m) ((xs ++ ys).map u) → Sat F w' → Below B w w' → w.grownBy w' v.ownBlock → (v'.ownBlock = v.ownBlock ∨ v'.ownBlock = some w.heap.size) → wpList Try.prog ops Q rest (a.put o.dst v') w') :
    wpList Try.prog ops Q (o :: rest) a w := by
  refine wpList_pushAll hgd s x _ ho 46 (.int .u64 0) 1 8 Try.underlying37 (by kernel_rfl) rfl (by omega) hown hF hs A m c _ hx hF' hr (ones_u ys) (by simp [maxLen]; omega) (by omega) hB ?_
  intro v' w' h1 h2 h3 h4 h5
  exact h v' w' (by rw [List.map_append]; exact h1) h2 h3 h4 h5
theorem bit_take {fs : List (BitVec 64)} {k : Nat} (h : ∀ j, k ≤ j → fs.getD j 0#64 = 0#64) (q : Nat) : bitAt (fs.take k) q = bitAt fs q := by
  unfold bitAt
  by_cases hq : q / 64 < k
  · rw [List.getD, List.getElem?_take_of_lt hq]; rfl
  · rw [h (q / 64) (by omega), List.getD, List.getElem?_eq_none (by simp; omega)]; simp
set_option maxRecDepth 100000 in
set_option maxHeartbeats 2000000 in
theorem trim_w {F Fs : Fz} {w : World} (hF : Sat F w) (hFs : Sat Fs w) (fs : List (BitVec 64)) (ad : Addr) (n c : Nat) (hc : n ≤ c) (hf : Rd Fs 1 (some ad) n (fs.map u)) (hn : n ≤ 1000) :
    Calls Try.prog 50 #[.slice (some ad) n c] w (RetU F w fun gs => gs.length ≤ fs.length ∧ ∀ q, bitAt gs q = bitAt fs q) := by
  have hlen := Lib.hid (rd_len hf)
  go_enter Try.func50, Try.ntmps50
  go_wp2_with fail
  go_loop [3] (fun v => ∃ k : Nat, k ≤ n ∧ v = .int .i64 k ∧ Hid (∀ j, k ≤ j → fs.getD j 0#64 = 0#64)) (fun v => (intOf v).toNat)
  case atStart => exact ⟨n, Nat.le_refl _, rfl, Lib.hid (fun j hj => by rw [List.getD, List.getElem?_eq_none (by rw [← hlen.out]; exact hj)]; rfl)⟩
  case round =>
    obtain ⟨k, hk, rfl, HZ⟩ := hrel
    have hpre := hf.pre hk
    rw [Nat.mul_one, ← List.map_take] at hpre
    have hkc : (k : Int) ≤ (c : Int) := by omega
    have hk1 : k ≤ 1000 := by omega
    have hfin : ∀ (v : Value) (w2 : World), Own F w2 w.heap.size 46 1 v (0 + k) (([] ++ fs.take k).map u) → Below w.heap.size (w.alloc (.cells #[] 46)) w2 → Sat F w2 → RetU F w (fun gs => gs.length ≤ fs.length ∧ ∀ q, bitAt gs q = bitAt fs q) (.returned v) w2 := by
      intro v w2 hO hb hS
      obtain ⟨F2, A, d, e1, hd, hr, hS2, hle, _⟩ := hO.freeze hS w (Nat.le_refl _)
      rw [List.nil_append] at hr
      have hl : (fs.take k).length = k := by rw [List.length_take, ← hlen.out]; omega
      rw [Nat.zero_add] at e1 hd hr
      refine ⟨fs.take k, A, d, F2, by rw [e1, hl], by rw [hl]; exact hd, by rw [hl]; exact hr, (balloc _ _).trans hb, hS2, hle, by rw [List.length_take]; omega, fun q => bit_take HZ.out q⟩
    have HF := Lib.hid hfin
    clear hfin
    rcases k with _ | j
    · go_wp2_with (at_builtin; refine wpList_allU rfl (.tmp 18) (.tmp 21) rfl (xs := []) (B := w.heap.size) (Own.empty F w w.heap.size _ 1 hF rfl (Nat.le_refl _)) (hF.alloc _) (by rfl) (some ad) 0 c (fs.take 0) (by rfl) (hFs.alloc _) hpre (by omega) (by simp) ?_; intro v2 w2 hO2 hF2 hb2 hg2 hat2)
      go_ret
      exact HF.out v2 w2 hO2 hb2 hF2
    · have hjn : j < n := by omega
      have hjl : j < fs.length := by rw [← hlen.out]; exact hjn
      have hjI : (j : Int) < (n : Int) := by omega
      obtain ⟨ad2, v, e2, hv, hcell⟩ := hf.at1 hjn
      injection e2 with e2
      subst e2
      rw [List.getElem?_map, List.getElem?_eq_getElem hjl] at hv
      injection hv with hv
      subst hv
      have hz := hFs.cell hcell
      have hgd : fs.getD j 0#64 = fs[j] := by rw [List.getD, List.getElem?_eq_getElem hjl]; rfl
      generalize fs[j] = x at *
      clear hcell
      by_cases hx : x = 0#64
      · have hxb : (uz x == 0) = true := by rw [hx]; rfl
        have hnx : ∀ i, j ≤ i → fs.getD i 0#64 = 0#64 := fun i hi => by
          by_cases e : i = j
          · rw [e, hgd, hx]
          · exact HZ.out i (by omega)
        have HNX := Lib.hid hnx
        clear hnx hx hgd
        go_wp2_with fail
        go_round
        case rel => exact ⟨j, by omega, by go_num, HNX⟩
        case measure => simp [intOf]
      · have hxb : (uz x == 0) = false := by rw [beq_eq_false_iff_ne]; exact fun e => hx (uz_inj e)
        clear hx hgd
        go_wp2_with (at_builtin; refine wpList_allU rfl (.tmp 18) (.tmp 21) rfl (xs := []) (B := w.heap.size) (Own.empty F w w.heap.size _ 1 hF rfl (Nat.le_refl _)) (hF.alloc _) (by rfl) (some ad) (j + 1) c (fs.take (j + 1)) (by rfl) (hFs.alloc _) hpre (by omega) (by simp) ?_; intro v2 w2 hO2 hF2 hb2 hg2 hat2)
        go_ret
        exact HF.out v2 w2 hO2 hb2 hF2
theorem bit_set {ws : List (BitVec 64)} {x : Nat} (hx : x / 64 < ws.length) (q : Nat) : bitAt (ws.set (x / 64) (ws.getD (x / 64) 0#64 ||| 1#64 <<< (x % 64))) q = (bitAt ws q || q == x) := by
  unfold bitAt
  by_cases h : q / 64 = x / 64
  · rw [h, List.getD, List.getElem?_set_self (by exact hx)]
    simp only [Option.getD_some, BitVec.getLsbD_or, BitVec.getLsbD_shiftLeft]
    rw [show (q == x) = decide (q % 64 = x % 64) from by rw [Bool.eq_iff_iff, beq_iff_eq, decide_eq_true_eq]; omega]
    congr 1
    rw [Bool.eq_iff_iff]
    simp only [Bool.and_eq_true, decide_eq_true_eq, Bool.not_eq_true', decide_eq_false_iff_not, BitVec.getLsbD_one]
    omega
  · have e : (ws.set (x / 64) (ws.getD (x / 64) 0#64 ||| 1#64 <<< (x % 64))).getD (q / 64) 0#64 = ws.getD (q / 64) 0#64 := by
      rw [List.getD, List.getElem?_set_ne (fun e => h e.symm)]; rfl
    rw [e, show (q == x) = false from by rw [beq_eq_false_iff_ne]; intro e; exact h (by rw [e]), Bool.or_false]
theorem make64 (w : World) : (Instr.makeSlice 37 (.int .i64 64) (.int .i64 64)).run Try.prog w = .ok (.slice (some ⟨w.heap.size, 0, none⟩) 64 64) (w.alloc (.cells ((List.replicate 64 0#64).map u).toArray 46)) := by
  have h := run_make1 (P := Try.prog) 37 46 (.int .u64 0) 8 Try.underlying37 (by kernel_rfl) rfl 64 (by omega) (by omega) w
  have e : zeros (.int .u64 0) 64 = ((List.replicate 64 0#64).map u).toArray := by unfold zeros; rw [List.map_replicate]; rfl
  rw [e] at h
  exact h
set_option maxRecDepth 100000 in
set_option maxHeartbeats 2000000 in
theorem of_w {F Fs : Fz} {w : World} (hF : Sat F w) (hFs : Sat Fs w) (xs : List Nat) (hx : ∀ x ∈ xs, x ≤ 4095) (A : Option Addr) (n c : Nat) (hf : Rd Fs 1 A n ((zs xs).map encI)) (hn : n ≤ 100000) :
    Calls Try.prog 24 #[.slice A n c] w (RetU F w fun gs => gs.length ≤ 64 ∧ ∀ q, bitAt gs q = xs.contains q) := by
  have hlen : n = xs.length := by have := hf.1; simp [zs] at this; omega
  have HLEN := Lib.hid hlen
  have HX := Lib.hid hx
  have hmk := make64
  clear hlen hx
  go_enter Try.func24, Try.ntmps24
  go_wp2_with fail
  go_loopw [5, 9] (fun _ i wr => ∃ (m : Nat) (ws : List (BitVec 64)), m ≤ n ∧ i = .int .i64 m ∧ Hid (ws.length = 64) ∧ Hid (∀ q, bitAt ws q = (xs.take m).contains q) ∧ Blk wr w.heap.size 46 (ws.map u).toArray ∧ Below w.heap.size w wr) (fun _ i _ => n - (intOf i).toNat)
  case atStart => exact ⟨0, List.replicate 64 0#64, Nat.zero_le _, rfl, Lib.hid (by simp), Lib.hid (fun q => by
    unfold bitAt
    rw [List.getD, List.getElem?_replicate]
    split <;> simp), Blk.new _ _ _, balloc _ _⟩
  case round =>
    obtain ⟨m, ws, hm, rfl, HL, HB, hB, hbl⟩ := hrel
    by_cases hmn : m < n
    · have hmI : (m : Int) < (n : Int) := by omega
      have hml : m < xs.length := by rw [← HLEN.out]; exact hmn
      obtain ⟨a0, v0, rfl, hv0, hc0⟩ := hf.at1 hmn
      have hv1 : ((zs xs).map encI)[m]? = some (encI ((xs[m] : Nat) : Int)) := by simp [zs, hml]
      rw [hv1] at hv0
      injection hv0 with hv0
      subst hv0
      have hz0 := (hFs.below hbl).cell hc0
      have hxb := HX.out _ (List.getElem_mem hml)
      have htk : xs.take (m + 1) = xs.take m ++ [xs[m]] := List.take_succ_eq_append_getElem hml
      generalize xs[m] = x at *
      have hx1 : (x : Int) ≤ 4095 := by omega
      have hx2 : x / 64 < ws.length := by rw [HL.out]; omega
      have hx3 : (x : Int) / 64 < 64 := by omega
      have hx4 : ((x : Int) / 64).toNat = x / 64 := by omega
      have hx5 : 0 ≤ (x : Int) % 64 := by omega
      have hx6 : (x : Int) % 64 < 64 := by omega
      have hx7 : ((x : Int) % 64).toNat = x % 64 := by omega
      have hx8 : x % 64 < 64 := by omega
      have hc1 := hB.cellL (k := x / 64) (x := ws.getD (x / 64) 0#64) (by rw [List.getD, List.getElem?_eq_getElem hx2]; rfl)
      have hfz := hB.frozen (x / 64)
      have hst := hB.setL (x / 64) (ws.getD (x / 64) 0#64 ||| 1#64 <<< (x % 64)) rfl
      have hbs := fun u => hbl.setCell (p := ⟨w.heap.size, x / 64, none⟩) (Nat.le_refl _) u
      have HS : Hid (∀ q, bitAt (ws.set (x / 64) (ws.getD (x / 64) 0#64 ||| 1#64 <<< (x % 64))) q = (xs.take (m + 1)).contains q) := Lib.hid (fun q => by
        rw [bit_set hx2, HB.out, htk]
        simp [List.contains_append, Bool.or_comm]
        congr 1 <;> (rw [Bool.eq_iff_iff]; simp [eq_comm]))
      have HL2 : Hid ((ws.set (x / 64) (ws.getD (x / 64) 0#64 ||| 1#64 <<< (x % 64))).length = 64) := Lib.hid (by rw [List.length_set, HL.out])
      have HST := Lib.hid hst
      generalize ws.set (x / 64) (ws.getD (x / 64) 0#64 ||| 1#64 <<< (x % 64)) = ws2 at *
      generalize ws.getD (x / 64) 0#64 = y at *
      clear hst htk hc0 hv1 hx2
      go_wp2_with fail
      go_roundw
      case rel => exact ⟨m + 1, ws2, by omega, by go_num, HL2, HS, HST.out, hbs _⟩
      case measure => simp [intOf]; omega
    · obtain rfl : m = n := by omega
      have hdec : decide ((m : Int) < (m : Int)) = false := decide_eq_false (by omega)
      have HT : Hid (xs.take m = xs) := Lib.hid (by rw [HLEN.out, List.take_length])
      have hr := hB.rdH
      rw [HL.out] at hr
      have hTr := Lib.hid (trim_w (hF.below hbl) (sat_heapF wr) ws ⟨w.heap.size, 0, none⟩ 64 64 (by omega) hr (by omega))
      clear hr
      go_wp2_with fail
      go_at_call 50
      refine hTr.out.mono ?_
      rintro e w2 ⟨gs, B, d, F2, rfl, hd, hrd, hb2, hS2, hle2, hg1, hg2⟩
      obtain ⟨K, hK⟩ : ∃ K, gs.length = K := ⟨_, rfl⟩
      have HK := Lib.hid hK
      rw [hK] at hd hrd hg1
      rw [HK.out]
      have HG := Lib.hid hg2
      clear hK hg2
      go_wp2_with fail
      go_ret
      exact ⟨gs, B, d, F2, by rw [HK.out]; rfl, by rw [HK.out]; exact hd, by rw [HK.out]; exact hrd, hbl.trans (hb2.mono hbl.size), hS2, hle2.old hbl.size, by rw [HK.out, ← HL.out]; exact hg1, fun q => by rw [HG.out, HB.out, HT.out]⟩
/-- All numbers of a set, rising. -/
def bitsL (fs : List (BitVec 64)) : List Nat := (List.range (64 * fs.length)).filter (bitAt fs)
theorem mem_bitsL {fs : List (BitVec 64)} {q : Nat} : q ∈ bitsL fs ↔ bitAt fs q = true := by
  unfold bitsL
  rw [List.mem_filter, List.mem_range]
  constructor
  · exact fun h => h.2
  · intro h
    refine ⟨?_, h⟩
    by_cases hq : q < 64 * fs.length
    · exact hq
    · rw [bit_out fs q (by omega)] at h; cases h
/-- What List leaves: a row of numbers of its own. -/
def RetIO (F : Fz) (w : World) (xs : List Int) (e : Ending) (w' : World) : Prop := ∃ A c, e = .returned (.slice A xs.length c) ∧ xs.length ≤ c ∧ Own F w' w.heap.size 3 1 (.slice A xs.length c) xs.length (xs.map encI) ∧ Below w.heap.size w w'
end Go.Proofs.Ytedeppgipciblaa
/-! The walk of the reference's Cut. -/
namespace Go.Proofs.Ytedeppgipciblaa
open Go.RowKit
attribute [local go_sem ↓] bits_and bits_or not_bits arith_add arith_sub shift_l shift_r shift_lu shift_ru shift_int conv_uu shift_l1 shift_l1u bits_and1 arith_sub1
attribute [local go_sem] uz_toNat uz_nonneg
section
variable {F : Fz} {w : World} {B : Nat} {e : TypeId} {g n c : Nat} {xs : List Value}
theorem Own.cellAt (h : Own F w B e 1 (.slice (some ⟨g, 0, none⟩) n c) n xs) {i : Nat} (hi : i < n) : w.cell? ⟨g, i, none⟩ = xs[i]? ∧ w.frozen? ⟨g, i, none⟩ = false ∧ B ≤ g := by
  obtain ⟨⟨hl, h1⟩, h2⟩ := h
  rcases h1 with ⟨h3, _⟩ | ⟨g', cap, cur, h3, hbase, hb, h5, h6, h7, h8⟩
  · cases h3
  · injection h3 with h3 _ h4
    injection h3 with h3
    injection h3 with h3
    subst h3 h4
    have hB : Blk w g e cur := hb
    refine ⟨?_, hB.frozen i, hbase⟩
    rw [hB.cell, ← h8, List.getElem?_take_of_lt (by omega), Array.getElem?_toList]
theorem Own.store (h : Own F w B e 1 (.slice (some ⟨g, 0, none⟩) n c) n xs) {i : Nat} (hi : i < n) (y : Value) : Own F (w.setCell ⟨g, i, none⟩ y) B e 1 (.slice (some ⟨g, 0, none⟩) n c) n (xs.set i y) := by
  obtain ⟨⟨hl, h1⟩, h2⟩ := h
  rcases h1 with ⟨h3, _⟩ | ⟨g', cap, cur, h3, hbase, hb, h5, h6, h7, h8⟩
  · cases h3
  · injection h3 with h3 _ h4
    injection h3 with h3
    injection h3 with h3
    subst h3 h4
    have hB : Blk w g e cur := hb
    refine ⟨⟨by simpa using hl, .inr ⟨g, c, _, rfl, hbase, hB.set_ i y, h5, h6, by simpa using h7, ?_⟩⟩, h2⟩
    rw [Array.toList_setIfInBounds, ← h8, List.take_set]
end
def cutW (n j : Nat) (x : BitVec 64) : BitVec 64 := if n = 0 ∨ n / 64 < j then 0#64 else if n / 64 = j then x &&& (1#64 <<< (n % 64) - 1#64) else x
theorem cut_bit (n : Nat) (fs : List (BitVec 64)) (q : Nat) : bitAt (fs.mapIdx (cutW n)) q = (bitAt fs q && decide (q < n)) := by
  unfold bitAt
  rw [List.getD, List.getElem?_mapIdx, List.getD]
  cases hx : fs[q / 64]? with
  | none => simp
  | some x =>
    simp only [Option.map_some, Option.getD_some]
    unfold cutW
    by_cases h1 : n = 0 ∨ n / 64 < q / 64
    · rw [if_pos h1, show decide (q < n) = false from decide_eq_false (by omega)]; simp
    · rw [if_neg h1]
      by_cases h2 : n / 64 = q / 64
      · rw [if_pos h2, BitVec.getLsbD_and, mask_bit _ _ (by omega)]
        congr 1
        rw [decide_eq_decide]
        omega
      · rw [if_neg h2, show decide (q < n) = true from decide_eq_true (by omega), Bool.and_true]
theorem trim_nil {F : Fz} {w : World} (hF : Sat F w) : Calls Try.prog 50 #[.slice none 0 0] w (RetU F w fun gs => gs.length ≤ 0 ∧ ∀ q, bitAt gs q = bitAt [] q) := by
  go_enter Try.func50, Try.ntmps50
  go_wp2_with fail
  go_loop [3] (fun v => v = .int .i64 0) (fun v => 0)
  case atStart => rfl
  case round =>
    subst hrel
    go_wp2_with (at_builtin; refine wpList_allU rfl (.tmp 18) (.tmp 21) rfl (xs := []) (B := w.heap.size) (Own.empty F w w.heap.size _ 1 hF rfl (Nat.le_refl _)) (hF.alloc _) (by rfl) none 0 0 [] (by rfl) (hF.alloc _) Rd.nil (by omega) (by simp) ?_; intro v2 w2 hO2 hF2 hb2 hg2 hat2)
    obtain ⟨F2, A, d, rfl, hd, hr, hS2, hle, _⟩ := hO2.freeze hF2 w (Nat.le_refl _)
    go_ret
    exact ⟨[], A, d, F2, rfl, Nat.zero_le _, hr, (balloc _ _).trans hb2, hS2, hle, by simp, fun q => rfl⟩
end Go.Proofs.Ytedeppgipciblaa
/-! The walk of law 14's Beside. -/
namespace Go.Proofs.Ytedeppgipciblaa
open Go.RowKit
/-- The cells of rows of words. -/
def RowsG (F : Fz) (xs : List Value) (rows : List (List (BitVec 64))) : Prop := xs.length = rows.length ∧ ∀ i (h : i < rows.length), ∃ Ai ni ci, xs[i]? = some (.slice Ai ni ci) ∧ Rd F 1 Ai ni (rows[i].map u)
theorem RowsG.cle {F F' : Fz} {xs : List Value} {rows : List (List (BitVec 64))} (h : RowsG F xs rows) (hle : CLe F F') : RowsG F' xs rows := ⟨h.1, fun i hi => let ⟨Ai, ni, ci, a, b⟩ := h.2 i hi; ⟨Ai, ni, ci, a, Rd.cle b hle⟩⟩
theorem RowsG.snoc {F : Fz} {xs : List Value} {rows : List (List (BitVec 64))} (h : RowsG F xs rows) {r : List (BitVec 64)} {A : Option Addr} {n c : Nat} (hx : Rd F 1 A n (r.map u)) : RowsG F (xs ++ [.slice A n c]) (rows ++ [r]) := by
  obtain ⟨h1, h2⟩ := h
  refine ⟨by simp [h1], fun i hi => ?_⟩
  by_cases h3 : i < rows.length
  · obtain ⟨Ai, ni, ci, h4, h5⟩ := h2 i h3
    refine ⟨Ai, ni, ci, by rw [List.getElem?_append_left (by omega)]; exact h4, ?_⟩
    rw [List.getElem_append_left h3]
    exact h5
  · simp at hi
    obtain rfl : i = rows.length := by omega
    refine ⟨A, n, c, by rw [List.getElem?_append_right (by omega)]; simp [h1], ?_⟩
    rw [List.getElem_append_right (Nat.le_refl _)]
    simpa using hx
theorem RowsG.rdR {F : Fz} {xs : List Value} {rows : List (List (BitVec 64))} (h : RowsG F xs rows) {B : Option Addr} (hr : Rd F 1 B rows.length xs) : RdR F B rows.length rows := by
  refine ⟨rfl, fun i hi => ?_⟩
  obtain ⟨Ai, ni, ci, h4, h5⟩ := h.2 i hi
  obtain ⟨ad, v, rfl, hv, hc⟩ := hr.at1 hi
  rw [h4] at hv
  injection hv with hv
  subst hv
  refine ⟨ad, Ai, ni, ci, rfl, hc, ?_⟩
  rw [List.getD, List.getElem?_eq_getElem hi]
  exact h5
/-- Of two sets of tests, the second one's told from ta on. -/
def bes (ta : Nat) (x y : BitVec 64) (q : Nat) : Bool := (bitAt [x] q && decide (q < ta)) || (decide (ta ≤ q) && bitAt [y] (q - ta))
theorem bes_list (ta : Nat) (x y : BitVec 64) (gs : List (BitVec 64)) (h : ∀ q, bitAt gs q = (bitAt [x] q && decide (q < ta))) (q : Nat) : (bitsL gs ++ (bitsL [y]).map (ta + ·)).contains q = bes ta x y q := by
  rw [Bool.eq_iff_iff, List.contains_iff_mem, List.mem_append, mem_bitsL, h, List.mem_map, bes, Bool.or_eq_true, Bool.and_eq_true (decide (ta ≤ q)), decide_eq_true_eq]
  apply or_congr Iff.rfl
  constructor
  · rintro ⟨b, hb, rfl⟩
    rw [mem_bitsL] at hb
    exact ⟨by omega, by rw [Nat.add_sub_cancel_left]; exact hb⟩
  · rintro ⟨h1, h2⟩
    exact ⟨q - ta, mem_bitsL.2 h2, by omega⟩
theorem bitsL_lt {fs : List (BitVec 64)} {q : Nat} (h : q ∈ bitsL fs) : q < 64 * fs.length := by
  unfold bitsL at h
  rw [List.mem_filter, List.mem_range] at h
  exact h.1
theorem bitsL_len (fs : List (BitVec 64)) : (bitsL fs).length ≤ 64 * fs.length := by
  unfold bitsL
  exact Nat.le_trans (List.length_filter_le _ _) (by simp)
theorem Own.le3 {F F' : Fz} {w : World} {B : Nat} {e : TypeId} {size n : Nat} {v : Value} {xs : List Value} (h : Own F w B e size v n xs) (hv : ∀ g, v.ownBlock = some g → F' g = F g) : Own F' w B e size v n xs := ⟨h.1, fun g hg => (hv g hg).trans (h.2 g hg)⟩
end Go.Proofs.Ytedeppgipciblaa
/-! The walk of the law PathsUnion. -/
namespace Go.Proofs.Ytedeppgipciblaa
open Go.RowKit
def nd20 : Nd := ⟨20, ⟨#[]⟩, 0, 0, []⟩
theorem alt_reach {n : Nat} {va vb v : Nat → Nat → Bool} {ta tb : Tr} (ha : ∀ i, i < n → ∀ q, q < testsT ta → v i q = va i q) (hb : ∀ i, i < n → ∀ q, q < testsT tb → v i (testsT ta + q) = vb i q) :
    EqM n (reachT n v (.bin nd20 ta tb) 0) (orM (reachT n va ta 0) (reachT n vb tb 0)) ∧ EqM n (reachT n v (.bin nd21 ta tb) 0) (prodM n (reachT n va ta 0) (reachT n vb tb 0)) := by
  have h1 := reach_congr n v va ta 0 0 (fun i hi q hq => by simpa using ha i hi q hq)
  have h2 := reach_congr n v vb tb (0 + testsT ta) 0 (fun i hi q hq => by simpa using hb i hi q hq)
  exact ⟨orM_congr h1 h2, prod_congr h1 h2⟩
theorem RdR.preR {F : Fz} {A : Option Addr} {n : Nat} {gs : List (List (BitVec 64))} (h : RdR F A n gs) {k : Nat} (hk : k ≤ n) : RdR F A k (gs.take k) := by
  obtain ⟨h1, h2⟩ := h
  refine ⟨by rw [List.length_take]; omega, fun j hj => ?_⟩
  rw [List.length_take] at hj
  obtain ⟨ad, Ai, ni, ci, rfl, h3, h4⟩ := h2 j (by omega)
  refine ⟨ad, Ai, ni, ci, rfl, h3, ?_⟩
  have e : (gs.take k).getD j [] = gs.getD j [] := by rw [List.getD, List.getElem?_take_of_lt (by omega)]; rfl
  rw [e]; exact h4
theorem valS_pre (gs : List (List (BitVec 64))) (k x q : Nat) (hx : x < k) : valS (gs.take k) x q = valS gs x q := by
  unfold valS
  rw [List.getD, List.getElem?_take_of_lt hx]; rfl
theorem valS_one (fs : List (BitVec 64)) (i q : Nat) (hi : i < fs.length) : valS (fs.map fun x => [x]) i q = bitAt [fs.getD i 0#64] q := by
  unfold valS
  congr 1
  simp [List.getD, hi]
theorem any_succ (f : Nat → Bool) (l : Nat) : (List.range (l + 1)).any f = ((List.range l).any f || f l) := by rw [List.range_succ, List.any_append]; simp
/-- Tests of the two, told one behind the other. -/
theorem bes_vals {ta : Nat} {fa fb : List (BitVec 64)} {rows : List (List (BitVec 64))} {n : Nat} (ha : n ≤ fa.length) (hb : n ≤ fb.length) (h : ∀ i, i < n → ∀ q, bitAt (rows.getD i []) q = bes ta (fa.getD i 0#64) (fb.getD i 0#64) q) :
    (∀ i, i < n → ∀ q, q < ta → valS rows i q = valS ((fa.map fun x => [x]).take n) i q) ∧ ∀ i, i < n → ∀ q, valS rows i (ta + q) = valS ((fb.map fun x => [x]).take n) i q := by
  refine ⟨fun i hi q hq => ?_, fun i hi q => ?_⟩
  · rw [valS_pre _ _ _ _ hi, valS_one _ _ _ (by omega)]
    show bitAt (rows.getD i []) q = _
    rw [h i hi]
    unfold bes
    simp [hq, show ¬ ta ≤ q by omega]
  · rw [valS_pre _ _ _ _ hi, valS_one _ _ _ (by omega)]
    show bitAt (rows.getD i []) (ta + q) = _
    rw [h i hi]
    unfold bes
    simp [show ¬ ta + q < ta by omega]
end Go.Proofs.Ytedeppgipciblaa
