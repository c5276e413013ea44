/- What stands below a node, summed up: plain lemmas. -/
import Derived.Test.YtdohbbjinbofbaaGreatBoundV
import Derived.Deep.RegionHeld3
set_option linter.unusedVariables false
set_option linter.unusedSimpArgs false
/-! What stands below a node, summed up: plain lemmas. -/
namespace Go.Proofs.YtdohbbjinbofbaaGreat
theorem parts_map (f : Tr → Nat) (h19 : ∀ h a, h.kind = 19 → f (.un h a) = f a) {t : Tr} {i : Nat} (hi : i < t.size) {h : Nd} {a : Tr} (hx : t.sub i = .un h a) :
    ((testsL a (i - a.size)).map (· - 1)).map (fun j => f (t.sub j)) = (testTr a).map f := by
  obtain ⟨h1, _, h3⟩ := sub_un_kid hi hx
  rw [List.map_map]
  apply List.ext_getElem?
  intro k
  rw [List.getElem?_map, List.getElem?_map]
  by_cases hk : k < testsT a
  · have e : (testsL a (i - a.size))[k]? = some ((testsL a (i - a.size))[k]'(by rw [length_tests]; exact hk)) := List.getElem?_eq_getElem _
    obtain ⟨p1, p2, p3⟩ := tests_sub a (i - a.size) k _ e
    rw [e]
    generalize (testsL a (i - a.size))[k]'(by rw [length_tests]; exact hk) = p at *
    obtain ⟨h', f', ef, hk19⟩ := testTr_un a _ (List.mem_of_getElem? p3)
    have h4 := h3 (p - (i - a.size)) p2
    rw [show i - a.size + (p - (i - a.size)) = p by omega, ef] at h4
    obtain ⟨_, h5, _⟩ := sub_un_kid (show p < t.size by omega) h4
    rw [p3, ef]
    simp only [Option.map_some, Function.comp]
    rw [h5, h19 _ _ hk19]
  · rw [List.getElem?_eq_none (by rw [length_tests]; omega), List.getElem?_eq_none (by rw [length_testTr]; omega)]
    rfl
theorem parts_mem {t : Tr} (hv : validT t = true) {i : Nat} (hi : i < t.size) {h : Nd} {a : Tr} (hx : t.sub i = .un h a) : ∀ j ∈ (testsL a (i - a.size)).map (· - 1), j < i ∧ (t.sub j).root.kind < 18 := by
  obtain ⟨h1, _, h3⟩ := sub_un_kid hi hx
  intro j hj
  obtain ⟨p, hp, rfl⟩ := List.mem_map.1 hj
  obtain ⟨k, hk, e⟩ := List.getElem_of_mem hp
  have e2 : (testsL a (i - a.size))[k]? = some p := by rw [List.getElem?_eq_getElem hk, e]
  obtain ⟨p1, p2, p3⟩ := tests_sub a (i - a.size) k _ e2
  obtain ⟨h', f', ef, hk19⟩ := testTr_un a _ (List.mem_of_getElem? p3)
  have h4 := h3 (p - (i - a.size)) p2
  rw [show i - a.size + (p - (i - a.size)) = p by omega, ef] at h4
  obtain ⟨hf, h5, _⟩ := sub_un_kid (show p < t.size by omega) h4
  have hfp := f'.size_pos
  refine ⟨by omega, ?_⟩
  rw [h5]
  have hvp := sub_valid t p hv
  rw [h4] at hvp
  simp only [validT, Bool.and_eq_true, beq_iff_eq] at hvp
  have := hvp.1.2
  rw [hk19] at this
  simp [regS, wantsS] at this
  omega
theorem form_kid {k : Int} {a : Tr} (h : regS a.root.kind = wantsS k) (hk : k < 18) (hm : ¬ (k = 16 ∨ k = 17)) : a.root.kind < 18 := by
  have : wantsS k = false := by unfold wantsS; rw [decide_eq_false_iff_not]; omega
  rw [this] at h
  simp [regS] at h
  omega
theorem bel_mem {t : Tr} (hv : validT t = true) (i : Nat) (hi : i < t.size) (hk : (t.sub i).root.kind < 18) : ∀ j ∈ belM (t.sub i) i, j < i ∧ (t.sub j).root.kind < 18 := by
  have hvi := sub_valid t i hv
  cases hx : t.sub i with
  | leaf h => intro j hj; simp [belM] at hj
  | un h a =>
    intro j hj
    rw [hx] at hk hvi
    have hk' : h.kind < 18 := hk
    obtain ⟨h1, h2, h3⟩ := sub_un_kid hi hx
    have hp := a.size_pos
    simp only [belM] at hj
    by_cases hm : h.kind = 16 ∨ h.kind = 17
    · rw [if_pos hm] at hj
      exact parts_mem hv hi hx j hj
    · rw [if_neg hm] at hj
      simp at hj
      subst hj
      simp only [validT, Bool.and_eq_true, beq_iff_eq] at hvi
      exact ⟨by omega, by rw [h2]; exact form_kid hvi.1.2 hk' hm⟩
  | bin h a b =>
    intro j hj
    rw [hx] at hk hvi
    have hk' : h.kind < 18 := hk
    obtain ⟨h1, h2, h3⟩ := sub_bin_kids hi hx
    have hp := a.size_pos
    have hq := b.size_pos
    simp only [validT, Bool.and_eq_true, beq_iff_eq] at hvi
    have hm : ¬ (h.kind = 16 ∨ h.kind = 17) := by
      intro e
      have := fields_kids hvi.1.1.1.1
      rcases e with e | e <;> rw [show ({ h with kids := [0, 0] } : Nd).kind = h.kind from rfl, e] at this <;> simp [arityS] at this
    simp only [belM, List.mem_cons, List.mem_nil_iff, or_false] at hj
    rcases hj with rfl | rfl
    · exact ⟨by omega, by rw [h3]; exact form_kid hvi.1.1.1.2 hk' hm⟩
    · exact ⟨by omega, by rw [h2]; exact form_kid hvi.1.1.2 hk' hm⟩
/-- What stands below, by a measure that goes by sums. -/
def belowS (f : Tr → Nat) : Tr → Nat
  | .leaf _ => 0
  | .un _ a => f a
  | .bin _ a b => f a + f b
def belowX (f : Tr → Nat) : Tr → Nat
  | .leaf _ => 0
  | .un _ a => f a
  | .bin _ a b => max (f a) (f b)
theorem reg_kid {h : Nd} {a : Tr} (hv : validT (.un h a) = true) (hm : h.kind = 16 ∨ h.kind = 17) : regV a := by
  simp only [validT, Bool.and_eq_true, beq_iff_eq] at hv
  refine regV_of hv.2 ?_
  rw [hv.1.2]
  rcases hm with e | e <;> rw [e] <;> rfl
theorem bel_sum (f : Tr → Nat) (h18 : ∀ h, h.kind = 18 → f (.leaf h) = 0) (h19 : ∀ h a, h.kind = 19 → f (.un h a) = f a) (h22 : ∀ h a, h.kind = 22 → f (.un h a) = f a) (hb : ∀ h a b, f (.bin h a b) = f a + f b)
    {t : Tr} (hv : validT t = true) (i : Nat) (hi : i < t.size) : sumL ((belM (t.sub i) i).map fun j => f (t.sub j)) = belowS f (t.sub i) := by
  have hvi := sub_valid t i hv
  cases hx : t.sub i with
  | leaf h => rfl
  | un h a =>
    rw [hx] at hvi
    obtain ⟨h1, h2, h3⟩ := sub_un_kid hi hx
    simp only [belM, belowS]
    by_cases hm : h.kind = 16 ∨ h.kind = 17
    · rw [if_pos hm, parts_map f h19 hi hx, ← sum_tests f h18 h22 hb a (reg_kid hvi hm)]
    · rw [if_neg hm, List.map_cons, List.map_nil, sumL_one, h2]
  | bin h a b =>
    obtain ⟨h1, h2, h3⟩ := sub_bin_kids hi hx
    simp only [belM, belowS, List.map_cons, List.map_nil]
    rw [h2, h3, show ([f a, f b] : List Nat) = [f a] ++ [f b] from rfl, sumL_append, sumL_one, sumL_one]
theorem bel_max (f : Tr → Nat) (h18 : ∀ h, h.kind = 18 → f (.leaf h) = 0) (h19 : ∀ h a, h.kind = 19 → f (.un h a) = f a) (h22 : ∀ h a, h.kind = 22 → f (.un h a) = f a) (hb : ∀ h a b, f (.bin h a b) = max (f a) (f b))
    {t : Tr} (hv : validT t = true) (i : Nat) (hi : i < t.size) : maxL ((belM (t.sub i) i).map fun j => f (t.sub j)) = belowX f (t.sub i) := by
  have hvi := sub_valid t i hv
  cases hx : t.sub i with
  | leaf h => rfl
  | un h a =>
    rw [hx] at hvi
    obtain ⟨h1, h2, h3⟩ := sub_un_kid hi hx
    simp only [belM, belowX]
    by_cases hm : h.kind = 16 ∨ h.kind = 17
    · rw [if_pos hm, parts_map f h19 hi hx, ← max_tests f h18 h22 hb a (reg_kid hvi hm)]
    · rw [if_neg hm, List.map_cons, List.map_nil, maxL_one, h2]
  | bin h a b =>
    obtain ⟨h1, h2, h3⟩ := sub_bin_kids hi hx
    simp only [belM, belowX, List.map_cons, List.map_nil]
    rw [h2, h3, show ([f a, f b] : List Nat) = [f a] ++ [f b] from rfl, maxL_append, maxL_one, maxL_one]
/-- A sum over all nodes of a tree. -/
def allN (g : Tr → Nat) : Tr → Nat
  | .leaf h => g (.leaf h)
  | .un h a => allN g a + g (.un h a)
  | .bin h a b => allN g a + allN g b + g (.bin h a b)
theorem range_sum (f : Nat → Nat) (n m : Nat) : sumL ((List.range (n + m)).map f) = sumL ((List.range n).map f) + sumL ((List.range m).map fun j => f (n + j)) := by
  rw [List.range_add, List.map_append, sumL_append, List.map_map]
  rfl
theorem allN_sum (g : Tr → Nat) : ∀ t : Tr, sumL ((List.range t.size).map fun j => g (t.sub j)) = allN g t
  | .leaf h => by simp [Tr.size, sumL, allN, Tr.sub]
  | .un h a => by
    rw [show (Tr.un h a).size = a.size + 1 from rfl, range_sum]
    have e1 : (List.range a.size).map (fun j => g ((Tr.un h a).sub j)) = (List.range a.size).map fun j => g (a.sub j) := by
      apply List.map_congr_left
      intro j hj
      rw [List.mem_range] at hj
      rw [sub_un, if_pos hj]
    have e2 : sumL ((List.range 1).map fun j => g ((Tr.un h a).sub (a.size + j))) = g (.un h a) := by
      simp [sumL, sub_un]
    rw [e1, e2, allN_sum g a]
    rfl
  | .bin h a b => by
    rw [show (Tr.bin h a b).size = a.size + b.size + 1 from rfl, range_sum, range_sum]
    have e1 : (List.range a.size).map (fun j => g ((Tr.bin h a b).sub j)) = (List.range a.size).map fun j => g (a.sub j) := by
      apply List.map_congr_left
      intro j hj
      rw [List.mem_range] at hj
      rw [sub_bin, if_pos hj]
    have e3 : (List.range b.size).map (fun j => g ((Tr.bin h a b).sub (a.size + j))) = (List.range b.size).map fun j => g (b.sub j) := by
      apply List.map_congr_left
      intro j hj
      rw [List.mem_range] at hj
      rw [sub_bin, if_neg (by omega), if_pos (by omega)]
      congr 2
      omega
    have e2 : sumL ((List.range 1).map fun j => g ((Tr.bin h a b).sub (a.size + b.size + j))) = g (.bin h a b) := by
      simp only [List.range_one, List.map_cons, List.map_nil, sumL_one, Nat.add_zero]
      rw [sub_bin, if_neg (by omega), if_neg (by omega)]
    rw [e1, e3, e2, allN_sum g a, allN_sum g b]
    rfl
end Go.Proofs.YtdohbbjinbofbaaGreat
/-! The walks of bound.Atoms and bound.Once. -/
namespace Go.Proofs.YtdohbbjinbofbaaGreat
open Go.RowKit
/-- Of a node alone: its atoms; what one pass keeps of it. -/
def atomM : Tr → Nat
  | .un h a => if h.kind = 17 then stepsN a * wideN h else 0
  | _ => 0
def backM : Tr → Nat
  | .un h a => if h.kind = 16 then wideN h * (stepsN a + 1) else 0
  | _ => 0
theorem atomsN_all : ∀ t : Tr, atomsN t = allN atomM t
  | .leaf _ => rfl
  | .un h a => by simp only [atomsN, allN, atomM, atomsN_all a]
  | .bin h a b => by simp [atomsN, allN, atomM, atomsN_all a, atomsN_all b]
theorem backN_all : ∀ t : Tr, backN t = allN backM t
  | .leaf _ => rfl
  | .un h a => by simp only [backN, allN, backM, backN_all a]
  | .bin h a b => by simp [backN, allN, backM, backN_all a, backN_all b]
/-- The sum over the nodes ahead of one. -/
def uptoN (g : Tr → Nat) (t : Tr) (i : Nat) : Nat := sumL ((List.range i).map fun j => g (t.sub j))
theorem uptoN_succ (g : Tr → Nat) (t : Tr) (i : Nat) : uptoN g t (i + 1) = uptoN g t i + g (t.sub i) := by
  unfold uptoN
  rw [List.range_succ, List.map_append, sumL_append, List.map_cons, List.map_nil, sumL_one]
theorem uptoN_all (g : Tr → Nat) (t : Tr) : uptoN g t t.size = allN g t := allN_sum g t
/-- A node's own bounds. -/
theorem node_bounds {l : List Nd} (hn : l.length ≤ 1000) {t : Tr} (ht : treeS l = some t) (i : Nat) (hi : i < l.length) : (∀ h a, t.sub i = .un h a → (h.kind = 16 ∨ h.kind = 17) → spanS h.lo h.hi = true ∧ wideN h ≤ 10000 ∧ stepsN a ≤ 1000 ∧ testsT a ≤ 1000) ∧ ((t.sub i).root.kind = 16 ∨ (t.sub i).root.kind = 17 → ∃ h a, t.sub i = .un h a) := by
  have hl := tree_len ht
  refine ⟨fun h a hx hk => ?_, fun hm => ?_⟩
  · obtain ⟨h', a', e, _, _, _, hs, _⟩ := match_un ht i hi (by rw [hx]; exact hk)
    rw [hx] at e
    injection e with e1 e2
    subst e1 e2
    have h1 := Tr.sub_size_le t i (by omega)
    rw [hx] at h1
    simp only [Tr.size] at h1
    have := stepsN_le a
    have := testsT_le a
    exact ⟨hs, (wideN_of hs).2.1, by omega, by omega⟩
  · obtain ⟨h, a, e, _⟩ := match_un ht i hi hm
    exact ⟨h, a, e⟩
theorem atomM_le {l : List Nd} (hn : l.length ≤ 1000) {t : Tr} (ht : treeS l = some t) (i : Nat) (hi : i < l.length) : atomM (t.sub i) ≤ 10000000 ∧ backM (t.sub i) ≤ 20000000 := by
  have h := (node_bounds hn ht i hi).1
  cases hx : t.sub i with
  | leaf _ => exact ⟨Nat.zero_le _, Nat.zero_le _⟩
  | bin _ _ _ => exact ⟨Nat.zero_le _, Nat.zero_le _⟩
  | un nd a =>
    simp only [atomM, backM]
    constructor
    · by_cases h17 : nd.kind = 17
      · obtain ⟨_, h2, h3, _⟩ := h nd a hx (.inr h17)
        rw [if_pos h17]
        exact Nat.le_trans (Nat.mul_le_mul h3 h2) (by omega)
      · rw [if_neg h17]; omega
    · by_cases h16 : nd.kind = 16
      · obtain ⟨_, h2, h3, _⟩ := h nd a hx (.inl h16)
        rw [if_pos h16]
        exact Nat.le_trans (Nat.mul_le_mul h2 (show stepsN a + 1 ≤ 2000 by omega)) (by omega)
      · rw [if_neg h16]; omega
theorem uptoN_le {g : Tr → Nat} {t : Tr} {n B : Nat} (h : ∀ i, i < n → g (t.sub i) ≤ B) : ∀ i, i ≤ n → uptoN g t i ≤ i * B
  | 0, _ => by simp [uptoN, sumL]
  | i + 1, hi => by
    have h1 := uptoN_le h i (by omega)
    have h2 := h i (by omega)
    rw [uptoN_succ, Nat.add_mul]
    omega
theorem blk1 {w : World} {g : Nat} {t : TypeId} {a : Value} (h : Blk w g t #[a]) : w.cell? ⟨g, 0, none⟩ = some a ∧ w.frozen? ⟨g, 0, none⟩ = false := by
  refine ⟨?_, h.frozen 0⟩
  rw [h.cell]; rfl
set_option maxRecDepth 100000 in
set_option maxHeartbeats 1000000 in
/-- The closure of Atoms at one node. -/
theorem atomsF_w {w : World} (x : Tr) (g : Nat) (S : Nat) (hB : Blk w g 46 #[encU S]) (hS : S ≤ 100000000000) (hb : ∀ h a, x = .un h a → (h.kind = 16 ∨ h.kind = 17) → spanS h.lo h.hi = true ∧ wideN h ≤ 10000 ∧ stepsN a ≤ 1000) (hm : x.root.kind = 17 → ∃ h a, x = .un h a)
    (i : Nat) (s : ByteArray) (Ak : Option Addr) (kl ck : Nat) (P : Option Addr) (pc : Nat) (Bl : Option Addr) (bn bc : Nat) :
    Calls Tryz.prog 51 (#[.int .i64 i, .agg #[.int .i64 x.root.kind, .string s, .int .i64 x.root.lo, .int .i64 x.root.hi, .slice Ak kl ck], .agg #[.int .i64 (stepsM x : Nat), .int .i64 (testsM x : Nat), .slice P (testsM x) pc], .slice Bl bn bc] ++ #[.pointer (some ⟨g, 0, none⟩)]) w fun e w' => e = .returned (encU 0) ∧ Blk w' g 46 #[encU (S + atomM x)] ∧ ∀ B, B ≤ g → B ≤ w.heap.size → Below B w w' := by
  have hgl := hB.lt
  obtain ⟨q0, q1⟩ := blk1 hB
  by_cases h17 : x.root.kind = 17
  · obtain ⟨h, a, rfl⟩ := hm h17
    have hk : h.kind = 17 := h17
    obtain ⟨hs, hw, hst⟩ := hb h a rfl (.inr hk)
    have e1 : stepsM (.un h a) = stepsN a := by simp only [stepsM]; rw [if_pos (.inr hk)]
    have e2 : atomM (.un h a) = stepsN a * wideN h := by simp only [atomM]; rw [if_pos hk]
    rw [e1, e2]
    have HW := Lib.hid (fun X => wide_w h hs X)
    generalize testsM (.un h a) = N at *
    obtain ⟨kind, name, lo, hi', kk⟩ := h
    dsimp only [Tr.root] at hk hs HW ⊢
    subst hk
    obtain ⟨Wd, hWd⟩ : ∃ Wd, wideN ⟨17, name, lo, hi', kk⟩ = Wd := ⟨_, rfl⟩
    rw [hWd] at HW hw ⊢
    generalize stepsN a = M at *
    have hmul : M * Wd ≤ 10000000 := Nat.le_trans (Nat.mul_le_mul hst hw) (by omega)
    have hmz : (M : Int) * (Wd : Int) = ((M * Wd : Nat) : Int) := by rw [Int.natCast_mul]
    have hsum : (S : Int) + ((M * Wd : Nat) : Int) = ((S + M * Wd : Nat) : Int) := by omega
    obtain ⟨MW, hMW⟩ : ∃ MW, M * Wd = MW := ⟨_, rfl⟩
    rw [hMW] at hmz hsum hmul ⊢
    have hB2 := (hB.alloc (.cells #[.int .i64 17, .string s, .int .i64 lo, .int .i64 hi', .slice Ak kl ck] 45)).alloc (.cells #[.int .i64 (M : Nat), .int .i64 (N : Nat), .slice P N pc] 75)
    have hb2 : Below w.heap.size w ((w.alloc (.cells #[.int .i64 17, .string s, .int .i64 lo, .int .i64 hi', .slice Ak kl ck] 45)).alloc (.cells #[.int .i64 (M : Nat), .int .i64 (N : Nat), .slice P N pc] 75)) := (balloc w _).alloc (by simp) _
    obtain ⟨m0, m1, m2, m3, m4⟩ := blk5 ((Blk.new w 45 #[.int .i64 17, .string s, .int .i64 lo, .int .i64 hi', .slice Ak kl ck]).alloc (.cells #[.int .i64 (M : Nat), .int .i64 (N : Nat), .slice P N pc] 75))
    have HBN := Lib.hid ((Blk.new w 45 #[.int .i64 17, .string s, .int .i64 lo, .int .i64 hi', .slice Ak kl ck]).alloc (.cells #[.int .i64 (M : Nat), .int .i64 (N : Nat), .slice P N pc] 75))
    have hBR := Blk.new2 w (.cells #[.int .i64 17, .string s, .int .i64 lo, .int .i64 hi', .slice Ak kl ck] 45) 75 #[.int .i64 (M : Nat), .int .i64 (N : Nat), .slice P N pc]
    obtain ⟨p0, p1, p2, _, _, _⟩ := blk3 hBR
    have wM : IntKind.u64.wrap (M : Int) = (M : Int) := wrap_u (by omega) (by omega)
    have wW : IntKind.u64.wrap (Wd : Int) = (Wd : Int) := wrap_u (by omega) (by omega)
    have wMW : IntKind.u64.wrap ((M : Int) * (Wd : Int)) = (MW : Int) := by rw [hmz]; exact wrap_u (by omega) (by omega)
    have wS : IntKind.u64.wrap ((S : Int) + (MW : Int)) = ((S + MW : Nat) : Int) := by rw [hsum]; exact wrap_u (by omega) (by omega)
    clear hWd hMW hmz hsum hs hb hm h17 e1 e2 hB HBN q0 q1
    go_enter Tryz.func51, Tryz.ntmps51
    go_wp2_with fail
    generalize ((w.alloc (.cells #[.int .i64 17, .string s, .int .i64 lo, .int .i64 hi', .slice Ak kl ck] 45)).alloc (.cells #[.int .i64 (M : Nat), .int .i64 (N : Nat), .slice P N pc] 75)) = W at *
    obtain ⟨q0, q1⟩ := blk1 hB2
    go_region_with (go_at_call 52; refine (HW.out _).mono ?_; rintro e w3 ⟨rfl, hw3⟩; have hz : Below W.heap.size W w3 := ⟨hw3.os, hw3.tape, hw3.output, hw3.size, hw3.block⟩; obtain ⟨q0, q1⟩ := blk1 (hB2.call hz); obtain ⟨p0, p1, p2, _, _, _⟩ := blk3 (hBR.call hz))
    all_goals
      have hB3 := (hB2.call hz).set_ 0 (encU (S + MW))
      go_wp2_with fail
      go_ret
      exact ⟨rfl, hB3, fun B h1 h2 => ((hb2.mono h2).trans (hz.mono (by have := hb2.size; omega))).setCell (p := ⟨g, 0, none⟩) h1 _⟩
  · have hk : (x.root.kind == 17) = false := by rw [beq_eq_false_iff_ne]; exact h17
    have e2 : atomM x = 0 := by
      cases x with
      | leaf h => rfl
      | bin h a b => rfl
      | un h a => simp only [atomM]; rw [if_neg (show ¬ h.kind = 17 from h17)]
    rw [e2, Nat.add_zero]
    have hb2 : Below w.heap.size w ((w.alloc (.cells #[.int .i64 x.root.kind, .string s, .int .i64 x.root.lo, .int .i64 x.root.hi, .slice Ak kl ck] 45)).alloc (.cells #[.int .i64 (stepsM x : Nat), .int .i64 (testsM x : Nat), .slice P (testsM x) pc] 75)) := (balloc w _).alloc (by simp) _
    obtain ⟨m0, m1, m2, m3, m4⟩ := blk5 ((Blk.new w 45 #[.int .i64 x.root.kind, .string s, .int .i64 x.root.lo, .int .i64 x.root.hi, .slice Ak kl ck]).alloc (.cells #[.int .i64 (stepsM x : Nat), .int .i64 (testsM x : Nat), .slice P (testsM x) pc] 75))
    have hB2 := hB.call hb2
    generalize stepsM x = M at *
    generalize testsM x = N at *
    generalize x.root.kind = kind at *
    generalize x.root.lo = lo at *
    generalize x.root.hi = hi' at *
    clear hm hb h17 e2 hB q0 q1
    go_enter Tryz.func51, Tryz.ntmps51
    go_wp2_with fail
    go_ret
    exact ⟨rfl, hB2, fun B h1 h2 => hb2.mono h2⟩
end Go.Proofs.YtdohbbjinbofbaaGreat
/-! The walk of Once's closure. -/
namespace Go.Proofs.YtdohbbjinbofbaaGreat
open Go.RowKit
set_option maxRecDepth 100000 in
set_option maxHeartbeats 1000000 in
/-- The closure of Once at one node. -/
theorem onceF_w {w : World} (x : Tr) (g : Nat) (S : Nat) (hB : Blk w g 46 #[encU S]) (hS : S ≤ 100000000000) (hb : ∀ h a, x = .un h a → (h.kind = 16 ∨ h.kind = 16) → spanS h.lo h.hi = true ∧ wideN h ≤ 10000 ∧ stepsN a ≤ 1000) (hm : x.root.kind = 16 → ∃ h a, x = .un h a)
    (i : Nat) (s : ByteArray) (Ak : Option Addr) (kl ck : Nat) (P : Option Addr) (pc : Nat) (Bl : Option Addr) (bn bc : Nat) :
    Calls Tryz.prog 53 (#[.int .i64 i, .agg #[.int .i64 x.root.kind, .string s, .int .i64 x.root.lo, .int .i64 x.root.hi, .slice Ak kl ck], .agg #[.int .i64 (stepsM x : Nat), .int .i64 (testsM x : Nat), .slice P (testsM x) pc], .slice Bl bn bc] ++ #[.pointer (some ⟨g, 0, none⟩)]) w fun e w' => e = .returned (encU 0) ∧ Blk w' g 46 #[encU (S + 2 * backM x)] ∧ ∀ B, B ≤ g → B ≤ w.heap.size → Below B w w' := by
  have hgl := hB.lt
  obtain ⟨q0, q1⟩ := blk1 hB
  by_cases h17 : x.root.kind = 16
  · obtain ⟨h, a, rfl⟩ := hm h17
    have hk : h.kind = 16 := h17
    obtain ⟨hs, hw, hst⟩ := hb h a rfl (.inl hk)
    have e1 : stepsM (.un h a) = stepsN a := by simp only [stepsM]; rw [if_pos (.inl hk)]
    have e2 : backM (.un h a) = wideN h * (stepsN a + 1) := by simp only [backM]; rw [if_pos hk]
    rw [e1, e2]
    have HW := Lib.hid (fun X => wide_w h hs X)
    generalize testsM (.un h a) = N at *
    obtain ⟨kind, name, lo, hi', kk⟩ := h
    dsimp only [Tr.root] at hk hs HW ⊢
    subst hk
    obtain ⟨Wd, hWd⟩ : ∃ Wd, wideN ⟨16, name, lo, hi', kk⟩ = Wd := ⟨_, rfl⟩
    rw [hWd] at HW hw ⊢
    generalize stepsN a = M at *
    obtain ⟨M1, hM1⟩ : ∃ M1, M + 1 = M1 := ⟨_, rfl⟩
    rw [hM1]
    have hmul : Wd * M1 ≤ 20000000 := Nat.le_trans (Nat.mul_le_mul hw (show M1 ≤ 2000 by omega)) (by omega)
    have hmz : (Wd : Int) * (M1 : Int) = ((Wd * M1 : Nat) : Int) := by rw [Int.natCast_mul]
    obtain ⟨MW, hMW⟩ : ∃ MW, Wd * M1 = MW := ⟨_, rfl⟩
    rw [hMW] at hmz hmul ⊢
    obtain ⟨M2, hM2⟩ : ∃ M2, 2 * MW = M2 := ⟨_, rfl⟩
    rw [hM2]
    obtain ⟨Z, hZ⟩ : ∃ Z, S + M2 = Z := ⟨_, rfl⟩
    rw [hZ]
    have hB2 := (hB.alloc (.cells #[.int .i64 16, .string s, .int .i64 lo, .int .i64 hi', .slice Ak kl ck] 45)).alloc (.cells #[.int .i64 (M : Nat), .int .i64 (N : Nat), .slice P N pc] 75)
    have hb2 : Below w.heap.size w ((w.alloc (.cells #[.int .i64 16, .string s, .int .i64 lo, .int .i64 hi', .slice Ak kl ck] 45)).alloc (.cells #[.int .i64 (M : Nat), .int .i64 (N : Nat), .slice P N pc] 75)) := (balloc w _).alloc (by simp) _
    obtain ⟨m0, m1, m2, m3, m4⟩ := blk5 ((Blk.new w 45 #[.int .i64 16, .string s, .int .i64 lo, .int .i64 hi', .slice Ak kl ck]).alloc (.cells #[.int .i64 (M : Nat), .int .i64 (N : Nat), .slice P N pc] 75))
    have HBN := Lib.hid ((Blk.new w 45 #[.int .i64 16, .string s, .int .i64 lo, .int .i64 hi', .slice Ak kl ck]).alloc (.cells #[.int .i64 (M : Nat), .int .i64 (N : Nat), .slice P N pc] 75))
    have hBR := Blk.new2 w (.cells #[.int .i64 16, .string s, .int .i64 lo, .int .i64 hi', .slice Ak kl ck] 45) 75 #[.int .i64 (M : Nat), .int .i64 (N : Nat), .slice P N pc]
    obtain ⟨p0, p1, p2, _, _, _⟩ := blk3 hBR
    have wA : IntKind.i64.wrap ((M : Int) + 1) = (M1 : Int) := by rw [show (M : Int) + 1 = (M1 : Int) by omega]; exact wrap_i (by omega) (by omega)
    have wM : IntKind.u64.wrap (M1 : Int) = (M1 : Int) := wrap_u (by omega) (by omega)
    have wW : IntKind.u64.wrap (Wd : Int) = (Wd : Int) := wrap_u (by omega) (by omega)
    have wMW : IntKind.u64.wrap ((Wd : Int) * (M1 : Int)) = (MW : Int) := by rw [hmz]; exact wrap_u (by omega) (by omega)
    have wM2 : IntKind.u64.wrap ((MW : Int) * 2) = (M2 : Int) := by rw [show (MW : Int) * 2 = (M2 : Int) by omega]; exact wrap_u (by omega) (by omega)
    have wS : IntKind.u64.wrap ((S : Int) + (M2 : Int)) = (Z : Int) := by rw [show (S : Int) + (M2 : Int) = (Z : Int) by omega]; exact wrap_u (by omega) (by omega)
    clear hWd hMW hmz hM1 hM2 hZ hs hb hm h17 e1 e2 hB HBN q0 q1
    go_enter Tryz.func53, Tryz.ntmps53
    go_wp2_with fail
    generalize ((w.alloc (.cells #[.int .i64 16, .string s, .int .i64 lo, .int .i64 hi', .slice Ak kl ck] 45)).alloc (.cells #[.int .i64 (M : Nat), .int .i64 (N : Nat), .slice P N pc] 75)) = W at *
    obtain ⟨q0, q1⟩ := blk1 hB2
    go_region_with (go_at_call 52; refine (HW.out _).mono ?_; rintro e w3 ⟨rfl, hw3⟩; have hz : Below W.heap.size W w3 := ⟨hw3.os, hw3.tape, hw3.output, hw3.size, hw3.block⟩; obtain ⟨q0, q1⟩ := blk1 (hB2.call hz); obtain ⟨p0, p1, p2, _, _, _⟩ := blk3 (hBR.call hz))
    all_goals
      have hB3 := (hB2.call hz).set_ 0 (encU Z)
      go_wp2_with fail
      go_ret
      exact ⟨rfl, hB3, fun B h1 h2 => ((hb2.mono h2).trans (hz.mono (by have := hb2.size; omega))).setCell (p := ⟨g, 0, none⟩) h1 _⟩
  · have hk : (x.root.kind == 16) = false := by rw [beq_eq_false_iff_ne]; exact h17
    have e2 : backM x = 0 := by
      cases x with
      | leaf h => rfl
      | bin h a b => rfl
      | un h a => simp only [backM]; rw [if_neg (show ¬ h.kind = 16 from h17)]
    rw [e2, Nat.mul_zero, Nat.add_zero]
    have hb2 : Below w.heap.size w ((w.alloc (.cells #[.int .i64 x.root.kind, .string s, .int .i64 x.root.lo, .int .i64 x.root.hi, .slice Ak kl ck] 45)).alloc (.cells #[.int .i64 (stepsM x : Nat), .int .i64 (testsM x : Nat), .slice P (testsM x) pc] 75)) := (balloc w _).alloc (by simp) _
    obtain ⟨m0, m1, m2, m3, m4⟩ := blk5 ((Blk.new w 45 #[.int .i64 x.root.kind, .string s, .int .i64 x.root.lo, .int .i64 x.root.hi, .slice Ak kl ck]).alloc (.cells #[.int .i64 (stepsM x : Nat), .int .i64 (testsM x : Nat), .slice P (testsM x) pc] 75))
    have hB2 := hB.call hb2
    generalize stepsM x = M at *
    generalize testsM x = N at *
    generalize x.root.kind = kind at *
    generalize x.root.lo = lo at *
    generalize x.root.hi = hi' at *
    clear hm hb h17 e2 hB q0 q1
    go_enter Tryz.func53, Tryz.ntmps53
    go_wp2_with fail
    go_ret
    exact ⟨rfl, hB2, fun B h1 h2 => hb2.mono h2⟩
end Go.Proofs.YtdohbbjinbofbaaGreat
/-! The walks of the closures that fill in what each node needs. -/
namespace Go.Proofs.YtdohbbjinbofbaaGreat
open Go.RowKit
theorem rd_blk {w : World} {g : Nat} {t : TypeId} {xs : List Value} (h : Blk w g t xs.toArray) : Rd (heapF w) 1 (some ⟨g, 0, none⟩) xs.length xs := by
  refine ⟨by simp, fun _ => ⟨_, rfl, fun j u hu => ?_⟩⟩
  rw [add_lit0]
  unfold Fz.cell heapF
  rw [h]
  simpa using hu
theorem blkU_cell {w : World} {g : Nat} {vs : List Nat} (h : Blk w g 46 (vs.map encU).toArray) {i : Nat} (hi : i < vs.length) : w.cell? ⟨g, i, none⟩ = some (encU vs[i]) ∧ w.frozen? ⟨g, i, none⟩ = false := by
  refine ⟨?_, h.frozen i⟩
  rw [h.cell]
  simp [hi]
theorem blkU_set {w : World} {g : Nat} {vs : List Nat} (h : Blk w g 46 (vs.map encU).toArray) (i x : Nat) : Blk (w.setCell ⟨g, i, none⟩ (encU x)) g 46 ((vs.set i x).map encU).toArray := by
  have := h.set_ i (encU x)
  rw [List.map_set, ← List.setIfInBounds_toArray]
  exact this
/-- What a closure finds: the values of each node up to here, and where they lie. -/
structure AtB (w : World) (g gv n : Nat) (vs : List Nat) : Prop where
  len : vs.length = n
  at_ : Blk w g 46 (vs.map encU).toArray
  var : Blk w gv 35 #[.slice (some ⟨g, 0, none⟩) n n]
theorem AtB.call {w w' : World} {g gv n : Nat} {vs : List Nat} (h : AtB w g gv n vs) (hb : Below w.heap.size w w') : AtB w' g gv n vs := ⟨h.len, h.at_.call hb, h.var.call hb⟩
theorem AtB.drewN {w : World} {g gv n : Nat} {vs : List Nat} (h : AtB w g gv n vs) (q : Nat) : AtB (w.drewN q) g gv n vs := ⟨h.len, h.at_, h.var⟩
theorem AtB.ne {w : World} {g gv n : Nat} {vs : List Nat} (h : AtB w g gv n vs) : gv ≠ g := h.var.ne_ h.at_ (by decide)
theorem AtB.set {w : World} {g gv n : Nat} {vs : List Nat} (h : AtB w g gv n vs) (i x : Nat) : AtB (w.setCell ⟨g, i, none⟩ (encU x)) g gv n (vs.set i x) := ⟨by rw [List.length_set]; exact h.len, blkU_set h.at_ i x, h.var.far (p := ⟨g, i, none⟩) h.ne (encU x)⟩
set_option maxRecDepth 100000 in
set_option maxHeartbeats 1000000 in
/-- The closure of rest at one node. -/
theorem restF_w {w : World} (x : Tr) (g gv n : Nat) (vs : List Nat) (hA : AtB w g gv n vs) (hn : n ≤ 1000) (i : Nat) (hi : i < n) (ps : List Nat) (hp : ∀ p ∈ ps, p < n) (hv : ∀ v ∈ vs, v ≤ 1099511627776)
    (s : ByteArray) (Ak : Option Addr) (kl ck : Nat) (P : Option Addr) (pc : Nat) (Bl : Option Addr) (bn bc : Nat) (hR : Rd (heapF w) 1 Bl bn ((zs ps).map encI)) (hbn : bn ≤ 1000) (S : Nat) (hS : sumL (ps.map fun k => vs.getD k 0) = S) (o : Nat) (ho : (if matchS x.root.kind = true ∨ kl = 0 then 1 else 0) = o) :
    Calls Tryz.prog 81 (#[.int .i64 i, .agg #[.int .i64 x.root.kind, .string s, .int .i64 x.root.lo, .int .i64 x.root.hi, .slice Ak kl ck], .agg #[.int .i64 (stepsM x : Nat), .int .i64 (testsM x : Nat), .slice P (testsM x) pc], .slice Bl bn bc] ++ #[.pointer (some ⟨gv, 0, none⟩)]) w fun e w' => e = .returned (encU 0) ∧ AtB w' g gv n (vs.set i (S + o)) ∧ ∀ B, B ≤ g → B ≤ w.heap.size → Below B w w' := by
  have hM := fun X => match_w x.root.kind s x.root.lo x.root.hi Ak kl ck X (matchS x.root.kind) rfl
  generalize matchS x.root.kind = mb at *
  generalize x.root.kind = kind at *
  generalize x.root.lo = lo at *
  generalize x.root.hi = hi' at *
  generalize stepsM x = M at *
  generalize testsM x = N at *
  have hb2 : Below w.heap.size w ((w.alloc (.cells #[.int .i64 kind, .string s, .int .i64 lo, .int .i64 hi', .slice Ak kl ck] 45)).alloc (.cells #[.int .i64 (M : Nat), .int .i64 (N : Nat), .slice P N pc] 75)) := (balloc w _).alloc (by simp) _
  have hBN := (Blk.new w 45 #[.int .i64 kind, .string s, .int .i64 lo, .int .i64 hi', .slice Ak kl ck]).alloc (.cells #[.int .i64 (M : Nat), .int .i64 (N : Nat), .slice P N pc] 75)
  have hA2 := hA.call hb2
  have hR2 := hR.cle (cle_below hb2)
  have hlw := hA.at_.lt
  have hlg : g < w.heap.size := hlw
  have hvb : S ≤ bn * 1099511627776 := by
    rw [← hS]
    refine Nat.le_trans (sumL_le 1099511627776 _ ?_) ?_
    · intro y hy
      obtain ⟨k, hk, rfl⟩ := List.mem_map.1 hy
      have hkn := hp k hk
      rw [List.getD, List.getElem?_eq_getElem (by rw [hA.len]; exact hkn)]
      exact hv _ (List.getElem_mem _)
    · rw [List.length_map]
      have := hR.1
      simp [zs] at this
      omega
  have hSb : S ≤ 1099511627776000 := by omega
  have hob : o ≤ 1 := by rw [← ho]; split <;> omega
  have HM := Lib.hid hM
  have HO := Lib.hid ho
  have hsums := fun (X : World) (h : Sat (heapF ((w.alloc (.cells #[.int .i64 kind, .string s, .int .i64 lo, .int .i64 hi', .slice Ak kl ck] 45)).alloc (.cells #[.int .i64 (M : Nat), .int .i64 (N : Nat), .slice P N pc] 75))) X) => sums_w h vs ps (some ⟨g, 0, none⟩) Bl n bn n bc (by have := rd_blk hA2.at_; rw [List.length_map, hA.len] at this; exact this) hR2 hp hv hbn
  rw [hS] at hsums
  have HSU := Lib.hid hsums
  have hiI : (i : Int) < (n : Int) := by omega
  have hil : i < vs.length := by rw [hA.len]; exact hi
  clear hM ho hS hsums hA hR hp hv hvb hR2
  go_enter Tryz.func81, Tryz.ntmps81
  go_wp2_with fail
  generalize ((w.alloc (.cells #[.int .i64 kind, .string s, .int .i64 lo, .int .i64 hi', .slice Ak kl ck] 45)).alloc (.cells #[.int .i64 (M : Nat), .int .i64 (N : Nat), .slice P N pc] 75)) = W at *
  obtain ⟨m0, m1, m2, m3, m4⟩ := blk5 hBN
  obtain ⟨v0, v1⟩ := blk1 hA2.var
  obtain ⟨a0, a1⟩ := blkU_cell hA2.at_ hil
  go_cut [10] from 11 to 18 (fun _ wx => ∃ q, wx = (W.setCell ⟨g, i, none⟩ (encU S)).drewN q)
  case first =>
    go_region_with (go_at_call 50; refine (HSU.out _ (by exact sat_heapF W)).mono ?_; rintro e w3 ⟨rfl, q3, rfl⟩)
    all_goals
      go_wp2_with fail
      go_meet
      exact ⟨_, rfl⟩
  case rest =>
    obtain ⟨q, hW1⟩ := hcut
    have hA3 : AtB wc g gv n (vs.set i S) := hW1 ▸ (hA2.set i S).drewN q
    have hB3 : Blk wc w.heap.size 45 #[.int .i64 kind, .string s, .int .i64 lo, .int .i64 hi', .slice Ak kl ck] := hW1 ▸ (hBN.far (p := ⟨g, i, none⟩) (by show w.heap.size ≠ g; omega) (encU S)).drewN q
    have hb3 : ∀ B, B ≤ g → B ≤ w.heap.size → Below B w wc := fun B h1 h2 => hW1 ▸ below_drewN ((hb2.mono h2).setCell (p := ⟨g, i, none⟩) h1 (encU S)) q
    have hil3 : i < (vs.set i S).length := by rw [List.length_set]; exact hil
    have hself : (vs.set i S)[i]'hil3 = S := by simp
    have hss : ∀ y, (vs.set i S).set i y = vs.set i y := fun y => by rw [List.set_set]
    have hsz3 : w.heap.size ≤ wc.heap.size := (hb3 0 (Nat.zero_le _) (Nat.zero_le _)).size
    clear hA2 hBN m0 m1 m2 m3 m4 v0 v1 a0 a1 hW1 HSU
    obtain ⟨m0, m1, m2, m3, m4⟩ := blk5 hB3
    cases mb with
    | true =>
      have ho : o = 1 := by rw [← HO.out, if_pos (.inl rfl)]
      subst ho
      go_wp2_with (go_at_call 82; refine (HM.out _).mono ?_; rintro e w4 ⟨rfl, hw4⟩; have hA4 := hA3.call hw4; obtain ⟨v0, v1⟩ := blk1 hA4.var; obtain ⟨a0, a1⟩ := blkU_cell hA4.at_ hil3; rw [hself] at a0)
      go_ret
      have hA5 := hA4.set i (S + 1)
      rw [hss] at hA5
      exact ⟨rfl, hA5, fun B h1 h2 => ((hb3 B h1 h2).trans (hw4.mono (by omega))).setCell (p := ⟨g, i, none⟩) h1 _⟩
    | false =>
      by_cases hk0 : kl = 0
      · have ho : o = 1 := by rw [← HO.out, if_pos (.inr hk0)]
        subst ho hk0
        go_wp2_with (go_at_call 82; refine (HM.out _).mono ?_; rintro e w4 ⟨rfl, hw4⟩; have hA4 := hA3.call hw4; obtain ⟨v0, v1⟩ := blk1 hA4.var; obtain ⟨a0, a1⟩ := blkU_cell hA4.at_ hil3; rw [hself] at a0; obtain ⟨m0, m1, m2, m3, m4⟩ := blk5 (hB3.call hw4))
        go_ret
        have hA5 := hA4.set i (S + 1)
        rw [hss] at hA5
        exact ⟨rfl, hA5, fun B h1 h2 => ((hb3 B h1 h2).trans (hw4.mono (by omega))).setCell (p := ⟨g, i, none⟩) h1 _⟩
      · have ho : o = 0 := by rw [← HO.out, if_neg (by simp [hk0])]
        have hkb : ((kl : Int) == 0) = false := by rw [beq_eq_false_iff_ne]; omega
        subst ho
        go_wp2_with (go_at_call 82; refine (HM.out _).mono ?_; rintro e w4 ⟨rfl, hw4⟩; have hA4 := hA3.call hw4; obtain ⟨m0, m1, m2, m3, m4⟩ := blk5 (hB3.call hw4))
        go_ret
        exact ⟨rfl, hA4, fun B h1 h2 => (hb3 B h1 h2).trans (hw4.mono (by omega))⟩
end Go.Proofs.YtdohbbjinbofbaaGreat
/-! The walk of Extra's closure. -/
namespace Go.Proofs.YtdohbbjinbofbaaGreat
open Go.RowKit
set_option maxRecDepth 100000 in
set_option maxHeartbeats 1000000 in
/-- The closure of Extra at one node. -/
theorem extraF_w {w : World} (x : Tr) (g gv n : Nat) (vs : List Nat) (hA : AtB w g gv n vs) (gs gsv : Nat) (ss : List Nat) (hA' : AtB w gs gsv n ss) (hgs : gs ≠ g) (hgsv : gsv ≠ g) (hn : n ≤ 1000) (i : Nat) (hi : i < n) (ps : List Nat) (hp : ∀ p ∈ ps, p < n) (hv : ∀ v ∈ vs, v ≤ 1099511627776)
    (s : ByteArray) (Ak : Option Addr) (kl ck : Nat) (P : Option Addr) (pc : Nat) (Bl : Option Addr) (bn bc : Nat) (hR : Rd (heapF w) 1 Bl bn ((zs ps).map encI)) (hbn : bn ≤ 1000) (S : Nat) (hS : maxL (ps.map fun k => vs.getD k 0) = S) (hsv : ∀ v ∈ ss, v ≤ 1099511627776) (hil' : i < ss.length) (o : Nat) (ho : (if x.root.kind = 17 then ss[i] else 0) = o) (Z : Nat) (hZ : S + o = Z) :
    Calls Tryz.prog 49 (#[.int .i64 i, .agg #[.int .i64 x.root.kind, .string s, .int .i64 x.root.lo, .int .i64 x.root.hi, .slice Ak kl ck], .agg #[.int .i64 (stepsM x : Nat), .int .i64 (testsM x : Nat), .slice P (testsM x) pc], .slice Bl bn bc] ++ #[.pointer (some ⟨gv, 0, none⟩), .pointer (some ⟨gsv, 0, none⟩)]) w fun e w' => e = .returned (encU Z) ∧ AtB w' g gv n (vs.set i Z) ∧ AtB w' gs gsv n ss ∧ ∀ B, B ≤ g → B ≤ w.heap.size → Below B w w' := by
  generalize x.root.kind = kind at *
  generalize x.root.lo = lo at *
  generalize x.root.hi = hi' at *
  generalize stepsM x = M at *
  generalize testsM x = N at *
  have hb2 : Below w.heap.size w ((w.alloc (.cells #[.int .i64 kind, .string s, .int .i64 lo, .int .i64 hi', .slice Ak kl ck] 45)).alloc (.cells #[.int .i64 (M : Nat), .int .i64 (N : Nat), .slice P N pc] 75)) := (balloc w _).alloc (by simp) _
  have hBN := (Blk.new w 45 #[.int .i64 kind, .string s, .int .i64 lo, .int .i64 hi', .slice Ak kl ck]).alloc (.cells #[.int .i64 (M : Nat), .int .i64 (N : Nat), .slice P N pc] 75)
  have hA2 := hA.call hb2
  have hA2' := hA'.call hb2
  have hR2 := hR.cle (cle_below hb2)
  have hlw := hA.at_.lt
  have hlg : g < w.heap.size := hlw
  have hSb : S ≤ 1099511627776 := by
    rw [← hS]
    refine maxL_le 1099511627776 _ ?_
    intro y hy
    obtain ⟨k, hk, rfl⟩ := List.mem_map.1 hy
    have hkn := hp k hk
    rw [List.getD, List.getElem?_eq_getElem (by rw [hA.len]; exact hkn)]
    exact hv _ (List.getElem_mem _)
  have hxb := hsv _ (List.getElem_mem hil')
  obtain ⟨y, hy⟩ : ∃ y, ss[i] = y := ⟨_, rfl⟩
  rw [hy] at ho hxb
  have HY := Lib.hid hy
  have HO := Lib.hid ho
  have hsums := fun (X : World) (h : Sat (heapF ((w.alloc (.cells #[.int .i64 kind, .string s, .int .i64 lo, .int .i64 hi', .slice Ak kl ck] 45)).alloc (.cells #[.int .i64 (M : Nat), .int .i64 (N : Nat), .slice P N pc] 75))) X) => sums_w h vs ps (some ⟨g, 0, none⟩) Bl n bn n bc (by have := rd_blk hA2.at_; rw [List.length_map, hA.len] at this; exact this) hR2 hp hv hbn
  rw [hS] at hsums
  have HSU := Lib.hid hsums
  have hiI : (i : Int) < (n : Int) := by omega
  have hil : i < vs.length := by rw [hA.len]; exact hi
  clear ho hS hsums hA hR hp hv hR2 hy hsv hA'
  go_enter Tryz.func49, Tryz.ntmps49
  go_wp2_with fail
  generalize ((w.alloc (.cells #[.int .i64 kind, .string s, .int .i64 lo, .int .i64 hi', .slice Ak kl ck] 45)).alloc (.cells #[.int .i64 (M : Nat), .int .i64 (N : Nat), .slice P N pc] 75)) = W at *
  obtain ⟨m0, m1, m2, m3, m4⟩ := blk5 hBN
  obtain ⟨v0, v1⟩ := blk1 hA2.var
  obtain ⟨a0, a1⟩ := blkU_cell hA2.at_ hil
  go_cut [10] from 11 to 18 (fun _ wx => ∃ q, wx = (W.setCell ⟨g, i, none⟩ (encU S)).drewN q)
  case first =>
    go_region_with (go_at_call 50; refine (HSU.out _ (by exact sat_heapF W)).mono ?_; rintro e w3 ⟨rfl, q3, rfl⟩)
    all_goals
      go_wp2_with fail
      go_meet
      exact ⟨_, rfl⟩
  case rest =>
    obtain ⟨q, hW1⟩ := hcut
    have hA3 : AtB wc g gv n (vs.set i S) := hW1 ▸ (hA2.set i S).drewN q
    have hA3' : AtB wc gs gsv n ss := hW1 ▸ (⟨hA2'.len, hA2'.at_.far (p := ⟨g, i, none⟩) hgs (encU S), hA2'.var.far (p := ⟨g, i, none⟩) hgsv (encU S)⟩ : AtB (W.setCell ⟨g, i, none⟩ (encU S)) gs gsv n ss).drewN q
    have hB3 : Blk wc w.heap.size 45 #[.int .i64 kind, .string s, .int .i64 lo, .int .i64 hi', .slice Ak kl ck] := hW1 ▸ (hBN.far (p := ⟨g, i, none⟩) (by show w.heap.size ≠ g; omega) (encU S)).drewN q
    have hb3 : ∀ B, B ≤ g → B ≤ w.heap.size → Below B w wc := fun B h1 h2 => hW1 ▸ below_drewN ((hb2.mono h2).setCell (p := ⟨g, i, none⟩) h1 (encU S)) q
    have hil3 : i < (vs.set i S).length := by rw [List.length_set]; exact hil
    have hself : (vs.set i S)[i]'hil3 = S := by simp
    have hss : ∀ y, (vs.set i S).set i y = vs.set i y := fun y => by rw [List.set_set]
    clear hA2 hA2' hBN m0 m1 m2 m3 m4 v0 v1 a0 a1 hW1 HSU
    obtain ⟨m0, m1, m2, m3, m4⟩ := blk5 hB3
    obtain ⟨v0, v1⟩ := blk1 hA3.var
    obtain ⟨a0, a1⟩ := blkU_cell hA3.at_ hil3
    rw [hself] at a0
    obtain ⟨u0, u1⟩ := blk1 hA3'.var
    obtain ⟨b0, b1⟩ := blkU_cell hA3'.at_ hil'
    rw [HY.out] at b0
    by_cases h17 : kind = 17
    · have ho : o = y := by rw [← HO.out, if_pos h17]
      subst ho h17
      have hA5 := hA3.set i Z
      rw [hss] at hA5
      have hA5' : AtB (wc.setCell ⟨g, i, none⟩ (encU Z)) gs gsv n ss := ⟨hA3'.len, hA3'.at_.far (p := ⟨g, i, none⟩) hgs _, hA3'.var.far (p := ⟨g, i, none⟩) hgsv _⟩
      have hb5 := fun B h1 h2 => (hb3 B h1 h2).setCell (p := ⟨g, i, none⟩) h1 (encU Z)
      obtain ⟨v2, v3⟩ := blk1 hA5.var
      obtain ⟨a2, a3⟩ := blkU_cell hA5.at_ (i := i) (by rw [List.length_set]; exact hil)
      rw [List.getElem_set_self] at a2
      have wS : IntKind.u64.wrap ((S : Int) + (o : Int)) = (Z : Int) := by rw [show (S : Int) + (o : Int) = (Z : Int) by omega]; exact wrap_u (by omega) (by omega)
      clear HO hZ
      go_wp2_with fail
      go_region
      all_goals
        go_wp2_with fail
        go_ret
        exact ⟨rfl, hA5.drewN 1, hA5'.drewN 1, fun B h1 h2 => below_drewN (hb5 B h1 h2) 1⟩
    · have ho : o = 0 := by rw [← HO.out, if_neg h17]
      have hkb : (kind == 17) = false := by rw [beq_eq_false_iff_ne]; exact h17
      subst ho
      obtain rfl : S = Z := hZ
      clear HO h17
      go_wp2_with fail
      go_ret
      exact ⟨rfl, hA3, hA3', hb3⟩
end Go.Proofs.YtdohbbjinbofbaaGreat
