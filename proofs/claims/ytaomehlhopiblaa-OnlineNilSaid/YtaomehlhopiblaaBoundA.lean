/- What is kept at most: plain definitions and lemmas, no program in sight. -/
import Derived.Test.YtaomehlhopiblaaTurnS
import Derived.Test.YtaomehlhopiblaaOwn
import Derived.Test.YtaomehlhopiblaaJoin
import Derived.Test.YtaomehlhopiblaaPileP
import Derived.Deep.RegionLaw
import Derived.Deep.RegionHeld3
set_option linter.unusedVariables false
set_option linter.unusedSimpArgs false
/-! What is kept at most: plain definitions and lemmas, no program in sight. -/
namespace Go.Proofs.Ytaomehlhopiblaa
/-- How many classes an interval has. -/
def wideN (h : Nd) : Nat := if h.hi = -1 then h.lo.toNat + 1 else h.hi.toNat + 1
def atomsN : Tr → Nat
  | .leaf _ => 0
  | .un h a => atomsN a + if h.kind = 17 then stepsN a * wideN h else 0
  | .bin _ a b => atomsN a + atomsN b
def sumL (l : List Nat) : Nat := l.foldl (· + ·) 0
theorem foldl_add (l : List Nat) : ∀ a, l.foldl (· + ·) a = a + sumL l := by
  unfold sumL
  induction l with
  | nil => intro a; rfl
  | cons x l ih => intro a; rw [List.foldl_cons, List.foldl_cons, ih, ih (0 + x)]; omega
theorem sumL_append (a b : List Nat) : sumL (a ++ b) = sumL a + sumL b := by
  rw [show sumL (a ++ b) = (a ++ b).foldl (· + ·) 0 from rfl, List.foldl_append, foldl_add b]; rfl
theorem sumL_one (x : Nat) : sumL [x] = x := by simp [sumL]
/-- Places are told from another place on. -/
theorem tests_shift (d : Nat) : ∀ (t : Tr) (o : Nat), testsL t (d + o) = (testsL t o).map (d + ·)
  | .leaf _, _ => rfl
  | .un h a, o => by
    by_cases h19 : h.kind = 19
    · simp [testsL, h19, Nat.add_assoc]
    · simp [testsL, h19, tests_shift d a]
  | .bin h a b, o => by
    simp only [testsL, List.map_append]
    rw [tests_shift d a, Nat.add_assoc, tests_shift d b]
theorem shape_testsL : ∀ {s t : Tr} (o : Nat), ShapeT s t → s.size = t.size → testsL s o = testsL t o
  | .leaf _, .leaf _, _, _, _ => rfl
  | .un h a, .un h' a', o, e, hs => by
    simp only [Tr.size] at hs
    have := shape_testsL o e.2 (by omega)
    simp [testsL, e.1, this, show a.size = a'.size by omega]
  | .bin h a b, .bin h' a' b', o, e, hs => by
    have h1 := shape_size e.2.1
    have h2 := shape_size e.2.2
    simp only [testsL]
    rw [shape_testsL o e.2.1 h1, h1, shape_testsL _ e.2.2 h2]
where shape_size : ∀ {s t : Tr}, ShapeT s t → s.size = t.size
  | .leaf _, .leaf _, _ => rfl
  | .un h a, .un h' a', e => by simp [Tr.size, shape_size e.2]
  | .bin h a b, .bin h' a' b', e => by simp [Tr.size, shape_size e.2.1, shape_size e.2.2]
theorem stepsN_le : ∀ t : Tr, stepsN t ≤ t.size
  | .leaf _ => Nat.le_refl _
  | .un h a => by
    have := stepsN_le a
    simp only [stepsN, Tr.size]
    split <;> omega
  | .bin h a b => by
    have := stepsN_le a
    have := stepsN_le b
    simp only [stepsN, Tr.size]
    omega
end Go.Proofs.Ytaomehlhopiblaa
/-! The walks of ival.Wide and of the bound's small functions. -/
namespace Go.Proofs.Ytaomehlhopiblaa
open Go.RowKit
theorem blkA {w : World} {g : Nat} {t : TypeId} {a b : Value} (h : Blk w g t #[a, b]) : w.cell? ⟨g, 0, none⟩ = some a ∧ w.cell? ⟨g, 1, none⟩ = some b ∧ w.frozen? ⟨g, 0, none⟩ = false ∧ w.frozen? ⟨g, 1, none⟩ = false := by
  refine ⟨?_, ?_, h.frozen 0, h.frozen 1⟩ <;> rw [h.cell] <;> rfl
theorem wrap_i {n : Int} (h1 : -9223372036854775808 ≤ n) (h2 : n < 9223372036854775808) : IntKind.i64.wrap n = n := by
  simp [IntKind.wrap, IntKind.bits, IntKind.signed]
  omega
theorem wrap_u {n : Int} (h1 : 0 ≤ n) (h2 : n < 18446744073709551616) : IntKind.u64.wrap n = n := by
  simp [IntKind.wrap, IntKind.bits, IntKind.signed]
  omega
abbrev encU (k : Nat) : Value := .int .u64 (k : Int)
def lastV (lo hi : Int) : Int := if hi = -1 then lo else hi
set_option maxRecDepth 100000 in
theorem last_w (lo hi : Int) (w : World) : Calls Try.prog 63 #[.agg #[.int .i64 lo, .int .i64 hi]] w fun e w' => e = .returned (.int .i64 (lastV lo hi)) ∧ Below w.heap.size w w' := by
  obtain ⟨k0, k1, _, _⟩ := blkA (Blk.new w 46 #[.int .i64 lo, .int .i64 hi])
  by_cases h : hi = -1
  · have hR : lastV lo hi = lo := by unfold lastV; rw [if_pos h]
    rw [hR]
    clear hR
    subst h
    go_enter Try.func63, Try.ntmps63
    go_wp2_with fail
    go_ret
    exact ⟨rfl, balloc _ _⟩
  · have hR : lastV lo hi = hi := by unfold lastV; rw [if_neg h]
    have hb : (hi == -1) = false := by rw [beq_eq_false_iff_ne]; exact h
    rw [hR]
    clear hR h
    go_enter Try.func63, Try.ntmps63
    go_wp2_with fail
    go_ret
    exact ⟨rfl, balloc _ _⟩
theorem wideN_of {h : Nd} (hs : spanS h.lo h.hi = true) : lastV h.lo h.hi + 1 = ((wideN h : Nat) : Int) ∧ wideN h ≤ 10000 ∧ 1 ≤ wideN h := by
  unfold spanS at hs
  simp only [decide_eq_true_eq] at hs
  unfold lastV wideN
  by_cases e : h.hi = -1
  · rw [if_pos e, if_pos e]; omega
  · rw [if_neg e, if_neg e]; omega
set_option maxRecDepth 100000 in
theorem wide_w (h : Nd) (hs : spanS h.lo h.hi = true) (w : World) : Calls Try.prog 44 #[.agg #[.int .i64 h.lo, .int .i64 h.hi]] w fun e w' => e = .returned (.int .i64 (wideN h : Nat)) ∧ Below w.heap.size w w' := by
  obtain ⟨h1, h2, _⟩ := wideN_of hs
  obtain ⟨k0, k1, _, _⟩ := blkA (Blk.new w 46 #[.int .i64 h.lo, .int .i64 h.hi])
  have HB := Lib.hid (Blk.new w 46 #[.int .i64 h.lo, .int .i64 h.hi])
  have HM := Lib.hid (fun X => hs ▸ ivalMay_w h.lo h.hi X)
  have HL := Lib.hid (fun X => last_w h.lo h.hi X)
  have hlb : lastV h.lo h.hi ≤ 9999 ∧ -1 ≤ lastV h.lo h.hi := by omega
  obtain ⟨hl1, hl2⟩ := hlb
  generalize lastV h.lo h.hi = L at *
  obtain ⟨W, hW⟩ : ∃ W, wideN h = W := ⟨_, rfl⟩
  rw [hW] at h1 h2 ⊢
  have H1 := Lib.hid h1
  clear h1 hs hW
  go_enter Try.func44, Try.ntmps44
  go_wp2_with (first
    | (go_at_call 62; refine (HM.out _).mono ?_; rintro e w1 ⟨rfl, hw1⟩; obtain ⟨q0, q1, _, _⟩ := blkA (HB.out.call hw1))
    | (go_at_call 63; refine (HL.out _).mono ?_; rintro e w2 ⟨rfl, hw2⟩))
  go_ret
  exact ⟨by rw [← H1.out]; rfl, bthen (bthen (balloc _ _) hw1) hw2⟩
/-! ### The sums -/
end Go.Proofs.Ytaomehlhopiblaa
/-! The walks of bound.of and bound.over. -/
/-! bound.of. -/
namespace Go.Proofs.Ytaomehlhopiblaa
open Go.RowKit
theorem step_pushI {w : World} {ops : Array Oper} {o : Oper} {a : Act} {K : Act → World → Prop} {Q : Exit → Act → World → Prop} {E : Prop} (hgd : o.guard = none) (s x : Operand)
    (ho : o.op = .call { callee := .builtin .append, args := #[s, x], argTypes := #[30, 30] })
    {F : Fz} {B n : Nat} {v : Value} {xs : List Int} (hown : Own F w B 3 1 v n (xs.map encI)) (hF : Sat F w) (hs : a.eval s = v)
    (g c : Nat) (y : Int) (hx : a.eval x = .slice (some ⟨g, 0, none⟩) 1 c) (hg : Blk w g 3 #[.int .i64 y]) (hn : n + 1 ≤ 1000000) (hB : B ≤ w.heap.size)
    (h : ∀ v' w', Own F w' B 3 1 v' (n + 1) ((xs ++ [y]).map encI) → Sat F w' → Below B w w' → w.grownBy w' v.ownBlock → (v'.ownBlock = v.ownBlock ∨ v'.ownBlock = some w.heap.size) → K (a.put o.dst v') w') :
    if Region.wanted o (yielded ops a.tmps) = true then Oper.wp Try.prog o a w K Q else E := by
  have hr : Rd (heapF w) 1 (some ⟨g, 0, none⟩) 1 [encI y] := by
    refine ⟨rfl, fun _ => ⟨_, rfl, fun j u hu => ?_⟩⟩
    rw [add_lit0]
    unfold Fz.cell heapF
    rw [hg]
    simpa using hu
  refine step_pushAll hgd s x _ ho 3 (.int .i64 0) 1 8 Try.underlying30 (by kernel_rfl) rfl (by omega) hown hF hs (some ⟨g, 0, none⟩) 1 c [encI y] hx (sat_heapF w) hr (by intro u hu; simp at hu; subst hu; rfl) (by simp [maxLen]; omega) (by omega) hB ?_
  intro v' w' h1 h2 h3 h4 h5
  exact h v' w' (by rw [List.map_append]; exact h1) h2 h3 h4 h5
theorem blk3 {w : World} {g : Nat} {t : TypeId} {a b c : Value} (h : Blk w g t #[a, b, c]) : w.cell? ⟨g, 0, none⟩ = some a ∧ w.cell? ⟨g, 1, none⟩ = some b ∧ w.cell? ⟨g, 2, none⟩ = some c ∧ w.frozen? ⟨g, 0, none⟩ = false ∧ w.frozen? ⟨g, 1, none⟩ = false ∧ w.frozen? ⟨g, 2, none⟩ = false := by
  refine ⟨?_, ?_, ?_, h.frozen 0, h.frozen 1, h.frozen 2⟩ <;> rw [h.cell] <;> rfl
theorem sub_un_kid {t : Tr} {i : Nat} (hi : i < t.size) {h : Nd} {a : Tr} (hx : t.sub i = .un h a) : a.size ≤ i ∧ t.sub (i - 1) = a ∧ ∀ j, j < a.size → t.sub (i - a.size + j) = a.sub j := by
  have h1 := Tr.sub_size_le t i hi
  rw [hx] at h1
  simp only [Tr.size] at h1
  have hp := a.size_pos
  have h2 : ∀ j, j < a.size → t.sub (i - a.size + j) = a.sub j := fun j hj => by
    have := Tr.sub_sub t i j hi (by rw [hx]; simp only [Tr.size]; omega)
    rw [hx, sub_un, if_pos hj] at this
    rw [← this]
    congr 1
    simp only [Tr.size]
    omega
  refine ⟨by omega, ?_, h2⟩
  have := h2 (a.size - 1) (by omega)
  rw [show i - a.size + (a.size - 1) = i - 1 by omega, Tr.sub_root] at this
  exact this
theorem testTr_un : ∀ (t : Tr) (x : Tr), x ∈ testTr t → ∃ h f, x = .un h f ∧ h.kind = 19
  | .leaf _, x, h => by simp [testTr] at h
  | .un h a, x, hx => by
    by_cases h1 : h.kind = 19
    · simp [testTr, h1] at hx; exact ⟨h, a, hx, h1⟩
    · simp only [testTr, h1, if_false] at hx; exact testTr_un a x hx
  | .bin h a b, x, hx => by
    simp only [testTr, List.mem_append] at hx
    rcases hx with hx | hx
    · exact testTr_un a x hx
    · exact testTr_un b x hx
/-- A test's node in its list: its kid stands ahead of it. -/
theorem test_node {a : Tr} {k p : Nat} (hk : (testsL a 0)[k]? = some p) : 1 ≤ p ∧ p < a.size ∧ ∃ nd, (a.flat 0)[p]? = some nd ∧ nd.kids = [(p : Int) - 1] := by
  obtain ⟨_, h2, h3⟩ := tests_sub a 0 k p hk
  rw [Nat.sub_zero] at h2 h3
  obtain ⟨h, f, e, _⟩ := testTr_un a _ (List.mem_of_getElem? h3)
  have hs := Tr.sub_size_le a p h2
  have hf := f.size_pos
  rw [e] at hs
  simp only [Tr.size] at hs
  refine ⟨by omega, h2, _, Tr.get_flat a p 0 h2, ?_⟩
  rw [e]
  show [((0 + (p + 1 - (f.size + 1)) + f.size : Nat) : Int) - 1] = _
  simp only [List.cons.injEq, and_true]
  omega
end Go.Proofs.Ytaomehlhopiblaa
/-! The walk of bound.over, whatever it is handed. -/
namespace Go.Proofs.Ytaomehlhopiblaa
open Go.RowKit
theorem sub_bin_kids {t : Tr} {i : Nat} (hi : i < t.size) {h : Nd} {a b : Tr} (hx : t.sub i = .bin h a b) : a.size + b.size ≤ i ∧ t.sub (i - 1) = b ∧ t.sub (i - 1 - b.size) = a := by
  have h1 := Tr.sub_size_le t i hi
  rw [hx] at h1
  simp only [Tr.size] at h1
  have hp := a.size_pos
  have hq := b.size_pos
  have h2 : ∀ j, j < a.size + b.size → t.sub (i - (a.size + b.size) + j) = (Tr.bin h a b).sub j := fun j hj => by
    have := Tr.sub_sub t i j hi (by rw [hx]; simp only [Tr.size]; omega)
    rw [hx] at this
    rw [← this]
    congr 1
    simp only [Tr.size]
    omega
  refine ⟨by omega, ?_, ?_⟩
  · have := h2 (a.size + b.size - 1) (by omega)
    rw [show i - (a.size + b.size) + (a.size + b.size - 1) = i - 1 by omega, sub_bin, if_neg (by omega), if_pos (by omega), show a.size + b.size - 1 - a.size = b.size - 1 by omega, Tr.sub_root] at this
    exact this
  · have := h2 (a.size - 1) (by omega)
    rw [show i - (a.size + b.size) + (a.size - 1) = i - 1 - b.size by omega, sub_bin, if_pos (by omega), Tr.sub_root] at this
    exact this
theorem match_un {l : List Nd} {t : Tr} (ht : treeS l = some t) (i : Nat) (hi : i < l.length) (hm : (t.sub i).root.kind = 16 ∨ (t.sub i).root.kind = 17) : ∃ h a, t.sub i = .un h a ∧ (h.kind = 16 ∨ h.kind = 17) ∧ regS a.root.kind = true ∧ l[i].kids = [(i : Int) - 1] ∧ spanS h.lo h.hi = true ∧ 1 ≤ i := by
  have hit : i < t.size := by rw [← tree_len ht]; exact hi
  have hk := get_kids ht i hi
  have hv := sub_valid t i (tree_valid ht)
  cases hx : t.sub i with
  | leaf h =>
    rw [hx] at hm hv
    have hm' : h.kind = 16 ∨ h.kind = 17 := hm
    have := fields_kids (show fieldsS { h with kids := [] } = true from hv)
    rcases hm' with e | e <;> rw [show ({ h with kids := [] } : Nd).kind = h.kind from rfl, e] at this <;> simp [arityS] at this
  | un h a =>
    rw [hx] at hm hv hk
    have hm' : h.kind = 16 ∨ h.kind = 17 := hm
    obtain ⟨h1, _, _⟩ := sub_un_kid hit hx
    have hp := a.size_pos
    simp only [validT, Bool.and_eq_true, beq_iff_eq] at hv
    obtain ⟨⟨h2, h3⟩, _⟩ := hv
    refine ⟨h, a, rfl, hm', by rw [h3]; rcases hm' with e | e <;> rw [e] <;> rfl, ?_, ?_, by omega⟩
    · rw [hk]
      show [((i + 1 - (a.size + 1) + a.size : Nat) : Int) - 1] = [(i : Int) - 1]
      simp only [List.cons.injEq, and_true]
      omega
    · unfold fieldsS at h2
      simp only [Bool.and_eq_true] at h2
      have h4 := h2.1.2
      have ht : timedS h.kind = true := by rcases hm' with e | e <;> rw [e] <;> rfl
      rw [show ({ h with kids := [0] } : Nd).kind = h.kind from rfl, ht, if_pos rfl] at h4
      exact h4
  | bin h a b =>
    rw [hx] at hm hv
    have hm' : h.kind = 16 ∨ h.kind = 17 := hm
    simp only [validT, Bool.and_eq_true] at hv
    have := fields_kids hv.1.1.1.1
    rcases hm' with e | e <;> rw [show ({ h with kids := [0, 0] } : Nd).kind = h.kind from rfl, e] at this <;> simp [arityS] at this
theorem get_flat_root {l : List Nd} {t : Tr} (ht : treeS l = some t) (i : Nat) (hi : i < l.length) : l[i] = { (t.sub i).root with kids := (t.sub i).rootKids (i + 1 - (t.sub i).size) } := by
  have h1 := Tr.get_flat t i 0 (by rw [← tree_len ht]; exact hi)
  rw [← tree_flat ht, List.getElem?_eq_getElem hi, Nat.zero_add] at h1
  injection h1
end Go.Proofs.Ytaomehlhopiblaa
/-! What stands below a node, summed up: plain lemmas. -/
/-! What stands below a node, summed up: plain lemmas. -/
namespace Go.Proofs.Ytaomehlhopiblaa
/-- A sum over all nodes of a tree. -/
def allN (g : Tr → Nat) : Tr → Nat
  | .leaf h => g (.leaf h)
  | .un h a => allN g a + g (.un h a)
  | .bin h a b => allN g a + allN g b + g (.bin h a b)
theorem range_sum (f : Nat → Nat) (n m : Nat) : sumL ((List.range (n + m)).map f) = sumL ((List.range n).map f) + sumL ((List.range m).map fun j => f (n + j)) := by
  rw [List.range_add, List.map_append, sumL_append, List.map_map]
  rfl
theorem allN_sum (g : Tr → Nat) : ∀ t : Tr, sumL ((List.range t.size).map fun j => g (t.sub j)) = allN g t
  | .leaf h => by simp [Tr.size, sumL, allN, Tr.sub]
  | .un h a => by
    rw [show (Tr.un h a).size = a.size + 1 from rfl, range_sum]
    have e1 : (List.range a.size).map (fun j => g ((Tr.un h a).sub j)) = (List.range a.size).map fun j => g (a.sub j) := by
      apply List.map_congr_left
      intro j hj
      rw [List.mem_range] at hj
      rw [sub_un, if_pos hj]
    have e2 : sumL ((List.range 1).map fun j => g ((Tr.un h a).sub (a.size + j))) = g (.un h a) := by
      simp [sumL, sub_un]
    rw [e1, e2, allN_sum g a]
    rfl
  | .bin h a b => by
    rw [show (Tr.bin h a b).size = a.size + b.size + 1 from rfl, range_sum, range_sum]
    have e1 : (List.range a.size).map (fun j => g ((Tr.bin h a b).sub j)) = (List.range a.size).map fun j => g (a.sub j) := by
      apply List.map_congr_left
      intro j hj
      rw [List.mem_range] at hj
      rw [sub_bin, if_pos hj]
    have e3 : (List.range b.size).map (fun j => g ((Tr.bin h a b).sub (a.size + j))) = (List.range b.size).map fun j => g (b.sub j) := by
      apply List.map_congr_left
      intro j hj
      rw [List.mem_range] at hj
      rw [sub_bin, if_neg (by omega), if_pos (by omega)]
      congr 2
      omega
    have e2 : sumL ((List.range 1).map fun j => g ((Tr.bin h a b).sub (a.size + b.size + j))) = g (.bin h a b) := by
      simp only [List.range_one, List.map_cons, List.map_nil, sumL_one, Nat.add_zero]
      rw [sub_bin, if_neg (by omega), if_neg (by omega)]
    rw [e1, e3, e2, allN_sum g a, allN_sum g b]
    rfl
end Go.Proofs.Ytaomehlhopiblaa
/-! The walks of bound.Atoms and bound.Once. -/
namespace Go.Proofs.Ytaomehlhopiblaa
open Go.RowKit
/-- Of a node alone: its atoms; what one pass keeps of it. -/
def atomM : Tr → Nat
  | .un h a => if h.kind = 17 then stepsN a * wideN h else 0
  | _ => 0
def backM : Tr → Nat
  | .un h a => if h.kind = 16 then wideN h * (stepsN a + 1) else 0
  | _ => 0
theorem atomsN_all : ∀ t : Tr, atomsN t = allN atomM t
  | .leaf _ => rfl
  | .un h a => by simp only [atomsN, allN, atomM, atomsN_all a]
  | .bin h a b => by simp [atomsN, allN, atomM, atomsN_all a, atomsN_all b]
/-- The sum over the nodes ahead of one. -/
def uptoN (g : Tr → Nat) (t : Tr) (i : Nat) : Nat := sumL ((List.range i).map fun j => g (t.sub j))
theorem uptoN_succ (g : Tr → Nat) (t : Tr) (i : Nat) : uptoN g t (i + 1) = uptoN g t i + g (t.sub i) := by
  unfold uptoN
  rw [List.range_succ, List.map_append, sumL_append, List.map_cons, List.map_nil, sumL_one]
theorem uptoN_all (g : Tr → Nat) (t : Tr) : uptoN g t t.size = allN g t := allN_sum g t
/-- A node's own bounds. -/
theorem node_bounds {l : List Nd} (hn : l.length ≤ 1000) {t : Tr} (ht : treeS l = some t) (i : Nat) (hi : i < l.length) : (∀ h a, t.sub i = .un h a → (h.kind = 16 ∨ h.kind = 17) → spanS h.lo h.hi = true ∧ wideN h ≤ 10000 ∧ stepsN a ≤ 1000 ∧ testsT a ≤ 1000) ∧ ((t.sub i).root.kind = 16 ∨ (t.sub i).root.kind = 17 → ∃ h a, t.sub i = .un h a) := by
  have hl := tree_len ht
  refine ⟨fun h a hx hk => ?_, fun hm => ?_⟩
  · obtain ⟨h', a', e, _, _, _, hs, _⟩ := match_un ht i hi (by rw [hx]; exact hk)
    rw [hx] at e
    injection e with e1 e2
    subst e1 e2
    have h1 := Tr.sub_size_le t i (by omega)
    rw [hx] at h1
    simp only [Tr.size] at h1
    have := stepsN_le a
    have := testsT_le a
    exact ⟨hs, (wideN_of hs).2.1, by omega, by omega⟩
  · obtain ⟨h, a, e, _⟩ := match_un ht i hi hm
    exact ⟨h, a, e⟩
theorem atomM_le {l : List Nd} (hn : l.length ≤ 1000) {t : Tr} (ht : treeS l = some t) (i : Nat) (hi : i < l.length) : atomM (t.sub i) ≤ 10000000 ∧ backM (t.sub i) ≤ 20000000 := by
  have h := (node_bounds hn ht i hi).1
  cases hx : t.sub i with
  | leaf _ => exact ⟨Nat.zero_le _, Nat.zero_le _⟩
  | bin _ _ _ => exact ⟨Nat.zero_le _, Nat.zero_le _⟩
  | un nd a =>
    simp only [atomM, backM]
    constructor
    · by_cases h17 : nd.kind = 17
      · obtain ⟨_, h2, h3, _⟩ := h nd a hx (.inr h17)
        rw [if_pos h17]
        exact Nat.le_trans (Nat.mul_le_mul h3 h2) (by omega)
      · rw [if_neg h17]; omega
    · by_cases h16 : nd.kind = 16
      · obtain ⟨_, h2, h3, _⟩ := h nd a hx (.inl h16)
        rw [if_pos h16]
        exact Nat.le_trans (Nat.mul_le_mul h2 (show stepsN a + 1 ≤ 2000 by omega)) (by omega)
      · rw [if_neg h16]; omega
theorem uptoN_le {g : Tr → Nat} {t : Tr} {n B : Nat} (h : ∀ i, i < n → g (t.sub i) ≤ B) : ∀ i, i ≤ n → uptoN g t i ≤ i * B
  | 0, _ => by simp [uptoN, sumL]
  | i + 1, hi => by
    have h1 := uptoN_le h i (by omega)
    have h2 := h i (by omega)
    rw [uptoN_succ, Nat.add_mul]
    omega
theorem blk1 {w : World} {g : Nat} {t : TypeId} {a : Value} (h : Blk w g t #[a]) : w.cell? ⟨g, 0, none⟩ = some a ∧ w.frozen? ⟨g, 0, none⟩ = false := by
  refine ⟨?_, h.frozen 0⟩
  rw [h.cell]; rfl
end Go.Proofs.Ytaomehlhopiblaa
/-! The walk of Once's closure. -/
namespace Go.Proofs.Ytaomehlhopiblaa
open Go.RowKit
end Go.Proofs.Ytaomehlhopiblaa
/-! The walks of the closures that fill in what each node needs. -/
namespace Go.Proofs.Ytaomehlhopiblaa
open Go.RowKit
theorem blkU_set {w : World} {g : Nat} {vs : List Nat} (h : Blk w g 22 (vs.map encU).toArray) (i x : Nat) : Blk (w.setCell ⟨g, i, none⟩ (encU x)) g 22 ((vs.set i x).map encU).toArray := by
  have := h.set_ i (encU x)
  rw [List.map_set, ← List.setIfInBounds_toArray]
  exact this
/-- What a closure finds: the values of each node up to here, and where they lie. -/
structure AtBn (w : World) (g gv n : Nat) (vs : List Nat) : Prop where
  len : vs.length = n
  at_ : Blk w g 22 (vs.map encU).toArray
  var : Blk w gv 49 #[.slice (some ⟨g, 0, none⟩) n n]
theorem AtBn.call {w w' : World} {g gv n : Nat} {vs : List Nat} (h : AtBn w g gv n vs) (hb : Below w.heap.size w w') : AtBn w' g gv n vs := ⟨h.len, h.at_.call hb, h.var.call hb⟩
theorem AtBn.drewN {w : World} {g gv n : Nat} {vs : List Nat} (h : AtBn w g gv n vs) (q : Nat) : AtBn (w.drewN q) g gv n vs := ⟨h.len, h.at_, h.var⟩
theorem AtBn.ne {w : World} {g gv n : Nat} {vs : List Nat} (h : AtBn w g gv n vs) : gv ≠ g := h.var.ne_ h.at_ (by decide)
theorem AtBn.set {w : World} {g gv n : Nat} {vs : List Nat} (h : AtBn w g gv n vs) (i x : Nat) : AtBn (w.setCell ⟨g, i, none⟩ (encU x)) g gv n (vs.set i x) := ⟨by rw [List.length_set]; exact h.len, blkU_set h.at_ i x, h.var.far (p := ⟨g, i, none⟩) h.ne (encU x)⟩
end Go.Proofs.Ytaomehlhopiblaa
/-! The walk of Extra's closure. -/
namespace Go.Proofs.Ytaomehlhopiblaa
open Go.RowKit
end Go.Proofs.Ytaomehlhopiblaa
/-! The walks of the bound's functions. -/
/-! The walks of the bound's functions. -/
namespace Go.Proofs.Ytaomehlhopiblaa
open Go.RowKit
/-- A formula without sugar is a tree. -/
theorem plain_tree {l : List Nd} (hb : (formL l && plainS l) = true) : formL l = true ∧ plainS l = true ∧ ∃ t, treeS l = some t := by
  rw [Bool.and_eq_true] at hb
  refine ⟨hb.1, hb.2, ?_⟩
  have := hb.1
  unfold formL at this
  cases ht : treeS l with
  | none => rw [ht] at this; cases this
  | some t => exact ⟨t, rfl⟩
def onT (f : Tr → Nat) (l : List Nd) : Nat := if (formL l && plainS l) = true then (match treeS l with | some t => f t | none => 0) else 0
theorem onT_no {f : Tr → Nat} {l : List Nd} (hb : (formL l && plainS l) = false) : onT f l = 0 := by unfold onT; rw [hb]; rfl
theorem onT_yes {f : Tr → Nat} {l : List Nd} {t : Tr} (hb : (formL l && plainS l) = true) (ht : treeS l = some t) : onT f l = f t := by unfold onT; rw [if_pos hb, ht]
/-- The part below a match: it is a list of its own, with as many steps. -/
theorem part_steps {l : List Nd} (hn : l.length ≤ 1000) {t : Tr} (ht : treeS l = some t) (i : Nat) (hi : i < l.length) (h : Nd) (a : Tr) (hx : t.sub i = .un h a) (hr : regS a.root.kind = true) :
    partL l ((i : Int) - 1) = a.flat 0 ∧ (kindS (a.flat 0) 18).length = stepsN a ∧ (a.flat 0).length ≤ 1000 ∧ stepsN a ≤ 1000 := by
  have hlen := tree_len ht
  have hval := sub_valid t i (tree_valid ht)
  rw [hx] at hval
  simp only [validT, Bool.and_eq_true] at hval
  have hva := hval.2
  obtain ⟨hs1, hs2, _⟩ := sub_un_kid (by omega) hx
  have hp := a.size_pos
  have hpart : partL l ((i : Int) - 1) = a.flat 0 := by
    unfold partL
    rw [ht]
    simp only
    rw [if_pos ⟨by omega, by omega⟩, show ((i : Int) - 1).toNat = i - 1 by omega, hs2]
  obtain ⟨a', e1, e2, e3, e4, _⟩ := fold_flat a [] hva
  have ha' : treeS (a.flat 0) = some a' := by
    unfold treeS parseS
    rw [show (Tr.flat a 0) = Tr.flat a (total []) from rfl, e1]
  have hr' : regS a'.root.kind = true := by rw [e3]; exact hr
  have hsh := eq_shape (eq_of_flat a' a 0 (e4 0))
  have hk18 : (kindS (a.flat 0) 18).length = stepsN a := by
    unfold kindS
    have he : ownS (a.flat 0) = ownT a' 0 := by unfold ownS; rw [ha']; simp only; rw [if_pos hr']
    rw [he, ← shape_steps hsh]
    exact own_steps a' 0 _ [] [] (by simpa using tree_flat ha') rfl (regV_of (tree_valid ha') hr')
  have hql : (a.flat 0).length = a.size := Tr.length_flat a 0
  have hsb : stepsN a ≤ 1000 := by have := stepsN_le a; omega
  exact ⟨hpart, hk18, by omega, hsb⟩
end Go.Proofs.Ytaomehlhopiblaa
/-! The walk of bound.Once. -/
namespace Go.Proofs.Ytaomehlhopiblaa
open Go.RowKit
end Go.Proofs.Ytaomehlhopiblaa
