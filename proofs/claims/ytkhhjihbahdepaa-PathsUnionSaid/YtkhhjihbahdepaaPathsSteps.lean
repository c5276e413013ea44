/- Trees whose lists are one have one shape. -/
import Derived.Test.YtkhhjihbahdepaaPathsP
import Derived.Test.YtkhhjihbahdepaaPoints
import Derived.Test.YtkhhjihbahdepaaPathsParts
import Derived.Test.YtkhhjihbahdepaaOver
import Derived.Test.YtkhhjihbahdepaaBuild
set_option linter.unusedVariables false
set_option linter.unusedSimpArgs false
/-! Trees whose lists are one have one shape. -/
namespace Go.Proofs.Ytkhhjihbahdepaa
/-- Two trees of one shape, kind by kind. -/
def ShapeT : Tr → Tr → Prop
  | .leaf h, .leaf h' => h.kind = h'.kind
  | .un h a, .un h' a' => h.kind = h'.kind ∧ ShapeT a a'
  | .bin h a b, .bin h' a' b' => h.kind = h'.kind ∧ ShapeT a a' ∧ ShapeT b b'
  | _, _ => False
theorem shape_of_flat : ∀ (s t : Tr) (o : Nat), s.flat o = t.flat o → ShapeT s t
  | .leaf h, .leaf h', o, e => by
    simp only [Tr.flat, List.cons.injEq, and_true] at e
    have h1 := congrArg Nd.kind e
    exact h1
  | .leaf h, .un h' a', o, e => by
    have h1 := congrArg List.length e
    have := a'.size_pos
    simp [Tr.flat, Tr.length_flat] at h1; omega
  | .leaf h, .bin h' a' b', o, e => by
    have h1 := congrArg List.length e
    have := a'.size_pos
    simp [Tr.flat, Tr.length_flat] at h1; omega
  | .un h a, .leaf h', o, e => by
    have h1 := congrArg List.length e
    have := a.size_pos
    simp [Tr.flat, Tr.length_flat] at h1; omega
  | .bin h a b, .leaf h', o, e => by
    have h1 := congrArg List.length e
    have := a.size_pos
    simp [Tr.flat, Tr.length_flat] at h1; omega
  | .un h a, .un h' a', o, e => by
    simp only [Tr.flat] at e
    obtain ⟨h1, h2⟩ := List.append_inj' e rfl
    simp only [List.cons.injEq, and_true] at h2
    have h9 := congrArg Nd.kind h2
    exact ⟨h9, shape_of_flat a a' o h1⟩
  | .un h a, .bin h' a' b', o, e => by
    simp only [Tr.flat] at e
    obtain ⟨h1, h2⟩ := List.append_inj' e rfl
    simp only [List.cons.injEq, and_true] at h2
    have h3 := congrArg Nd.kids h2
    simp at h3
  | .bin h a b, .un h' a', o, e => by
    simp only [Tr.flat] at e
    obtain ⟨h1, h2⟩ := List.append_inj' e rfl
    simp only [List.cons.injEq, and_true] at h2
    have h3 := congrArg Nd.kids h2
    simp at h3
  | .bin h a b, .bin h' a' b', o, e => by
    simp only [Tr.flat] at e
    obtain ⟨h1, h2⟩ := List.append_inj' e rfl
    simp only [List.cons.injEq, and_true] at h2
    have h3 := congrArg Nd.kids h2
    simp only [List.cons.injEq, and_true] at h3
    have hsz : a.size = a'.size := by omega
    obtain ⟨h4, h5⟩ := List.append_inj h1 (by rw [Tr.length_flat, Tr.length_flat, hsz])
    rw [hsz] at h5
    have h9 := congrArg Nd.kind h2
    exact ⟨h9, shape_of_flat a a' o h4, shape_of_flat b b' _ h5⟩
theorem shape_tests : ∀ {s t : Tr}, ShapeT s t → testsT s = testsT t
  | .leaf _, .leaf _, _ => rfl
  | .un h a, .un h' a', e => by simp [testsT, e.1, shape_tests e.2]
  | .bin h a b, .bin h' a' b', e => by simp [testsT, shape_tests e.2.1, shape_tests e.2.2]
theorem shape_reach (n : Nat) (v : Nat → Nat → Bool) : ∀ {s t : Tr} (k : Nat), ShapeT s t → reachT n v s k = reachT n v t k
  | .leaf _, .leaf _, _, _ => rfl
  | .un h a, .un h' a', k, e => by simp [reachT, e.1, shape_reach n v k e.2]
  | .bin h a b, .bin h' a' b', k, e => by simp [reachT, e.1, shape_reach n v k e.2.1, shape_reach n v (k + testsT a') e.2.2, shape_tests e.2.1]
/-- What is read out of a tree's list reaches what the tree reaches. -/
theorem reach_of_flat {l : List Nd} {s t : Tr} (h : treeS l = some s) (e : l = t.flat 0) (n : Nat) (v : Nat → Nat → Bool) (k : Nat) : reachT n v s k = reachT n v t k :=
  shape_reach n v k (shape_of_flat s t 0 (by rw [← tree_flat h, e]))
/-! ### Steps one behind the other -/
def nd18 : Nd := ⟨18, ⟨#[]⟩, 0, 0, []⟩
def nd21 : Nd := ⟨21, ⟨#[]⟩, 0, 0, []⟩
def nd22 : Nd := ⟨22, ⟨#[]⟩, 0, 0, []⟩
/-- So many steps and one. -/
def seqT : Nat → Tr
  | 0 => .leaf nd18
  | p + 1 => .bin nd21 (seqT p) (.leaf nd18)
def manyT : Tr := .un nd22 (.leaf nd18)
theorem size_seq : ∀ p, (seqT p).size = 2 * p + 1
  | 0 => rfl
  | p + 1 => by simp [seqT, Tr.size, size_seq p]; omega
theorem seq_reach (n : Nat) (v : Nat → Nat → Bool) : ∀ (p k : Nat), EqM n (reachT n v (seqT p) k) (fun i j => decide (i + (p + 1) = j))
  | 0, k => fun i j _ _ => by simp [seqT, reachT, stepM]
  | p + 1, k => fun i j hi hj => by
    have ih := seq_reach n v p k
    rw [Bool.eq_iff_iff]
    show reachT n v (.bin nd21 (seqT p) (.leaf nd18)) k i j = true ↔ _
    have e : reachT n v (.bin nd21 (seqT p) (.leaf nd18)) k = prodM n (reachT n v (seqT p) k) stepM := rfl
    rw [e, prodM_iff]
    constructor
    · rintro ⟨x, hx, h1, h2⟩
      rw [ih i x hi hx] at h1
      simp [stepM] at h1 h2 ⊢
      omega
    · intro h
      simp at h
      refine ⟨i + (p + 1), by omega, ?_, ?_⟩
      · rw [ih i _ hi (by omega)]; simp
      · simp [stepM]; omega
theorem star_step (n : Nat) : EqM n (starM n stepM) (fun i j => decide (i ≤ j)) := fun i j hi hj => by
  rw [Bool.eq_iff_iff, star_iff step_fw hi hj]
  simp only [decide_eq_true_eq]
  constructor
  · rintro ⟨k, h⟩
    exact (pw_short step_fw k hi h).1
  · intro h
    refine ⟨j - i, ?_⟩
    generalize hd : j - i = d
    induction d generalizing i with
    | zero => exact pw_zero.2 (by omega)
    | succ d ih => exact pw_succ.2 ⟨i + 1, by omega, refl_iff.2 (.inr (by simp [stepM])), ih (i + 1) (by omega) (by omega) (by omega)⟩
theorem any_reach (n : Nat) (v : Nat → Nat → Bool) (p : Nat) : EqM n (reachT n v (.bin nd21 (seqT p) manyT) 0) (fun i j => decide (i + (p + 1) ≤ j)) := fun i j hi hj => by
  have e : reachT n v (.bin nd21 (seqT p) manyT) 0 = prodM n (reachT n v (seqT p) 0) (starM n stepM) := rfl
  have h1 := seq_reach n v p 0
  have h2 := star_step n
  rw [Bool.eq_iff_iff, e, prodM_iff]
  constructor
  · rintro ⟨x, hx, h3, h4⟩
    rw [h1 i x hi hx] at h3
    rw [h2 x j hx hj] at h4
    simp at h3 h4 ⊢
    omega
  · intro h
    simp at h
    refine ⟨i + (p + 1), by omega, ?_, ?_⟩
    · rw [h1 i _ hi (by omega)]; simp
    · rw [h2 _ j (by omega) hj]; simp; exact h
end Go.Proofs.Ytkhhjihbahdepaa
/-! The walk of the law PathsSteps. -/
namespace Go.Proofs.Ytkhhjihbahdepaa
open Go.RowKit
theorem ok_regS {b : Bool} {t : Tr} (h : okR b t = true) : ∃ t', treeS (t.flat 0) = some t' ∧ regS t'.root.kind = true := by
  obtain ⟨h1, h2, _⟩ := okR_iff.1 h
  obtain ⟨t', e1, _, e2⟩ := tree_of_valid h1
  exact ⟨t', e1, by rw [e2]; exact h2⟩
theorem node18 {w : World} {g : Nat} (h : Blk w g 37 #[.int .i64 18, .string ⟨#[]⟩, .int .i64 0, .int .i64 0, .slice none 0 0]) : NodesF (heapF w) (some ⟨g, 0, none⟩) 1 ((Tr.leaf nd18).flat 0) := by
  have hv : NodesV (heapF w) ((Tr.leaf nd18).flat 0) [.int .i64 18, .string ⟨#[]⟩, .int .i64 0, .int .i64 0, .slice none 0 0] := .cons _ _ none 0 [] (Nat.le_refl _) Rd.nil .nil
  refine hv.toF ⟨rfl, fun _ => ⟨_, rfl, fun j u hu => ?_⟩⟩
  rw [add_lit0]
  unfold Fz.cell heapF
  rw [h]
  simpa using hu
theorem many_flat : manyT.flat 0 = awakeM := rfl
theorem seq_ok : ∀ p, okR false (seqT p) = true
  | 0 => by decide
  | p + 1 => binR (n := nd21) (fK2 21 (by omega)) (by decide) (by decide) (by decide) _ _ (seq_ok p) (by decide)
theorem any_ok (p : Nat) : okR false (.bin nd21 (seqT p) manyT) = true := binR (n := nd21) (fK2 21 (by omega)) (by decide) (by decide) (by decide) _ _ (seq_ok p) (by decide)
theorem nil_rows {w : World} {g n : Nat} (h : Blk w g 23 (zeros (.slice none 0 0) n)) : RdR (heapF w) (some ⟨g, 0, none⟩) n (List.replicate n []) := by
  refine ⟨by simp, fun i hi => ⟨⟨g, 0, none⟩, none, 0, 0, rfl, ?_, ?_⟩⟩
  · rw [add_lit0]
    unfold Fz.cell heapF
    rw [h]
    simp at hi
    simp [zeros, hi]
  · simp at hi
    rw [List.getD, List.getElem?_replicate, if_pos hi]
    exact Rd.nil
theorem makeRn (n : Nat) (hn : n ≤ 1000000) (w : World) : (Instr.makeSlice 26 (.int .i64 (n : Int)) (.int .i64 (n : Int))).run Try.prog w = .ok (.slice (some ⟨w.heap.size, 0, none⟩) n n) (w.alloc (.cells (zeros (.slice none 0 0) n) 23)) :=
  run_make1 26 23 (.slice none 0 0) 24 Try.underlying26 (by kernel_rfl) rfl n (by omega) (by omega) w
set_option maxRecDepth 100000 in
set_option maxHeartbeats 4000000 in
theorem pathsSteps_c (w : World) (k n : Nat) (hk : k < 256) (hn : n < 256) :
    Calls Try.prog 5 #[.int .u8 k, .int .u8 n] w fun e w' => e = .returned (.bool true) ∧ Below w.heap.size w w' := by
  obtain ⟨K, hK⟩ : ∃ K, k % 6 = K := ⟨_, rfl⟩
  obtain ⟨N, hN⟩ : ∃ N, n % 10 = N := ⟨_, rfl⟩
  have hK6 : K ≤ 5 := by omega
  have hN9 : N ≤ 9 := by omega
  have i1 : (k : Int) % 6 = (K : Int) := by omega
  have i2 : (n : Int) % 10 = (N : Int) := by omega
  have hmk := makeRn N (by omega)
  clear hK hN
  have hB0 := node18 (Blk.new w 37 #[.int .i64 18, .string ⟨#[]⟩, .int .i64 0, .int .i64 0, .slice none 0 0])
  have hb0 := balloc w (.cells #[.int .i64 18, .string ⟨#[]⟩, .int .i64 0, .int .i64 0, .slice none 0 0] 37)
  go_enter Try.func5, Try.ntmps5
  go_wp2_with fail
  rw [i1]
  go_loopw [5, 18] (fun v5 i wr => ∃ (p : Nat) (A : Option Addr) (c : Nat), p ≤ K ∧ i = .int .i64 p ∧ v5 = .slice A (2 * p + 1) c ∧ NodesF (heapF wr) A (2 * p + 1) ((seqT p).flat 0) ∧ Below w.heap.size w wr) (fun _ i _ => K - (intOf i).toNat)
  case atStart => exact ⟨0, _, 1, Nat.zero_le _, rfl, rfl, hB0, hb0⟩
  case round =>
    clear hB0 hb0
    obtain ⟨p, A, c, hp, rfl, rfl, hNd, hbl⟩ := hrel
    by_cases hpK : p < K
    · have hpI : (p : Int) < (K : Int) := by omega
      have hB1 := node18 (Blk.new wr 37 #[.int .i64 18, .string ⟨#[]⟩, .int .i64 0, .int .i64 0, .slice none 0 0])
      have hNd1 := hNd.cle (cle_below (balloc wr (.cells #[.int .i64 18, .string ⟨#[]⟩, .int .i64 0, .int .i64 0, .slice none 0 0] 37)))
      have hO := over_w (sat_heapF _) nd21 none 0 0 ((seqT p).flat 0) ((Tr.leaf nd18).flat 0) (by rw [Tr.length_flat, size_seq]; omega) (by simp [Tr.flat]) A (some ⟨wr.heap.size, 0, none⟩) (2 * p + 1) 1 c 1 hNd1 hB1 (flat_kids _ 0 (by simp [Tr.size]))
      rw [over_bin, show (Tr.bin nd21 (seqT p) (.leaf nd18)) = seqT (p + 1) from rfl] at hO
      have HO := Lib.hid hO
      have HL : Hid (((seqT (p + 1)).flat 0).length = 2 * (p + 1) + 1) := Lib.hid (by rw [Tr.length_flat, size_seq])
      have hb1 := bthen hbl (balloc wr (.cells #[.int .i64 18, .string ⟨#[]⟩, .int .i64 0, .int .i64 0, .slice none 0 0] 37))
      clear hO hNd hNd1 hB1
      go_wp2_with fail
      go_at_call 16
      refine HO.out.mono ?_
      rintro e w2 ⟨A2, c2, F2, rfl, hc2, hN2, hb2, hF2, hle2⟩
      rw [HL.out] at hN2
      rw [HL.out]
      go_wp2_with fail
      go_roundw
      case rel => exact ⟨p + 1, A2, c2, by omega, by go_num, rfl, hN2.cle hF2.cle, bthen hb1 hb2⟩
      case measure => simp [intOf]; omega
    · obtain rfl : p = K := by omega
      have hdec : decide ((p : Int) < (p : Int)) = false := decide_eq_false (by omega)
      have hdecN : decide (p < p) = false := decide_eq_false (by omega)
      obtain ⟨t1, ht1, hr1⟩ := ok_regS (seq_ok p)
      obtain ⟨t2, ht2, hr2⟩ := ok_regS (any_ok p)
      obtain ⟨L, hL⟩ : ∃ L, 2 * p + 1 = L := ⟨_, rfl⟩
      rw [hL] at hNd
      rw [hL]
      obtain ⟨far, hfar⟩ : ∃ far, p + 1 = far := ⟨_, rfl⟩
      have i3 : (1 : Int) + (p : Int) = (far : Int) := by omega
      have hm1 : EqM N (reachT N (valS (List.replicate N [])) t1 0) (fun i j => decide (i + far = j)) := by
        rw [reach_of_flat ht1 rfl, ← hfar]; exact seq_reach N _ p 0
      have hm2 : EqM N (reachT N (valS (List.replicate N [])) t2 0) (fun i j => decide (i + far ≤ j)) := by
        rw [reach_of_flat ht2 rfl, ← hfar]; exact any_reach N _ p
      have hL1 : ((seqT p).flat 0).length ≤ 1000 := by rw [Tr.length_flat, size_seq]; omega
      have hL2 : ((Tr.bin nd21 (seqT p) manyT).flat 0).length ≤ 1000 := by rw [Tr.length_flat]; simp [Tr.size, size_seq, manyT]; omega
      obtain ⟨W1, hW1⟩ : ∃ W1, W1 = wr.alloc (.cells (zeros (.slice none 0 0) N) 23) := ⟨_, rfl⟩
      have hv := nil_rows (hW1 ▸ Blk.new wr 23 (zeros (.slice none 0 0) N))
      have hz1 : wr.heap.size < W1.heap.size := by rw [hW1]; simp
      have hb1 : Below w.heap.size w W1 := hW1 ▸ bthen hbl (balloc _ _)
      have hNd1 : NodesF (heapF W1) A L ((seqT p).flat 0) := hNd.cle (hW1 ▸ cle_below (balloc wr _))
      have HR1 := Lib.hid (pReachTab (sat_heapF W1) ((seqT p).flat 0) hL1 A L c hNd1 _ N N (by omega) _ hv)
      have HG1 := Lib.hid (reg_of ht1 hr1)
      have HG2 := Lib.hid (reg_of ht2 hr2)
      have HM1 := Lib.hid hm1
      have HM2 := Lib.hid hm2
      have HT1 := Lib.hid ht1
      have HT2 := Lib.hid ht2
      have HR1' := Lib.hid hr1
      have HR2' := Lib.hid hr2
      have HL2 := Lib.hid hL2
      have HW1 := Lib.hid hW1
      have HN1 := Lib.hid hNd1
      have HV := Lib.hid hv
      have HL1 := Lib.hid hL1
      have hK5 : far ≤ 6 := by omega
      clear hm1 hm2 ht1 ht2 hr1 hr2 hL2 hL1 hW1 hNd1 hNd hv hL hfar
      go_wp2_with fail
      go_at_call 15
      rw [← HW1.out]
      refine HR1.out.mono ?_
      rintro e W2 ⟨A1, c1, rfl, hb2, hT1⟩
      rw [if_pos HG1.out]
      have hTm := hT1 t1 HT1.out HR1'.out
      have q2 := bthen hb1 hb2
      obtain ⟨W3, hW3⟩ : ∃ W3, W3 = (W2.alloc (.cells #[.int .i64 0] 3)).alloc (.cells #[.int .i64 18, .string ⟨#[]⟩, .int .i64 0, .int .i64 0, .slice none 0 0, .int .i64 22, .string ⟨#[]⟩, .int .i64 0, .int .i64 0, .slice (some ⟨W2.heap.size, 0, none⟩) 1 1] 37) := ⟨_, rfl⟩
      have hk1 : Blk W3 W2.heap.size 3 #[.int .i64 0] := hW3 ▸ (Blk.new W2 3 #[.int .i64 0]).alloc _
      have hk2 : Blk W3 (W2.heap.size + 1) 37 #[.int .i64 18, .string ⟨#[]⟩, .int .i64 0, .int .i64 0, .slice none 0 0, .int .i64 22, .string ⟨#[]⟩, .int .i64 0, .int .i64 0, .slice (some ⟨W2.heap.size, 0, none⟩) 1 1] := hW3 ▸ Blk.new2 _ _ _ _
      have hb3 : Below W2.heap.size W2 W3 := hW3 ▸ ((balloc _ _).alloc (by simp) _)
      have hNm := awakeM_nodes hk1 hk2
      rw [← many_flat] at hNm
      have hNs := (HN1.out.cle (cle_below hb2)).cle (cle_below hb3)
      have hO := over_w (sat_heapF W3) nd21 none 0 0 ((seqT p).flat 0) (manyT.flat 0) HL1.out (by rw [many_flat]; decide) A (some ⟨W2.heap.size + 1, 0, none⟩) L 2 c 2 hNs hNm (flat_kids _ 0 (by decide))
      rw [over_bin] at hO
      obtain ⟨L2, hL2⟩ : ∃ L2, ((Tr.bin nd21 (seqT p) manyT).flat 0).length = L2 := ⟨_, rfl⟩
      have HLL := Lib.hid hL2
      have HO := Lib.hid hO
      have HW3 := Lib.hid hW3
      have q3 := bthen q2 hb3
      have HTM := Lib.hid hTm
      have hv3 := Lib.hid ((HV.out.cle (cle_below hb2)).cle (cle_below hb3))
      have hb3z := hb3.size
      clear hT1 hk1 hk2 hNm hNs hO hL2 hW3 hTm
      go_wp2_with fail
      go_at_call 16
      rw [← HW3.out]
      refine HO.out.mono ?_
      rintro e W4 ⟨A2, c2, F2, rfl, hc2, hN2, hb4, hF2, hle2⟩
      rw [HLL.out] at hN2 hc2
      rw [HLL.out]
      have q4 := bthen q3 hb4
      have HR2 := Lib.hid (pReachTab (sat_heapF W4) _ HL2.out A2 L2 c2 (hN2.cle hF2.cle) _ N N (by omega) _ (hv3.out.cle (cle_below hb4)))
      clear hN2 hle2
      go_wp2_with fail
      go_at_call 15
      refine HR2.out.mono ?_
      rintro e W5 ⟨A3, c3, rfl, hb5, hT2⟩
      rw [if_pos HG2.out]
      have hTn := hT2 t2 HT2.out HR2'.out
      have q5 := bthen q4 hb5
      have hTm5 : 0 < N → ∃ g, A1 = some ⟨g, 0, none⟩ ∧ SqF (heapF W5) g N (fun i j => decide (i + far = j)) := fun h => let ⟨g, a, b, c, d⟩ := HTM.out h; ⟨g, a, (((d.call hb3).call hb4).call hb5).congr HM1.out⟩
      have hTn5 : 0 < N → ∃ g, A3 = some ⟨g, 0, none⟩ ∧ SqF (heapF W5) g N (fun i j => decide (i + far ≤ j)) := fun h => let ⟨g, a, b, c, d⟩ := hTn h; ⟨g, a, d.congr HM2.out⟩
      have HS1 := Lib.hid (square_w (w := W5) (n := N) (by omega) A1 c1 _ hTm5)
      have HS2 := Lib.hid (square_w (w := W5) (n := N) (by omega) A3 c3 _ hTn5)
      have HTA := Lib.hid hTm5
      have HTB := Lib.hid hTn5
      clear hT2 hTn hTm5 hTn5
      go_wp2_with fail
      go_at_call 17
      refine HS1.out.mono ?_
      rintro e w4 ⟨rfl, rfl⟩
      go_wp2_with fail
      go_at_call 17
      refine HS2.out.mono ?_
      rintro e w5 ⟨rfl, rfl⟩
      go_wp2_with fail
      go_loop [11, 12, 58] (fun _ _ v => ∃ a : Nat, a ≤ N ∧ v = .int .i64 a) (fun _ _ v => N - (intOf v).toNat)
      case atStart => exact ⟨0, Nat.zero_le _, rfl⟩
      case round =>
        obtain ⟨a, ha, rfl⟩ := hrel
        by_cases haN : a < N
        · have haI : (a : Int) < (N : Int) := by omega
          obtain ⟨g1, e1, S1⟩ := HTA.out (by omega)
          obtain ⟨g2, e2, S2⟩ := HTB.out (by omega)
          subst e1 e2
          have m1 := S1.slot haN
          have m2 := S2.slot haN
          go_wp2_with fail
          go_loop [12, 62] (fun _ v => ∃ b : Nat, b ≤ N ∧ v = .int .i64 b) (fun _ v => N - (intOf v).toNat)
          case atStart => exact ⟨0, Nat.zero_le _, rfl⟩
          case round =>
            obtain ⟨b, hb, rfl⟩ := hrel
            by_cases hbN : b < N
            · have hbI : (b : Int) < (N : Int) := by omega
              have v1 := S1.val haN hbN
              have v2 := S2.val haN hbN
              rcases Nat.lt_trichotomy (a + far) b with h | h | h
              · rw [show decide (a + far = b) = false from decide_eq_false (by omega)] at v1
                rw [show decide (a + far ≤ b) = true from decide_eq_true (by omega)] at v2
                have f1 : (((b : Int) - (a : Int)) == (far : Int)) = false := by rw [beq_eq_false_iff_ne]; omega
                have f2 : (far : Int) ≤ (b : Int) - (a : Int) := by omega
                clear h
                go_wp2_with fail
                go_round
                case rel => exact ⟨b + 1, by omega, by go_num⟩
                case measure => simp [intOf]; omega
              · rw [show decide (a + far = b) = true from decide_eq_true (by omega)] at v1
                rw [show decide (a + far ≤ b) = true from decide_eq_true (by omega)] at v2
                have f1 : (((b : Int) - (a : Int)) == (far : Int)) = true := by rw [beq_iff_eq]; omega
                have f2 : (far : Int) ≤ (b : Int) - (a : Int) := by omega
                clear h
                go_wp2_with fail
                go_round
                case rel => exact ⟨b + 1, by omega, by go_num⟩
                case measure => simp [intOf]; omega
              · rw [show decide (a + far = b) = false from decide_eq_false (by omega)] at v1
                rw [show decide (a + far ≤ b) = false from decide_eq_false (by omega)] at v2
                have f1 : (((b : Int) - (a : Int)) == (far : Int)) = false := by rw [beq_eq_false_iff_ne]; omega
                have f2 : decide ((far : Int) ≤ (b : Int) - (a : Int)) = false := decide_eq_false (by omega)
                clear h
                go_wp2_with fail
                go_round
                case rel => exact ⟨b + 1, by omega, by go_num⟩
                case measure => simp [intOf]; omega
            · obtain rfl : b = N := by omega
              have hdec2 : decide ((b : Int) < (b : Int)) = false := decide_eq_false (by omega)
              go_wp2_with fail
              go_round
              case rel => exact ⟨a + 1, by omega, by go_num⟩
              case measure => simp [intOf]; omega
        · obtain rfl : a = N := by omega
          have hdec2 : decide ((a : Int) < (a : Int)) = false := decide_eq_false (by omega)
          go_wp2_with (go_at_call 18; refine (awake14_w _).mono ?_; rintro e w6 ⟨rfl, hz⟩)
          go_ret
          exact ⟨rfl, bthen q5 hz⟩
end Go.Proofs.Ytkhhjihbahdepaa
