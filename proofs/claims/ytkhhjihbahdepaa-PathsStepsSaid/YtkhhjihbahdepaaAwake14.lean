/- The walk of law 14's awake. -/
import Derived.Test.YtkhhjihbahdepaaPReach
set_option linter.unusedVariables false
set_option linter.unusedSimpArgs false
namespace Go.Proofs.Ytkhhjihbahdepaa
open Go.RowKit
/-- The regular expression that every program must know. -/
def awakeM : List Nd := [⟨18, ⟨#[]⟩, 0, 0, []⟩, ⟨22, ⟨#[]⟩, 0, 0, [0]⟩]
def awakeMT : Tr := .un ⟨22, ⟨#[]⟩, 0, 0, [0]⟩ (.leaf ⟨18, ⟨#[]⟩, 0, 0, []⟩)
theorem awakeM_tree : treeS awakeM = some awakeMT := by kernel_rfl
theorem awakeM_reg : regL awakeM = true := by kernel_rfl
theorem awakeM_steps : (zs (kindS awakeM 18)).length = 1 := by kernel_rfl
theorem awakeM_nodes {w : World} {g1 g2 : Nat} (h1 : Blk w g1 3 #[.int .i64 0]) (h2 : Blk w g2 37 #[.int .i64 18, .string ⟨#[]⟩, .int .i64 0, .int .i64 0, .slice none 0 0, .int .i64 22, .string ⟨#[]⟩, .int .i64 0, .int .i64 0, .slice (some ⟨g1, 0, none⟩) 1 1]) :
    NodesF (heapF w) (some ⟨g2, 0, none⟩) 2 awakeM := by
  have hk : Rd (heapF w) 1 (some ⟨g1, 0, none⟩) 1 ([(0 : Int)].map (Value.int .i64)) := by
    refine ⟨rfl, fun _ => ⟨_, rfl, fun j u hu => ?_⟩⟩
    rw [add_lit0]
    unfold Fz.cell heapF
    rw [h1]
    simpa using hu
  have hv : NodesV (heapF w) awakeM [.int .i64 18, .string ⟨#[]⟩, .int .i64 0, .int .i64 0, .slice none 0 0, .int .i64 22, .string ⟨#[]⟩, .int .i64 0, .int .i64 0, .slice (some ⟨g1, 0, none⟩) 1 1] :=
    .cons _ _ none 0 _ (Nat.le_refl _) Rd.nil (.cons _ _ (some ⟨g1, 0, none⟩) 1 [] (Nat.le_refl _) hk .nil)
  refine hv.toF ⟨rfl, fun _ => ⟨_, rfl, fun j u hu => ?_⟩⟩
  rw [add_lit0]
  unfold Fz.cell heapF
  rw [h2]
  simpa using hu
theorem awakeM_vals {w : World} {g : Nat} (h : Blk w g 23 (zeros (.slice none 0 0) 2)) : RdR (heapF w) (some ⟨g, 0, none⟩) 2 [[], []] := by
  refine ⟨rfl, fun i hi => ⟨⟨g, 0, none⟩, none, 0, 0, rfl, ?_, ?_⟩⟩
  · rw [add_lit0]
    unfold Fz.cell heapF
    rw [h]
    simp at hi
    have : i = 0 ∨ i = 1 := by omega
    rcases this with rfl | rfl <;> rfl
  · simp at hi
    have : i = 0 ∨ i = 1 := by omega
    rcases this with rfl | rfl <;> exact Rd.nil
theorem awakeM_m (v : Nat → Nat → Bool) : reachT 2 v awakeMT 0 0 0 = true ∧ reachT 2 v awakeMT 0 0 1 = true ∧ reachT 2 v awakeMT 0 1 0 = false ∧ reachT 2 v awakeMT 0 1 1 = true := by
  have e : reachT 2 v awakeMT 0 = starM 2 stepM := rfl
  rw [e]
  decide
theorem makeR14 (w : World) : (Instr.makeSlice 26 (.int .i64 2) (.int .i64 2)).run Try.prog w = .ok (.slice (some ⟨w.heap.size, 0, none⟩) 2 2) (w.alloc (.cells (zeros (.slice none 0 0) 2) 23)) := by
  exact run_make1 26 23 (.slice none 0 0) 24 Try.underlying26 (by kernel_rfl) rfl 2 (by omega) (by omega) w
set_option maxRecDepth 100000 in
set_option maxHeartbeats 2000000 in
theorem awake14_w (w : World) : Calls Try.prog 18 #[] w fun e w' => e = .returned (.bool true) ∧ Below w.heap.size w w' := by
  obtain ⟨N1, hN1⟩ : ∃ N1, N1 = (w.alloc (.cells #[.int .i64 0] 3)).alloc (.cells #[.int .i64 18, .string ⟨#[]⟩, .int .i64 0, .int .i64 0, .slice none 0 0, .int .i64 22, .string ⟨#[]⟩, .int .i64 0, .int .i64 0, .slice (some ⟨w.heap.size, 0, none⟩) 1 1] 37) := ⟨_, rfl⟩
  have hb1 : Blk N1 w.heap.size 3 #[.int .i64 0] := hN1 ▸ (Blk.new w 3 #[.int .i64 0]).alloc _
  have hb2 : Blk N1 (w.heap.size + 1) 37 #[.int .i64 18, .string ⟨#[]⟩, .int .i64 0, .int .i64 0, .slice none 0 0, .int .i64 22, .string ⟨#[]⟩, .int .i64 0, .int .i64 0, .slice (some ⟨w.heap.size, 0, none⟩) 1 1] := by
    have := Blk.new (w.alloc (.cells #[.int .i64 0] 3)) 37 #[.int .i64 18, .string ⟨#[]⟩, .int .i64 0, .int .i64 0, .slice none 0 0, .int .i64 22, .string ⟨#[]⟩, .int .i64 0, .int .i64 0, .slice (some ⟨w.heap.size, 0, none⟩) 1 1]
    rw [hN1]; simpa using this
  have hs1 : N1.heap.size = w.heap.size + 2 := by rw [hN1]; simp
  have hbl : Below w.heap.size w N1 := hN1 ▸ ((balloc _ _).alloc (by simp) _)
  obtain ⟨N, hN⟩ : ∃ N, N = N1.alloc (.cells (zeros (.slice none 0 0) 2) 23) := ⟨_, rfl⟩
  have hb3 : Blk N (w.heap.size + 2) 23 (zeros (.slice none 0 0) 2) := by rw [hN, ← hs1]; exact Blk.new _ _ _
  have hl := awakeM_nodes (w := N) (hN ▸ hb1.alloc _) (hN ▸ hb2.alloc _)
  have hv := awakeM_vals hb3
  have hbN : Below w.heap.size w N := hN ▸ bthen hbl (balloc _ _)
  have hR := pReachTab (sat_heapF N) awakeM (by decide) _ 2 2 hl _ 2 2 (by decide) [[], []] hv
  have hS := fun (X : World) (h : Below N.heap.size N X) => steps_w ((sat_heapF N).below h) awakeM (by decide) _ 2 2 hl
  obtain ⟨m00, m01, m10, m11⟩ := awakeM_m (valS [[], []])
  have HM := Lib.hid (fun t (h : treeS awakeM = some t) => show t = awakeMT by rw [awakeM_tree] at h; injection h with h; exact h.symm)
  have HT := Lib.hid (awakeM_tree)
  have HG := Lib.hid (awakeM_reg)
  have HL := Lib.hid (awakeM_steps)
  have HR := Lib.hid hR
  have HS := Lib.hid hS
  have HN1 := Lib.hid hN1
  have HN := Lib.hid hN
  have HS1 := Lib.hid hs1
  have hmk := makeR14
  have hrg : regS awakeMT.root.kind = true := by decide
  clear hR hS hN hs1 hN1 hb1 hb2 hb3 hl hv hbl
  go_enter Try.func18, Try.ntmps18
  go_wp2_with (go_at_call 15; rw [← HN1.out, ← HN.out])
  refine HR.out.mono ?_
  rintro e w3 ⟨A, c, rfl, hb3, hT⟩
  rw [if_pos HG.out]
  obtain ⟨g, rfl, rfl, hg, hS⟩ := hT _ HT.out hrg (by decide)
  have s0 : w3.cell? ⟨g, 0, none⟩ = some (.slice (some ⟨g + 1, 0, none⟩) 2 2) := hS.slot (i := 0) (by decide)
  have s1 : w3.cell? ⟨g, 1, none⟩ = some (.slice (some ⟨g + 1 + 1, 0, none⟩) 2 2) := hS.slot (i := 1) (by decide)
  have v00 : w3.cell? ⟨g + 1, 0, none⟩ = some (.bool true) := by rw [← m00]; exact hS.val (i := 0) (j := 0) (by decide) (by decide)
  have v01 : w3.cell? ⟨g + 1, 1, none⟩ = some (.bool true) := by rw [← m01]; exact hS.val (i := 0) (j := 1) (by decide) (by decide)
  have v10 : w3.cell? ⟨g + 1 + 1, 0, none⟩ = some (.bool false) := by rw [← m10]; exact hS.val (i := 1) (j := 0) (by decide) (by decide)
  have v11 : w3.cell? ⟨g + 1 + 1, 1, none⟩ = some (.bool true) := by rw [← m11]; exact hS.val (i := 1) (j := 1) (by decide) (by decide)
  have hS4 := HS.out w3 hb3
  have HS4 := Lib.hid hS4
  clear hS hT m00 m01 m10 m11 hg hS4
  go_wp2_with (go_at_call 23; refine HS4.out.mono ?_; rintro e w4 ⟨B, d, rfl, hd, hrd, hb4⟩; rw [HL.out])
  go_ret
  exact ⟨rfl, hbN.trans ((bthen hb3 hb4).mono hbN.size)⟩
end Go.Proofs.Ytkhhjihbahdepaa
