/- Law 15's variable none, as the rows of seat D list it. -/
import Derived.Test.YtdbbooibkiicnaaDoorRowN
import Derived.Test.YtdbbooibkiicnaaDoorTie
import Derived.LaidMore
import Derived.OpenShut
import Derived.Stop.Joined
set_option linter.unusedVariables false
set_option linter.unusedSimpArgs false
namespace Go.Proofs.YtdbbooibkiicnaaDoor
open Go.ChangeShapes Go.WideShapes Go.ChangeAt Go.RowKit
def laidN : List (String × DataW Unit) := [("watchglass/watchglasslaw15.none", Rows.laid_watchglass_watchglasslaw15_none)]
theorem gNone : Tryd.prog.globalNamed "watchglass/watchglasslaw15.none" = some 0 := by kernel_rfl
theorem tNone : (Tryd.prog.globals[0]?).map (·.type) = some 33 := by kernel_rfl
theorem none_met (os : Os) (args : Array Value) : laidMetH Tryd.prog laidN ((World.doorLaid Tryd.prog 14 os).forCall (fun _ _ => 0) ⟨#[], args, []⟩).memory :=
  laidMetH_of_parts3 (fuel := 8) (laidMet_of_run' 8 (by kernel_rfl) (by kernel_rfl)) (by kernel_rfl) (by kernel_rfl)
set_option maxRecDepth 100000 in
/-- What the condition gives: the variable's two cells. -/
theorem none_cells {W : World} (h : laidMetH Tryd.prog laidN W) : (heapF W).cell ⟨0, 0, none⟩ = some (.int .i64 0) ∧ (heapF W).cell ⟨0, 1, none⟩ = some (.int .i64 0) := by
  rw [MakeChecks.laidMetH_plain _ _ _ (by kernel_rfl)] at h
  obtain ⟨ps, ⟨g0, t0, cs0, f0, p0, q0, hg0, ht0, hv0, hd0, _, _⟩, _, _⟩ := h
  obtain rfl := Option.some.inj (gNone.symm.trans hg0)
  obtain rfl := Option.some.inj (tNone.symm.trans ht0)
  obtain ⟨xs, n, _, hx, hl, hlen, hf⟩ := DataW.trod_struct Tryd.underlying33 hd0
  have hc : Tryd.prog.cellsOf 33 = 2 := by kernel_rfl
  have hci : Tryd.prog.cellsOf 3 = 1 := by kernel_rfl
  rw [hc] at hl
  have f0' := hf 0 _ rfl
  have f1' := hf 1 _ rfl
  match xs, hlen, hx with
  | [x0, x1], _, hx =>
    simp only [Prod.mk.injEq, List.map_cons, List.map_nil] at hx
    have hx1 := hx.1
    simp only [Rows.laid_watchglass_watchglasslaw15_none, DataW.agg.injEq, List.cons.injEq, and_true] at hx1
    obtain ⟨k0, a0, b0, _⟩ := DataW.trod_int Tryd.underlying3 (show DataW.trod _ Tryd.prog W 0 _ false _ 3 _ = some x0 from f0')
    obtain ⟨k1, a1, b1, _⟩ := DataW.trod_int Tryd.underlying3 (show DataW.trod _ Tryd.prog W 0 _ false _ 3 _ = some x1 from f1')
    obtain rfl : k0 = 0 := by rw [b0] at hx1; simpa using hx1.1.symm
    obtain rfl : k1 = 0 := by rw [b1] at hx1; simpa using hx1.2.symm
    have v0 := World.var?_cell hg0 hv0 0
    have v1 := World.var?_cell hg0 hv0 1
    obtain ⟨l⟩ := cs0
    rcases l with _ | ⟨y0, _ | ⟨y1, _ | ⟨y2, l⟩⟩⟩
    · simp at hl
    · simp at hl
    · have b0' : List.take (Tryd.prog.cellsOf 3) (List.drop 0 [y0, y1]) = [.int .i64 0] := a0
      have b1' : List.take (Tryd.prog.cellsOf 3) (List.drop 1 [y0, y1]) = [.int .i64 0] := a1
      rw [hci] at b0' b1'
      simp at b0' b1'
      subst b0' b1'
      have c0 : W.cell? ⟨0, 0, none⟩ = some (.int .i64 0) := by simpa using v0
      have c1 : W.cell? ⟨0, 1, none⟩ = some (.int .i64 0) := by simpa using v1
      exact ⟨c0, c1⟩
    · simp at hl
theorem u64_natG {x : Int} (h : (Lit.int .u64 x).wf = true) : ∃ k : Nat, k < 18446744073709551616 ∧ x = (k : Int) := by
  simp [Lit.wf, IntKind.min, IntKind.max, IntKind.signed, IntKind.bits] at h
  exact ⟨x.toNat, by omega, by omega⟩
theorem u16_of_wf {x : Int} (h : (Lit.int .u16 x).wf = true) : ∃ k : Nat, x = (k : Int) ∧ k < 65536 := by
  simp [Lit.wf, IntKind.min, IntKind.max, IntKind.signed, IntKind.bits] at h
  exact ⟨x.toNat, by omega, by omega⟩
end Go.Proofs.YtdbbooibkiicnaaDoor
