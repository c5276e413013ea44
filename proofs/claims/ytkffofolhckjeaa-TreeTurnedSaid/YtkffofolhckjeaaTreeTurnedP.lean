/- A list that may be, with one thing in one node changed: all that is told of it is as the reference tells it. For all numbers, places, choices and nodes; no condition. -/
import Derived.Test.YtkffofolhckjeaaTreeTurned
import Derived.Test.YtkffofolhckjeaaRowN
set_option linter.unusedVariables false
set_option linter.unusedSimpArgs false
namespace Go.Proofs.Ytkffofolhckjeaa
open Go.ChangeShapes Go.WideShapes Go.ChangeAt Go.RowKit

set_option maxRecDepth 100000 in
theorem treeTurned_lifted (os : Os) (started : os.Started) (H : Type) (enc : TypeId × Value → H) :
    ReturnsInHanded {} Try.checked os 11 .any (Rows.treeTurnedSpec.pre6 enc Try.prog Try.f11 Rows.treeTurnedRow.domain false) (Rows.treeTurnedSpec.post enc Try.prog Try.f11 false true false false) := by
  refine returnsInHanded_of_change (C := Try.checked) Try.own started (by kernel_rfl) Try.func11
    (ChangeSpec.witness6 (enc := enc) (C := Try.checked) false ⟨#[], #[.slice none 0 0, .int .u8 0, .int .u8 0, .agg #[.int .i64 0, .string ⟨#[]⟩, .int .i64 0, .int .i64 0, .slice none 0 0]], []⟩ 8 (by kernel_rfl) (by kernel_rfl) (by kernel_rfl) (by kernel_rfl)) ?_
  intro W base args ds gs before hval0 hW hcnd _
  have hval : ∀ (j : Nat) t v, Try.f11.params[j]? = some t → args[j]? = some v → Value.okWide Try.prog W .any base t v := hval0
  have hW' := hW
  obtain ⟨p, q, hA0, hV, rfl, hfz, hnd⟩ := hW
  have hA : DataW.TrodAll enc Try.prog W 0 (fun _ => true) true Try.f11.params.toList args.toList ds p := hA0
  have hA1 := hA
  rw [Try.params11] at hA hval
  obtain ⟨v0, v1, v2, v3, d0, d1, d2, d3, p0, p1, p2, p3, rfl, rfl, rfl, h0, h1, h2, h3⟩ := trodAll_four hA
  obtain ⟨rfl, rfl⟩ := trodVars_none hV
  obtain ⟨A, n, c, ns, rfl, hns, hr⟩ := open_u16s Try.underlying49 Try.underlying89 (by kernel_rfl) (hval 0 49 v0 rfl rfl) h0
  obtain ⟨z1, rfl, rfl, rfl, w1⟩ := open_int Try.underlying5 (hval 1 5 v1 rfl rfl) h1
  obtain ⟨at_, rfl, hat_⟩ := u8_of_wf w1
  obtain ⟨z2, rfl, rfl, rfl, w2⟩ := open_int Try.underlying5 (hval 2 5 v2 rfl rfl) h2
  obtain ⟨what, rfl, hwhat⟩ := u8_of_wf w2
  obtain ⟨nd, Ak, ck, rfl, hck, hkr⟩ := open_node (hval 3 57 v3 rfl rfl) h3
  clear hA0 hval0
  rw [List.append_nil] at hW'
  have hC : Calls Try.prog 11 #[.slice A n c, .int .u8 at_, .int .u8 what, .agg #[.int .i64 nd.kind, .string nd.name, .int .i64 nd.lo, .int .i64 nd.hi, .slice Ak nd.kids.length ck]] W fun e w' => e = .returned (.bool true) ∧ Below W.heap.size W w' := by
    exact treeTurned_c (sat_heapF W) ns hns A n c hr at_ what hat_ hwhat nd Ak ck hck hkr
  refine hC.mono fun e W' ⟨he, hb⟩ => ?_
  subst he
  exact ⟨_, rfl, law_post (T := 4) Try.laidOut rfl hW' hA1 (by rw [Try.params11]; decide +kernel) (by kernel_rfl) Try.underlying4 rfl hb⟩

theorem treeTurned_holds : Rows.TreeTurnedSaid :=
  OpenClaim.holds_of_wide 11 Try.f11 rfl rfl rfl rfl rfl rfl rfl ⟨rfl, rfl, rfl, rfl, rfl⟩ rfl rfl rfl rfl rfl (by kernel_rfl) Try.func11 (by kernel_rfl)
    (of_decide_eq_true (by kernel_rfl)) (by unfold Func.isWrapper; first | (rw [if_pos (by decide +kernel)]; kernel_rfl) | (rw [if_neg (by decide +kernel)]; exact ⟨rfl, rfl⟩))
    (fun os started H enc _ => treeTurned_lifted os started H enc)
#print axioms treeTurned_holds
end Go.Proofs.Ytkffofolhckjeaa
