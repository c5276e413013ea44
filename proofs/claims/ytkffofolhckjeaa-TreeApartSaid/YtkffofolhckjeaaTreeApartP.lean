/- The statement TreeApart: a list of nodes that may be is what Join makes of its root and its kids' parts, and so is each part; its depth is one more than theirs, its names are theirs; no condition. -/
import Derived.Test.YtkffofolhckjeaaTreeApart
import Derived.Test.YtkffofolhckjeaaRowN
set_option linter.unusedVariables false
set_option linter.unusedSimpArgs false
namespace Go.Proofs.Ytkffofolhckjeaa
open Go.ChangeShapes Go.WideShapes Go.ChangeAt Go.RowKit

set_option maxRecDepth 100000 in
theorem treeApart_lifted (os : Os) (started : os.Started) (H : Type) (enc : TypeId × Value → H) :
    ReturnsInHanded {} Try.checked os 14 .any (Rows.treeApartSpec.pre6 enc Try.prog Try.f14 Rows.treeApartRow.domain false) (Rows.treeApartSpec.post enc Try.prog Try.f14 false true false false) := by
  refine returnsInHanded_of_change (C := Try.checked) Try.own started (by kernel_rfl) Try.func14
    (ChangeSpec.witness6 (enc := enc) (C := Try.checked) false ⟨#[], #[.slice none 0 0, .bool false, .int .u8 0], []⟩ 8 (by kernel_rfl) (by kernel_rfl) (by kernel_rfl) (by kernel_rfl)) ?_
  intro W base args ds gs before hval0 hW hcnd _
  have hval : ∀ (j : Nat) t v, Try.f14.params[j]? = some t → args[j]? = some v → Value.okWide Try.prog W .any base t v := hval0
  have hW' := hW
  obtain ⟨p, q, hA0, hV, rfl, hfz, hnd⟩ := hW
  have hA : DataW.TrodAll enc Try.prog W 0 (fun _ => true) true Try.f14.params.toList args.toList ds p := hA0
  have hA1 := hA
  rw [Try.params14] at hA hval
  obtain ⟨v0, v1, v2, d0, d1, d2, p0, p1, p2, rfl, rfl, rfl, h0, h1, h2⟩ := trodAll_three hA
  obtain ⟨rfl, rfl⟩ := trodVars_none hV
  obtain ⟨A, n, c, ns, rfl, hns, hr⟩ := open_u16s Try.underlying49 Try.underlying89 (by kernel_rfl) (hval 0 49 v0 rfl rfl) h0
  obtain ⟨b, rfl, rfl, rfl⟩ := open_bool Try.underlying4 (hval 1 4 v1 rfl rfl) h1
  obtain ⟨z2, rfl, rfl, rfl, w2⟩ := open_int Try.underlying5 (hval 2 5 v2 rfl rfl) h2
  obtain ⟨at_, rfl, hat_⟩ := u8_of_wf w2
  clear hA0 hval0
  rw [List.append_nil] at hW'
  have hC : Calls Try.prog 14 #[.slice A n c, .bool b, .int .u8 at_] W fun e w' => e = .returned (.bool true) ∧ Below W.heap.size W w' := by
    exact treeApart_c (sat_heapF W) ns hns A n c hr b at_ hat_
  refine hC.mono fun e W' ⟨he, hb⟩ => ?_
  subst he
  exact ⟨_, rfl, law_post (T := 4) Try.laidOut rfl hW' hA1 (by rw [Try.params14]; decide +kernel) (by kernel_rfl) Try.underlying4 rfl hb⟩

theorem treeApart_holds : Rows.TreeApartSaid :=
  OpenClaim.holds_of_wide 14 Try.f14 rfl rfl rfl rfl rfl rfl rfl ⟨rfl, rfl, rfl, rfl, rfl⟩ rfl rfl rfl rfl rfl (by kernel_rfl) Try.func14 (by kernel_rfl)
    (of_decide_eq_true (by kernel_rfl)) (by unfold Func.isWrapper; first | (rw [if_pos (by decide +kernel)]; kernel_rfl) | (rw [if_neg (by decide +kernel)]; exact ⟨rfl, rfl⟩))
    (fun os started H enc _ => treeApart_lifted os started H enc)
#print axioms treeApart_holds
end Go.Proofs.Ytkffofolhckjeaa
