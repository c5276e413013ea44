/- The statement TurnMakes: of any list of nodes and of any regular expression that may be the program's expression turned round, and where its tests went, are those of the document's answer; of a formula there is nothing; no condition. -/
import Derived.Test.YtedeppgipciblaaTurnMakes
import Derived.Test.YtedeppgipciblaaRowN
set_option linter.unusedVariables false
set_option linter.unusedSimpArgs false
namespace Go.Proofs.Ytedeppgipciblaa
open Go.ChangeShapes Go.WideShapes Go.ChangeAt Go.RowKit

set_option maxRecDepth 100000 in
theorem turnMakes_lifted (os : Os) (started : os.Started) (H : Type) (enc : TypeId × Value → H) :
    ReturnsInHanded {} Try.checked os 3 .any (Rows.turnMakesSpec.pre6 enc Try.prog Try.f3 Rows.turnMakesRow.domain false) (Rows.turnMakesSpec.post enc Try.prog Try.f3 false true false false) := by
  refine returnsInHanded_of_change (C := Try.checked) Try.own started (by kernel_rfl) Try.func3
    (ChangeSpec.witness6 (enc := enc) (C := Try.checked) false ⟨#[], #[.slice none 0 0, .slice none 0 0], []⟩ 8 (by kernel_rfl) (by kernel_rfl) (by kernel_rfl) (by kernel_rfl)) ?_
  intro W base args ds gs before hval0 hW hcnd _
  have hval : ∀ (j : Nat) t v, Try.f3.params[j]? = some t → args[j]? = some v → Value.okWide Try.prog W .any base t v := hval0
  have hW' := hW
  obtain ⟨p, q, hA0, hV, rfl, hfz, hnd⟩ := hW
  have hA : DataW.TrodAll enc Try.prog W 0 (fun _ => true) true Try.f3.params.toList args.toList ds p := hA0
  have hA1 := hA
  rw [Try.params3] at hA hval
  obtain ⟨v0, v1, d0, d1, p0, p1, rfl, rfl, rfl, h0, h1⟩ := trodAll_two hA
  obtain ⟨rfl, rfl⟩ := trodVars_none hV
  obtain ⟨A, n, c, l, rfl, hcl, hml, hl⟩ := open_nodes (hval 0 22 v0 rfl rfl) h0
  obtain ⟨B, m, d, ns, rfl, hns, hr⟩ := open_u16s Try.underlying23 Try.underlying87 (by kernel_rfl) (hval 1 23 v1 rfl rfl) h1
  clear hA0 hval0
  rw [List.append_nil] at hW'
  have hC : Calls Try.prog 3 #[.slice A n c, .slice B m d] W fun e w' => e = .returned (.bool true) ∧ Below W.heap.size W w' := by
    exact turnMakes_c (sat_heapF W) l A n c hcl hl ns hns B m d hr (Nat.le_trans hcl hml)
  refine hC.mono fun e W' ⟨he, hb⟩ => ?_
  subst he
  exact ⟨_, rfl, law_post (T := 4) Try.laidOut rfl hW' hA1 (by rw [Try.params3]; decide +kernel) (by kernel_rfl) Try.underlying4 rfl hb⟩

theorem turnMakes_holds : Rows.TurnMakesSaid :=
  OpenClaim.holds_of_wide 3 Try.f3 rfl rfl rfl rfl rfl rfl rfl ⟨rfl, rfl, rfl, rfl, rfl⟩ rfl rfl rfl rfl rfl (by kernel_rfl) Try.func3 (by kernel_rfl)
    (of_decide_eq_true (by kernel_rfl)) (by unfold Func.isWrapper; first | (rw [if_pos (by decide +kernel)]; kernel_rfl) | (rw [if_neg (by decide +kernel)]; exact ⟨rfl, rfl⟩))
    (fun os started H enc _ => turnMakes_lifted os started H enc)
#print axioms turnMakes_holds
end Go.Proofs.Ytedeppgipciblaa
