/- The statement MergeParts: any parts: traces merge one by one, from the left; one stays as it is; of none there is nothing; no condition. -/
import Derived.Test.YtgmbicjcfhmcdaaParts32
import Derived.Test.YtgmbicjcfhmcdaaRow32
set_option linter.unusedVariables false
set_option linter.unusedSimpArgs false
namespace Go.Proofs.Ytgmbicjcfhmcdaa
open Go.ChangeShapes Go.WideShapes Go.ChangeAt Go.RowKit

set_option maxRecDepth 100000 in
theorem mergeParts_lifted (os : Os) (started : os.Started) (H : Type) (enc : TypeId × Value → H) :
    ReturnsInHanded {} Try.checked os 6 .any (Rows.mergePartsSpec.pre6 enc Try.prog Try.f6 Rows.mergePartsRow.domain false) (Rows.mergePartsSpec.post enc Try.prog Try.f6 false true false false) := by
  refine returnsInHanded_of_change (C := Try.checked) Try.own started (by kernel_rfl) Try.func6
    (ChangeSpec.witness6 (enc := enc) (C := Try.checked) false ⟨#[], #[.slice none 0 0, .agg #[.int .u64 0, .slice none 0 0, .int .u8 0]], []⟩ 8 (by kernel_rfl) (by kernel_rfl) (by kernel_rfl) (by kernel_rfl)) ?_
  intro W base args ds gs before hval0 hW hcnd _
  have hval : ∀ (j : Nat) t v, Try.f6.params[j]? = some t → args[j]? = some v → Value.okWide Try.prog W .any base t v := hval0
  have hW' := hW
  obtain ⟨p, q, hA0, hV, rfl, hfz, hnd⟩ := hW
  have hA : DataW.TrodAll enc Try.prog W 0 (fun _ => true) true Try.f6.params.toList args.toList ds p := hA0
  have hA1 := hA
  rw [Try.params6] at hA hval
  obtain ⟨v0, v1, d0, d1, p0, p1, rfl, rfl, rfl, h0, h1⟩ := trodAll_two hA
  obtain ⟨rfl, rfl⟩ := trodVars_none hV
  obtain ⟨A, n, c, ps, rfl, hcps, hps⟩ := open_parts (hval 0 38 v0 rfl rfl) h0
  obtain ⟨s, As, cs, rfl, hst, hsp, hsk, hsr⟩ := open_part (hval 1 46 v1 rfl rfl) h1
  clear hA0 hval0
  rw [List.append_nil] at hW'
  have hC : Calls Try.prog 6 #[.slice A n c, .agg #[.int .u64 (s.1 : Nat), .slice As s.2.1.length cs, .int .u8 (s.2.2 : Nat)]] W fun e w' => e = .returned (.bool true) ∧ Below W.heap.size W w' := by
    exact parts32_c (sat_heapF W) ps A n c hps s As cs hst hsp hsk hsr
  refine hC.mono fun e W' ⟨he, hb⟩ => ?_
  subst he
  exact ⟨_, rfl, law_post (T := 4) Try.laidOut rfl hW' hA1 (by rw [Try.params6]; decide +kernel) (by kernel_rfl) Try.underlying4 rfl hb⟩

theorem mergeParts_holds : Rows.MergePartsSaid :=
  OpenClaim.holds_of_wide 6 Try.f6 rfl rfl rfl rfl rfl rfl rfl ⟨rfl, rfl, rfl, rfl, rfl⟩ rfl rfl rfl rfl rfl (by kernel_rfl) Try.func6 (by kernel_rfl)
    (of_decide_eq_true (by kernel_rfl)) (by unfold Func.isWrapper; first | (rw [if_pos (by decide +kernel)]; kernel_rfl) | (rw [if_neg (by decide +kernel)]; exact ⟨rfl, rfl⟩))
    (fun os started H enc _ => mergeParts_lifted os started H enc)
#print axioms mergeParts_holds
end Go.Proofs.Ytgmbicjcfhmcdaa
