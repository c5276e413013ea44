/- The statement PathsLocal: ways go forwards, and hang on the points between alone: the table over a part of the points is that part of the whole table; no condition. -/
import Derived.Test.YtkhhjihbahdepaaPathsLocal
import Derived.Test.YtkhhjihbahdepaaRowN
set_option linter.unusedVariables false
set_option linter.unusedSimpArgs false
namespace Go.Proofs.Ytkhhjihbahdepaa
open Go.ChangeShapes Go.WideShapes Go.ChangeAt Go.RowKit

set_option maxRecDepth 100000 in
theorem pathsLocal_lifted (os : Os) (started : os.Started) (H : Type) (enc : TypeId × Value → H) :
    ReturnsInHanded {} Try.checked os 4 .any (Rows.pathsLocalSpec.pre6 enc Try.prog Try.f4 Rows.pathsLocalRow.domain false) (Rows.pathsLocalSpec.post enc Try.prog Try.f4 false true false false) := by
  refine returnsInHanded_of_change (C := Try.checked) Try.own started (by kernel_rfl) Try.func4
    (ChangeSpec.witness6 (enc := enc) (C := Try.checked) false ⟨#[], #[.slice none 0 0, .slice none 0 0, .int .u8 0, .int .u8 0], []⟩ 8 (by kernel_rfl) (by kernel_rfl) (by kernel_rfl) (by kernel_rfl)) ?_
  intro W base args ds gs before hval0 hW hcnd _
  have hval : ∀ (j : Nat) t v, Try.f4.params[j]? = some t → args[j]? = some v → Value.okWide Try.prog W .any base t v := hval0
  have hW' := hW
  obtain ⟨p, q, hA0, hV, rfl, hfz, hnd⟩ := hW
  have hA : DataW.TrodAll enc Try.prog W 0 (fun _ => true) true Try.f4.params.toList args.toList ds p := hA0
  have hA1 := hA
  rw [Try.params4] at hA hval
  obtain ⟨v0, v1, v2, v3, d0, d1, d2, d3, p0, p1, p2, p3, rfl, rfl, rfl, h0, h1, h2, h3⟩ := trodAll_four hA
  obtain ⟨rfl, rfl⟩ := trodVars_none hV
  obtain ⟨B, m, d, ns, rfl, hns, hr⟩ := open_u16s Try.underlying22 Try.underlying83 (by kernel_rfl) (hval 0 22 v0 rfl rfl) h0
  obtain ⟨A, n, c, fs, rfl, hf⟩ := open_words Try.underlying23 Try.underlying62 (by kernel_rfl) (hval 1 23 v1 rfl rfl) h1
  obtain ⟨z2, rfl, rfl, rfl, w2⟩ := open_int Try.underlying5 (hval 2 5 v2 rfl rfl) h2
  obtain ⟨fr, rfl, hfr⟩ := u8_of_wf w2
  obtain ⟨z3, rfl, rfl, rfl, w3⟩ := open_int Try.underlying5 (hval 3 5 v3 rfl rfl) h3
  obtain ⟨to_, rfl, hto_⟩ := u8_of_wf w3
  clear hA0 hval0
  rw [List.append_nil] at hW'
  have hC : Calls Try.prog 4 #[.slice B m d, .slice A n c, .int .u8 fr, .int .u8 to_] W fun e w' => e = .returned (.bool true) ∧ Below W.heap.size W w' := by
    exact pathsLocal_c (sat_heapF W) ns hns B m d hr fs A n c hf fr to_ hfr hto_
  refine hC.mono fun e W' ⟨he, hb⟩ => ?_
  subst he
  exact ⟨_, rfl, law_post (T := 4) Try.laidOut rfl hW' hA1 (by rw [Try.params4]; decide +kernel) (by kernel_rfl) Try.underlying4 rfl hb⟩

theorem pathsLocal_holds : Rows.PathsLocalSaid :=
  OpenClaim.holds_of_wide 4 Try.f4 rfl rfl rfl rfl rfl rfl rfl ⟨rfl, rfl, rfl, rfl, rfl⟩ rfl rfl rfl rfl rfl (by kernel_rfl) Try.func4 (by kernel_rfl)
    (of_decide_eq_true (by kernel_rfl)) (by unfold Func.isWrapper; first | (rw [if_pos (by decide +kernel)]; kernel_rfl) | (rw [if_neg (by decide +kernel)]; exact ⟨rfl, rfl⟩))
    (fun os started H enc _ => pathsLocal_lifted os started H enc)
#print axioms pathsLocal_holds
end Go.Proofs.Ytkhhjihbahdepaa
