/- The statement AtomsSteps: of any regular expression that may be, at each assignment what the tests that hold there make of it is as functions are told; no condition. -/
import Derived.Test.YtdbbooibkiicnaaAtSteps
import Derived.Test.YtdbbooibkiicnaaRowN
set_option linter.unusedVariables false
set_option linter.unusedSimpArgs false
namespace Go.Proofs.Ytdbbooibkiicnaa
open Go.ChangeShapes Go.WideShapes Go.ChangeAt Go.RowKit

set_option maxRecDepth 100000 in
theorem atomsSteps_lifted (os : Os) (started : os.Started) (H : Type) (enc : TypeId × Value → H) :
    ReturnsInHanded {} Try.checked os 8 .any (Rows.atomsStepsSpec.pre6 enc Try.prog Try.f8 Rows.atomsStepsRow.domain false) (Rows.atomsStepsSpec.post enc Try.prog Try.f8 false true false false) := by
  refine returnsInHanded_of_change (C := Try.checked) Try.own started (by kernel_rfl) Try.func8
    (ChangeSpec.witness6 (enc := enc) (C := Try.checked) false ⟨#[], #[.slice none 0 0, .int .u8 0, .int .i64 0, .slice none 0 0], []⟩ 8 (by kernel_rfl) (by kernel_rfl) (by kernel_rfl) (by kernel_rfl)) ?_
  intro W base args ds gs before hval0 hW hcnd _
  have hval : ∀ (j : Nat) t v, Try.f8.params[j]? = some t → args[j]? = some v → Value.okWide Try.prog W .any base t v := hval0
  have hW' := hW
  obtain ⟨p, q, hA0, hV, rfl, hfz, hnd⟩ := hW
  have hA : DataW.TrodAll enc Try.prog W 0 (fun _ => true) true Try.f8.params.toList args.toList ds p := hA0
  have hA1 := hA
  rw [Try.params8] at hA hval
  obtain ⟨v0, v1, v2, v3, d0, d1, d2, d3, p0, p1, p2, p3, rfl, rfl, rfl, h0, h1, h2, h3⟩ := trodAll_four hA
  obtain ⟨rfl, rfl⟩ := trodVars_none hV
  obtain ⟨B, m, d, ns, rfl, hns, hr⟩ := open_u16s Try.underlying22 Try.underlying84 (by kernel_rfl) (hval 0 22 v0 rfl rfl) h0
  obtain ⟨z1, rfl, rfl, rfl, w1⟩ := open_int Try.underlying5 (hval 1 5 v1 rfl rfl) h1
  obtain ⟨nn, rfl, hnn⟩ := u8_of_wf w1
  obtain ⟨k, rfl, rfl, rfl, w2⟩ := open_int Try.underlying3 (hval 2 3 v2 rfl rfl) h2
  obtain ⟨A, n, c, ts, rfl, hts⟩ := open_wordRows Try.underlying56 Try.underlying58 Try.underlying37 (by kernel_rfl) (by kernel_rfl) (hval 3 56 v3 rfl rfl) h3
  clear hA0 hval0
  rw [List.append_nil] at hW'
  have hC : Calls Try.prog 8 #[.slice B m d, .int .u8 nn, .int .i64 k, .slice A n c] W fun e w' => e = .returned (.bool true) ∧ Below W.heap.size W w' := by
    by_cases hb : greatS ts = true
    · exact atomsSteps_big (sat_heapF W) B m d nn k ts A n c hts hb
    · exact atomsSteps_c (sat_heapF W) ns hns B m d hr nn hnn k ts A n c hts (by cases h : greatS ts; rfl; exact absurd h hb)
  refine hC.mono fun e W' ⟨he, hb⟩ => ?_
  subst he
  exact ⟨_, rfl, law_post (T := 4) Try.laidOut rfl hW' hA1 (by rw [Try.params8]; decide +kernel) (by kernel_rfl) Try.underlying4 rfl hb⟩

theorem atomsSteps_holds : Rows.AtomsStepsSaid :=
  OpenClaim.holds_of_wide 8 Try.f8 rfl rfl rfl rfl rfl rfl rfl ⟨rfl, rfl, rfl, rfl, rfl⟩ rfl rfl rfl rfl rfl (by kernel_rfl) Try.func8 (by kernel_rfl)
    (of_decide_eq_true (by kernel_rfl)) (by unfold Func.isWrapper; first | (rw [if_pos (by decide +kernel)]; kernel_rfl) | (rw [if_neg (by decide +kernel)]; exact ⟨rfl, rfl⟩))
    (fun os started H enc _ => atomsSteps_lifted os started H enc)
#print axioms atomsSteps_holds
end Go.Proofs.Ytdbbooibkiicnaa
