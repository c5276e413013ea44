/- The statement SatTurned: any trace and any formula that l8.Make, l5.Make give: the past is the future told backwards; no condition. -/
import Derived.Test.YtdbbooibkiicnaaSatTurned
import Derived.Test.YtdbbooibkiicnaaRowN
set_option linter.unusedVariables false
set_option linter.unusedSimpArgs false
namespace Go.Proofs.Ytdbbooibkiicnaa
open Go.ChangeShapes Go.WideShapes Go.ChangeAt Go.RowKit

set_option maxRecDepth 100000 in
theorem satTurned_lifted (os : Os) (started : os.Started) (H : Type) (enc : TypeId × Value → H) :
    ReturnsInHanded {} Try.checked os 5 .any (Rows.satTurnedSpec.pre6 enc Try.prog Try.f5 Rows.satTurnedRow.domain false) (Rows.satTurnedSpec.post enc Try.prog Try.f5 false true false false) := by
  refine returnsInHanded_of_change (C := Try.checked) Try.own started (by kernel_rfl) Try.func5
    (ChangeSpec.witness6 (enc := enc) (C := Try.checked) false ⟨#[], #[.int .u64 0, .slice none 0 0, .slice none 0 0], []⟩ 8 (by kernel_rfl) (by kernel_rfl) (by kernel_rfl) (by kernel_rfl)) ?_
  intro W base args ds gs before hval0 hW hcnd _
  have hval : ∀ (j : Nat) t v, Try.f5.params[j]? = some t → args[j]? = some v → Value.okWide Try.prog W .any base t v := hval0
  have hW' := hW
  obtain ⟨p, q, hA0, hV, rfl, hfz, hnd⟩ := hW
  have hA : DataW.TrodAll enc Try.prog W 0 (fun _ => true) true Try.f5.params.toList args.toList ds p := hA0
  have hA1 := hA
  rw [Try.params5] at hA hval
  obtain ⟨v0, v1, v2, d0, d1, d2, p0, p1, p2, rfl, rfl, rfl, h0, h1, h2⟩ := trodAll_three hA
  obtain ⟨rfl, rfl⟩ := trodVars_none hV
  obtain ⟨s, rfl, rfl, rfl, w0⟩ := open_int Try.underlying37 (hval 0 37 v0 rfl rfl) h0
  have hs := u64_of_wf w0
  obtain ⟨A1, n1, c1, ts, rfl, hts, hr1⟩ := open_u16s Try.underlying22 Try.underlying84 (by kernel_rfl) (hval 1 22 v1 rfl rfl) h1
  obtain ⟨A2, n2, c2, ns, rfl, hns, hr2⟩ := open_u16s Try.underlying22 Try.underlying84 (by kernel_rfl) (hval 2 22 v2 rfl rfl) h2
  clear hA0 hval0
  rw [List.append_nil] at hW'
  have hC : Calls Try.prog 5 #[.int .u64 s, .slice A1 n1 c1, .slice A2 n2 c2] W fun e w' => e = .returned (.bool true) ∧ Below W.heap.size W w' := by
    obtain ⟨sn, hsn, rfl⟩ := u64_nat3 w0
    exact satTurned_c (sat_heapF W) sn hsn ts ns hts hns A1 n1 c1 hr1 A2 n2 c2 hr2
  refine hC.mono fun e W' ⟨he, hb⟩ => ?_
  subst he
  exact ⟨_, rfl, law_post (T := 4) Try.laidOut rfl hW' hA1 (by rw [Try.params5]; decide +kernel) (by kernel_rfl) Try.underlying4 rfl hb⟩

theorem satTurned_holds : Rows.SatTurnedSaid :=
  OpenClaim.holds_of_wide 5 Try.f5 rfl rfl rfl rfl rfl rfl rfl ⟨rfl, rfl, rfl, rfl, rfl⟩ rfl rfl rfl rfl rfl (by kernel_rfl) Try.func5 (by kernel_rfl)
    (of_decide_eq_true (by kernel_rfl)) (by unfold Func.isWrapper; first | (rw [if_pos (by decide +kernel)]; kernel_rfl) | (rw [if_neg (by decide +kernel)]; exact ⟨rfl, rfl⟩))
    (fun os started H enc _ => satTurned_lifted os started H enc)
#print axioms satTurned_holds
end Go.Proofs.Ytdbbooibkiicnaa
