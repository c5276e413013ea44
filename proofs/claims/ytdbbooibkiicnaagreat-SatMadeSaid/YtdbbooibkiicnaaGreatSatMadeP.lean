/- The statement SatMade: any trace and any formula that l8.Make, l5.Make give, any place: the truth at each point is what the reference says; no condition. -/
import Derived.Test.YtdbbooibkiicnaaGreatSatMade
import Derived.Test.YtdbbooibkiicnaaGreatRowN
set_option linter.unusedVariables false
set_option linter.unusedSimpArgs false
namespace Go.Proofs.YtdbbooibkiicnaaGreat
open Go.ChangeShapes Go.WideShapes Go.ChangeAt Go.RowKit

set_option maxRecDepth 100000 in
theorem satMade_lifted (os : Os) (started : os.Started) (H : Type) (enc : TypeId × Value → H) :
    ReturnsInHanded {} Tryz.checked os 6 .any (Rows.satMadeSpec.pre6 enc Tryz.prog Tryz.f6 Rows.satMadeRow.domain false) (Rows.satMadeSpec.post enc Tryz.prog Tryz.f6 false true false false) := by
  refine returnsInHanded_of_change (C := Tryz.checked) Tryz.own started (by kernel_rfl) Tryz.func6
    (ChangeSpec.witness6 (enc := enc) (C := Tryz.checked) false ⟨#[], #[.int .u64 0, .slice none 0 0, .slice none 0 0, .int .i64 0], []⟩ 8 (by kernel_rfl) (by kernel_rfl) (by kernel_rfl) (by kernel_rfl)) ?_
  intro W base args ds gs before hval0 hW hcnd _
  have hval : ∀ (j : Nat) t v, Tryz.f6.params[j]? = some t → args[j]? = some v → Value.okWide Tryz.prog W .any base t v := hval0
  have hW' := hW
  obtain ⟨p, q, hA0, hV, rfl, hfz, hnd⟩ := hW
  have hA : DataW.TrodAll enc Tryz.prog W 0 (fun _ => true) true Tryz.f6.params.toList args.toList ds p := hA0
  have hA1 := hA
  rw [Tryz.params6] at hA hval
  obtain ⟨v0, v1, v2, v3, d0, d1, d2, d3, p0, p1, p2, p3, rfl, rfl, rfl, h0, h1, h2, h3⟩ := trodAll_four hA
  obtain ⟨rfl, rfl⟩ := trodVars_none hV
  obtain ⟨s, rfl, rfl, rfl, w0⟩ := open_int Tryz.underlying44 (hval 0 44 v0 rfl rfl) h0
  have hs := u64_of_wf w0
  obtain ⟨A1, n1, c1, ts, rfl, hts, hr1⟩ := open_u16s Tryz.underlying23 Tryz.underlying85 (by kernel_rfl) (hval 1 23 v1 rfl rfl) h1
  obtain ⟨A2, n2, c2, ns, rfl, hns, hr2⟩ := open_u16s Tryz.underlying23 Tryz.underlying85 (by kernel_rfl) (hval 2 23 v2 rfl rfl) h2
  obtain ⟨i, rfl, rfl, rfl, w3⟩ := open_int Tryz.underlying3 (hval 3 3 v3 rfl rfl) h3
  clear hA0 hval0
  rw [List.append_nil] at hW'
  have hC : Calls Tryz.prog 6 #[.int .u64 s, .slice A1 n1 c1, .slice A2 n2 c2, .int .i64 i] W fun e w' => e = .returned (.bool true) ∧ Below W.heap.size W w' := by
    obtain ⟨sn, hsn, rfl⟩ := u64_nat4 w0
    exact satMade_c (sat_heapF W) sn hsn i ts ns hts hns A1 n1 c1 hr1 A2 n2 c2 hr2
  refine hC.mono fun e W' ⟨he, hb⟩ => ?_
  subst he
  exact ⟨_, rfl, law_post (T := 4) Tryz.laidOut rfl hW' hA1 (by rw [Tryz.params6]; decide +kernel) (by kernel_rfl) Tryz.underlying4 rfl hb⟩

theorem satMade_holds : Rows.SatMadeSaid :=
  OpenClaim.holds_of_wide 6 Tryz.f6 rfl rfl rfl rfl rfl rfl rfl ⟨rfl, rfl, rfl, rfl, rfl⟩ rfl rfl rfl rfl rfl (by kernel_rfl) Tryz.func6 (by kernel_rfl)
    (of_decide_eq_true (by kernel_rfl)) (by unfold Func.isWrapper; first | (rw [if_pos (by decide +kernel)]; kernel_rfl) | (rw [if_neg (by decide +kernel)]; exact ⟨rfl, rfl⟩))
    (fun os started H enc _ => satMade_lifted os started H enc)
#print axioms satMade_holds
end Go.Proofs.YtdbbooibkiicnaaGreat
