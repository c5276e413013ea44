/- The statement BoundAdds: any two plain formulas: a Not changes nothing; of two formulas heads at rest and atoms are added up, the heads besides are the greater ones; no condition. -/
import Derived.Test.YtdohbbjinbofbaaBoundD
import Derived.Test.YtdohbbjinbofbaaRowN
set_option linter.unusedVariables false
set_option linter.unusedSimpArgs false
namespace Go.Proofs.Ytdohbbjinbofbaa
open Go.ChangeShapes Go.WideShapes Go.ChangeAt Go.RowKit

set_option maxRecDepth 100000 in
theorem boundAdds_lifted (os : Os) (started : os.Started) (H : Type) (enc : TypeId × Value → H) :
    ReturnsInHanded {} Try.checked os 7 .any (Rows.boundAddsSpec.pre6 enc Try.prog Try.f7 Rows.boundAddsRow.domain false) (Rows.boundAddsSpec.post enc Try.prog Try.f7 false true false false) := by
  refine returnsInHanded_of_change (C := Try.checked) Try.own started (by kernel_rfl) Try.func7
    (ChangeSpec.witness6 (enc := enc) (C := Try.checked) false ⟨#[], #[.slice none 0 0, .slice none 0 0, .bool false, .int .i64 0, .int .i64 0], []⟩ 8 (by kernel_rfl) (by kernel_rfl) (by kernel_rfl) (by kernel_rfl)) ?_
  intro W base args ds gs before hval0 hW hcnd _
  have hval : ∀ (j : Nat) t v, Try.f7.params[j]? = some t → args[j]? = some v → Value.okWide Try.prog W .any base t v := hval0
  have hW' := hW
  obtain ⟨p, q, hA0, hV, rfl, hfz, hnd⟩ := hW
  have hA : DataW.TrodAll enc Try.prog W 0 (fun _ => true) true Try.f7.params.toList args.toList ds p := hA0
  have hA1 := hA
  rw [Try.params7] at hA hval
  obtain ⟨v0, vs0, d0, ds0, p0, q0, hvs, rfl, rfl, h0, r0⟩ := trodAll_cons hA
  obtain ⟨v1, vs1, d1, ds1, p1, q1, rfl, rfl, rfl, h1, r1⟩ := trodAll_cons r0
  obtain ⟨v2, vs2, d2, ds2, p2, q2, rfl, rfl, rfl, h2, r2⟩ := trodAll_cons r1
  obtain ⟨v3, vs3, d3, ds3, p3, q3, rfl, rfl, rfl, h3, r3⟩ := trodAll_cons r2
  obtain ⟨v4, vs4, d4, ds4, p4, q4, rfl, rfl, rfl, h4, r4⟩ := trodAll_cons r3
  obtain ⟨rfl, rfl, rfl⟩ := trodAll_nil r4
  obtain rfl : args = #[v0, v1, v2, v3, v4] := Array.toList_inj.1 hvs
  obtain ⟨rfl, rfl⟩ := trodVars_none hV
  obtain ⟨B, m, d, ns, rfl, hns, hr⟩ := open_u16s Try.underlying22 Try.underlying95 (by kernel_rfl) (hval 0 22 v0 rfl rfl) h0
  obtain ⟨B2, m2, d2, ms, rfl, hms, hr2⟩ := open_u16s Try.underlying22 Try.underlying95 (by kernel_rfl) (hval 1 22 v1 rfl rfl) h1
  obtain ⟨or, rfl, rfl, rfl⟩ := open_bool Try.underlying4 (hval 2 4 v2 rfl rfl) h2
  obtain ⟨props, rfl, rfl, rfl, w3⟩ := open_int Try.underlying3 (hval 3 3 v3 rfl rfl) h3
  obtain ⟨room, rfl, rfl, rfl, w4⟩ := open_int Try.underlying3 (hval 4 3 v4 rfl rfl) h4
  clear hA0 hval0
  rw [List.append_nil] at hW'
  have hC : Calls Try.prog 7 #[.slice B m d, .slice B2 m2 d2, .bool or, .int .i64 props, .int .i64 room] W fun e w' => e = .returned (.bool true) ∧ Below W.heap.size W w' := by
    exact boundAdds_c (sat_heapF W) ns ms hns hms B B2 m d m2 d2 hr hr2 or props room
  refine hC.mono fun e W' ⟨he, hb⟩ => ?_
  subst he
  exact ⟨_, rfl, law_post (T := 4) Try.laidOut rfl hW' hA1 (by rw [Try.params7]; decide +kernel) (by kernel_rfl) Try.underlying4 rfl hb⟩

theorem boundAdds_holds : Rows.BoundAddsSaid :=
  OpenClaim.holds_of_wide 7 Try.f7 rfl rfl rfl rfl rfl rfl rfl ⟨rfl, rfl, rfl, rfl, rfl⟩ rfl rfl rfl rfl rfl (by kernel_rfl) Try.func7 (by kernel_rfl)
    (of_decide_eq_true (by kernel_rfl)) (by unfold Func.isWrapper; first | (rw [if_pos (by decide +kernel)]; kernel_rfl) | (rw [if_neg (by decide +kernel)]; exact ⟨rfl, rfl⟩))
    (fun os started H enc _ => boundAdds_lifted os started H enc)
#print axioms boundAdds_holds
end Go.Proofs.Ytdohbbjinbofbaa
