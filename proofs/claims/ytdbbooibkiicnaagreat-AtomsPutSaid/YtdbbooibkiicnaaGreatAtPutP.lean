/- The statement AtomsPut: any regular expression that may be, any state, any functions: what is put into the tests is put into what they make; no condition. -/
import Derived.Test.YtdbbooibkiicnaaGreatAtPut
import Derived.Test.YtdbbooibkiicnaaGreatRowN
set_option linter.unusedVariables false
set_option linter.unusedSimpArgs false
namespace Go.Proofs.YtdbbooibkiicnaaGreat
open Go.ChangeShapes Go.WideShapes Go.ChangeAt Go.RowKit

set_option maxRecDepth 100000 in
theorem atomsPut_lifted (os : Os) (started : os.Started) (H : Type) (enc : TypeId × Value → H) :
    ReturnsInHanded {} Tryz.checked os 4 .any (Rows.atomsPutSpec.pre6 enc Tryz.prog Tryz.f4 Rows.atomsPutRow.domain false) (Rows.atomsPutSpec.post enc Tryz.prog Tryz.f4 false true false false) := by
  refine returnsInHanded_of_change (C := Tryz.checked) Tryz.own started (by kernel_rfl) Tryz.func4
    (ChangeSpec.witness6 (enc := enc) (C := Tryz.checked) false ⟨#[], #[.slice none 0 0, .int .u8 0, .int .u8 0, .slice none 0 0, .slice none 0 0], []⟩ 8 (by kernel_rfl) (by kernel_rfl) (by kernel_rfl) (by kernel_rfl)) ?_
  intro W base args ds gs before hval0 hW hcnd _
  have hval : ∀ (j : Nat) t v, Tryz.f4.params[j]? = some t → args[j]? = some v → Value.okWide Tryz.prog W .any base t v := hval0
  have hW' := hW
  obtain ⟨p, q, hA0, hV, rfl, hfz, hnd⟩ := hW
  have hA : DataW.TrodAll enc Tryz.prog W 0 (fun _ => true) true Tryz.f4.params.toList args.toList ds p := hA0
  have hA1 := hA
  rw [Tryz.params4] at hA hval
  obtain ⟨v0, vs0, d0, ds0, p0, q0, hvs, rfl, rfl, h0, r0⟩ := trodAll_cons hA
  obtain ⟨v1, vs1, d1, ds1, p1, q1, rfl, rfl, rfl, h1, r1⟩ := trodAll_cons r0
  obtain ⟨v2, vs2, d2, ds2, p2, q2, rfl, rfl, rfl, h2, r2⟩ := trodAll_cons r1
  obtain ⟨v3, vs3, d3, ds3, p3, q3, rfl, rfl, rfl, h3, r3⟩ := trodAll_cons r2
  obtain ⟨v4, vs4, d4, ds4, p4, q4, rfl, rfl, rfl, h4, r4⟩ := trodAll_cons r3
  obtain ⟨rfl, rfl, rfl⟩ := trodAll_nil r4
  obtain rfl : args = #[v0, v1, v2, v3, v4] := Array.toList_inj.1 hvs
  obtain ⟨rfl, rfl⟩ := trodVars_none hV
  obtain ⟨B, m, d, ns, rfl, hns, hr⟩ := open_u16s Tryz.underlying23 Tryz.underlying85 (by kernel_rfl) (hval 0 23 v0 rfl rfl) h0
  obtain ⟨z1, rfl, rfl, rfl, w1⟩ := open_int Tryz.underlying5 (hval 1 5 v1 rfl rfl) h1
  obtain ⟨nn, rfl, hnn⟩ := u8_of_wf w1
  obtain ⟨z2, rfl, rfl, rfl, w2⟩ := open_int Tryz.underlying5 (hval 2 5 v2 rfl rfl) h2
  obtain ⟨at_, rfl, hat_⟩ := u8_of_wf w2
  obtain ⟨A, n, c, ts, rfl, hts⟩ := open_wordRows Tryz.underlying29 Tryz.underlying33 Tryz.underlying44 (by kernel_rfl) (by kernel_rfl) (hval 3 29 v3 rfl rfl) h3
  obtain ⟨A', n', c', gs, rfl, hgs⟩ := open_wordRows Tryz.underlying29 Tryz.underlying33 Tryz.underlying44 (by kernel_rfl) (by kernel_rfl) (hval 4 29 v4 rfl rfl) h4
  clear hA0 hval0
  rw [List.append_nil] at hW'
  have hC : Calls Tryz.prog 4 #[.slice B m d, .int .u8 nn, .int .u8 at_, .slice A n c, .slice A' n' c'] W fun e w' => e = .returned (.bool true) ∧ Below W.heap.size W w' := by
    by_cases hb : greatS ts = true ∨ greatS gs = true
    · exact atomsPut_big (sat_heapF W) B m d nn at_ ts gs A A' n c n' c' hts hgs hb
    · exact atomsPut_c (sat_heapF W) ns hns B m d hr nn at_ hnn hat_ ts gs A A' n c n' c' hts hgs (by cases h : greatS ts; rfl; exact absurd (.inl h) hb) (by cases h : greatS gs; rfl; exact absurd (.inr h) hb)
  refine hC.mono fun e W' ⟨he, hb⟩ => ?_
  subst he
  exact ⟨_, rfl, law_post (T := 4) Tryz.laidOut rfl hW' hA1 (by rw [Tryz.params4]; decide +kernel) (by kernel_rfl) Tryz.underlying4 rfl hb⟩

theorem atomsPut_holds : Rows.AtomsPutSaid :=
  OpenClaim.holds_of_wide 4 Tryz.f4 rfl rfl rfl rfl rfl rfl rfl ⟨rfl, rfl, rfl, rfl, rfl⟩ rfl rfl rfl rfl rfl (by kernel_rfl) Tryz.func4 (by kernel_rfl)
    (of_decide_eq_true (by kernel_rfl)) (by unfold Func.isWrapper; first | (rw [if_pos (by decide +kernel)]; kernel_rfl) | (rw [if_neg (by decide +kernel)]; exact ⟨rfl, rfl⟩))
    (fun os started H enc _ => atomsPut_lifted os started H enc)
#print axioms atomsPut_holds
end Go.Proofs.YtdbbooibkiicnaaGreat
