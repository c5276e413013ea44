/- The statement SatDual: the row, what it lists opened, and its tied card. -/
import Derived.Test.YtdbbooibkiicnaaDoorSatDual
import Derived.Test.YtdbbooibkiicnaaDoorRowN
import Derived.Test.YtdbbooibkiicnaaDoorTied
import Derived.Test.YtdbbooibkiicnaaDoorCards
import Derived.Test.YtdbbooibkiicnaaDoorTie
import Derived.SevenTiedAt
set_option linter.unusedVariables false
set_option linter.unusedSimpArgs false
namespace Go.Proofs.YtdbbooibkiicnaaDoor
open Go.ChangeShapes Go.WideShapes Go.ChangeAt Go.RowKit

set_option maxRecDepth 100000 in
theorem satDual_lifted (os : Os) (started : os.Started) (H : Type) (enc : TypeId × Value → H) :
    ReturnsInHanded {} Tryd.checked os 3 .any (fun w args => (Rows.satDualSpec.pre enc Tryd.prog Tryd.f3 [] false w args ∧ laidMetH Tryd.prog laidN w) ∧ sizedMet enc Tryd.prog Tryd.f3 (OpenSpec.ofChange Rows.satDualSpec) false w args)
      (Rows.satDualSpec.post enc Tryd.prog Tryd.f3 false true false false) := by
  refine returnsInHanded_of_change_and (C := Tryd.checked) (X := fun w _ => laidMetH Tryd.prog laidN w) (fun _ _ _ hh h => h.of_heap hh) Tryd.own started (by kernel_rfl) Tryd.func3
    (ChangeSpec.witness_shaped (enc := enc) (C := Tryd.checked) (os := os) (X := fun w _ => laidMetH Tryd.prog laidN w) false (World.doorLaid Tryd.prog 14 os) #[.int .u64 0, .slice none 0 0, .slice none 0 0, .slice none 0 0, .int .u16 0] 8 rfl (World.shaped_of_RefB (by kernel_rfl) (by kernel_rfl)) (by kernel_rfl) (by kernel_rfl) (by kernel_rfl) (none_met os _)) ?_
  intro W base args ds gs before hval0 hW _ _ hL _
  have hval : ∀ (j : Nat) t v, Tryd.f3.params[j]? = some t → args[j]? = some v → Value.okWide Tryd.prog W .any base t v := hval0
  have hW' := hW
  obtain ⟨p, q, hA0, hV, rfl, hfz, hnd⟩ := hW
  have hA : DataW.TrodAll enc Tryd.prog W 0 (fun _ => true) true Tryd.f3.params.toList args.toList ds p := hA0
  have hA1 := hA
  rw [Tryd.params3] at hA hval
  obtain ⟨v0, vs0, d0, ds0, p0, q0, hvs, rfl, rfl, h0, r0⟩ := trodAll_cons hA
  obtain ⟨v1, vs1, d1, ds1, p1, q1, rfl, rfl, rfl, h1, r1⟩ := trodAll_cons r0
  obtain ⟨v2, vs2, d2, ds2, p2, q2, rfl, rfl, rfl, h2, r2⟩ := trodAll_cons r1
  obtain ⟨v3, vs3, d3, ds3, p3, q3, rfl, rfl, rfl, h3, r3⟩ := trodAll_cons r2
  obtain ⟨v4, vs4, d4, ds4, p4, q4, rfl, rfl, rfl, h4, r4⟩ := trodAll_cons r3
  obtain ⟨rfl, rfl, rfl⟩ := trodAll_nil r4
  obtain rfl : args = #[v0, v1, v2, v3, v4] := Array.toList_inj.1 hvs
  obtain ⟨rfl, rfl⟩ := trodVars_none hV
  obtain ⟨s, rfl, rfl, rfl, w0⟩ := open_int Tryd.underlying22 (hval 0 22 v0 rfl rfl) h0
  obtain ⟨A1, n1, c1, ts, rfl, hts, hr1⟩ := open_u16s Tryd.underlying23 Tryd.underlying24 (by kernel_rfl) (hval 1 23 v1 rfl rfl) h1
  obtain ⟨A2, n2, c2, ns, rfl, hns, hr2⟩ := open_u16s Tryd.underlying23 Tryd.underlying24 (by kernel_rfl) (hval 2 23 v2 rfl rfl) h2
  obtain ⟨A3, n3, c3, ms, rfl, hms, hr3⟩ := open_u16s Tryd.underlying23 Tryd.underlying24 (by kernel_rfl) (hval 3 23 v3 rfl rfl) h3
  obtain ⟨z4, rfl, rfl, rfl, w4⟩ := open_int Tryd.underlying24 (hval 4 24 v4 rfl rfl) h4
  obtain ⟨sp, rfl, hsp⟩ := u16_of_wf w4
  obtain ⟨g0, g1⟩ := none_cells hL
  clear hA0 hval0
  rw [List.append_nil] at hW'
  have hC : Calls Tryd.prog 3 #[.int .u64 s, .slice A1 n1 c1, .slice A2 n2 c2, .slice A3 n3 c3, .int .u16 (sp : Nat)] W fun e w' => e = .returned (.bool true) ∧ Below W.heap.size W w' := by
    obtain ⟨sn, hsn, rfl⟩ := u64_natG w0
    exact satDual_c (sat_heapF W) g0 g1 sn sp hsn hsp ts ns ms hts hns hms A1 n1 c1 hr1 A2 n2 c2 hr2 A3 n3 c3 hr3
  refine hC.mono fun e W' ⟨he, hb⟩ => ?_
  subst he
  exact ⟨_, rfl, law_post (T := 4) Tryd.laidOut rfl hW' hA1 (by rw [Tryd.params3]; decide +kernel) (by kernel_rfl) Tryd.underlying4 rfl hb⟩

theorem satDual_row : Rows.SatDualSaid :=
  OpenClaim.holds_of_wide 3 Tryd.f3 rfl rfl rfl rfl rfl rfl rfl ⟨rfl, rfl, rfl, rfl, rfl⟩ rfl rfl rfl rfl rfl (by kernel_rfl) Tryd.func3 (by kernel_rfl)
    (of_decide_eq_true (by kernel_rfl)) (by unfold Func.isWrapper; first | (rw [if_pos (by decide +kernel)]; kernel_rfl) | (rw [if_neg (by decide +kernel)]; exact ⟨rfl, rfl⟩))
    (fun os started H enc _ => satDual_lifted os started H enc)
theorem satDual_holds : Rows.SatDualCardSaid :=
  Claim7.holds_tied_plain_at .later [] [.data] true _ false
    satDual_row (fun _ h => by cases h) (by kernel_rfl) (fun _ h => by cases h) satDual_row_tie rfl ⟨rfl, rfl⟩ (by kernel_rfl) rfl
    (fun f fn hf hfn => by
      obtain rfl : f = 3 := Option.some.inj ((show Tryd.prog.funcNamed "watchglass/watchglasslaw15.SatDual" = some 3 by kernel_rfl).symm.trans hf) |>.symm
      obtain rfl : fn = Tryd.f3 := (Option.some.inj (Tryd.func3.symm.trans hfn)).symm
      exact ⟨by kernel_rfl, fun j t ht => by
        rw [Tryd.params3] at ht
        have hm : t ∈ [22, 23, 23, 23, 24] := by simpa using Array.mem_of_getElem? ht
        have hall : ([22, 23, 23, 23, 24].all fun u => !Tryd.prog.wantsStandIn u) = true := by kernel_rfl
        exact (show Tryd.prog.wantsStandIn t = false by simpa using List.all_eq_true.1 hall t hm)⟩)
    (by kernel_rfl)
#print axioms satDual_holds
end Go.Proofs.YtdbbooibkiicnaaDoor
