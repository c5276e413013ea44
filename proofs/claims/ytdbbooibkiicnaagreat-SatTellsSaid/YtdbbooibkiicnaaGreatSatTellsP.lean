/- The statement SatTells: any trace and any list of nodes, also ones that may not be, any place: the truth at each point is what the reference says; no condition. -/
import Derived.Test.YtdbbooibkiicnaaGreatSatTells
import Derived.Test.YtdbbooibkiicnaaGreatRowN
import Derived.Test.YtdbbooibkiicnaaGreatRowT
set_option linter.unusedVariables false
set_option linter.unusedSimpArgs false
namespace Go.Proofs.YtdbbooibkiicnaaGreat
open Go.ChangeShapes Go.WideShapes Go.ChangeAt Go.RowKit

set_option maxRecDepth 100000 in
theorem satTells_lifted (os : Os) (started : os.Started) (H : Type) (enc : TypeId × Value → H) :
    ReturnsInHanded {} Tryz.checked os 5 .any (Rows.satTellsSpec.pre6 enc Tryz.prog Tryz.f5 Rows.satTellsRow.domain false) (Rows.satTellsSpec.post enc Tryz.prog Tryz.f5 false true false false) := by
  refine returnsInHanded_of_change (C := Tryz.checked) Tryz.own started (by kernel_rfl) Tryz.func5
    (ChangeSpec.witness6 (enc := enc) (C := Tryz.checked) false ⟨#[], #[.agg #[.slice none 0 0, .slice none 0 0], .slice none 0 0, .int .i64 0], []⟩ 8 (by kernel_rfl) (by kernel_rfl) (by kernel_rfl) (by kernel_rfl)) ?_
  intro W base args ds gs before hval0 hW hcnd _
  have hval : ∀ (j : Nat) t v, Tryz.f5.params[j]? = some t → args[j]? = some v → Value.okWide Tryz.prog W .any base t v := hval0
  have hW' := hW
  obtain ⟨p, q, hA0, hV, rfl, hfz, hnd⟩ := hW
  have hA : DataW.TrodAll enc Tryz.prog W 0 (fun _ => true) true Tryz.f5.params.toList args.toList ds p := hA0
  have hA1 := hA
  rw [Tryz.params5] at hA hval
  obtain ⟨v0, v1, v2, d0, d1, d2, p0, p1, p2, rfl, rfl, rfl, h0, h1, h2⟩ := trodAll_three hA
  obtain ⟨rfl, rfl⟩ := trodVars_none hV
  obtain ⟨An, nn, cn, ss, Ae, ne, ce, es, rfl, hcss, hces, hNss, hEes⟩ := open_trace (hval 0 43 v0 rfl rfl) h0
  obtain ⟨Al, N, cl, l, rfl, hcl, hml, hl⟩ := open_nodes (hval 1 22 v1 rfl rfl) h1
  obtain ⟨i, rfl, rfl, rfl, w2⟩ := open_int Tryz.underlying3 (hval 2 3 v2 rfl rfl) h2
  clear hA0 hval0
  rw [List.append_nil] at hW'
  have hC : Calls Tryz.prog 5 #[.agg #[.slice An nn cn, .slice Ae ne ce], .slice Al N cl, .int .i64 i] W fun e w' => e = .returned (.bool true) ∧ Below W.heap.size W w' := by
    exact satTells_c (sat_heapF W) ss es An nn cn hcss hNss Ae ne ce hEes l Al N cl hcl hl i
  refine hC.mono fun e W' ⟨he, hb⟩ => ?_
  subst he
  exact ⟨_, rfl, law_post (T := 4) Tryz.laidOut rfl hW' hA1 (by rw [Tryz.params5]; decide +kernel) (by kernel_rfl) Tryz.underlying4 rfl hb⟩

theorem satTells_holds : Rows.SatTellsSaid :=
  OpenClaim.holds_of_wide 5 Tryz.f5 rfl rfl rfl rfl rfl rfl rfl ⟨rfl, rfl, rfl, rfl, rfl⟩ rfl rfl rfl rfl rfl (by kernel_rfl) Tryz.func5 (by kernel_rfl)
    (of_decide_eq_true (by kernel_rfl)) (by unfold Func.isWrapper; first | (rw [if_pos (by decide +kernel)]; kernel_rfl) | (rw [if_neg (by decide +kernel)]; exact ⟨rfl, rfl⟩))
    (fun os started H enc _ => satTells_lifted os started H enc)
#print axioms satTells_holds
end Go.Proofs.YtdbbooibkiicnaaGreat
