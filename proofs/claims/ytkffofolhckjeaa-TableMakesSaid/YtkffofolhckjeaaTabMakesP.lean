/- watchglasslaw28.TableMakes returns true for every input, and its arguments read afterwards as before. No conditions. -/
import Derived.Test.YtkffofolhckjeaaTabMakes
import Derived.Test.YtkffofolhckjeaaRow
namespace Go.Proofs.Ytkffofolhckjeaa
open Go.ChangeShapes Go.WideShapes Go.ChangeAt Go.RowKit

set_option maxRecDepth 100000 in
theorem tableMakes_lifted (os : Os) (started : os.Started) (H : Type) (enc : TypeId × Value → H) :
    ReturnsInHanded {} Try.checked os 6 .any (Rows.tableMakesSpec.pre6 enc Try.prog Try.f6 Rows.tableMakesRow.domain false) (Rows.tableMakesSpec.post enc Try.prog Try.f6 false true false false) := by
  refine returnsInHanded_of_change (C := Try.checked) Try.own started (by kernel_rfl) Try.func6
    (ChangeSpec.witness6 (enc := enc) (C := Try.checked) false ⟨#[], #[.int .i64 0, .int .i64 0, .slice none 0 0, .int .u64 0], []⟩ 8 (by kernel_rfl) (by kernel_rfl) (by kernel_rfl) (by kernel_rfl)) ?_
  intro W base args ds gs before hval0 hW hcnd _
  have hval : ∀ (j : Nat) t v, Try.f6.params[j]? = some t → args[j]? = some v → Value.okWide Try.prog W .any base t v := hval0
  have hW' := hW
  obtain ⟨p, q, hA0, hV, rfl, hfz, hnd⟩ := hW
  have hA : DataW.TrodAll enc Try.prog W 0 (fun _ => true) true Try.f6.params.toList args.toList ds p := hA0
  have hA1 := hA
  rw [Try.params6] at hA hval
  obtain ⟨v0, v1, v2, v3, d0, d1, d2, d3, p0, p1, p2, p3, rfl, rfl, rfl, h0, h1, h2, h3⟩ := trodAll_four hA
  obtain ⟨rfl, rfl⟩ := trodVars_none hV
  obtain ⟨x, rfl, rfl, rfl, w0⟩ := open_int Try.underlying3 (hval 0 3 v0 rfl rfl) h0
  obtain ⟨i, rfl, rfl, rfl, w1⟩ := open_int Try.underlying3 (hval 1 3 v1 rfl rfl) h1
  obtain ⟨A, n, c, fs, rfl, hf⟩ := open_words Try.underlying22 Try.underlying27 (by kernel_rfl) (hval 2 22 v2 rfl rfl) h2
  obtain ⟨X, rfl, rfl, rfl, w3⟩ := open_int Try.underlying27 (hval 3 27 v3 rfl rfl) h3
  have hX := u64_of_wf w3
  clear hA0 hval0
  rw [List.append_nil] at hW'
  have hC : Calls Try.prog 6 #[.int .i64 x, .int .i64 i, .slice A n c, .int .u64 X] W fun e w' => e = .returned (.bool true) ∧ Below W.heap.size W w' := by
    by_cases hb : 100 < n
    · exact makes_big x i X A n c hb W
    · by_cases hx : 0 ≤ x ∧ x ≤ 10
      · obtain ⟨m, rfl⟩ := Int.eq_ofNat_of_zero_le hx.1
        exact makes_in m (by omega) i X hX fs A n c (by omega) W hf
      · exact makes_out x i (by omega) X A n c (by omega) W
  refine hC.mono fun e W' ⟨he, hb⟩ => ?_
  subst he
  exact ⟨_, rfl, law_post (T := 4) Try.laidOut rfl hW' hA1 (by rw [Try.params6]; decide +kernel) (by kernel_rfl) Try.underlying4 rfl hb⟩

theorem tableMakes_holds : Rows.TableMakesSaid :=
  OpenClaim.holds_of_wide 6 Try.f6 rfl rfl rfl rfl rfl rfl rfl ⟨rfl, rfl, rfl, rfl, rfl⟩ rfl rfl rfl rfl rfl (by kernel_rfl) Try.func6 (by kernel_rfl)
    (of_decide_eq_true (by kernel_rfl)) (by unfold Func.isWrapper; first | (rw [if_pos (by decide +kernel)]; kernel_rfl) | (rw [if_neg (by decide +kernel)]; exact ⟨rfl, rfl⟩))
    (fun os started H enc _ => tableMakes_lifted os started H enc)
#print axioms tableMakes_holds
end Go.Proofs.Ytkffofolhckjeaa
