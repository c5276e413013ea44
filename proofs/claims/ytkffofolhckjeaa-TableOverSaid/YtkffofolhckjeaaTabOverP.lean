/- watchglasslaw28.TableOver returns true for every input, and its arguments read afterwards as before. No conditions. -/
import Derived.Test.YtkffofolhckjeaaTabOver
import Derived.Test.YtkffofolhckjeaaRow
namespace Go.Proofs.Ytkffofolhckjeaa
open Go.ChangeShapes Go.WideShapes Go.ChangeAt Go.RowKit

set_option maxRecDepth 100000 in
theorem tableOver_lifted (os : Os) (started : os.Started) (H : Type) (enc : TypeId × Value → H) :
    ReturnsInHanded {} Try.checked os 7 .any (Rows.tableOverSpec.pre6 enc Try.prog Try.f7 Rows.tableOverRow.domain false) (Rows.tableOverSpec.post enc Try.prog Try.f7 false true false false) := by
  refine returnsInHanded_of_change (C := Try.checked) Try.own started (by kernel_rfl) Try.func7
    (ChangeSpec.witness6 (enc := enc) (C := Try.checked) false ⟨#[], #[.int .u8 0, .slice none 0 0, .slice none 0 0, .slice none 0 0], []⟩ 8 (by kernel_rfl) (by kernel_rfl) (by kernel_rfl) (by kernel_rfl)) ?_
  intro W base args ds gs before hval0 hW hcnd _
  have hval : ∀ (j : Nat) t v, Try.f7.params[j]? = some t → args[j]? = some v → Value.okWide Try.prog W .any base t v := hval0
  have hW' := hW
  obtain ⟨p, q, hA0, hV, rfl, hfz, hnd⟩ := hW
  have hA : DataW.TrodAll enc Try.prog W 0 (fun _ => true) true Try.f7.params.toList args.toList ds p := hA0
  have hA1 := hA
  rw [Try.params7] at hA hval
  obtain ⟨v0, v1, v2, v3, d0, d1, d2, d3, p0, p1, p2, p3, rfl, rfl, rfl, h0, h1, h2, h3⟩ := trodAll_four hA
  obtain ⟨rfl, rfl⟩ := trodVars_none hV
  obtain ⟨z0, rfl, rfl, rfl, w0⟩ := open_int Try.underlying5 (hval 0 5 v0 rfl rfl) h0
  obtain ⟨k, rfl, hk⟩ := u8_of_wf w0
  obtain ⟨A, n, c, fs, rfl, hf⟩ := open_words Try.underlying22 Try.underlying27 (by kernel_rfl) (hval 1 22 v1 rfl rfl) h1
  obtain ⟨B, n', c', hs, rfl, hh⟩ := open_words Try.underlying22 Try.underlying27 (by kernel_rfl) (hval 2 22 v2 rfl rfl) h2
  obtain ⟨C, n'', c'', gs, rfl, hg⟩ := open_wordRows Try.underlying36 Try.underlying22 Try.underlying27 (by kernel_rfl) (by kernel_rfl) (hval 3 36 v3 rfl rfl) h3
  clear hA0 hval0
  rw [List.append_nil] at hW'
  have hC : Calls Try.prog 7 #[.int .u8 k, .slice A n c, .slice B n' c', .slice C n'' c''] W fun e w' => e = .returned (.bool true) ∧ Below W.heap.size W w' := by
    by_cases hb : 100 < n ∨ 100 < n' ∨ 30 < n''
    · exact over_big k A B C n n' n'' c c' c'' hb W
    · exact over_small k hk A B C n n' n'' c c' c'' fs hs gs (by omega) (by omega) (by omega) W hf hh hg
  refine hC.mono fun e W' ⟨he, hb⟩ => ?_
  subst he
  exact ⟨_, rfl, law_post (T := 4) Try.laidOut rfl hW' hA1 (by rw [Try.params7]; decide +kernel) (by kernel_rfl) Try.underlying4 rfl hb⟩

theorem tableOver_holds : Rows.TableOverSaid :=
  OpenClaim.holds_of_wide 7 Try.f7 rfl rfl rfl rfl rfl rfl rfl ⟨rfl, rfl, rfl, rfl, rfl⟩ rfl rfl rfl rfl rfl (by kernel_rfl) Try.func7 (by kernel_rfl)
    (of_decide_eq_true (by kernel_rfl)) (by unfold Func.isWrapper; first | (rw [if_pos (by decide +kernel)]; kernel_rfl) | (rw [if_neg (by decide +kernel)]; exact ⟨rfl, rfl⟩))
    (fun os started H enc _ => tableOver_lifted os started H enc)
#print axioms tableOver_holds
end Go.Proofs.Ytkffofolhckjeaa
