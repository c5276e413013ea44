/- The statement PathsAll: of any list of nodes and of any regular expression that may be, over any points, the program's table of ways is the document's; no condition. -/
import Derived.Test.YtkhhjihbahdepaaPathsAll
import Derived.Test.YtkhhjihbahdepaaRowN
set_option linter.unusedVariables false
set_option linter.unusedSimpArgs false
namespace Go.Proofs.Ytkhhjihbahdepaa
open Go.ChangeShapes Go.WideShapes Go.ChangeAt Go.RowKit

set_option maxRecDepth 100000 in
theorem pathsAll_lifted (os : Os) (started : os.Started) (H : Type) (enc : TypeId × Value → H) :
    ReturnsInHanded {} Try.checked os 6 .any (Rows.pathsAllSpec.pre6 enc Try.prog Try.f6 Rows.pathsAllRow.domain false) (Rows.pathsAllSpec.post enc Try.prog Try.f6 false true false false) := by
  refine returnsInHanded_of_change (C := Try.checked) Try.own started (by kernel_rfl) Try.func6
    (ChangeSpec.witness6 (enc := enc) (C := Try.checked) false ⟨#[], #[.slice none 0 0, .slice none 0 0, .slice none 0 0], []⟩ 8 (by kernel_rfl) (by kernel_rfl) (by kernel_rfl) (by kernel_rfl)) ?_
  intro W base args ds gs before hval0 hW hcnd _
  have hval : ∀ (j : Nat) t v, Try.f6.params[j]? = some t → args[j]? = some v → Value.okWide Try.prog W .any base t v := hval0
  have hW' := hW
  obtain ⟨p, q, hA0, hV, rfl, hfz, hnd⟩ := hW
  have hA : DataW.TrodAll enc Try.prog W 0 (fun _ => true) true Try.f6.params.toList args.toList ds p := hA0
  have hA1 := hA
  rw [Try.params6] at hA hval
  obtain ⟨v0, v1, v2, d0, d1, d2, p0, p1, p2, rfl, rfl, rfl, h0, h1, h2⟩ := trodAll_three hA
  obtain ⟨rfl, rfl⟩ := trodVars_none hV
  obtain ⟨A, n, c, l, rfl, hcl, hml, hl⟩ := open_nodes (hval 0 24 v0 rfl rfl) h0
  obtain ⟨B, m, d, ns, rfl, hns, hr⟩ := open_u16s Try.underlying22 Try.underlying83 (by kernel_rfl) (hval 1 22 v1 rfl rfl) h1
  obtain ⟨C, k, f, vs, rfl, hvs⟩ := open_wordRows Try.underlying26 Try.underlying23 Try.underlying62 (by kernel_rfl) (by kernel_rfl) (hval 2 26 v2 rfl rfl) h2
  clear hA0 hval0
  rw [List.append_nil] at hW'
  have hC : Calls Try.prog 6 #[.slice A n c, .slice B m d, .slice C k f] W fun e w' => e = .returned (.bool true) ∧ Below W.heap.size W w' := by
    exact pathsAll_c (sat_heapF W) l A n c hl ns hns B m d hr (Nat.le_trans hcl hml) C k f vs hvs
  refine hC.mono fun e W' ⟨he, hb⟩ => ?_
  subst he
  exact ⟨_, rfl, law_post (T := 4) Try.laidOut rfl hW' hA1 (by rw [Try.params6]; decide +kernel) (by kernel_rfl) Try.underlying4 rfl hb⟩

theorem pathsAll_holds : Rows.PathsAllSaid :=
  OpenClaim.holds_of_wide 6 Try.f6 rfl rfl rfl rfl rfl rfl rfl ⟨rfl, rfl, rfl, rfl, rfl⟩ rfl rfl rfl rfl rfl (by kernel_rfl) Try.func6 (by kernel_rfl)
    (of_decide_eq_true (by kernel_rfl)) (by unfold Func.isWrapper; first | (rw [if_pos (by decide +kernel)]; kernel_rfl) | (rw [if_neg (by decide +kernel)]; exact ⟨rfl, rfl⟩))
    (fun os started H enc _ => pathsAll_lifted os started H enc)
#print axioms pathsAll_holds
end Go.Proofs.Ytkhhjihbahdepaa
