/- Join over formulas and regular expressions gives what the reference gives, and leaves what is handed in as it was. For all nodes, numbers and choices; no condition. -/
import Derived.Test.YtkffofolhckjeaaTreeJoins
import Derived.Test.YtkffofolhckjeaaRowN
set_option linter.unusedVariables false
set_option linter.unusedSimpArgs false
namespace Go.Proofs.Ytkffofolhckjeaa
open Go.ChangeShapes Go.WideShapes Go.ChangeAt Go.RowKit

set_option maxRecDepth 100000 in
theorem treeJoins_lifted (os : Os) (started : os.Started) (H : Type) (enc : TypeId × Value → H) :
    ReturnsInHanded {} Try.checked os 12 .any (Rows.treeJoinsSpec.pre6 enc Try.prog Try.f12 Rows.treeJoinsRow.domain false) (Rows.treeJoinsSpec.post enc Try.prog Try.f12 false true false false) := by
  refine returnsInHanded_of_change (C := Try.checked) Try.own started (by kernel_rfl) Try.func12
    (ChangeSpec.witness6 (enc := enc) (C := Try.checked) false ⟨#[], #[.agg #[.int .i64 0, .string ⟨#[]⟩, .int .i64 0, .int .i64 0, .slice none 0 0], .slice none 0 0, .slice none 0 0, .int .u8 0, .int .u8 0], []⟩ 8 (by kernel_rfl) (by kernel_rfl) (by kernel_rfl) (by kernel_rfl)) ?_
  intro W base args ds gs before hval0 hW hcnd _
  have hval : ∀ (j : Nat) t v, Try.f12.params[j]? = some t → args[j]? = some v → Value.okWide Try.prog W .any base t v := hval0
  have hW' := hW
  obtain ⟨p, q, hA0, hV, rfl, hfz, hnd⟩ := hW
  have hA : DataW.TrodAll enc Try.prog W 0 (fun _ => true) true Try.f12.params.toList args.toList ds p := hA0
  have hA1 := hA
  rw [Try.params12] at hA hval
  obtain ⟨v0, vs0, d0, ds0, p0, q0, hvs, rfl, rfl, h0, r0⟩ := trodAll_cons hA
  obtain ⟨v1, vs1, d1, ds1, p1, q1, rfl, rfl, rfl, h1, r1⟩ := trodAll_cons r0
  obtain ⟨v2, vs2, d2, ds2, p2, q2, rfl, rfl, rfl, h2, r2⟩ := trodAll_cons r1
  obtain ⟨v3, vs3, d3, ds3, p3, q3, rfl, rfl, rfl, h3, r3⟩ := trodAll_cons r2
  obtain ⟨v4, vs4, d4, ds4, p4, q4, rfl, rfl, rfl, h4, r4⟩ := trodAll_cons r3
  obtain ⟨rfl, rfl, rfl⟩ := trodAll_nil r4
  obtain rfl : args = #[v0, v1, v2, v3, v4] := Array.toList_inj.1 hvs
  obtain ⟨rfl, rfl⟩ := trodVars_none hV
  obtain ⟨nd, Ak, ck, rfl, hck, hkr⟩ := open_node (hval 0 57 v0 rfl rfl) h0
  obtain ⟨Aa, na, ca, nsa, rfl, hnsa, hra⟩ := open_u16s Try.underlying49 Try.underlying89 (by kernel_rfl) (hval 1 49 v1 rfl rfl) h1
  obtain ⟨Ab, nb, cb, nsb, rfl, hnsb, hrb⟩ := open_u16s Try.underlying49 Try.underlying89 (by kernel_rfl) (hval 2 49 v2 rfl rfl) h2
  obtain ⟨z3, rfl, rfl, rfl, w3⟩ := open_int Try.underlying5 (hval 3 5 v3 rfl rfl) h3
  obtain ⟨count, rfl, hcount⟩ := u8_of_wf w3
  obtain ⟨z4, rfl, rfl, rfl, w4⟩ := open_int Try.underlying5 (hval 4 5 v4 rfl rfl) h4
  obtain ⟨regs, rfl, hregs⟩ := u8_of_wf w4
  clear hA0 hval0
  rw [List.append_nil] at hW'
  have hC : Calls Try.prog 12 #[.agg #[.int .i64 nd.kind, .string nd.name, .int .i64 nd.lo, .int .i64 nd.hi, .slice Ak nd.kids.length ck], .slice Aa na ca, .slice Ab nb cb, .int .u8 count, .int .u8 regs] W fun e w' => e = .returned (.bool true) ∧ Below W.heap.size W w' := by
    exact treeJoins_c (sat_heapF W) nd Ak ck Aa Ab na ca nb cb nsa nsb hnsa hnsb hra hrb count regs hcount hregs
  refine hC.mono fun e W' ⟨he, hb⟩ => ?_
  subst he
  exact ⟨_, rfl, law_post (T := 4) Try.laidOut rfl hW' hA1 (by rw [Try.params12]; decide +kernel) (by kernel_rfl) Try.underlying4 rfl hb⟩

theorem treeJoins_holds : Rows.TreeJoinsSaid :=
  OpenClaim.holds_of_wide 12 Try.f12 rfl rfl rfl rfl rfl rfl rfl ⟨rfl, rfl, rfl, rfl, rfl⟩ rfl rfl rfl rfl rfl (by kernel_rfl) Try.func12 (by kernel_rfl)
    (of_decide_eq_true (by kernel_rfl)) (by unfold Func.isWrapper; first | (rw [if_pos (by decide +kernel)]; kernel_rfl) | (rw [if_neg (by decide +kernel)]; exact ⟨rfl, rfl⟩))
    (fun os started H enc _ => treeJoins_lifted os started H enc)
#print axioms treeJoins_holds
end Go.Proofs.Ytkffofolhckjeaa
