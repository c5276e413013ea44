/- The statement PathsUnion: the ways of a union are those of both, of a sequence the product, of a repetition the closure: nothing, or a way of the kid and a way of the whole; no condition. -/
import Derived.Test.YtkhhjihbahdepaaPathsUnion0
import Derived.Test.YtkhhjihbahdepaaPathsUnion1
import Derived.Test.YtkhhjihbahdepaaRowN
set_option linter.unusedVariables false
set_option linter.unusedSimpArgs false
namespace Go.Proofs.Ytkhhjihbahdepaa
open Go.ChangeShapes Go.WideShapes Go.ChangeAt Go.RowKit

theorem pathsUnion_c {F : Fz} {w : World} (hF : Sat F w) (ns : List Nat) (hns : ∀ k ∈ ns, k < 65536) (B : Option Addr) (m d : Nat) (hr : Rd F 1 B m (ns.map encW)) (ms : List Nat) (hms : ∀ k ∈ ms, k < 65536) (B' : Option Addr) (m' d' : Nat) (hr' : Rd F 1 B' m' (ms.map encW))
    (fs : List (BitVec 64)) (A : Option Addr) (n c : Nat) (hf : Rd F 1 A n (fs.map u)) (gs : List (BitVec 64)) (A' : Option Addr) (n' c' : Nat) (hg : Rd F 1 A' n' (gs.map u)) :
    Calls Try.prog 3 #[.slice B m d, .slice B' m' d', .slice A n c, .slice A' n' c'] w fun e w' => e = .returned (.bool true) ∧ Below w.heap.size w w' := by
  by_cases h : min (fs.take 9).length (gs.take 9).length = 0
  · exact pathsUnion_0 hF ns hns B m d hr ms hms B' m' d' hr' fs A n c hf gs A' n' c' hg h
  · exact pathsUnion_1 hF ns hns B m d hr ms hms B' m' d' hr' fs A n c hf gs A' n' c' hg (by omega)
set_option maxRecDepth 100000 in
theorem pathsUnion_lifted (os : Os) (started : os.Started) (H : Type) (enc : TypeId × Value → H) :
    ReturnsInHanded {} Try.checked os 3 .any (Rows.pathsUnionSpec.pre6 enc Try.prog Try.f3 Rows.pathsUnionRow.domain false) (Rows.pathsUnionSpec.post enc Try.prog Try.f3 false true false false) := by
  refine returnsInHanded_of_change (C := Try.checked) Try.own started (by kernel_rfl) Try.func3
    (ChangeSpec.witness6 (enc := enc) (C := Try.checked) false ⟨#[], #[.slice none 0 0, .slice none 0 0, .slice none 0 0, .slice none 0 0], []⟩ 8 (by kernel_rfl) (by kernel_rfl) (by kernel_rfl) (by kernel_rfl)) ?_
  intro W base args ds gs before hval0 hW hcnd _
  have hval : ∀ (j : Nat) t v, Try.f3.params[j]? = some t → args[j]? = some v → Value.okWide Try.prog W .any base t v := hval0
  have hW' := hW
  obtain ⟨p, q, hA0, hV, rfl, hfz, hnd⟩ := hW
  have hA : DataW.TrodAll enc Try.prog W 0 (fun _ => true) true Try.f3.params.toList args.toList ds p := hA0
  have hA1 := hA
  rw [Try.params3] at hA hval
  obtain ⟨v0, v1, v2, v3, d0, d1, d2, d3, p0, p1, p2, p3, rfl, rfl, rfl, h0, h1, h2, h3⟩ := trodAll_four hA
  obtain ⟨rfl, rfl⟩ := trodVars_none hV
  obtain ⟨B, m, d, ns, rfl, hns, hr⟩ := open_u16s Try.underlying22 Try.underlying83 (by kernel_rfl) (hval 0 22 v0 rfl rfl) h0
  obtain ⟨Q, mq, dq, ms, rfl, hms, hrq⟩ := open_u16s Try.underlying22 Try.underlying83 (by kernel_rfl) (hval 1 22 v1 rfl rfl) h1
  obtain ⟨A, n, c, fs, rfl, hf⟩ := open_words Try.underlying23 Try.underlying62 (by kernel_rfl) (hval 2 23 v2 rfl rfl) h2
  obtain ⟨G, nq, cq, gs, rfl, hg⟩ := open_words Try.underlying23 Try.underlying62 (by kernel_rfl) (hval 3 23 v3 rfl rfl) h3
  clear hA0 hval0
  rw [List.append_nil] at hW'
  have hC : Calls Try.prog 3 #[.slice B m d, .slice Q mq dq, .slice A n c, .slice G nq cq] W fun e w' => e = .returned (.bool true) ∧ Below W.heap.size W w' := by
    exact pathsUnion_c (sat_heapF W) ns hns B m d hr ms hms Q mq dq hrq fs A n c hf gs G nq cq hg
  refine hC.mono fun e W' ⟨he, hb⟩ => ?_
  subst he
  exact ⟨_, rfl, law_post (T := 4) Try.laidOut rfl hW' hA1 (by rw [Try.params3]; decide +kernel) (by kernel_rfl) Try.underlying4 rfl hb⟩

theorem pathsUnion_holds : Rows.PathsUnionSaid :=
  OpenClaim.holds_of_wide 3 Try.f3 rfl rfl rfl rfl rfl rfl rfl ⟨rfl, rfl, rfl, rfl, rfl⟩ rfl rfl rfl rfl rfl (by kernel_rfl) Try.func3 (by kernel_rfl)
    (of_decide_eq_true (by kernel_rfl)) (by unfold Func.isWrapper; first | (rw [if_pos (by decide +kernel)]; kernel_rfl) | (rw [if_neg (by decide +kernel)]; exact ⟨rfl, rfl⟩))
    (fun os started H enc _ => pathsUnion_lifted os started H enc)
#print axioms pathsUnion_holds
end Go.Proofs.Ytkhhjihbahdepaa
