/- The walks of the law's Span and plainer. -/
import Derived.Test.YtdbbooibkiicnaaGreatPileM
set_option linter.unusedVariables false
set_option linter.unusedSimpArgs false
/-! The walks of the law's Span and plainer. -/
namespace Go.Proofs.YtdbbooibkiicnaaGreat
open Go.RowKit
end Go.Proofs.YtdbbooibkiicnaaGreat
/-! Piles of trees: what each number adds. Plain definitions and lemmas. -/
namespace Go.Proofs.YtdbbooibkiicnaaGreat
/-! What is piled up may be. -/
def validT : Tr → Bool
  | .leaf h => fieldsS { h with kids := [] }
  | .un h a => fieldsS { h with kids := [0] } && (regS a.root.kind == wantsS h.kind) && validT a
  | .bin h a b => fieldsS { h with kids := [0, 0] } && (regS a.root.kind == wantsS h.kind) && (regS b.root.kind == wantsS h.kind) && validT a && validT b
theorem fields_len (h : Nd) (ks ks' : List Int) (hl : ks.length = ks'.length) : fieldsS { h with kids := ks } = fieldsS { h with kids := ks' } := by
  unfold fieldsS
  simp only [hl]
theorem fold_flat : ∀ (t : Tr) (st : List Tr), validT t = true → ∃ t', (t.flat (total st)).foldlM pushS st = some (t' :: st) ∧ t'.size = t.size ∧ t'.root.kind = t.root.kind ∧ (∀ o, t'.flat o = t.flat o) ∧ t'.depth = t.depth
  | .leaf h, st, hv => by
    refine ⟨.leaf { h with kids := [] }, ?_, rfl, rfl, fun o => rfl, rfl⟩
    simp only [Tr.flat, List.foldlM_cons, List.foldlM_nil, pushS]
    rw [if_pos (show fieldsS { h with kids := [] } = true from hv)]
    rfl
  | .un h a, st, hv => by
    simp only [validT, Bool.and_eq_true, beq_iff_eq] at hv
    obtain ⟨⟨h1, h2⟩, h3⟩ := hv
    obtain ⟨a', e1, e2, e3, e4, e5⟩ := fold_flat a st h3
    refine ⟨.un { h with kids := [((total st + a.size : Nat) : Int) - 1] } a', ?_, by simp [Tr.size, e2], rfl, fun o => by simp [Tr.flat, e4, e2], by simp [Tr.depth, e5]⟩
    simp only [Tr.flat]
    rw [List.foldlM_append, e1]
    simp only [Option.bind_eq_bind, Option.bind_some, List.foldlM_cons, List.foldlM_nil, pushS]
    rw [if_pos ((fields_len h [((total st + a.size : Nat) : Int) - 1] [0] rfl).trans h1), if_pos ⟨by rw [total_cons, e2, Nat.add_comm], by rw [e3]; exact h2⟩]
    rfl
  | .bin h a b, st, hv => by
    simp only [validT, Bool.and_eq_true, beq_iff_eq] at hv
    obtain ⟨⟨⟨⟨h1, h2⟩, h3⟩, h4⟩, h5⟩ := hv
    obtain ⟨a', e1, e2, e3, e4, e5⟩ := fold_flat a st h4
    obtain ⟨b', f1, f2, f3, f4, f5⟩ := fold_flat b (a' :: st) h5
    rw [total_cons, e2, Nat.add_comm] at f1
    refine ⟨.bin { h with kids := [((total st + a.size : Nat) : Int) - 1, ((total st + a.size + b.size : Nat) : Int) - 1] } a' b', ?_, by simp [Tr.size, e2, f2], rfl, fun o => by simp [Tr.flat, e4, e2, f4, f2], by simp [Tr.depth, e5, f5]⟩
    simp only [Tr.flat]
    rw [List.foldlM_append, List.foldlM_append, e1]
    simp only [Option.bind_eq_bind, Option.bind_some, f1, List.foldlM_cons, List.foldlM_nil, pushS]
    rw [if_pos ((fields_len h [((total st + a.size : Nat) : Int) - 1, ((total st + a.size + b.size : Nat) : Int) - 1] [0, 0] rfl).trans h1), if_pos ⟨by rw [total_cons, total_cons, e2, f2]; congr 1; omega, by rw [f3]; exact h3, by rw [total_cons, e2, Nat.add_comm], by rw [e3]; exact h2⟩]
    rfl
theorem tree_of_valid {t : Tr} (h : validT t = true) : ∃ t', treeS (t.flat 0) = some t' ∧ t'.size = t.size ∧ t'.root.kind = t.root.kind := by
  obtain ⟨t', h1, h2, h3, _, _⟩ := fold_flat t [] h
  refine ⟨t', ?_, h2, h3⟩
  unfold treeS parseS
  rw [show (Tr.flat t 0) = Tr.flat t (total []) from rfl, h1]
end Go.Proofs.YtdbbooibkiicnaaGreat
