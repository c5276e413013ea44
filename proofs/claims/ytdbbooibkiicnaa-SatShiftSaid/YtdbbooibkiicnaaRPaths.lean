/- The walks of the reference's Form, Reg, Plain, Same. -/
import Derived.Test.YtdbbooibkiicnaaRPart
import Derived.Test.YtdbbooibkiicnaaEq
import Derived.Test.YtdbbooibkiicnaaOwn
import Derived.Test.YtdbbooibkiicnaaPart
set_option linter.unusedVariables false
set_option linter.unusedSimpArgs false
/-! The walks of the reference's Form, Reg, Plain, Same. -/
namespace Go.Proofs.Ytdbbooibkiicnaa
open Go.RowKit

theorem root_kind {l : List Nd} {t : Tr} (h : treeS l = some t) : 1 ≤ t.root.kind := by
  have hl := tree_len h
  obtain ⟨hlt, hk⟩ := tree_last h
  rw [← hk]
  unfold treeS at h
  split at h
  · rename_i t' hp
    exact kind_pos (fold_fields hp _ (List.getElem_mem hlt))
  · cases h
theorem formS_root {k : Int} (h : 1 ≤ k) : formS k = !regS k := by
  unfold formS regS
  by_cases h1 : 18 ≤ k
  · simp [h1]; omega
  · simp [h1]; omega
end Go.Proofs.Ytdbbooibkiicnaa
/-! The walks of the reference's inside, places, Tests, Steps, number. -/
namespace Go.Proofs.Ytdbbooibkiicnaa
open Go.RowKit
theorem get_kind {l : List Nd} {t : Tr} (h : treeS l = some t) (j : Nat) (hj : j < l.length) : l[j].kind = (t.sub j).root.kind := by
  have h1 := Tr.get_flat t j 0 (by rw [← tree_len h]; exact hj)
  rw [← tree_flat h, List.getElem?_eq_getElem hj] at h1
  injection h1 with h1
  rw [h1]
theorem places_spec {l : List Nd} {t : Tr} (ht : treeS l = some t) (hr : regS t.root.kind = true) (k : Int) : kindS l k = (List.range l.length).filter fun p => decide (kindAt l p = k) && !insT t p := by
  have he : ownS l = ownT t 0 := by unfold ownS; rw [ht]; simp only; rw [if_pos hr]
  unfold kindS
  rw [he, own_filter, tree_len ht, show (fun x => 0 + x) = (id : Nat → Nat) from funext fun x => Nat.zero_add x, List.map_id, List.filter_filter]
end Go.Proofs.Ytdbbooibkiicnaa
