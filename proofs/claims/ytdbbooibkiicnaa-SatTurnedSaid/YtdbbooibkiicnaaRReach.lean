/- The walks of the reference's Form, Reg, Plain, Same. -/
import Derived.Test.YtdbbooibkiicnaaRPart
import Derived.Test.YtdbbooibkiicnaaEq
import Derived.Test.YtdbbooibkiicnaaOwn
import Derived.Test.YtdbbooibkiicnaaPart
import Derived.Test.YtdbbooibkiicnaaSq
import Derived.Test.YtdbbooibkiicnaaTab1
import Derived.Deep.RegionHeld3
import Derived.Deep.DeepCutAuto
import Derived.Test.YtdbbooibkiicnaaPileM
set_option linter.unusedVariables false
set_option linter.unusedSimpArgs false
/-! The walks of the reference's Form, Reg, Plain, Same. -/
/-! The walks of the reference's Form, Reg, Plain, Same. -/
namespace Go.Proofs.Ytdbbooibkiicnaa
open Go.RowKit

theorem root_kind {l : List Nd} {t : Tr} (h : treeS l = some t) : 1 ≤ t.root.kind := by
  have hl := tree_len h
  obtain ⟨hlt, hk⟩ := tree_last h
  rw [← hk]
  unfold treeS at h
  split at h
  · rename_i t' hp
    exact kind_pos (fold_fields hp _ (List.getElem_mem hlt))
  · cases h
theorem formS_root {k : Int} (h : 1 ≤ k) : formS k = !regS k := by
  unfold formS regS
  by_cases h1 : 18 ≤ k
  · simp [h1]; omega
  · simp [h1]; omega
end Go.Proofs.Ytdbbooibkiicnaa
/-! The walks of the reference's inside, places, Tests, Steps, number. -/
namespace Go.Proofs.Ytdbbooibkiicnaa
open Go.RowKit
theorem get_kind {l : List Nd} {t : Tr} (h : treeS l = some t) (j : Nat) (hj : j < l.length) : l[j].kind = (t.sub j).root.kind := by
  have h1 := Tr.get_flat t j 0 (by rw [← tree_len h]; exact hj)
  rw [← tree_flat h, List.getElem?_eq_getElem hj] at h1
  injection h1 with h1
  rw [h1]
theorem places_spec {l : List Nd} {t : Tr} (ht : treeS l = some t) (hr : regS t.root.kind = true) (k : Int) : kindS l k = (List.range l.length).filter fun p => decide (kindAt l p = k) && !insT t p := by
  have he : ownS l = ownT t 0 := by unfold ownS; rw [ht]; simp only; rw [if_pos hr]
  unfold kindS
  rw [he, own_filter, tree_len ht, show (fun x => 0 + x) = (id : Nat → Nat) from funext fun x => Nat.zero_add x, List.map_id, List.filter_filter]
end Go.Proofs.Ytdbbooibkiicnaa
/-! The walk of the reference's reach, kind by kind. -/
/-! The walk of the reference's reach, kind by kind. -/
namespace Go.Proofs.Ytdbbooibkiicnaa
open Go.RowKit
/-- What a function that gives a table leaves. -/
def RetM (w : World) (n : Nat) (m : Mx) (e : Ending) (w' : World) : Prop := ∃ g, e = .returned (.slice (some ⟨g, 0, none⟩) n n) ∧ w.heap.size ≤ g ∧ SqF (heapF w') g n m ∧ Below w.heap.size w w'
theorem SqF.far {w : World} {g n : Nat} {m : Mx} (h : SqF (heapF w) g n m) {p : Addr} {u : Value} (hp : p.block < g ∨ g + n < p.block) : SqF (heapF (w.setCell p u)) g n m :=
  ⟨(Below.heap_setCell w p u g (by omega)).trans h.1, fun i hi => (Below.heap_setCell w p u _ (by omega)).trans (h.2 i hi)⟩
def stepTo (i : Nat) : Mx := fun p q => decide (p < i) && stepM p q
theorem stepTo_zero : (fun _ _ => false : Mx) = stepTo 0 := by funext p q; simp [stepTo]
theorem stepTo_step {n : Nat} (i : Nat) (p q : Nat) (_ : p < n) (_ : q < n) : stepTo (i + 1) p q = if p = i ∧ q = i + 1 then true else stepTo i p q := by
  unfold stepTo stepM
  by_cases e : p = i ∧ q = i + 1
  · obtain ⟨rfl, rfl⟩ := e; simp
  · rw [if_neg e]
    by_cases h : p < i
    · simp [h, show p < i + 1 by omega]
    · by_cases h2 : p = i
      · subst h2; simp; omega
      · simp [h, show ¬ p < i + 1 by omega]
theorem stepTo_all {n i : Nat} (h : n ≤ i + 1) : EqM n (stepTo i) stepM := fun p q _ hq => by
  unfold stepTo stepM
  by_cases e : p + 1 = q
  · simp [e]; omega
  · simp [e]
end Go.Proofs.Ytdbbooibkiicnaa
/-! The walk of the reference's reach at a test. -/
namespace Go.Proofs.Ytdbbooibkiicnaa
open Go.RowKit
/-- What tests hold, point by point. -/
def valS (vs : List (List (BitVec 64))) (i q : Nat) : Bool := bitAt (vs.getD i []) q
def testTo (v : Nat → Nat → Bool) (k i : Nat) : Mx := fun p q => decide (p < i) && testM v k p q
theorem testTo_zero (v : Nat → Nat → Bool) (k : Nat) : (fun _ _ => false : Mx) = testTo v k 0 := by funext p q; simp [testTo]
theorem testTo_step {n : Nat} (v : Nat → Nat → Bool) (k i : Nat) (p q : Nat) (_ : p < n) (_ : q < n) : testTo v k (i + 1) p q = if p = i ∧ q = i then v i k else testTo v k i p q := by
  unfold testTo testM
  by_cases e : p = i ∧ q = i
  · obtain ⟨rfl, rfl⟩ := e; simp
  · rw [if_neg e]
    by_cases h : p < i
    · simp [h, show p < i + 1 by omega]
    · by_cases h2 : p = i
      · subst h2; simp; omega
      · simp [h, show ¬ p < i + 1 by omega]
theorem testTo_all {n : Nat} (v : Nat → Nat → Bool) (k : Nat) : EqM n (testTo v k n) (testM v k) := fun p q hp _ => by simp [testTo, hp]
end Go.Proofs.Ytdbbooibkiicnaa
/-! The walk of the reference's reach at a union. -/
namespace Go.Proofs.Ytdbbooibkiicnaa
open Go.RowKit
end Go.Proofs.Ytdbbooibkiicnaa
/-! The walk of the reference's reach at a sequence. -/
namespace Go.Proofs.Ytdbbooibkiicnaa
open Go.RowKit
end Go.Proofs.Ytdbbooibkiicnaa
/-! The walk of the reference's reach at a closure. -/
namespace Go.Proofs.Ytdbbooibkiicnaa
open Go.RowKit
def reflTo (a : Mx) (i : Nat) : Mx := fun p q => (decide (p < i) && decide (p = q)) || a p q
theorem reflTo_zero (a : Mx) : a = reflTo a 0 := by funext p q; simp [reflTo]
theorem reflTo_step {n : Nat} (a : Mx) (i : Nat) (p q : Nat) (_ : p < n) (_ : q < n) : reflTo a (i + 1) p q = if p = i ∧ q = i then true else reflTo a i p q := by
  unfold reflTo
  by_cases e : p = i ∧ q = i
  · obtain ⟨rfl, rfl⟩ := e; simp
  · rw [if_neg e]
    by_cases h : p < i
    · simp [h, show p < i + 1 by omega]
    · by_cases h2 : p = i
      · subst h2
        have : decide (p = q) = false := by simp; omega
        simp [this]
      · simp [h, show ¬ p < i + 1 by omega]
theorem reflTo_all {n : Nat} (a : Mx) : EqM n (reflTo a n) (pwM n (reflM a) 1) := fun p q hp hq => by
  rw [pw_one p q hp hq]
  simp [reflTo, reflM, orM, idM, hp]
end Go.Proofs.Ytdbbooibkiicnaa
/-! The reference's reach over a whole tree, and its Reach. -/
namespace Go.Proofs.Ytdbbooibkiicnaa
open Go.RowKit
theorem get_placed {l pre post : List Nd} {t : Tr} {o : Nat} (hl : l = pre ++ t.flat o ++ post) (hp : pre.length = o) : ∃ h : o + t.size - 1 < l.length, l[o + t.size - 1] = { t.root with kids := t.rootKids o } := by
  have hs := t.size_pos
  have h1 := Tr.flat_last t o
  have h2 : l[o + t.size - 1]? = some { t.root with kids := t.rootKids o } := by
    rw [hl, List.append_assoc, List.getElem?_append_right (by omega), List.getElem?_append_left (by rw [Tr.length_flat]; omega), show o + t.size - 1 - pre.length = t.size - 1 by omega, h1]
  obtain ⟨h3, h4⟩ := List.getElem?_eq_some_iff.1 h2
  exact ⟨h3, h4⟩
theorem RdR.cle {F F' : Fz} {A : Option Addr} {n : Nat} {gs : List (List (BitVec 64))} (h : RdR F A n gs) (hle : CLe F F') : RdR F' A n gs :=
  ⟨h.1, fun i hi => let ⟨ad, Ai, ni, ci, e, h1, h2⟩ := h.2 i hi; ⟨ad, Ai, ni, ci, e, hle _ _ h1, h2.1, fun h0 => let ⟨a, e2, h3⟩ := h2.2 h0; ⟨a, e2, fun j u hu => hle _ _ (h3 j u hu)⟩⟩⟩
/-- What Reach of a list leaves: nothing of what is no regular expression. -/
def RetR14 (w : World) (l : List Nd) (n : Nat) (v : Nat → Nat → Bool) (e : Ending) (w' : World) : Prop :=
  (regL l = false → e = .returned (.slice none 0 0) ∧ Below w.heap.size w w') ∧ ∀ t, treeS l = some t → regS t.root.kind = true → RetM w n (reachT n v t 0) e w'
end Go.Proofs.Ytdbbooibkiicnaa
