/- Rows of the call's own stay where their blocks stay; their shapes. -/
import Derived.Test.YtdbbooibkiicnaaGreatMoved
set_option linter.unusedVariables false
set_option linter.unusedSimpArgs false
namespace Go.Proofs.YtdbbooibkiicnaaGreat
open Go.RowKit
theorem Own.same {F : Fz} {w w' : World} {B : Nat} {e : TypeId} {size n : Nat} {v : Value} {xs : List Value} (h : Own F w B e size v n xs) (hs : ∀ g, v.ownBlock = some g → w'.heap[g]? = w.heap[g]?) : Own F w' B e size v n xs := by
  obtain ⟨⟨hl, h1⟩, h2⟩ := h
  refine ⟨⟨hl, ?_⟩, h2⟩
  rcases h1 with h1 | ⟨g, cap, cur, rfl, hg, hh, hc⟩
  · exact .inl h1
  · exact .inr ⟨g, cap, cur, rfl, hg, (hs g rfl).trans hh, hc⟩
theorem Own.below2 {F : Fz} {w w' : World} {B B2 : Nat} {e : TypeId} {size n : Nat} {v : Value} {xs : List Value} (h : Own F w B e size v n xs) (hb : Below B2 w w') (hlt : ∀ g, v.ownBlock = some g → g < B2) : Own F w' B e size v n xs := h.same fun g hg => hb.block g (hlt g hg)
theorem Own.shape {F : Fz} {w : World} {B : Nat} {e : TypeId} {size n : Nat} {v : Value} {xs : List Value} (h : Own F w B e size v n xs) : ∃ A c, v = .slice A n c ∧ n ≤ c := by
  obtain ⟨A, c, h1, h2, _⟩ := h.rdH
  exact ⟨A, c, h1, h2⟩
theorem OwnN.below2 {F : Fz} {w w' : World} {B B2 : Nat} {v : Value} {l : List Nd} (h : OwnN F w B v l) (hb : Below B2 w w') (hlt : ∀ g, v.ownBlock = some g → g < B2) : OwnN F w' B v l := let ⟨xs, h1, h2⟩ := h; ⟨xs, h1.below2 hb hlt, h2⟩
theorem OwnN.shape {F : Fz} {w : World} {B : Nat} {v : Value} {l : List Nd} (h : OwnN F w B v l) : ∃ A c, v = .slice A l.length c ∧ l.length ≤ c := let ⟨_, h1, _⟩ := h; h1.shape
theorem Own.le2 {F F' : Fz} {w : World} {B : Nat} {e : TypeId} {size n : Nat} {v : Value} {xs : List Value} (h : Own F w B e size v n xs) (hv : ∀ g, v.ownBlock = some g → F' g = F g) : Own F' w B e size v n xs := ⟨h.1, fun g hg => (hv g hg).trans (h.2 g hg)⟩
theorem OwnN.le2 {F F' : Fz} {w : World} {B : Nat} {v : Value} {l : List Nd} (h : OwnN F w B v l) (hle : CLe F F') (hv : ∀ g, v.ownBlock = some g → F' g = F g) : OwnN F' w B v l := let ⟨xs, h1, h2⟩ := h; ⟨xs, h1.le2 hv, h2.cle hle⟩
/-- Two rows of the call's own lie in two blocks. -/
def Apart (o t : Value) : Prop := ∀ g, o.ownBlock = some g → t.ownBlock ≠ some g
theorem Apart.symm {o t : Value} (h : Apart o t) : Apart t o := fun g h1 h2 => h g h2 h1
theorem Apart.or {o t : Value} (h : Apart o t) : t.ownBlock = none ∨ t.ownBlock ≠ o.ownBlock := by
  cases e : o.ownBlock with
  | none =>
    cases e2 : t.ownBlock with
    | none => exact .inl rfl
    | some g => exact .inr (by simp)
  | some g => exact .inr (h g e)
theorem Apart.push {o t o' : Value} {S : Nat} (h : Apart o t) (ht : ∀ g, t.ownBlock = some g → g < S) (hat : o'.ownBlock = o.ownBlock ∨ o'.ownBlock = some S) : Apart o' t := by
  intro g hg
  rcases hat with e | e
  · exact h g (by rw [← e]; exact hg)
  · rw [hg] at e
    injection e with e
    intro h2
    have := ht g h2
    omega
theorem apart_nil (v : Value) : Apart (.slice none 0 0) v := fun g h => by simp [Value.ownBlock] at h
theorem OwnN.kept {F : Fz} {w w' : World} {B : Nat} {v : Value} {l : List Nd} {row : Option Nat} (h : OwnN F w B v l) (hg : w.grownBy w' row) (hne : v.ownBlock = none ∨ v.ownBlock ≠ row) : OwnN F w' B v l := let ⟨xs, h1, h2⟩ := h; ⟨xs, h1.kept hg hne, h2⟩
theorem size_setCell (w : World) (a : Addr) (u : Value) : (w.setCell a u).heap.size = w.heap.size := by simp
theorem OwnN.empty (F : Fz) (w : World) (B : Nat) {w' : World} (hF : Sat F w) (hw : w' = w.alloc (.cells #[] 62)) (hB : B ≤ w.heap.size) : OwnN F w' B (.slice (some ⟨w.heap.size, 0, none⟩) 0 0) [] := ⟨[], Own.empty F w B _ 5 hF hw hB, .nil⟩
/-- A row of ints of the call's own is frozen. -/
theorem Own.ints {F : Fz} {w : World} {B n : Nat} {v : Value} {ks : List Int} (h : Own F w B 3 1 v n (ks.map (Value.int .i64))) (hF : Sat F w) (w0 : World) (hB : w0.heap.size ≤ B) :
    ∃ F' A c, v = .slice A ks.length c ∧ ks.length ≤ c ∧ Rd F' 1 A ks.length (ks.map (Value.int .i64)) ∧ Sat F' w ∧ Fle w0 F F' ∧ ∀ b, b < B → F' b = F b := by
  have hn : n = ks.length := by have := h.1.1; simpa using this.symm
  subst hn
  obtain ⟨F', A, c, e, hc, hr, hs, hle, hb⟩ := h.freeze hF w0 hB
  refine ⟨F', A, c, e, hc, hr, hs, hle, fun b hb' => hb b fun e => ?_⟩
  have := h.1.lt b e
  omega
end Go.Proofs.YtdbbooibkiicnaaGreat
