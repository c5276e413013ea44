/- Law 8's traces: plain definitions and lemmas. -/
import Derived.Test.YtdbbooibkiicnaaGreatSatB
import Derived.Test.YtdbbooibkiicnaaGreatSatF
set_option linter.unusedVariables false
set_option linter.unusedSimpArgs false
/-! Law 8's traces: plain definitions and lemmas. -/
namespace Go.Proofs.YtdbbooibkiicnaaGreat
theorem allI_iff {p : Nat → Bool} : ∀ {m i : Nat}, allI p m i = true ↔ ∀ j, i ≤ j → j < i + m → p j = true
  | 0, i => by
    unfold allI
    exact ⟨fun _ j h1 h2 => by omega, fun _ => rfl⟩
  | m + 1, i => by
    unfold allI
    rw [Bool.and_eq_true, allI_iff]
    constructor
    · rintro ⟨h1, h2⟩ j h3 h4
      rcases Nat.lt_or_ge i j with h | h
      · exact h2 j (by omega) (by omega)
      · rw [show j = i by omega]; exact h1
    · intro h
      exact ⟨h i (Nat.le_refl _) (by omega), fun j h1 h2 => h j (by omega) (by omega)⟩
end Go.Proofs.YtdbbooibkiicnaaGreat
/-! Traces of the call's own: rows of events; law 8's ids. -/
namespace Go.Proofs.YtdbbooibkiicnaaGreat
open Go.RowKit
attribute [local go_sem ↓] Go.wp_at_zero Go.wp_at_succ
def noF : Fz := fun _ => none
end Go.Proofs.YtdbbooibkiicnaaGreat
/-! Rows of events of the call's own; law 8's Make. -/
namespace Go.Proofs.YtdbbooibkiicnaaGreat
open Go.RowKit
attribute [local go_sem ↓] Go.wp_at_zero Go.wp_at_succ
def evC (xs : List (Nat × Value)) : List Value := xs.flatMap fun p => [.int .u64 (p.1 : Nat), p.2]
theorem get_evC : ∀ (ps : List (Nat × Value)) (j : Nat) (p : Nat × Value), ps[j]? = some p → (evC ps)[j * 2]? = some (.int .u64 (p.1 : Nat)) ∧ (evC ps)[j * 2 + 1]? = some p.2
  | [], j, p, h => by simp at h
  | q :: ps, 0, p, h => by
    simp at h
    subst h
    simp [evC]
  | q :: ps, j + 1, p, h => by
    have := get_evC ps j p (by simpa using h)
    rw [show evC (q :: ps) = .int .u64 (q.1 : Nat) :: q.2 :: evC ps from rfl, show (j + 1) * 2 = j * 2 + 1 + 1 by omega]
    exact this
/-- What an event's ids read as, apart from the row v. -/
def IdsAt (w : World) (B : Nat) (v : Value) (e : Evt) (p : Nat × Value) : Prop :=
  e.time < 18446744073709551616 ∧ ∃ Ai ci, p = (e.time, .slice Ai e.ids.length ci) ∧ e.ids.length ≤ ci ∧ Rd (heapF w) 1 Ai e.ids.length (e.ids.map (Value.int .i64)) ∧ (0 < e.ids.length → ∀ a, Ai = some a → B ≤ a.block ∧ v.ownBlock ≠ some a.block)
/-- A row of events of the call's own. -/
def OwnE (w : World) (B : Nat) (v : Value) (es : List Evt) : Prop := ∃ xs : List (Nat × Value), Own noF w B 46 2 v es.length (evC xs) ∧ xs.length = es.length ∧ ∀ (j : Nat) (e : Evt), es[j]? = some e → ∃ p, xs[j]? = some p ∧ IdsAt w B v e p
theorem rd_same {w w' : World} {A : Option Addr} {n : Nat} {xs : List Value} (h : Rd (heapF w) 1 A n xs) (hm : 0 < n → ∀ a, A = some a → w'.heap[a.block]? = w.heap[a.block]?) : Rd (heapF w') 1 A n xs := by
  refine ⟨h.1, fun h0 => ?_⟩
  obtain ⟨ad, e, hc⟩ := h.2 h0
  refine ⟨ad, e, fun j u hu => ?_⟩
  have := hc j u hu
  unfold Fz.cell heapF at this ⊢
  rw [block_of_add, hm h0 ad e]
  rwa [block_of_add] at this
namespace OwnE
variable {w w' : World} {B : Nat} {v : Value} {es : List Evt}
theorem nil (w : World) (B : Nat) : OwnE w B (.slice none 0 0) [] := ⟨[], Own.nil _ _ _ _ _, rfl, fun j e h => by simp at h⟩
theorem lt (h : OwnE w B v es) : ∀ g, v.ownBlock = some g → B ≤ g ∧ g < w.heap.size := let ⟨_, h1, _⟩ := h; h1.1.lt
theorem keep (h : OwnE w B v es) (hm : ∀ b, B ≤ b → b < w.heap.size → w'.heap[b]? = w.heap[b]?) : OwnE w' B v es := by
  have hl := h.lt
  obtain ⟨xs, h1, h2, h3⟩ := h
  refine ⟨xs, h1.same fun g hg => hm g (hl g hg).1 (hl g hg).2, h2, fun j e hj => ?_⟩
  obtain ⟨p, hp, ht, Ai, ci, e1, e2, e3, e4⟩ := h3 j e hj
  refine ⟨p, hp, ht, Ai, ci, e1, e2, rd_same e3 fun h0 a ha => hm _ (e4 h0 a ha).1 (rd_lt e3 h0 a ha), e4⟩
theorem call (h : OwnE w B v es) (hb : Below w.heap.size w w') : OwnE w' B v es := h.keep fun b _ hb2 => hb.block b hb2
theorem alloc (h : OwnE w B v es) (o : Obj) : OwnE (w.alloc o) B v es := h.call (balloc _ _)
theorem set (h : OwnE w B v es) {p : Addr} (hp : p.block < B) (u : Value) : OwnE (w.setCell p u) B v es := h.keep fun b h1 _ => Below.heap_setCell w p u b (by omega)
theorem shape (h : OwnE w B v es) : ∃ A c, v = .slice A es.length c ∧ es.length ≤ c := let ⟨_, h1, _⟩ := h; h1.shape
/-- It reads as its events. -/
theorem done (h : OwnE w B v es) : ∃ A c, v = .slice A es.length c ∧ es.length ≤ c ∧ EvsF (heapF w) A es.length es ∧ ∀ a, A = some a → B ≤ a.block := by
  have hl := h.lt
  obtain ⟨xs, h1, h2, h3⟩ := h
  obtain ⟨A, c, rfl, hc, hr⟩ := h1.rdH
  refine ⟨A, c, rfl, hc, ⟨rfl, fun h0 => ?_⟩, fun a ha => by subst ha; exact (hl a.block rfl).1⟩
  obtain ⟨ad, e, hr2⟩ := hr.2 h0
  refine ⟨ad, e, fun i hi => ?_⟩
  obtain ⟨p, hp, ht, Ai, ci, e1, e2, e3, _⟩ := h3 i es[i] (List.getElem?_eq_getElem hi)
  obtain ⟨g1, g2⟩ := get_evC xs i p hp
  rw [e1] at g1 g2
  exact ⟨ht, Ai, ci, e2, e3, hr2 _ _ g1, by rw [add_of_add]; exact hr2 _ _ g2⟩
end OwnE
theorem Wr.bel {Gs : List Nat} {w w' w'' : World} (h : Wr Gs w w') (hb : Below w.heap.size w' w'') : Wr Gs w w'' :=
  ⟨hb.os.trans h.os, hb.tape.trans h.tape, hb.output.trans h.output, Nat.le_trans h.size hb.size, fun b h1 h2 => (hb.block b h1).trans (h.block b h1 h2)⟩
end Go.Proofs.YtdbbooibkiicnaaGreat
