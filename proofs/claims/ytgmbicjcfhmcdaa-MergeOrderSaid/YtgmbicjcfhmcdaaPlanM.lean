/- Rows of places, and all of memory but what is being written. -/
import Derived.Test.YtgmbicjcfhmcdaaPlanP
import Derived.Test.YtgmbicjcfhmcdaaTabW
import Derived.Test.YtgmbicjcfhmcdaaApp
import Derived.Test.YtgmbicjcfhmcdaaNodes
import Derived.Test.YtgmbicjcfhmcdaaPileM
import Derived.Deep.RegionHeld3
import Derived.Deep.DrawnRows
set_option linter.unusedVariables false
set_option linter.unusedSimpArgs false
/-! Rows of places, and all of memory but what is being written. -/
namespace Go.Proofs.Ytgmbicjcfhmcdaa
open Go.RowKit
theorem WdF.cle {m : Nat} {F F' : Fz} {v : Value} {p : Nat → Bool} (h : WdF m F v p) (hle : CLe F F') : WdF m F' v p :=
  let ⟨A, n, c, fs, e, hr, hl, hp⟩ := h
  ⟨A, n, c, fs, e, hr.cle hle, hl, hp⟩
theorem WdF.nil (m : Nat) (F : Fz) : WdF m F (.slice none 0 0) fun _ => false := ⟨none, 0, 0, [], rfl, Rd.nil, by simp, fun x _ => bit_nil x⟩
/-- All of memory but the blocks Gs. -/
def hx (w : World) (Gs : List Nat) : Fz := fun b => if b ∈ Gs then none else w.heap[b]?
theorem sat_hx (w : World) (Gs : List Nat) : Sat (hx w Gs) w := fun b o h => by
  unfold hx at h
  split at h
  · cases h
  · exact h
theorem hx_in {w : World} {Gs : List Nat} {g : Nat} (h : g ∈ Gs) : hx w Gs g = none := if_pos h
theorem hx_out {w : World} {Gs : List Nat} {g : Nat} (h : g ∉ Gs) : hx w Gs g = w.heap[g]? := if_neg h
/-- Of what stood there only the blocks Gs have been written. -/
structure Wr (Gs : List Nat) (w w' : World) : Prop where
  os : w'.os = w.os
  tape : w'.tape = w.tape
  output : w'.output = w.output
  size : w.heap.size ≤ w'.heap.size
  block : ∀ b, b < w.heap.size → b ∉ Gs → w'.heap[b]? = w.heap[b]?
namespace Wr
variable {Gs : List Nat} {w w' w'' : World}
theorem refl (Gs : List Nat) (w : World) : Wr Gs w w := ⟨rfl, rfl, rfl, Nat.le_refl _, fun _ _ _ => rfl⟩
theorem trans (h : Wr Gs w w') (k : Wr Gs w' w'') : Wr Gs w w'' :=
  ⟨k.os.trans h.os, k.tape.trans h.tape, k.output.trans h.output, Nat.le_trans h.size k.size, fun b hb hg => (k.block b (Nat.lt_of_lt_of_le hb h.size) hg).trans (h.block b hb hg)⟩
theorem of_below (hb : Below w.heap.size w w') : Wr Gs w w' := ⟨hb.os, hb.tape, hb.output, hb.size, fun b h _ => hb.block b h⟩
theorem call (h : Wr Gs w w') (hb : Below w'.heap.size w' w'') : Wr Gs w w'' := h.trans (of_below hb)
theorem alloc (h : Wr Gs w w') (o : Obj) : Wr Gs w (w'.alloc o) := h.call (balloc _ _)
theorem drew (h : Wr Gs w w') : Wr Gs w w'.drew := ⟨h.os, h.tape, h.output, h.size, h.block⟩
theorem set (h : Wr Gs w w') {g : Nat} (hg : g ∈ Gs) (i : Nat) (u : Value) : Wr Gs w (w'.setCell ⟨g, i, none⟩ u) := by
  have hb : ∀ b, b ≠ g → (w'.setCell ⟨g, i, none⟩ u).heap[b]? = w'.heap[b]? := fun b hb => Below.heap_setCell w' ⟨g, i, none⟩ u b hb
  refine ⟨h.os, h.tape, h.output, by simpa using h.size, fun b h1 h2 => ?_⟩
  rw [hb b (fun e => h2 (e ▸ hg)), h.block b h1 h2]
theorem more {Hs : List Nat} (h : Wr Gs w w') (hs : ∀ g, g ∈ Gs → g ∈ Hs) : Wr Hs w w' := ⟨h.os, h.tape, h.output, h.size, fun b hb hg => h.block b hb fun e => hg (hs b e)⟩
/-- What is written has been made since. -/
theorem below {B : Nat} (h : Wr Gs w w') (hg : ∀ g, g ∈ Gs → B ≤ g) (hB : B ≤ w.heap.size) : Below B w w' :=
  ⟨h.os, h.tape, h.output, h.size, fun b hb => h.block b (by omega) fun e => by have := hg b e; omega⟩
theorem blk (h : Wr Gs w w') {g : Nat} {t : TypeId} {cs : Array Value} (hk : Blk w g t cs) (hg : g ∉ Gs) : Blk w' g t cs := (h.block g hk.lt hg).trans hk
theorem sat {F : Fz} (h : Wr Gs w w') (hF : Sat F w) (hg : ∀ g, g ∈ Gs → F g = none) : Sat F w' := fun b o hb =>
  (h.block b (hF.lt hb) fun e => by rw [hg b e] at hb; cases hb).trans (hF b o hb)
theorem cle (h : Wr Gs w w') : CLe (hx w Gs) (hx w' Gs) := fun a v hc => by
  unfold Fz.cell at hc ⊢
  by_cases hg : a.block ∈ Gs
  · rw [hx_in hg] at hc; cases hc
  · rw [hx_out hg] at hc ⊢
    have hb : a.block < w.heap.size := by
      cases e : w.heap[a.block]? with
      | none => rw [e] at hc; cases hc
      | some o => exact (Array.getElem?_eq_some_iff.1 e).1
    rw [h.block _ hb hg]
    exact hc
end Wr
theorem cle_hx {F : Fz} {w : World} {Gs : List Nat} (hF : Sat F w) (hg : ∀ g, g ∈ Gs → F g = none) : CLe F (hx w Gs) := fun a v hc => by
  unfold Fz.cell at hc ⊢
  cases hf : F a.block with
  | none => rw [hf] at hc; cases hc
  | some o =>
    rw [hf] at hc
    have hn : a.block ∉ Gs := fun e => by rw [hg _ e] at hf; cases hf
    rw [hx_out hn, hF _ _ hf]
    exact hc
/-- What a call gives lies in a block of its own. -/
theorem RetQ.hx {m : Nat} {w w' : World} {p : Nat → Bool} {e : Ending} (h : RetQ m w p e w') {Gs : List Nat} (hG : ∀ g, g ∈ Gs → g < w.heap.size) : ∃ v, e = .returned v ∧ Below w.heap.size w w' ∧ WdF m (hx w' Gs) v p := by
  obtain ⟨A, n, c, g, o, rfl, hb, hg, ho, hF⟩ := h
  refine ⟨_, rfl, hb, ?_⟩
  have hn : g ∉ Gs := fun e => by have := hG g e; omega
  have e : (Go.Proofs.Ytgmbicjcfhmcdaa.hx w' Gs).put g o = Go.Proofs.Ytgmbicjcfhmcdaa.hx w' Gs := by
    funext b
    unfold Fz.put
    split
    · rename_i e
      rw [e, hx_out hn, ho]
    · rfl
  have := hF (Go.Proofs.Ytgmbicjcfhmcdaa.hx w' Gs)
  rw [e] at this
  exact this
/-- The value is the words that tell p, of m atoms, just as functions are told. -/
def WdG (m : Nat) (F : Fz) (v : Value) (p : Nat → Bool) : Prop := m ≤ 10 ∧ ∃ A c, v = .slice A (wordsN m) c ∧ Rd F 1 A (wordsN m) ((tab m p).map u)
namespace WdG
variable {m : Nat} {F F' : Fz} {v : Value} {p q : Nat → Bool}
theorem cle (h : WdG m F v p) (hle : CLe F F') : WdG m F' v p := let ⟨hm, A, c, e, hr⟩ := h; ⟨hm, A, c, e, hr.cle hle⟩
theorem same (h : WdG m F v p) (e : ∀ x, x < 2 ^ m → p x = q x) : WdG m F v q := by
  obtain ⟨hm, A, c, e', hr⟩ := h
  refine ⟨hm, A, c, e', ?_⟩
  rw [← tab_congr e]
  exact hr
end WdG
/-- What a call of a function on tables gives: words of their own, as functions are told. -/
def RetQL (m : Nat) (w : World) (p : Nat → Bool) (e : Ending) (w' : World) : Prop := m ≤ 10 ∧ RetO w (tab m p) e w'
theorem RetQL.hx {m : Nat} {w w' : World} {p : Nat → Bool} {e : Ending} (h : RetQL m w p e w') {Gs : List Nat} (hG : ∀ g, g ∈ Gs → g < w.heap.size) : ∃ v, e = .returned v ∧ Below w.heap.size w w' ∧ WdG m (hx w' Gs) v p := by
  obtain ⟨hm, g, c, rfl, hb, hg, ho⟩ := h
  refine ⟨_, rfl, hb, hm, some ⟨g, 0, none⟩, c, by rw [length_tab], ⟨by simp [length_tab], fun _ => ⟨_, rfl, fun j x hx' => ?_⟩⟩⟩
  rw [add_lit0]
  unfold Fz.cell
  rw [hx_out (fun hg' => by have := hG g hg'; omega), ho]
  simpa using hx'
/-! ### Places -/
def plC (ps : List (Nat × Value)) : List Value := ps.flatMap fun p => [.int .i64 (p.1 : Nat), p.2]
theorem get_plC : ∀ (ps : List (Nat × Value)) (j : Nat) (p : Nat × Value), ps[j]? = some p → (plC ps)[j * 2]? = some (.int .i64 (p.1 : Nat)) ∧ (plC ps)[j * 2 + 1]? = some p.2
  | [], j, p, h => by simp at h
  | q :: ps, 0, p, h => by
    simp at h
    subst h
    simp [plC]
  | q :: ps, j + 1, p, h => by
    have := get_plC ps j p (by simpa using h)
    rw [show plC (q :: ps) = .int .i64 (q.1 : Nat) :: q.2 :: plC ps from rfl, show (j + 1) * 2 = j * 2 + 1 + 1 by omega]
    exact this
def PlV (m : Nat) (F : Fz) (L : Fst) (ps : List (Nat × Value)) : Prop := ps.length = L.length ∧ ∀ (j : Nat) (p : Nat × (Nat → Bool)), L[j]? = some p → ∃ v, ps[j]? = some (p.1, v) ∧ WdF m F v p.2
/-- The slice at A of n places reads as L. -/
def PlF (m : Nat) (F : Fz) (A : Option Addr) (n : Nat) (L : Fst) : Prop := L.length = n ∧ ∃ ps, Rd F 2 A n (plC ps) ∧ PlV m F L ps
theorem PlV.cle {m : Nat} {F F' : Fz} {L : Fst} {ps : List (Nat × Value)} (h : PlV m F L ps) (hle : CLe F F') : PlV m F' L ps :=
  ⟨h.1, fun j p hj => let ⟨v, h1, h2⟩ := h.2 j p hj; ⟨v, h1, h2.cle hle⟩⟩
theorem PlV.nil (m : Nat) (F : Fz) : PlV m F [] [] := ⟨rfl, fun j p h => by simp at h⟩
theorem PlV.append {m : Nat} {F : Fz} {L L' : Fst} {ps ps' : List (Nat × Value)} (h : PlV m F L ps) (h' : PlV m F L' ps') : PlV m F (L ++ L') (ps ++ ps') := by
  refine ⟨by simp [h.1, h'.1], fun j p hj => ?_⟩
  by_cases hl : j < L.length
  · rw [List.getElem?_append_left hl] at hj
    rw [List.getElem?_append_left (by rw [h.1]; exact hl)]
    exact h.2 j p hj
  · rw [List.getElem?_append_right (by omega)] at hj
    rw [List.getElem?_append_right (by rw [h.1]; omega), h.1]
    exact h'.2 _ p hj
theorem PlV.one {m : Nat} {F : Fz} (q : Nat) {v : Value} {f : Nat → Bool} (h : WdF m F v f) : PlV m F [(q, f)] [(q, v)] := by
  refine ⟨rfl, fun j p hj => ?_⟩
  cases j with
  | zero => simp at hj; subst hj; exact ⟨v, rfl, h⟩
  | succ j => simp at hj
theorem PlF.cle {m : Nat} {F F' : Fz} {A : Option Addr} {n : Nat} {L : Fst} (h : PlF m F A n L) (hle : CLe F F') : PlF m F' A n L :=
  let ⟨h1, ps, h2, h3⟩ := h
  ⟨h1, ps, h2.cle hle, h3.cle hle⟩
theorem PlF.nil (m : Nat) (F : Fz) (A : Option Addr) : PlF m F A 0 [] := ⟨rfl, [], Rd.nil, .nil _ _⟩
theorem PlF.at_ {m : Nat} {F : Fz} {A : Option Addr} {n : Nat} {L : Fst} (h : PlF m F A n L) {j : Nat} {p : Nat × (Nat → Bool)} (hj : L[j]? = some p) : ∃ ad v, A = some ad ∧ F.cell (ad.add (j * 2)) = some (.int .i64 (p.1 : Nat)) ∧ F.cell ((ad.add (j * 2)).add 1) = some v ∧ WdF m F v p.2 := by
  obtain ⟨h1, ps, h2, h3, h4⟩ := h
  obtain ⟨v, hv, hw⟩ := h4 j p hj
  have hl : j < L.length := (List.getElem?_eq_some_iff.1 hj).1
  obtain ⟨ad, e, hc⟩ := h2.2 (by omega)
  obtain ⟨g1, g2⟩ := get_plC ps j _ hv
  exact ⟨ad, v, e, hc _ _ g1, by rw [add_of_add]; exact hc _ _ g2, hw⟩
namespace OwnL
variable {m : Nat} {F F' : Fz} {w w' : World} {B : Nat} {v : Value} {L : Fst}
end OwnL
end Go.Proofs.Ytgmbicjcfhmcdaa
/-! The walk of within: steps as far as a function holds. -/
namespace Go.Proofs.Ytgmbicjcfhmcdaa
open Go.RowKit
attribute [local go_sem ↓] Go.wp_at_zero Go.wp_at_succ
end Go.Proofs.Ytgmbicjcfhmcdaa
