/- Lists of lists of nodes: rows of the call's own; append at a step of a region that draws its order. -/
import Derived.Test.YtdbbooibkiicnaaGreatRPart
import Derived.Test.YtdbbooibkiicnaaGreatJoin
import Derived.Deep.RegionHeld3
import Derived.Deep.RegionLaw
import Derived.Deep.DrawnRows
set_option linter.unusedVariables false
set_option linter.unusedSimpArgs false
namespace Go.Proofs.YtdbbooibkiicnaaGreat
open Go.RowKit
section
variable {P : Program}
end
/-- The headers of a list of lists of nodes; the nodes are frozen in F. -/
inductive RowsV (F : Fz) : List (List Nd) → List Value → Prop
  | nil : RowsV F [] []
  | cons (l : List Nd) (ls : List (List Nd)) (A : Option Addr) (c : Nat) (xs : List Value) (hc : l.length ≤ c) (hl : NodesF F A l.length l) (h : RowsV F ls xs) : RowsV F (l :: ls) (.slice A l.length c :: xs)
namespace RowsV
variable {F F' : Fz}
theorem len {ls : List (List Nd)} {xs : List Value} (h : RowsV F ls xs) : xs.length = ls.length := by
  induction h with
  | nil => rfl
  | cons l ls A c xs _ _ _ ih => simp [ih]
theorem cle {ls : List (List Nd)} {xs : List Value} (h : RowsV F ls xs) (hle : CLe F F') : RowsV F' ls xs := by
  induction h with
  | nil => exact .nil
  | cons l ls A c xs hc hl _ ih => exact .cons l ls A c xs hc (hl.cle hle) ih
theorem append {ls ls' : List (List Nd)} {xs xs' : List Value} (h : RowsV F ls xs) (h' : RowsV F ls' xs') : RowsV F (ls ++ ls') (xs ++ xs') := by
  induction h with
  | nil => exact h'
  | cons l ls A c xs hc hl _ ih => exact .cons l _ A c _ hc hl ih
theorem one {l : List Nd} {A : Option Addr} {c : Nat} (hc : l.length ≤ c) (hl : NodesF F A l.length l) : RowsV F [l] [.slice A l.length c] := .cons l [] A c [] hc hl .nil
theorem ones {ls : List (List Nd)} {xs : List Value} (h : RowsV F ls xs) : ∀ u ∈ xs, u.oneCell' = true := by
  induction h with
  | nil => intro u hu; cases hu
  | cons l ls A c xs _ _ _ ih =>
    intro u hu
    rcases List.mem_cons.1 hu with rfl | h
    · rfl
    · exact ih u h
theorem take {ls : List (List Nd)} {xs : List Value} (h : RowsV F ls xs) : ∀ k, RowsV F (ls.take k) (xs.take k) := by
  induction h with
  | nil => intro k; simp; exact .nil
  | cons l ls A c xs hc hl _ ih =>
    intro k
    cases k with
    | zero => simp; exact .nil
    | succ k => exact .cons l _ A c _ hc hl (ih k)
theorem at_ {ls : List (List Nd)} {xs : List Value} (h : RowsV F ls xs) : ∀ (i : Nat) (hi : i < ls.length), ∃ A c, ls[i].length ≤ c ∧ NodesF F A ls[i].length ls[i] ∧ xs[i]? = some (.slice A ls[i].length c) := by
  induction h with
  | nil => intro i hi; simp at hi
  | cons l ls A c xs hc hl _ ih =>
    intro i hi
    cases i with
    | zero => exact ⟨A, c, hc, hl, rfl⟩
    | succ i => exact ih i (by simpa using hi)
end RowsV
/-- A row of lists of nodes of the call's own. -/
def OwnR (F : Fz) (w : World) (B : Nat) (v : Value) (ls : List (List Nd)) : Prop := ∃ xs, Own F w B 22 1 v ls.length xs ∧ RowsV F ls xs
namespace OwnR
variable {F F' : Fz} {w w' : World} {B : Nat} {v : Value} {ls : List (List Nd)}
theorem nil (F : Fz) (w : World) (B : Nat) : OwnR F w B (.slice none 0 0) [] := ⟨[], Own.nil _ _ _ _ _, .nil⟩
theorem call (h : OwnR F w B v ls) (hb : Below w.heap.size w w') : OwnR F w' B v ls := let ⟨xs, h1, h2⟩ := h; ⟨xs, h1.call hb, h2⟩
theorem alloc (h : OwnR F w B v ls) (o : Obj) : OwnR F (w.alloc o) B v ls := let ⟨xs, h1, h2⟩ := h; ⟨xs, h1.alloc o, h2⟩
theorem drewN (h : OwnR F w B v ls) (n : Nat) : OwnR F (w.drewN n) B v ls := h
theorem drew (h : OwnR F w B v ls) : OwnR F w.drew B v ls := h
theorem le (h : OwnR F w B v ls) (hle : Fle w F F') : OwnR F' w B v ls := let ⟨xs, h1, h2⟩ := h; ⟨xs, h1.le hle, h2.cle hle.cle⟩
theorem le2 (h : OwnR F w B v ls) (hle : CLe F F') (hv : ∀ g, v.ownBlock = some g → F' g = F g) : OwnR F' w B v ls := let ⟨xs, h1, h2⟩ := h; ⟨xs, h1.le2 hv, h2.cle hle⟩
theorem setFar (h : OwnR F w B v ls) {a : Addr} (ha : v.ownBlock ≠ some a.block) (u : Value) : OwnR F (w.setCell a u) B v ls := let ⟨xs, h1, h2⟩ := h; ⟨xs, h1.setFar ha u, h2⟩
theorem kept {row : Option Nat} (h : OwnR F w B v ls) (hg : w.grownBy w' row) (hne : v.ownBlock = none ∨ v.ownBlock ≠ row) : OwnR F w' B v ls := let ⟨xs, h1, h2⟩ := h; ⟨xs, h1.kept hg hne, h2⟩
theorem below2 {B2 : Nat} (h : OwnR F w B v ls) (hb : Below B2 w w') (hlt : ∀ g, v.ownBlock = some g → g < B2) : OwnR F w' B v ls := let ⟨xs, h1, h2⟩ := h; ⟨xs, h1.below2 hb hlt, h2⟩
theorem lt (h : OwnR F w B v ls) : ∀ g, v.ownBlock = some g → B ≤ g ∧ g < w.heap.size := let ⟨_, h1, _⟩ := h; h1.1.lt
theorem shape (h : OwnR F w B v ls) : ∃ A c, v = .slice A ls.length c ∧ ls.length ≤ c := let ⟨_, h1, _⟩ := h; h1.shape
theorem base {B' : Nat} (h : OwnR F w B v ls) (hB : B' ≤ B) : OwnR F w B' v ls := by
  obtain ⟨xs, ⟨⟨hl, h1⟩, h2⟩, h3⟩ := h
  refine ⟨xs, ⟨⟨hl, ?_⟩, h2⟩, h3⟩
  rcases h1 with h1 | ⟨g, cap, cur, e, hg, hr⟩
  · exact .inl h1
  · exact .inr ⟨g, cap, cur, e, by omega, hr⟩
/-- Cut off behind the first k. -/
theorem cut {A : Option Addr} {n c : Nat} (h : OwnR F w B (.slice A n c) ls) {k : Nat} (hk : k ≤ n) : OwnR F w B (.slice A k c) (ls.take k) := by
  obtain ⟨xs, ⟨⟨hl, h1⟩, h2⟩, h3⟩ := h
  have hlen := h3.len
  have hle : (ls.take k).length = k := by
    rcases h1 with ⟨e, h0⟩ | ⟨g, cap, cur, e, _⟩
    · injection e with _ e1 _; simp; omega
    · injection e with _ e1 _; simp; omega
  refine ⟨xs.take k, ⟨⟨by rw [hle]; simp; simp at hle; omega, ?_⟩, fun g hg => h2 g (by cases A with | none => simp [Value.ownBlock] at hg | some a => simpa [Value.ownBlock] using hg)⟩, h3.take k⟩
  rw [hle]
  rcases h1 with ⟨e, h0⟩ | ⟨g, cap, cur, e, hg, hh, hc1, hc2, hc3, hc4⟩
  · injection e with e1 e2 e3
    subst e1 e3
    have : k = 0 := by omega
    subst this
    exact .inl ⟨rfl, rfl⟩
  · injection e with e1 e2 e3
    subst e1 e3
    refine .inr ⟨g, c, cur, rfl, hg, hh, by omega, hc2, hc3, ?_⟩
    rw [← hc4, List.take_take]
    congr 1
    simp at hle ⊢
    omega
end OwnR
theorem below_drew1 {B : Nat} {a w : World} (h : Below B a w) : Below B a w.drew := ⟨h.os, h.tape, h.output, h.size, h.block⟩
theorem bel_eqv {B : Nat} {a w w' : World} (h : Below B a w) (h1 : w'.heap = w.heap) (h2 : w'.os = w.os) (h3 : w'.tape = w.tape) (h4 : w'.output = w.output) : Below B a w' :=
  ⟨h2.trans h.os, h3.trans h.tape, h4.trans h.output, by rw [h1]; exact h.size, fun b hb => by rw [h1]; exact h.block b hb⟩
theorem Blk.new2 (w : World) (o : Obj) (t : TypeId) (cs : Array Value) : Blk ((w.alloc o).alloc (.cells cs t)) (w.heap.size + 1) t cs := by
  have := Blk.new (w.alloc o) t cs
  simpa using this
theorem bel_trans {N W w2 : World} (h : Below N.heap.size N W) (k : Below W.heap.size W w2) : Below N.heap.size N w2 := h.trans (k.mono h.size)
theorem OwnR.empty {F : Fz} {w : World} (B : Nat) (hF : Sat F w) (hB : B ≤ w.heap.size) : OwnR F (w.alloc (.cells #[] 22)) B (.slice (some ⟨w.heap.size, 0, none⟩) 0 0) [] := ⟨[], Own.empty F w B _ 1 hF rfl hB, .nil⟩
end Go.Proofs.YtdbbooibkiicnaaGreat
