/- Lists of lists of nodes: rows of the call's own; append at a step of a region that draws its order. -/
import Derived.Test.YtgmbicjcfhmcdaaJoin
import Derived.Deep.RegionHeld3
import Derived.Deep.RegionLaw
import Derived.Deep.DrawnRows
set_option linter.unusedVariables false
set_option linter.unusedSimpArgs false
namespace Go.Proofs.Ytgmbicjcfhmcdaa
open Go.RowKit
section
variable {P : Program}
theorem run_pushAll {w : World} (t ty e : TypeId) (z : Value) (size bytes : Nat) (ht : P.underlying t = some (.slice e)) (hi : (P.info? e).map (fun i => (i.zero, i.size, i.bytes)) = some (some z, size, bytes)) (hzs : z.cells.size = size) (hsz : 0 < size)
    {F F' : Fz} {B n : Nat} {v : Value} {xs : List Value} (hown : Own F w B e size v n xs) (hF : Sat F w)
    (A : Option Addr) (m c : Nat) (news : List Value) (hF' : Sat F' w) (hr : Rd F' size A m news) (h1 : ∀ u ∈ news, u.oneCell' = true)
    (h63 : n + m ≤ maxLen) (hbytes : (n + m) * bytes ≤ 140737488355328) (hB : B ≤ w.heap.size) :
    ∃ v' w', (Builtin.append_ #[t, t] ty #[v, .slice A m c]).run P w = .ok v' w' ∧ Own F w' B e size v' (n + m) (xs ++ news) ∧ Sat F w' ∧ Below B w w' ∧ w.grownBy w' v.ownBlock ∧ (v'.ownBlock = v.ownBlock ∨ v'.ownBlock = some w.heap.size) := by
  obtain ⟨i, hi, hz0, hz1, hz2⟩ := info_parts hi
  have fin : ∀ v' w', w'.ownsRow B e size v' (n + m) (xs ++ news) → w.grownBy w' v.ownBlock → (v'.ownBlock = v.ownBlock ∨ v'.ownBlock = some w.heap.size) → Own F w' B e size v' (n + m) (xs ++ news) ∧ Sat F w' ∧ Below B w w' ∧ w.grownBy w' v.ownBlock ∧ (v'.ownBlock = v.ownBlock ∨ v'.ownBlock = some w.heap.size) := by
    intro v' w' h2 h3 h5
    refine ⟨⟨h2, fun g' hg' => ?_⟩, hF.grown h3 hown.2, (Below.refl B w).grown h3 hB fun k hk => (hown.1.lt k hk).1, h3, h5⟩
    rcases h5 with h5 | h5
    · exact hown.2 g' (by rw [← h5]; exact hg')
    · rw [hg'] at h5
      injection h5 with h5
      subst h5
      exact hF.none_ (Nat.le_refl _)
  rcases A with _ | ad
  · have hm : m = 0 := by
      rcases Nat.eq_zero_or_pos m with h0 | h0
      · exact h0
      · obtain ⟨ad, h, _⟩ := hr.2 h0
        cases h
    subst hm
    have hn : news = [] := List.eq_nil_of_length_eq_zero (by simpa using hr.1)
    subst hn
    exact ⟨v, w, run_append_of_nil (P := P) w B t ty e i size ht hi v n xs hown.1 c, fin v w (by simpa using hown.1) (World.grownBy.refl w _) (.inl rfl)⟩
  · obtain ⟨v', w', hrun, h2, h3, _, h5⟩ := run_append_own_at (P := P) w B t ty e i z size bytes ht hi hz0 hz1 hz2 hzs hsz v n xs hown.1 ad m c news hr.1 (fun j u hu => by
      rcases Nat.eq_zero_or_pos m with h0 | h0
      · subst h0
        have hn : news = [] := List.eq_nil_of_length_eq_zero (by simpa using hr.1)
        subst hn
        simp at hu
      · obtain ⟨ad', h', hc⟩ := hr.2 h0
        injection h' with h'
        subst h'
        exact hF'.cell (hc j u hu)) h1 h63 hbytes hB
    exact ⟨v', w', hrun, fin v' w' h2 h3 h5⟩
/-- append of what a slice reads as, at a step of a region that draws its order. -/
theorem step_pushAll {w : World} {ops : Array Oper} {o : Oper} {a : Act} {K : Act → World → Prop} {Q : Exit → Act → World → Prop} {E : Prop} (hgd : o.guard = none) (s x : Operand) (t : TypeId)
    (ho : o.op = .call { callee := .builtin .append, args := #[s, x], argTypes := #[t, t] })
    (e : TypeId) (z : Value) (size bytes : Nat) (ht : P.underlying t = some (.slice e)) (hi : (P.info? e).map (fun i => (i.zero, i.size, i.bytes)) = some (some z, size, bytes)) (hzs : z.cells.size = size) (hsz : 0 < size)
    {F F' : Fz} {B n : Nat} {v : Value} {xs : List Value} (hown : Own F w B e size v n xs) (hF : Sat F w) (hs : a.eval s = v)
    (A : Option Addr) (m c : Nat) (news : List Value) (hx : a.eval x = .slice A m c) (hF' : Sat F' w) (hr : Rd F' size A m news) (h1 : ∀ u ∈ news, u.oneCell' = true)
    (h63 : n + m ≤ maxLen) (hbytes : (n + m) * bytes ≤ 140737488355328) (hB : B ≤ w.heap.size)
    (h : ∀ v' w', Own F w' B e size v' (n + m) (xs ++ news) → Sat F w' → Below B w w' → w.grownBy w' v.ownBlock → (v'.ownBlock = v.ownBlock ∨ v'.ownBlock = some w.heap.size) → K (a.put o.dst v') w') :
    if Region.wanted o (yielded ops a.tmps) = true then Oper.wp P o a w K Q else E := by
  have hw : Region.wanted o (yielded ops a.tmps) = true := by simp [Region.wanted, hgd]
  rw [if_pos hw]
  obtain ⟨v', w', hrun, h2, h3, h4, h5, h6⟩ := run_pushAll (P := P) t o.type e z size bytes ht hi hzs hsz hown hF A m c news hF' hr h1 h63 hbytes hB
  unfold Oper.wp execOp
  simp only [ho, resolve, invoke, builtin, Sem.run_bind, Sem.run_pure, Result.andThen_ok, List.map_toArray, List.map_cons, List.map_nil, hs, hx, hrun]
  exact h v' w' h2 h3 h4 h5 h6
end
/-- The headers of a list of lists of nodes; the nodes are frozen in F. -/
inductive RowsV (F : Fz) : List (List Nd) → List Value → Prop
  | nil : RowsV F [] []
  | cons (l : List Nd) (ls : List (List Nd)) (A : Option Addr) (c : Nat) (xs : List Value) (hc : l.length ≤ c) (hl : NodesF F A l.length l) (h : RowsV F ls xs) : RowsV F (l :: ls) (.slice A l.length c :: xs)
namespace RowsV
variable {F F' : Fz}
theorem len {ls : List (List Nd)} {xs : List Value} (h : RowsV F ls xs) : xs.length = ls.length := by
  induction h with
  | nil => rfl
  | cons l ls A c xs _ _ _ ih => simp [ih]
theorem cle {ls : List (List Nd)} {xs : List Value} (h : RowsV F ls xs) (hle : CLe F F') : RowsV F' ls xs := by
  induction h with
  | nil => exact .nil
  | cons l ls A c xs hc hl _ ih => exact .cons l ls A c xs hc (hl.cle hle) ih
theorem append {ls ls' : List (List Nd)} {xs xs' : List Value} (h : RowsV F ls xs) (h' : RowsV F ls' xs') : RowsV F (ls ++ ls') (xs ++ xs') := by
  induction h with
  | nil => exact h'
  | cons l ls A c xs hc hl _ ih => exact .cons l _ A c _ hc hl ih
theorem one {l : List Nd} {A : Option Addr} {c : Nat} (hc : l.length ≤ c) (hl : NodesF F A l.length l) : RowsV F [l] [.slice A l.length c] := .cons l [] A c [] hc hl .nil
theorem take {ls : List (List Nd)} {xs : List Value} (h : RowsV F ls xs) : ∀ k, RowsV F (ls.take k) (xs.take k) := by
  induction h with
  | nil => intro k; simp; exact .nil
  | cons l ls A c xs hc hl _ ih =>
    intro k
    cases k with
    | zero => simp; exact .nil
    | succ k => exact .cons l _ A c _ hc hl (ih k)
theorem at_ {ls : List (List Nd)} {xs : List Value} (h : RowsV F ls xs) : ∀ (i : Nat) (hi : i < ls.length), ∃ A c, ls[i].length ≤ c ∧ NodesF F A ls[i].length ls[i] ∧ xs[i]? = some (.slice A ls[i].length c) := by
  induction h with
  | nil => intro i hi; simp at hi
  | cons l ls A c xs hc hl _ ih =>
    intro i hi
    cases i with
    | zero => exact ⟨A, c, hc, hl, rfl⟩
    | succ i => exact ih i (by simpa using hi)
end RowsV
namespace OwnR
variable {F F' : Fz} {w w' : World} {B : Nat} {v : Value} {ls : List (List Nd)}
end OwnR
theorem bel_eqv {B : Nat} {a w w' : World} (h : Below B a w) (h1 : w'.heap = w.heap) (h2 : w'.os = w.os) (h3 : w'.tape = w.tape) (h4 : w'.output = w.output) : Below B a w' :=
  ⟨h2.trans h.os, h3.trans h.tape, h4.trans h.output, by rw [h1]; exact h.size, fun b hb => by rw [h1]; exact h.block b hb⟩
theorem Blk.new2 (w : World) (o : Obj) (t : TypeId) (cs : Array Value) : Blk ((w.alloc o).alloc (.cells cs t)) (w.heap.size + 1) t cs := by
  have := Blk.new (w.alloc o) t cs
  simpa using this
theorem gb_src {M W w2 : World} {row : Option Nat} (h : W.grownBy w2 row) (h1 : W.heap = M.heap) (h2 : W.os = M.os) (h3 : W.tape = M.tape) (h4 : W.output = M.output) : M.grownBy w2 row :=
  ⟨h.os.trans h2, h.tape.trans h3, h.output.trans h4, by rw [← h1]; exact h.size, fun k hk hne => by rw [← h1]; exact h.block k (by rw [h1]; exact hk) hne⟩
theorem bel_trans {N W w2 : World} (h : Below N.heap.size N W) (k : Below W.heap.size W w2) : Below N.heap.size N w2 := h.trans (k.mono h.size)
end Go.Proofs.Ytgmbicjcfhmcdaa
