/- append onto rows of ints. -/
import Derived.Test.YtkffofolhckjeaaApp
namespace Go.Proofs.Ytkffofolhckjeaa
open Go.RowKit
abbrev encI (z : Int) : Value := .int .i64 z
theorem ones_i (xs : List Int) : ∀ v ∈ xs.map encI, v.oneCell' = true := by
  intro v hv
  obtain ⟨x, _, rfl⟩ := List.mem_map.1 hv
  rfl
theorem wpList_allI {w : World} {ops : Array Oper} {rest : List Oper} {o : Oper} {a : Act} {Q : Exit → Act → World → Prop} (hgd : o.guard = none) (s x : Operand)
    (ho : o.op = .call { callee := .builtin .append, args := #[s, x], argTypes := #[55, 55] })
    {F F' : Fz} {B n : Nat} {v : Value} {xs : List Int} (hown : Own F w B 3 1 v n (xs.map encI)) (hF : Sat F w) (hs : a.eval s = v)
    (A : Option Addr) (m c : Nat) (ys : List Int) (hx : a.eval x = .slice A m c) (hF' : Sat F' w) (hr : Rd F' 1 A m (ys.map encI)) (hn : n + m ≤ 1000000) (hB : B ≤ w.heap.size)
    (h : ∀ v' w', Own F w' B 3 1 v' (n + m) ((xs ++ ys).map encI) → Sat F w' → Below B w w' → w.grownBy w' v.ownBlock → (v'.ownBlock = v.ownBlock ∨ v'.ownBlock = some w.heap.size) → wpList Try.prog ops Q rest (a.put o.dst v') w') :
    wpList Try.prog ops Q (o :: rest) a w := by
  refine wpList_pushAll hgd s x _ ho 3 (.int .i64 0) 1 8 Try.underlying55 (by kernel_rfl) rfl (by omega) hown hF hs A m c _ hx hF' hr (ones_i ys) (by simp [maxLen]; omega) (by omega) hB ?_
  intro v' w' h1 h2 h3 h4 h5
  exact h v' w' (by rw [List.map_append]; exact h1) h2 h3 h4 h5
theorem wpList_pushI {w : World} {ops : Array Oper} {rest : List Oper} {o : Oper} {a : Act} {Q : Exit → Act → World → Prop} (hgd : o.guard = none) (s x : Operand)
    (ho : o.op = .call { callee := .builtin .append, args := #[s, x], argTypes := #[55, 55] })
    {F : Fz} {B n : Nat} {v : Value} {xs : List Int} (hown : Own F w B 3 1 v n (xs.map encI)) (hF : Sat F w) (hs : a.eval s = v)
    (g c : Nat) (y : Int) (hx : a.eval x = .slice (some ⟨g, 0, none⟩) 1 c) (hg : Blk w g 3 #[.int .i64 y]) (hn : n + 1 ≤ 1000000) (hB : B ≤ w.heap.size)
    (h : ∀ v' w', Own F w' B 3 1 v' (n + 1) ((xs ++ [y]).map encI) → Sat F w' → Below B w w' → w.grownBy w' v.ownBlock → (v'.ownBlock = v.ownBlock ∨ v'.ownBlock = some w.heap.size) → wpList Try.prog ops Q rest (a.put o.dst v') w') :
    wpList Try.prog ops Q (o :: rest) a w := by
  refine wpList_push hgd s x _ ho 3 (.int .i64 0) 1 8 Try.underlying55 (by kernel_rfl) rfl (by omega) hown hF hs g c #[.int .i64 y] hx hg rfl (by intro u hu; simp at hu; subst hu; rfl) (by simp [maxLen]; omega) (by omega) hB ?_
  intro v' w' h1 h2 h3 h4 h5
  exact h v' w' (by rw [List.map_append]; exact h1) h2 h3 h4 h5
end Go.Proofs.Ytkffofolhckjeaa
