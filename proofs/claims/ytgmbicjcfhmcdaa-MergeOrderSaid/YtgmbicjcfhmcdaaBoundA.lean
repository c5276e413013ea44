/- What is kept at most: plain definitions and lemmas, no program in sight. -/
import Derived.Test.YtgmbicjcfhmcdaaPathsP
import Derived.Test.YtgmbicjcfhmcdaaOwnP
import Derived.Test.YtgmbicjcfhmcdaaOwn
import Derived.Test.YtgmbicjcfhmcdaaJoin
import Derived.Test.YtgmbicjcfhmcdaaPileM
import Derived.Deep.RegionLaw
import Derived.Deep.RegionHeld3
set_option linter.unusedVariables false
set_option linter.unusedSimpArgs false
/-! What is kept at most: plain definitions and lemmas, no program in sight. -/
namespace Go.Proofs.Ytgmbicjcfhmcdaa
end Go.Proofs.Ytgmbicjcfhmcdaa
/-! The walks of ival.Wide and of the bound's small functions. -/
namespace Go.Proofs.Ytgmbicjcfhmcdaa
open Go.RowKit
theorem blkA {w : World} {g : Nat} {t : TypeId} {a b : Value} (h : Blk w g t #[a, b]) : w.cell? ⟨g, 0, none⟩ = some a ∧ w.cell? ⟨g, 1, none⟩ = some b ∧ w.frozen? ⟨g, 0, none⟩ = false ∧ w.frozen? ⟨g, 1, none⟩ = false := by
  refine ⟨?_, ?_, h.frozen 0, h.frozen 1⟩ <;> rw [h.cell] <;> rfl
/-! ### The sums -/
end Go.Proofs.Ytgmbicjcfhmcdaa
/-! The walks of bound.of and bound.over. -/
/-! bound.of. -/
namespace Go.Proofs.Ytgmbicjcfhmcdaa
open Go.RowKit
theorem step_pushI {w : World} {ops : Array Oper} {o : Oper} {a : Act} {K : Act → World → Prop} {Q : Exit → Act → World → Prop} {E : Prop} (hgd : o.guard = none) (s x : Operand)
    (ho : o.op = .call { callee := .builtin .append, args := #[s, x], argTypes := #[29, 29] })
    {F : Fz} {B n : Nat} {v : Value} {xs : List Int} (hown : Own F w B 3 1 v n (xs.map encI)) (hF : Sat F w) (hs : a.eval s = v)
    (g c : Nat) (y : Int) (hx : a.eval x = .slice (some ⟨g, 0, none⟩) 1 c) (hg : Blk w g 3 #[.int .i64 y]) (hn : n + 1 ≤ 1000000) (hB : B ≤ w.heap.size)
    (h : ∀ v' w', Own F w' B 3 1 v' (n + 1) ((xs ++ [y]).map encI) → Sat F w' → Below B w w' → w.grownBy w' v.ownBlock → (v'.ownBlock = v.ownBlock ∨ v'.ownBlock = some w.heap.size) → K (a.put o.dst v') w') :
    if Region.wanted o (yielded ops a.tmps) = true then Oper.wp Try.prog o a w K Q else E := by
  have hr : Rd (heapF w) 1 (some ⟨g, 0, none⟩) 1 [encI y] := by
    refine ⟨rfl, fun _ => ⟨_, rfl, fun j u hu => ?_⟩⟩
    rw [add_lit0]
    unfold Fz.cell heapF
    rw [hg]
    simpa using hu
  refine step_pushAll hgd s x _ ho 3 (.int .i64 0) 1 8 Try.underlying29 (by kernel_rfl) rfl (by omega) hown hF hs (some ⟨g, 0, none⟩) 1 c [encI y] hx (sat_heapF w) hr (by intro u hu; simp at hu; subst hu; rfl) (by simp [maxLen]; omega) (by omega) hB ?_
  intro v' w' h1 h2 h3 h4 h5
  exact h v' w' (by rw [List.map_append]; exact h1) h2 h3 h4 h5
end Go.Proofs.Ytgmbicjcfhmcdaa
/-! The walk of bound.over, whatever it is handed. -/
namespace Go.Proofs.Ytgmbicjcfhmcdaa
open Go.RowKit
/-- What stands below a node: its kids, or a match's parts. -/
def belM (x : Tr) (i : Nat) : List Nat :=
  match x with
  | .leaf _ => []
  | .un h a => if h.kind = 16 ∨ h.kind = 17 then (testsL a (i - a.size)).map (· - 1) else [i - 1]
  | .bin _ _ b => [i - 1 - b.size, i - 1]
end Go.Proofs.Ytgmbicjcfhmcdaa
/-! What stands below a node, summed up: plain lemmas. -/
/-! What stands below a node, summed up: plain lemmas. -/
namespace Go.Proofs.Ytgmbicjcfhmcdaa
end Go.Proofs.Ytgmbicjcfhmcdaa
/-! The walks of bound.Atoms and bound.Once. -/
namespace Go.Proofs.Ytgmbicjcfhmcdaa
open Go.RowKit
end Go.Proofs.Ytgmbicjcfhmcdaa
/-! The walk of Once's closure. -/
namespace Go.Proofs.Ytgmbicjcfhmcdaa
open Go.RowKit
end Go.Proofs.Ytgmbicjcfhmcdaa
/-! The walks of the closures that fill in what each node needs. -/
namespace Go.Proofs.Ytgmbicjcfhmcdaa
open Go.RowKit
end Go.Proofs.Ytgmbicjcfhmcdaa
/-! The walk of Extra's closure. -/
namespace Go.Proofs.Ytgmbicjcfhmcdaa
open Go.RowKit
end Go.Proofs.Ytgmbicjcfhmcdaa
/-! The walks of the bound's functions. -/
/-! The walks of the bound's functions. -/
namespace Go.Proofs.Ytgmbicjcfhmcdaa
open Go.RowKit
end Go.Proofs.Ytgmbicjcfhmcdaa
/-! The walk of bound.Once. -/
namespace Go.Proofs.Ytgmbicjcfhmcdaa
open Go.RowKit
end Go.Proofs.Ytgmbicjcfhmcdaa
