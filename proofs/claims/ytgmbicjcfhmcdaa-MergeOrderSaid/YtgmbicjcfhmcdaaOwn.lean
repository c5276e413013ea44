/- The walk of paths.own. -/
import Derived.Test.YtgmbicjcfhmcdaaOwnP
import Derived.Test.YtgmbicjcfhmcdaaLayI
import Derived.Test.YtgmbicjcfhmcdaaJoin
import Derived.Test.YtgmbicjcfhmcdaaSizes
import Derived.Sort.OwnSortedInts
import Derived.Shelf.Slices.In.SortNone
set_option linter.unusedVariables false
set_option linter.unusedSimpArgs false
/-! The walk of paths.own. -/
namespace Go.Proofs.Ytgmbicjcfhmcdaa
open Go.RowKit Go.Sort
/-- A list of numbers of a call's own, in a block of its own. -/
def RetIF (w : World) (zs : List Int) (e : Ending) (w' : World) : Prop := ∃ A c, e = .returned (.slice A zs.length c) ∧ zs.length ≤ c ∧ Rd (heapF w') 1 A zs.length (zs.map encI) ∧ Below w.heap.size w w' ∧ ∀ a, A = some a → w.heap.size ≤ a.block
theorem Own.fresh {F : Fz} {w : World} {B : Nat} {e : TypeId} {size n : Nat} {A : Option Addr} {m c : Nat} {xs : List Value} (h : Own F w B e size (.slice A m c) n xs) : ∀ a, A = some a → B ≤ a.block := by
  rintro a rfl
  exact (h.1.lt a.block rfl).1
theorem sortI_w {F : Fz} {w : World} {B : Nat} {v : Value} {zs : List Int} (hO : Own F w B 3 1 v zs.length (zs.map encI)) (hF : Sat F w) (hB : B ≤ w.heap.size) (hl : zs.length ≤ 1000000) :
    Calls Try.prog 35 #[v] w fun e w' => e = .returned (.tuple #[]) ∧ Own F w' B 3 1 v zs.length ((zs.mergeSort fun x y => decide (x ≤ y)).map encI) ∧ Below B w w' ∧ Sat F w' := by
  rcases hO.1.2 with ⟨rfl, h0⟩ | ⟨g, cap, cur, rfl, hbase, hb, h1, h2, h3, h4⟩
  · have e : zs = [] := List.eq_nil_of_length_eq_zero h0
    subst e
    exact (Any.slices_Sort_int_none lays189 none 0 w).mono fun e w' ⟨h1, h2⟩ => ⟨h1, by rw [h2]; simpa using hO, by rw [h2]; exact Below.refl _ _, by rw [h2]; exact hF⟩
  · have hg : g < w.heap.size := (Array.getElem?_eq_some_iff.1 hb).1
    refine (Any.slices_Sort_int lays189 g 0 cap zs w (holds_of_blockI hb (by simpa using h4)) hg (by omega)).mono fun e w' ⟨he, n, os, hw⟩ => ?_
    have hgr : w.grownBy w' (some g) := by rw [hw]; exact grownBy_sortedI _
    refine ⟨he, ⟨?_, hO.2⟩, (Below.refl B w).grown hgr hB (fun k hk => by injection hk with hk; omega), hF.grown hgr (fun k hk => hO.2 k hk)⟩
    rw [hw]
    exact ownsRow_sortedI (by rw [List.length_mergeSort]) hbase hb h1 h2 h3
end Go.Proofs.Ytgmbicjcfhmcdaa
/-! The walks of paths.kind, Tests, Steps. -/
namespace Go.Proofs.Ytgmbicjcfhmcdaa
open Go.RowKit
end Go.Proofs.Ytgmbicjcfhmcdaa
