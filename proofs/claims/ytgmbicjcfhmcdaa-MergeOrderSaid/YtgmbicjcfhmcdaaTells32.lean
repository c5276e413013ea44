/- The walk of MergeTells. -/
import Derived.Test.YtgmbicjcfhmcdaaAw32
import Derived.Test.YtgmbicjcfhmcdaaRefM
set_option linter.unusedVariables false
set_option linter.unusedSimpArgs false
/-! The walk of MergeTells. -/
namespace Go.Proofs.Ytgmbicjcfhmcdaa
open Go.RowKit
attribute [local go_sem ↓] Go.wp_at_zero Go.wp_at_succ
theorem mvR_len (U ss : List ByteArray) (ids : List Int) : (mvR U ss ids).length ≤ U.length := by
  unfold mvR
  rw [List.length_map]
  exact Nat.le_trans (List.length_filter_le _ _) (by simp)
/-- What Merge and the reference's Merge both leave. -/
def RetBo (X : World) (U : List ByteArray) (V : List Evt) (nU nV k : Nat) (e : Ending) (w' : World) : Prop := ∃ An cn Ae ce, e = .returned (.tuple #[.agg #[.slice An nU cn, .slice Ae nV ce], .int .i64 (k : Nat)]) ∧ nU ≤ cn ∧ nV ≤ ce ∧ Below X.heap.size X w' ∧ Rd (heapF w') 1 An nU (U.map Value.string) ∧ EvsF (heapF w') Ae nV V
theorem both32 {F : Fz} (ls : List TrS) (A : Option Addr) (n c : Nat) (hl : TrsF F A n ls) (hn : n ≤ 20) (hb : ∀ t ∈ ls, t.1.length ≤ 100 ∧ t.2.length ≤ 1000 ∧ ∀ e ∈ t.2, e.ids.length ≤ 1000) {U : List ByteArray} {V : List Evt} {nU nV k : Nat} (h1 : (mergeM ls).1.1 = U) (h2 : (mergeM ls).1.2 = V) (h3 : (mergeM ls).2 = k) (h4 : U.length = nU) (h5 : V.length = nV) (X : World) (hX : Sat F X) :
    Calls Try.prog 9 #[.slice A n c] X (RetBo X U V nU nV k) ∧ Calls Try.prog 10 #[.slice A n c] X (RetBo X U V nU nV k) := by
  have key : ∀ e w', RetMg X (mergeM ls) e w' → RetBo X U V nU nV k e w' := fun e w' ⟨An, cn, Ae, ce, q1, q2, q3, q4, q5, q6⟩ => by
    rw [h1, h4] at q2 q5
    rw [h2, h5] at q3 q6
    refine ⟨An, cn, Ae, ce, ?_, q2, q3, q4, q5, q6⟩
    rw [q1, h1, h2, h3, h4, h5]
  exact ⟨(merge_w hX ls A n c hl hn hb).mono key, (refMerge_w hX ls A n c hl hn hb).mono key⟩
end Go.Proofs.Ytgmbicjcfhmcdaa
