/- The walk of MergeParts. -/
import Derived.Test.YtgmbicjcfhmcdaaMade32
set_option linter.unusedVariables false
set_option linter.unusedSimpArgs false
/-! The walk of MergeParts. -/
namespace Go.Proofs.Ytgmbicjcfhmcdaa
open Go.RowKit
attribute [local go_sem ↓] Go.wp_at_zero Go.wp_at_succ
/-- Merge of traces that may be. -/
theorem mg32 {F : Fz} (ls : List TrS) (A : Option Addr) (n c : Nat) (hl : TrsF F A n ls) (hn : n ≤ 20) (hb : ∀ t ∈ ls, t.1.length ≤ 100 ∧ t.2.length ≤ 1000 ∧ ∀ e ∈ t.2, e.ids.length ≤ 1000) (hm : mayAll ls = true) (h64 : (namesT ls).length ≤ 64) {T : TrS} (hT : mergeT ls = T) {nU nV : Nat} (h4 : T.1.length = nU) (h5 : T.2.length = nV) (X : World) (hX : Sat F X) :
    Calls Try.prog 9 #[.slice A n c] X (RetBo X T.1 T.2 nU nV 0) := by
  have hM : mergeM ls = (T, 0) := by unfold mergeM; rw [hm, if_pos rfl, if_neg (by omega), hT]
  exact (both32 ls A n c hl hn hb (by rw [hM]) (by rw [hM]) (by rw [hM]) h4 h5 X hX).1
theorem namesT_take (ls : List TrS) (hl : ls.length ≤ 5) (h : ∀ t ∈ ls, t.1.length = 3) (i : Nat) : (namesT (ls.take i)).length ≤ 15 := by
  have h1 := namesT_len (ls.take i) 3 fun t ht => Nat.le_of_eq (h t (List.mem_of_mem_take ht))
  have h2 : (ls.take i).length ≤ 5 := by rw [List.length_take]; omega
  have h3 : (ls.take i).length * 3 ≤ 5 * 3 := Nat.mul_le_mul_right _ h2
  omega
theorem mergeT_take (ls : List TrS) (hl : ls.length ≤ 5) (h : ∀ t ∈ ls, t.2.length ≤ 60) (i : Nat) : (mergeT (ls.take i)).2.length ≤ 300 := by
  have h1 := mergeT_len (ls.take i) 60 fun t ht => h t (List.mem_of_mem_take ht)
  have h2 : (ls.take i).length ≤ 5 := by rw [List.length_take]; omega
  have h3 : (ls.take i).length * 60 ≤ 5 * 60 := Nat.mul_le_mul_right _ h2
  omega
theorem mergeT_ids (ls : List TrS) : ∀ e ∈ (mergeT ls).2, e.ids.length ≤ (namesT ls).length := fun e he => by
  obtain ⟨p, _, rfl⟩ := List.mem_map.1 he
  exact mvR_len _ _ _
end Go.Proofs.Ytgmbicjcfhmcdaa
