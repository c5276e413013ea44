/- Small lemmas that both atoms' and sat's texts lean on. -/
import Derived.Test.YtdbbooibkiicnaaGreatPlanM
import Derived.Test.YtdbbooibkiicnaaGreatPlanP
import Derived.Test.YtdbbooibkiicnaaGreatOwn
import Derived.Test.YtdbbooibkiicnaaGreatBoundA
set_option linter.unusedVariables false
set_option linter.unusedSimpArgs false
namespace Go.Proofs.YtdbbooibkiicnaaGreat
open Go.RowKit
theorem rd_lt {w : World} {A : Option Addr} {n : Nat} {xs : List Value} (h : Rd (heapF w) 1 A n xs) (hn : 0 < n) : ∀ a, A = some a → a.block < w.heap.size := by
  intro a ha
  obtain ⟨ad, v, e, _, hc⟩ := h.at1 hn
  rw [ha] at e
  injection e with e
  subst e
  have := (sat_heapF w).clt hc
  rwa [block_of_add] at this
theorem kind_tests2 {l : List Nd} {t : Tr} (ht : treeS l = some t) (hr : regS t.root.kind = true) : kindS l 19 = testsL t 0 := by
  have hv := regV_of (tree_valid ht) hr
  have he : ownS l = ownT t 0 := by unfold ownS; rw [ht]; simp only; rw [if_pos hr]
  unfold kindS; rw [he]; exact ownK_tests (tree_flat ht) hv
/-- A node's kids, by their places. -/
def kidsN (t : Tr) (n : Nat) : List Nat := match t.sub n with
  | .leaf _ => []
  | .un _ _ => [n - 1]
  | .bin _ _ b => [n - 1 - b.size, n - 1]
theorem kidsN_eq {l : List Nd} {t : Tr} (ht : treeS l = some t) (n : Nat) (hn : n < l.length) : l[n].kids = zs (kidsN t n) := by
  have h := get_flat_root ht n hn
  have hnt : n < t.size := by rw [← tree_len ht]; exact hn
  unfold kidsN
  rw [h]
  cases hx : t.sub n with
  | leaf h => rfl
  | un h a =>
    obtain ⟨h1, _⟩ := kid_un hnt hx
    have hp := a.size_pos
    show [((n + 1 - (a.size + 1) + a.size : Nat) : Int) - 1] = [((n - 1 : Nat) : Int)]
    simp only [List.cons.injEq, and_true]
    omega
  | bin h a b =>
    obtain ⟨h1, _⟩ := kid_bin hnt hx
    have hp := a.size_pos
    have hq := b.size_pos
    show [((n + 1 - (a.size + b.size + 1) + a.size : Nat) : Int) - 1, ((n + 1 - (a.size + b.size + 1) + a.size + b.size : Nat) : Int) - 1] = [((n - 1 - b.size : Nat) : Int), ((n - 1 : Nat) : Int)]
    simp only [List.cons.injEq, and_true]
    constructor <;> omega
theorem rd_intsL {w : World} {g : Nat} {ks : List Int} (h : Blk w g 3 (ks.map (Value.int .i64)).toArray) : Rd (heapF w) 1 (some ⟨g, 0, none⟩) ks.length (ks.map (Value.int .i64)) := by
  refine ⟨by simp, fun _ => ⟨_, rfl, fun j u hu => ?_⟩⟩
  rw [add_lit0]
  unfold Fz.cell heapF
  rw [h]
  simpa using hu
end Go.Proofs.YtdbbooibkiicnaaGreat
