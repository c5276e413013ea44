/- What a node over some lists is. Plain lemmas. -/
import Derived.Test.YtdbbooibkiicnaaTreeP
import Derived.Test.YtdbbooibkiicnaaMay
import Derived.Test.YtdbbooibkiicnaaOver
set_option linter.unusedVariables false
set_option linter.unusedSimpArgs false
/-! What a node over some lists is. Plain lemmas. -/
namespace Go.Proofs.Ytdbbooibkiicnaa
def accL : List (List Nd) → List Nd × List Int := fun ls => ls.foldl (fun p l => (p.1 ++ l.map (shiftN (p.1.length : Int)), p.2 ++ [(p.1.length : Int) + (l.length : Int) - 1])) ([], [])
theorem accL_snoc (ls : List (List Nd)) (l : List Nd) : accL (ls ++ [l]) = ((accL ls).1 ++ l.map (shiftN ((accL ls).1.length : Int)), (accL ls).2 ++ [((accL ls).1.length : Int) + (l.length : Int) - 1]) := by simp [accL, List.foldl_append]
def rawJ (n : Nd) (ls : List (List Nd)) : List Nd := (accL ls).1 ++ [{ n with kids := (accL ls).2 }]
def joinL (n : Nd) (ls : List (List Nd)) : List Nd := if ls.all mayS = true ∧ mayS (rawJ n ls) = true then rawJ n ls else []
theorem shiftN_zero (l : List Nd) : l.map (shiftN 0) = l := by
  have : ∀ n : Nd, shiftN 0 n = n := fun n => by
    have h : n.kids.map (· + 0) = n.kids := by
      rw [List.map_congr_left (g := id) (fun k _ => by simp)]
      simp
    cases n
    simp only [shiftN, Nd.mk.injEq, true_and]
    exact h
  rw [List.map_congr_left (g := id) (fun n _ => this n)]
  simp
theorem acc_kids (ls : List (List Nd)) : (accL ls).2.length = ls.length := by
  suffices ∀ (ls : List (List Nd)) (p : List Nd × List Int), (ls.foldl (fun p l => (p.1 ++ l.map (shiftN (p.1.length : Int)), p.2 ++ [(p.1.length : Int) + (l.length : Int) - 1])) p).2.length = p.2.length + ls.length by
    have h := this ls ([], [])
    simpa [accL] using h
  intro ls
  induction ls with
  | nil => intro p; simp
  | cons l ls ih => intro p; rw [List.foldl_cons, ih]; simp; omega
theorem acc_len (ls : List (List Nd)) : (accL ls).1.length = (ls.map List.length).sum := by
  suffices ∀ (ls : List (List Nd)) (p : List Nd × List Int), (ls.foldl (fun p l => (p.1 ++ l.map (shiftN (p.1.length : Int)), p.2 ++ [(p.1.length : Int) + (l.length : Int) - 1])) p).1.length = p.1.length + (ls.map List.length).sum by
    have h := this ls ([], [])
    simpa [accL] using h
  intro ls
  induction ls with
  | nil => intro p; simp
  | cons l ls ih => intro p; rw [List.foldl_cons, ih]; simp; omega
theorem may_ne {l : List Nd} (h : mayS l = true) : l.length ≠ 0 := by
  unfold mayS at h
  cases ht : treeS l with
  | none => rw [ht] at h; cases h
  | some t => have := tree_len ht; have := t.size_pos; omega
theorem may_snoc_fields {l : List Nd} {n : Nd} (h : mayS (l ++ [n]) = true) : fieldsS n = true := by
  unfold mayS at h
  cases ht : treeS (l ++ [n]) with
  | none => rw [ht] at h; cases h
  | some t =>
    have hp := tree_parse ht
    rw [parse_snoc] at hp
    cases h1 : parseS l with
    | none => rw [h1] at hp; cases hp
    | some st => rw [h1] at hp; exact (pushS_some hp).1
theorem join_arity {n : Nd} {ls : List (List Nd)} (h : arityS n.kind ≠ (ls.length : Int)) : joinL n ls = [] := by
  unfold joinL
  rw [if_neg]
  rintro ⟨_, h2⟩
  have h3 := fields_kids (may_snoc_fields h2)
  simp only at h3
  rw [acc_kids] at h3
  exact h h3.symm
theorem raw0 (n : Nd) : rawJ n [] = overL n [] [] := by simp [rawJ, accL, overL, overK]
theorem raw1 (n : Nd) (a : List Nd) (ha : a.length ≠ 0) : rawJ n [a] = overL n a [] := by
  simp only [rawJ, accL, overL, overK, List.foldl_cons, List.foldl_nil, List.nil_append, List.length_nil, Int.ofNat_zero, shiftN_zero, List.map_nil, List.append_nil]
  rw [if_neg ha]
  simp
theorem raw2 (n : Nd) (a b : List Nd) (ha : a.length ≠ 0) (hb : b.length ≠ 0) : rawJ n [a, b] = overL n a b := by
  simp only [rawJ, accL, overL, overK, List.foldl_cons, List.foldl_nil, List.nil_append, List.length_nil, Int.ofNat_zero, shiftN_zero, List.length_append, List.length_map]
  rw [if_neg ha, if_neg hb]
  simp
end Go.Proofs.Ytdbbooibkiicnaa
/-! The walk of tree.Join. -/
namespace Go.Proofs.Ytdbbooibkiicnaa
open Go.RowKit
/-- A list of lists of nodes, all frozen. -/
def RowsN (F : Fz) (A : Option Addr) (k : Nat) (ls : List (List Nd)) : Prop :=
  ls.length = k ∧ (0 < k → ∃ ad, A = some ad ∧ ∀ i (h : i < ls.length), ∃ Ai ci, F.cell (ad.add i) = some (.slice Ai ls[i].length ci) ∧ ls[i].length ≤ ci ∧ NodesF F Ai ls[i].length ls[i])
theorem RowsN.cle {F F' : Fz} {A : Option Addr} {k : Nat} {ls : List (List Nd)} (h : RowsN F A k ls) (hle : CLe F F') : RowsN F' A k ls :=
  ⟨h.1, fun hk => let ⟨ad, e, hc⟩ := h.2 hk; ⟨ad, e, fun i hi => let ⟨Ai, ci, h1, h2, h3⟩ := hc i hi; ⟨Ai, ci, hle _ _ h1, h2, h3.cle hle⟩⟩⟩
theorem may_kidsB {l : List Nd} (hn : l.length ≤ 1000) (h : mayS l = true) : KidsB l := by
  unfold mayS at h
  cases ht : treeS l with
  | none => rw [ht] at h; cases h
  | some t => exact KidsB.of hn ht
theorem all_take {ls : List (List Nd)} {m : Nat} (hm : m < ls.length) (h1 : (ls.take m).all mayS = true) (h2 : mayS ls[m] = true) : (ls.take (m + 1)).all mayS = true := by
  rw [List.take_succ_eq_append_getElem hm, List.all_append, h1]
  simp [h2]
theorem sum_take_le (ls : List (List Nd)) (m : Nat) : ((ls.take m).map List.length).sum ≤ (ls.map List.length).sum := by
  have h := List.take_append_drop m ls
  have : (ls.map List.length).sum = ((ls.take m).map List.length).sum + ((ls.drop m).map List.length).sum := by rw [← List.sum_append, ← List.map_append, h]
  omega
end Go.Proofs.Ytdbbooibkiicnaa
