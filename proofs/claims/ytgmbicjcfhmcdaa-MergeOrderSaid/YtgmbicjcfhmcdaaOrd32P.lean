/- The names that hold at a merged event are those of its trace's event: plain. -/
import Derived.Test.YtgmbicjcfhmcdaaHold32
import Derived.Test.YtgmbicjcfhmcdaaRefM
set_option linter.unusedVariables false
set_option linter.unusedSimpArgs false
/-! The names that hold at a merged event are those of its trace's event: plain. -/
namespace Go.Proofs.Ytgmbicjcfhmcdaa
theorem sortL_of_perm {a b : List (List UInt8)} (h : a.Perm b) : sortL a = sortL b :=
  List.Perm.eq_of_pairwise (le := fun a b : List UInt8 => decide (a ≤ b) = true) (fun a b _ _ h1 h2 => List.le_antisymm (of_decide_eq_true h1) (of_decide_eq_true h2)) (sortL_sorted a) (sortL_sorted b) ((sortL_perm a).trans (h.trans (sortL_perm b).symm))
theorem mem_idsN {ss : List ByteArray} (hs : ss.Nodup) {ids : List Int} (hi : idsOk ids ss.length = true) {s : ByteArray} : s ∈ idsN ss ids ↔ s ∈ ss ∧ idxS ss s ∈ ids := by
  obtain ⟨h1, _⟩ := idsOk_iff.1 hi
  unfold idsN
  rw [List.mem_map]
  constructor
  · rintro ⟨z, hz, rfl⟩
    obtain ⟨a, b⟩ := h1 z hz
    obtain ⟨k, rfl⟩ := Int.eq_ofNat_of_zero_le a
    have hk : k < ss.length := by omega
    rw [Int.toNat_natCast, List.getD, List.getElem?_eq_getElem hk]
    refine ⟨List.getElem_mem hk, ?_⟩
    show idxS ss ss[k] ∈ ids
    rw [idxS_nodup hs (List.getElem?_eq_getElem hk)]
    exact hz
  · rintro ⟨a, b⟩
    obtain ⟨k, k1, k2, _⟩ := idxS_at a
    refine ⟨_, b, ?_⟩
    rw [k1, Int.toNat_natCast, List.getD, k2]; rfl
theorem idsN_nodup {ss : List ByteArray} (hs : ss.Nodup) {ids : List Int} (hi : idsOk ids ss.length = true) : (idsN ss ids).Nodup := by
  obtain ⟨h1, h2⟩ := idsOk_iff.1 hi
  unfold idsN
  rw [List.nodup_iff_pairwise_ne, List.pairwise_map]
  refine h2.imp_of_mem fun {a b} ha hb hlt e => ?_
  obtain ⟨a1, a2⟩ := h1 a ha
  obtain ⟨b1, b2⟩ := h1 b hb
  obtain ⟨j, rfl⟩ := Int.eq_ofNat_of_zero_le a1
  obtain ⟨k, rfl⟩ := Int.eq_ofNat_of_zero_le b1
  have hj : j < ss.length := by omega
  have hk : k < ss.length := by omega
  rw [Int.toNat_natCast, Int.toNat_natCast, List.getD, List.getD, List.getElem?_eq_getElem hj, List.getElem?_eq_getElem hk] at e
  have e : ss[j] = ss[k] := e
  have := (List.getElem_inj hs).1 e
  omega
theorem dlB_perm {a b : List ByteArray} (h : a.Perm b) : (dlB a).Perm (dlB b) := h.map _
theorem hold_eq {U ss : List ByteArray} {ids : List Int} (hU : U.Nodup) (hs : ss.Nodup) (hsub : ∀ s ∈ ss, s ∈ U) (hi : idsOk ids ss.length = true) : sortL (dlB (idsN U (mvR U ss ids))) = sortL (dlB (idsN ss ids)) := by
  refine sortL_of_perm (dlB_perm ((List.perm_ext_iff_of_nodup (idsN_nodup hU (mvR_ok U ss ids)) (idsN_nodup hs hi)).2 fun s => ?_))
  rw [mem_idsN hU (mvR_ok U ss ids), mem_idsN hs hi]
  constructor
  · rintro ⟨a, b⟩
    obtain ⟨k, k1, k2, _⟩ := idxS_at a
    rw [k1] at b
    exact (mem_mvR k2).1 b
  · rintro ⟨a, b⟩
    obtain ⟨k, k1, k2, _⟩ := idxS_at (hsub s a)
    exact ⟨hsub s a, by rw [k1]; exact (mem_mvR k2).2 ⟨a, b⟩⟩
end Go.Proofs.Ytgmbicjcfhmcdaa
