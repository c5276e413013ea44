/- What has none of the future's signs hangs on the points so far alone, what has none of the past's on those from here on: plain. -/
import Derived.Test.YtgmbicjcfhmcdaaSatM
import Derived.Test.YtgmbicjcfhmcdaaSatB
import Derived.Test.YtgmbicjcfhmcdaaMk8E
set_option linter.unusedVariables false
set_option linter.unusedSimpArgs false
/-! What has none of the future's signs hangs on the points so far alone, what has none of the past's on those from here on: plain. -/
namespace Go.Proofs.Ytgmbicjcfhmcdaa
end Go.Proofs.Ytgmbicjcfhmcdaa
/-! A trace's first events, its last ones: plain, and in memory. -/
namespace Go.Proofs.Ytgmbicjcfhmcdaa
theorem mayT_iff {ss : List ByteArray} {es : List Evt} : mayT ss es = true ↔ namesOk ss = true ∧ ∀ i (h : i < es.length), idsOk es[i].ids ss.length = true ∧ (i = 0 ∨ timeE es (i - 1) ≤ es[i].time) := by
  unfold mayT
  rw [Bool.and_eq_true, allI_iff]
  constructor
  · rintro ⟨h1, h2⟩
    refine ⟨h1, fun i hi => ?_⟩
    have := h2 i (Nat.zero_le _) (by omega)
    unfold evtAt at this
    rw [List.getElem?_eq_getElem hi] at this
    simpa using this
  · rintro ⟨h1, h2⟩
    refine ⟨h1, fun i _ hi => ?_⟩
    have hi : i < es.length := by omega
    unfold evtAt
    rw [List.getElem?_eq_getElem hi]
    simpa using h2 i hi
/-- The slice from event k on. -/
theorem EvsF.drop {F : Fz} {ad : Addr} {n : Nat} {es : List Evt} (h : EvsF F (some ad) n es) {k : Nat} (hk : k ≤ n) : EvsF F (some (ad.add (k * 2))) (n - k) (es.drop k) := by
  have hl := h.1
  refine ⟨by simp; omega, fun h0 => ⟨_, rfl, fun i hi => ?_⟩⟩
  have hi' : k + i < es.length := by simp at hi; omega
  obtain ⟨ad', e, hh⟩ := h.2 (by omega)
  injection e with e
  subst e
  obtain ⟨h1, Ai, ci, h2, h3, h4, h5⟩ := hh (k + i) hi'
  have e : (es.drop k)[i] = es[k + i]'hi' := by simp
  rw [e]
  refine ⟨h1, Ai, ci, h2, h3, ?_, ?_⟩
  · rw [add_of_add ad (k * 2) (i * 2), show k * 2 + i * 2 = (k + i) * 2 by omega]; exact h4
  · rw [add_of_add ad (k * 2) (i * 2), show k * 2 + i * 2 = (k + i) * 2 by omega]; exact h5
end Go.Proofs.Ytgmbicjcfhmcdaa
