/- The walk of the reference's May. -/
import Derived.Test.YtdbbooibkiicnaaMay
import Derived.Test.YtdbbooibkiicnaaTreeP
import Derived.Test.YtdbbooibkiicnaaApp
import Derived.Deep.DeepCutAuto
import Derived.Deep.RegionWith
import Derived.Test.YtdbbooibkiicnaaPart
import Derived.Test.YtdbbooibkiicnaaNodes2
set_option linter.unusedVariables false
set_option linter.unusedSimpArgs false
/-! The walk of the reference's May. -/
namespace Go.Proofs.Ytdbbooibkiicnaa
open Go.RowKit
attribute [local go_sem ↓] span_eq

theorem Rd.next {w w' : World} {size n : Nat} {A : Option Addr} {xs : List Value} (h : Rd (heapF w) size A n xs) (hb : Below w.heap.size w w') : Rd (heapF w') size A n xs := h.heap ((sat_heapF w).below hb)
theorem length_le_total : ∀ st : List Tr, st.length ≤ total st
  | [] => Nat.le_refl _
  | t :: st => by have := length_le_total st; have := t.size_pos; rw [total_cons, List.length_cons]; omega
theorem fold_fields : ∀ {l : List Nd} {st st' : List Tr}, l.foldlM pushS st = some st' → ∀ n ∈ l, fieldsS n = true
  | [], _, _, _, n, hn => by cases hn
  | m :: l, st, st', h, n, hn => by
    rw [List.foldlM_cons] at h
    cases hp : pushS st m with
    | none => rw [hp] at h; cases h
    | some st0 =>
      rw [hp] at h
      rcases List.mem_cons.1 hn with rfl | hn
      · exact (pushS_some hp).1
      · exact fold_fields (l := l) h n hn
theorem kind_pos {n : Nd} (h : fieldsS n = true) : 1 ≤ n.kind := by
  have h1 := fields_kids h
  have h2 : 0 ≤ arityS n.kind := by omega
  unfold arityS at h2
  split at h2
  · omega
  · split at h2
    · omega
    · split at h2 <;> omega
theorem fits_eq {k kd : Int} (h : 1 ≤ kd) : fitsS k kd = (regS kd == wantsS k) := by
  unfold fitsS formS regS
  by_cases h1 : 18 ≤ kd
  · have h2 : ¬ (1 ≤ kd ∧ kd ≤ 17) := by omega
    cases wantsS k <;> simp [h1, h2]
  · have h2 : 1 ≤ kd ∧ kd ≤ 17 := by omega
    cases wantsS k <;> simp [h1, h2]
/-- What the stack tells of the kid j. -/
theorem okK_at {l : List Nd} {k : Nat} {st : List Tr} {n : Nd} {j D : Nat} (hk : k ≤ l.length) (hst : parseS (l.take k) = some st) (hj : j < n.kids.length) (hD : st.length = D + n.kids.length) :
    ∃ T : Nat, ∃ h : T < l.length, T < k ∧ (opens st)[D + j]? = some (T : Int) ∧ 1 ≤ l[T].kind ∧ (okK n st j ↔ n.kids[j] = (T : Int) ∧ regS l[T].kind = wantsS n.kind) := by
  have hi : n.kids.length - 1 - j < st.length := by omega
  have hg := opens_get st _ hi
  rw [show st.length - 1 - (n.kids.length - 1 - j) = D + j by omega] at hg
  obtain ⟨t, st', e⟩ : ∃ t st', st.drop (n.kids.length - 1 - j) = t :: st' := by
    cases hd : st.drop (n.kids.length - 1 - j) with
    | nil => have := congrArg List.length hd; simp at this; omega
    | cons t st' => exact ⟨t, st', rfl⟩
  obtain ⟨T, hT, hTk, hTt, hkind, _⟩ := top_of hk hst (show st = st.take (n.kids.length - 1 - j) ++ t :: st' by rw [← e, List.take_append_drop])
  have hget : st[n.kids.length - 1 - j]? = some t := by
    have h0 : (st.drop (n.kids.length - 1 - j))[0]? = some t := by rw [e]; rfl
    rw [List.getElem?_drop] at h0
    exact h0
  refine ⟨T, hT, hTk, ?_, ?_, ?_⟩
  · rw [hg, e, ← hTt]
    congr 1
    omega
  · refine kind_pos (fold_fields hst l[T] ?_)
    rw [List.mem_take_iff_getElem]
    exact ⟨T, by omega, rfl⟩
  · unfold okK
    rw [e, ← hTt, hget, List.getElem?_eq_getElem hj, hkind]
    constructor
    · rintro ⟨h1, h2⟩
      injection h1 with h1
      exact ⟨by rw [h1]; omega, h2 t rfl⟩
    · rintro ⟨h1, h2⟩
      refine ⟨by rw [h1]; congr 1; omega, fun t' h => ?_⟩
      injection h with h
      rw [← h]
      exact h2
theorem fields_no {n : Nd} {st : List Tr} (h : fieldsS n = false) : pushS st n = none := push_nofields h

end Go.Proofs.Ytdbbooibkiicnaa
/-! The walk of the reference's Part. -/
namespace Go.Proofs.Ytdbbooibkiicnaa
open Go.RowKit
theorem shift_sub (d : Int) (ks : List Int) : ks.map (· - d) = ks.map (· + -d) := by
  apply List.map_congr_left
  intro k _
  omega
theorem newNd (n n' : Nd) (A : Option Addr) (c : Nat) (e : n' = { n with kids := n'.kids }) (hl : n'.kids.length = n.kids.length) (W : World) :
    Blk (W.alloc (.cells #[.int .i64 n.kind, .string n.name, .int .i64 n.lo, .int .i64 n.hi, .slice A n.kids.length c] 29)) W.heap.size 29 #[.int .i64 n'.kind, .string n'.name, .int .i64 n'.lo, .int .i64 n'.hi, .slice A n'.kids.length c] := by
  rw [hl, show n'.kind = n.kind by rw [e], show n'.name = n.name by rw [e], show n'.lo = n.lo by rw [e], show n'.hi = n.hi by rw [e]]
  exact Blk.new _ _ _
end Go.Proofs.Ytdbbooibkiicnaa
