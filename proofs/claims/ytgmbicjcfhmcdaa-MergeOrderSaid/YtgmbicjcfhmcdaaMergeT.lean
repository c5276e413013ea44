/- Several traces as one: what holds of it; plain laws. -/
import Derived.Test.YtgmbicjcfhmcdaaMergeQ
import Derived.Test.YtgmbicjcfhmcdaaMergeR
set_option linter.unusedVariables false
set_option linter.unusedSimpArgs false
/-! Several traces as one: what holds of it; plain laws. -/
namespace Go.Proofs.Ytgmbicjcfhmcdaa
theorem mem_mvR {U ss : List ByteArray} {ids : List Int} {k : Nat} {s : ByteArray} (hk : U[k]? = some s) : (k : Int) ∈ mvR U ss ids ↔ s ∈ ss ∧ idxS ss s ∈ ids := by
  unfold mvR
  rw [List.mem_map]
  have hl := (List.getElem?_eq_some_iff.1 hk).1
  have hg : U.getD k default = s := by rw [List.getD, hk]; rfl
  constructor
  · rintro ⟨k', h, e⟩
    obtain rfl : k' = k := by omega
    rw [List.mem_filter, Bool.and_eq_true, decide_eq_true_iff, hasZ_iff, idxS_mem, hg] at h
    exact h.2
  · rintro ⟨h1, h2⟩
    refine ⟨k, ?_, rfl⟩
    rw [List.mem_filter, Bool.and_eq_true, decide_eq_true_iff, hasZ_iff, idxS_mem, hg, List.mem_range]
    exact ⟨hl, h1, h2⟩
theorem mvR_sorted (U ss : List ByteArray) (ids : List Int) : (mvR U ss ids).Pairwise (· < ·) := by
  unfold mvR
  rw [List.pairwise_map]
  exact (List.pairwise_lt_range.filter _).imp fun h => by omega
theorem mvR_bounds {U ss : List ByteArray} {ids : List Int} : ∀ z ∈ mvR U ss ids, 0 ≤ z ∧ z < U.length := by
  intro z hz
  unfold mvR at hz
  obtain ⟨k, hk, rfl⟩ := List.mem_map.1 hz
  have := List.mem_range.1 (List.mem_filter.1 hk).1
  omega
theorem mvR_ok (U ss : List ByteArray) (ids : List Int) : idsOk (mvR U ss ids) U.length = true := idsOk_iff.2 ⟨mvR_bounds, mvR_sorted U ss ids⟩
/-- A trace's events by the names U. -/
def toU (U ss : List ByteArray) (es : List Evt) : List Evt := es.map fun e => ⟨e.time, mvR U ss e.ids⟩
def rowsU (U : List ByteArray) (ls : List TrS) : List (List Evt) := ls.map fun t => toU U t.1 t.2
abbrev tmE (e : Evt) : Nat := e.time
theorem sum_rows (U : List ByteArray) (ls : List TrS) : sumLn (rowsU U ls) = sumLn (ls.map fun t => t.2) := by
  unfold sumLn rowsU toU
  simp [List.map_map, Function.comp_def]
theorem merge_events (ls : List TrS) : (mergeT ls).2 = sortR tmE (rowsU (namesT ls) ls) := by
  have hm := merge_map tmE tmE (fun b e => (⟨e.time, mvR (namesT ls) (ls.getD b default).1 e.ids⟩ : Evt)) (fun _ _ => rfl) (sumLn (ls.map fun t => t.2)) (ls.map fun t => t.2)
  have hr : rowsU (namesT ls) ls = (ls.map fun t => t.2).mapIdx fun i l => l.map fun e => (⟨e.time, mvR (namesT ls) (ls.getD i default).1 e.ids⟩ : Evt) := by
    refine List.ext_getElem? fun i => ?_
    unfold rowsU toU
    rw [List.getElem?_map, List.getElem?_mapIdx, List.getElem?_map, List.getD]
    cases ls[i]? <;> rfl
  unfold sortR
  rw [sum_rows, hr, hm, List.map_map]
  rfl
theorem byT_of {ss : List ByteArray} {es : List Evt} (h : mayT ss es = true) : ByT tmE es := by
  unfold ByT
  rw [List.pairwise_iff_getElem]
  intro i j hi hj hij
  have h2 := (mayT_iff.1 h).2
  have step : ∀ k (hk : k + 1 < es.length), tmE es[k] ≤ tmE es[k + 1] := fun k hk => by
    have := (h2 (k + 1) hk).2.resolve_left (by omega)
    rw [Nat.add_sub_cancel] at this
    unfold timeE at this
    rw [List.getElem?_eq_getElem (by omega)] at this
    exact this
  induction j with
  | zero => omega
  | succ j ih =>
    by_cases c : i = j
    · subst c; exact step i hj
    · exact Nat.le_trans (ih (by omega) (by omega) step) (step j hj)
theorem byT_toU {U ss : List ByteArray} {es : List Evt} (h : ByT tmE es) : ByT tmE (toU U ss es) := by
  unfold toU ByT
  rw [List.pairwise_map]
  exact h
theorem rowsT_of {U : List ByteArray} {ls : List TrS} (h : mayAll ls = true) : RowsT tmE (rowsU U ls) := fun i => by
  unfold rowsU
  rw [List.getD, List.getElem?_map]
  cases hi : ls[i]? with
  | none => exact List.Pairwise.nil
  | some t => exact byT_toU (byT_of (List.all_eq_true.1 h t (List.mem_of_getElem? hi)))
theorem names_sub {ls : List TrS} {t : TrS} (h : t ∈ ls) : ∀ s ∈ t.1, s ∈ namesT ls := fun s hs => union_mem.2 (List.mem_flatMap.2 ⟨t, h, hs⟩)
/-- What is merged may be. -/
theorem merge_may {ls : List TrS} (h : mayAll ls = true) (hn : (namesT ls).length ≤ 64) : mayT (mergeT ls).1 (mergeT ls).2 = true := by
  rw [mayT_iff]
  have hs := sortR_byT tmE (rowsT_of (U := namesT ls) h)
  rw [← merge_events] at hs
  refine ⟨?_, fun i hi => ⟨?_, ?_⟩⟩
  · show namesOk (namesT ls) = true
    unfold namesOk
    rw [Bool.and_eq_true, decide_eq_true_iff, allI_iff]
    refine ⟨hn, fun j _ hj => ?_⟩
    have hj : j < (namesT ls).length := by omega
    unfold nameAt
    rw [List.getElem?_eq_getElem hj]
    simp only [Bool.and_eq_true, Bool.not_eq_true']
    refine ⟨?_, ?_⟩
    · have := List.getElem_mem hj
      obtain ⟨t, ht, hs⟩ := List.mem_flatMap.1 (union_mem.1 this)
      exact (names_nodup (mayT_iff.1 (List.all_eq_true.1 h t ht)).1).2.2 _ hs
    · rw [hasS_false, List.mem_take_iff_getElem]
      rintro ⟨k, hk, e⟩
      have := (List.getElem_inj (union_nodup _)).1 e
      omega
  · have hm : (mergeT ls).2[i] ∈ (mergeT ls).2 := List.getElem_mem hi
    unfold mergeT at hm
    obtain ⟨p, _, e⟩ := List.mem_map.1 hm
    have hids : (mergeT ls).2[i].ids = mvR (namesT ls) (ls.getD p.1 default).1 p.2.ids := by
      show Evt.ids _ = _
      rw [show (mergeT ls).2[i] = _ from e.symm]
    rw [hids]
    exact mvR_ok _ _ _
  · by_cases c : i = 0
    · exact .inl c
    · right
      unfold timeE
      rw [List.getElem?_eq_getElem (by omega)]
      exact List.pairwise_iff_getElem.1 hs (i - 1) i (by omega) hi (by omega)
end Go.Proofs.Ytgmbicjcfhmcdaa
