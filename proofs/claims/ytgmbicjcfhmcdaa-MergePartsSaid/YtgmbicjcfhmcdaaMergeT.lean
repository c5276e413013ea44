/- Several traces as one: what holds of it; plain laws. -/
import Derived.Test.YtgmbicjcfhmcdaaMergeQ
import Derived.Test.YtgmbicjcfhmcdaaMergeR
set_option linter.unusedVariables false
set_option linter.unusedSimpArgs false
/-! Several traces as one: what holds of it; plain laws. -/
namespace Go.Proofs.Ytgmbicjcfhmcdaa
theorem mem_mvR {U ss : List ByteArray} {ids : List Int} {k : Nat} {s : ByteArray} (hk : U[k]? = some s) : (k : Int) ∈ mvR U ss ids ↔ s ∈ ss ∧ idxS ss s ∈ ids := by
  unfold mvR
  rw [List.mem_map]
  have hl := (List.getElem?_eq_some_iff.1 hk).1
  have hg : U.getD k default = s := by rw [List.getD, hk]; rfl
  constructor
  · rintro ⟨k', h, e⟩
    obtain rfl : k' = k := by omega
    rw [List.mem_filter, Bool.and_eq_true, decide_eq_true_iff, hasZ_iff, idxS_mem, hg] at h
    exact h.2
  · rintro ⟨h1, h2⟩
    refine ⟨k, ?_, rfl⟩
    rw [List.mem_filter, Bool.and_eq_true, decide_eq_true_iff, hasZ_iff, idxS_mem, hg, List.mem_range]
    exact ⟨hl, h1, h2⟩
theorem mvR_sorted (U ss : List ByteArray) (ids : List Int) : (mvR U ss ids).Pairwise (· < ·) := by
  unfold mvR
  rw [List.pairwise_map]
  exact (List.pairwise_lt_range.filter _).imp fun h => by omega
theorem mvR_bounds {U ss : List ByteArray} {ids : List Int} : ∀ z ∈ mvR U ss ids, 0 ≤ z ∧ z < U.length := by
  intro z hz
  unfold mvR at hz
  obtain ⟨k, hk, rfl⟩ := List.mem_map.1 hz
  have := List.mem_range.1 (List.mem_filter.1 hk).1
  omega
theorem mvR_ok (U ss : List ByteArray) (ids : List Int) : idsOk (mvR U ss ids) U.length = true := idsOk_iff.2 ⟨mvR_bounds, mvR_sorted U ss ids⟩
/-- Rising rows of the same numbers are one. -/
theorem rising_ext {a b : List Int} (ha : a.Pairwise (· < ·)) (hb : b.Pairwise (· < ·)) (h : ∀ z, z ∈ a ↔ z ∈ b) : a = b := by
  have n1 : a.Nodup := by rw [List.nodup_iff_pairwise_ne]; exact ha.imp fun h => by omega
  have n2 : b.Nodup := by rw [List.nodup_iff_pairwise_ne]; exact hb.imp fun h => by omega
  exact List.Perm.eq_of_pairwise (le := fun a b : Int => a < b) (fun a b _ _ h1 h2 => by omega) ha hb ((List.perm_ext_iff_of_nodup n1 n2).2 h)
theorem mv_self {ss : List ByteArray} {ids : List Int} (hs : ss.Nodup) (hi : idsOk ids ss.length = true) : mvR ss ss ids = ids := by
  obtain ⟨h1, h2⟩ := idsOk_iff.1 hi
  refine rising_ext (mvR_sorted _ _ _) h2 fun z => ?_
  constructor
  · intro hz
    obtain ⟨a, b⟩ := mvR_bounds z hz
    obtain ⟨k, rfl⟩ := Int.eq_ofNat_of_zero_le a
    have hk : k < ss.length := by omega
    have := ((mem_mvR (List.getElem?_eq_getElem hk)).1 hz).2
    rw [idxS_nodup hs (List.getElem?_eq_getElem hk)] at this
    exact this
  · intro hz
    obtain ⟨a, b⟩ := h1 z hz
    obtain ⟨k, rfl⟩ := Int.eq_ofNat_of_zero_le a
    have hk : k < ss.length := by omega
    refine (mem_mvR (List.getElem?_eq_getElem hk)).2 ⟨List.getElem_mem hk, ?_⟩
    rw [idxS_nodup hs (List.getElem?_eq_getElem hk)]
    exact hz
theorem mv_twice {U' U ss : List ByteArray} {ids : List Int} (hU : U.Nodup) (hsub : ∀ s ∈ ss, s ∈ U) : mvR U' U (mvR U ss ids) = mvR U' ss ids := by
  refine rising_ext (mvR_sorted _ _ _) (mvR_sorted _ _ _) fun z => ?_
  have key : ∀ k (hk : k < U'.length), ((k : Nat) : Int) ∈ mvR U' U (mvR U ss ids) ↔ ((k : Nat) : Int) ∈ mvR U' ss ids := fun k hk => by
    rw [mem_mvR (List.getElem?_eq_getElem hk), mem_mvR (List.getElem?_eq_getElem hk)]
    constructor
    · rintro ⟨h1, h2⟩
      obtain ⟨j, j1, j2, _⟩ := idxS_at h1
      rw [j1] at h2
      exact (mem_mvR j2).1 h2
    · rintro ⟨h1, h2⟩
      have hm := hsub _ h1
      obtain ⟨j, j1, j2, _⟩ := idxS_at hm
      refine ⟨hm, ?_⟩
      rw [j1]
      exact (mem_mvR j2).2 ⟨h1, h2⟩
  constructor
  · intro hz
    obtain ⟨a, b⟩ := mvR_bounds z hz
    obtain ⟨k, rfl⟩ := Int.eq_ofNat_of_zero_le a
    exact (key k (by omega)).1 hz
  · intro hz
    obtain ⟨a, b⟩ := mvR_bounds z hz
    obtain ⟨k, rfl⟩ := Int.eq_ofNat_of_zero_le a
    exact (key k (by omega)).2 hz
/-- A trace's events by the names U. -/
def toU (U ss : List ByteArray) (es : List Evt) : List Evt := es.map fun e => ⟨e.time, mvR U ss e.ids⟩
def rowsU (U : List ByteArray) (ls : List TrS) : List (List Evt) := ls.map fun t => toU U t.1 t.2
abbrev tmE (e : Evt) : Nat := e.time
theorem sum_rows (U : List ByteArray) (ls : List TrS) : sumLn (rowsU U ls) = sumLn (ls.map fun t => t.2) := by
  unfold sumLn rowsU toU
  simp [List.map_map, Function.comp_def]
theorem merge_events (ls : List TrS) : (mergeT ls).2 = sortR tmE (rowsU (namesT ls) ls) := by
  have hm := merge_map tmE tmE (fun b e => (⟨e.time, mvR (namesT ls) (ls.getD b default).1 e.ids⟩ : Evt)) (fun _ _ => rfl) (sumLn (ls.map fun t => t.2)) (ls.map fun t => t.2)
  have hr : rowsU (namesT ls) ls = (ls.map fun t => t.2).mapIdx fun i l => l.map fun e => (⟨e.time, mvR (namesT ls) (ls.getD i default).1 e.ids⟩ : Evt) := by
    refine List.ext_getElem? fun i => ?_
    unfold rowsU toU
    rw [List.getElem?_map, List.getElem?_mapIdx, List.getElem?_map, List.getD]
    cases ls[i]? <;> rfl
  unfold sortR
  rw [sum_rows, hr, hm, List.map_map]
  rfl
theorem byT_of {ss : List ByteArray} {es : List Evt} (h : mayT ss es = true) : ByT tmE es := by
  unfold ByT
  rw [List.pairwise_iff_getElem]
  intro i j hi hj hij
  have h2 := (mayT_iff.1 h).2
  have step : ∀ k (hk : k + 1 < es.length), tmE es[k] ≤ tmE es[k + 1] := fun k hk => by
    have := (h2 (k + 1) hk).2.resolve_left (by omega)
    rw [Nat.add_sub_cancel] at this
    unfold timeE at this
    rw [List.getElem?_eq_getElem (by omega)] at this
    exact this
  induction j with
  | zero => omega
  | succ j ih =>
    by_cases c : i = j
    · subst c; exact step i hj
    · exact Nat.le_trans (ih (by omega) (by omega) step) (step j hj)
theorem byT_toU {U ss : List ByteArray} {es : List Evt} (h : ByT tmE es) : ByT tmE (toU U ss es) := by
  unfold toU ByT
  rw [List.pairwise_map]
  exact h
theorem rowsT_of {U : List ByteArray} {ls : List TrS} (h : mayAll ls = true) : RowsT tmE (rowsU U ls) := fun i => by
  unfold rowsU
  rw [List.getD, List.getElem?_map]
  cases hi : ls[i]? with
  | none => exact List.Pairwise.nil
  | some t => exact byT_toU (byT_of (List.all_eq_true.1 h t (List.mem_of_getElem? hi)))
theorem names_sub {ls : List TrS} {t : TrS} (h : t ∈ ls) : ∀ s ∈ t.1, s ∈ namesT ls := fun s hs => union_mem.2 (List.mem_flatMap.2 ⟨t, h, hs⟩)
/-- What is merged may be. -/
theorem merge_may {ls : List TrS} (h : mayAll ls = true) (hn : (namesT ls).length ≤ 64) : mayT (mergeT ls).1 (mergeT ls).2 = true := by
  rw [mayT_iff]
  have hs := sortR_byT tmE (rowsT_of (U := namesT ls) h)
  rw [← merge_events] at hs
  refine ⟨?_, fun i hi => ⟨?_, ?_⟩⟩
  · show namesOk (namesT ls) = true
    unfold namesOk
    rw [Bool.and_eq_true, decide_eq_true_iff, allI_iff]
    refine ⟨hn, fun j _ hj => ?_⟩
    have hj : j < (namesT ls).length := by omega
    unfold nameAt
    rw [List.getElem?_eq_getElem hj]
    simp only [Bool.and_eq_true, Bool.not_eq_true']
    refine ⟨?_, ?_⟩
    · have := List.getElem_mem hj
      obtain ⟨t, ht, hs⟩ := List.mem_flatMap.1 (union_mem.1 this)
      exact (names_nodup (mayT_iff.1 (List.all_eq_true.1 h t ht)).1).2.2 _ hs
    · rw [hasS_false, List.mem_take_iff_getElem]
      rintro ⟨k, hk, e⟩
      have := (List.getElem_inj (union_nodup _)).1 e
      omega
  · have hm : (mergeT ls).2[i] ∈ (mergeT ls).2 := List.getElem_mem hi
    unfold mergeT at hm
    obtain ⟨p, _, e⟩ := List.mem_map.1 hm
    have hids : (mergeT ls).2[i].ids = mvR (namesT ls) (ls.getD p.1 default).1 p.2.ids := by
      show Evt.ids _ = _
      rw [show (mergeT ls).2[i] = _ from e.symm]
    rw [hids]
    exact mvR_ok _ _ _
  · by_cases c : i = 0
    · exact .inl c
    · right
      unfold timeE
      rw [List.getElem?_eq_getElem (by omega)]
      exact List.pairwise_iff_getElem.1 hs (i - 1) i (by omega) hi (by omega)
theorem union_append (a b : List ByteArray) : unionS (unionS a ++ b) = unionS (a ++ b) := by
  have h0 : ∀ (x out : List ByteArray), (out ++ x).Nodup → x.foldl addS out = out ++ x := by
    intro x
    induction x with
    | nil => intro out _; simp
    | cons s x ih =>
      intro out hn
      have hs : s ∉ out := by
        rw [List.nodup_append] at hn
        exact fun h => hn.2.2 s h s (by simp) rfl
      have e : addS out s = out ++ [s] := if_neg fun h => hs ((hasS_iff _ _).1 h)
      rw [List.foldl_cons, e, ih _ (by simpa using hn)]
      simp
  unfold unionS
  rw [List.foldl_append, List.foldl_append]
  congr 1
  have := h0 (a.foldl addS []) [] (by rw [List.nil_append]; exact union_nodup a)
  simpa using this
/-- Traces may be merged one by one, from the left. -/
theorem merge_two {ls : List TrS} (h : mayAll ls = true) {x : TrS} (hx : mayT x.1 x.2 = true) : mergeT [mergeT ls, x] = mergeT (ls ++ [x]) := by
  have hnames : namesT [mergeT ls, x] = namesT (ls ++ [x]) := by
    unfold namesT
    have : ([mergeT ls, x].flatMap fun t => t.1) = namesT ls ++ x.1 := by simp [mergeT]
    rw [this]
    unfold namesT
    rw [union_append]
    simp
  have hev : (mergeT [mergeT ls, x]).2 = (mergeT (ls ++ [x])).2 := by
    rw [merge_events, merge_events, hnames]
    have hr2 : rowsU (namesT (ls ++ [x])) (ls ++ [x]) = rowsU (namesT (ls ++ [x])) ls ++ [toU (namesT (ls ++ [x])) x.1 x.2] := by simp [rowsU]
    rw [hr2, ← sortR_two tmE (rowsT_of h) (byT_toU (byT_of hx))]
    have hr1 : rowsU (namesT (ls ++ [x])) [mergeT ls, x] = [toU (namesT (ls ++ [x])) (namesT ls) (mergeT ls).2, toU (namesT (ls ++ [x])) x.1 x.2] := rfl
    rw [hr1]
    congr 2
    rw [merge_events]
    unfold sortR toU
    rw [List.map_map, sum_rows, sum_rows]
    have hm := merge_map tmE tmE (fun _ e => (⟨e.time, mvR (namesT (ls ++ [x])) (namesT ls) e.ids⟩ : Evt)) (fun _ _ => rfl) (sumLn (ls.map fun t => t.2)) (rowsU (namesT ls) ls)
    have hr : ((rowsU (namesT ls) ls).mapIdx fun i l => l.map fun e => (⟨e.time, mvR (namesT (ls ++ [x])) (namesT ls) e.ids⟩ : Evt)) = rowsU (namesT (ls ++ [x])) ls := by
      refine List.ext_getElem? fun i => ?_
      unfold rowsU toU
      rw [List.getElem?_mapIdx, List.getElem?_map, List.getElem?_map]
      cases hi : ls[i]? with
      | none => rfl
      | some t =>
        simp only [Option.map_some, List.map_map]
        congr 1
        refine List.map_congr_left fun e he => ?_
        simp only [Function.comp_apply]
        rw [mv_twice (U := namesT ls) (union_nodup _) (names_sub (List.mem_of_getElem? hi))]
    rw [hr] at hm
    rw [hm, List.map_map]
    rfl
  exact Prod.ext hnames hev
/-- One trace stays as it is. -/
theorem merge_one {x : TrS} (hx : mayT x.1 x.2 = true) : mergeT [x] = x := by
  obtain ⟨h1, h2⟩ := mayT_iff.1 hx
  have hn := (names_nodup h1).2.1
  have hnames : namesT [x] = x.1 := by
    have h := union_append x.1 []
    unfold namesT
    simp only [List.flatMap_cons, List.flatMap_nil, List.append_nil]
    have h0 : ∀ (x out : List ByteArray), (out ++ x).Nodup → x.foldl addS out = out ++ x := by
      intro x
      induction x with
      | nil => intro out _; simp
      | cons s x ih =>
        intro out hn
        have hs : s ∉ out := by
          rw [List.nodup_append] at hn
          exact fun h => hn.2.2 s h s (by simp) rfl
        have e : addS out s = out ++ [s] := if_neg fun h => hs ((hasS_iff _ _).1 h)
        rw [List.foldl_cons, e, ih _ (by simpa using hn)]
        simp
    have := h0 x.1 [] (by simpa using hn)
    unfold unionS
    simpa using this
  have hev : (mergeT [x]).2 = x.2 := by
    rw [merge_events, hnames]
    have : rowsU x.1 [x] = [x.2] := by
      unfold rowsU toU
      simp only [List.map_cons, List.map_nil]
      congr 1
      refine (List.map_congr_left (g := id) fun e he => ?_).trans (List.map_id _)
      obtain ⟨i, hi, e1⟩ := List.getElem_of_mem he
      have := (h2 i hi).1
      rw [e1] at this
      rw [mv_self hn this]; rfl
    rw [this]
    exact sortR_one tmE (byT_of hx)
  exact Prod.ext hnames hev
end Go.Proofs.Ytgmbicjcfhmcdaa
