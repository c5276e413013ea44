/- Several traces as one: names, ids, events: plain laws. -/
import Derived.Test.YtgmbicjcfhmcdaaMergeP
import Derived.Test.YtgmbicjcfhmcdaaSatCut
import Derived.Test.YtgmbicjcfhmcdaaMk8E
set_option linter.unusedVariables false
set_option linter.unusedSimpArgs false
/-! Several traces as one: names, ids, events: plain laws. -/
namespace Go.Proofs.Ytgmbicjcfhmcdaa
theorem firstI_at {p : Nat → Bool} : ∀ {m i : Nat}, 0 ≤ firstI p m i → ∃ j : Nat, firstI p m i = (j : Int) ∧ i ≤ j ∧ j < i + m ∧ p j = true ∧ ∀ q, i ≤ q → q < j → p q = false
  | 0, i, h => by simp [firstI] at h
  | m + 1, i, h => by
    unfold firstI at h ⊢
    split
    · rename_i e
      exact ⟨i, rfl, Nat.le_refl _, by omega, e, fun q h1 h2 => by omega⟩
    · rename_i e
      rw [if_neg e] at h
      obtain ⟨j, h1, h2, h3, h4, h5⟩ := firstI_at h
      refine ⟨j, h1, by omega, by omega, h4, fun q q1 q2 => ?_⟩
      by_cases c : q = i
      · subst c; cases e2 : p q; rfl; exact absurd e2 e
      · exact h5 q (by omega) q2
theorem idxS_at {U : List ByteArray} {x : ByteArray} (h : x ∈ U) : ∃ k : Nat, idxS U x = (k : Int) ∧ U[k]? = some x ∧ k < U.length := by
  obtain ⟨j, h1, _, h3, h4, _⟩ := firstI_at (idxS_mem.2 h)
  exact ⟨j, h1, decide_eq_true_iff.1 h4, by omega⟩
theorem nodup_at {α : Type} {U : List α} (hn : U.Nodup) {i j : Nat} {x : α} (hi : U[i]? = some x) (hj : U[j]? = some x) : i = j := by
  obtain ⟨h1, e1⟩ := List.getElem?_eq_some_iff.1 hi
  obtain ⟨h2, e2⟩ := List.getElem?_eq_some_iff.1 hj
  exact (List.getElem_inj hn).1 (e1.trans e2.symm)
theorem idxS_nodup {U : List ByteArray} (hn : U.Nodup) {k : Nat} {x : ByteArray} (h : U[k]? = some x) : idxS U x = (k : Int) := by
  obtain ⟨j, h1, h2, _⟩ := idxS_at (List.mem_of_getElem? h)
  rw [h1, nodup_at hn h2 h]
theorem idsOk_iff {zs : List Int} {p : Int} : idsOk zs p = true ↔ (∀ z ∈ zs, 0 ≤ z ∧ z < p) ∧ zs.Pairwise (· < ·) := by
  unfold idsOk
  rw [allI_iff]
  have key : ∀ j (h : j < zs.length), idAt zs p j = true ↔ (0 ≤ zs[j] ∧ zs[j] < p ∧ (j = 0 ∨ zs.getD (j - 1) 0 < zs[j])) := fun j h => by
    unfold idAt
    rw [List.getElem?_eq_getElem h]
    simp
  constructor
  · intro h
    have h' : ∀ j (hj : j < zs.length), 0 ≤ zs[j] ∧ zs[j] < p ∧ (j = 0 ∨ zs.getD (j - 1) 0 < zs[j]) := fun j hj => (key j hj).1 (h j (Nat.zero_le _) (by omega))
    refine ⟨fun z hz => ?_, ?_⟩
    · obtain ⟨j, hj, e⟩ := List.getElem_of_mem hz
      have := h' j hj
      rw [e] at this
      exact ⟨this.1, this.2.1⟩
    · rw [List.pairwise_iff_getElem]
      intro i j hi hj hij
      induction j with
      | zero => omega
      | succ j ih =>
        have h3 := (h' (j + 1) hj).2.2.resolve_left (by omega)
        rw [Nat.add_sub_cancel, List.getD, List.getElem?_eq_getElem (by omega)] at h3
        simp only [Option.getD_some] at h3
        by_cases c : i = j
        · subst c; exact h3
        · exact Int.lt_trans (ih (by omega) (by omega)) h3
  · rintro ⟨h1, h2⟩ j _ hj
    have hj : j < zs.length := by omega
    rw [key j hj]
    obtain ⟨a, b⟩ := h1 _ (List.getElem_mem hj)
    refine ⟨a, b, ?_⟩
    by_cases c : j = 0
    · exact .inl c
    · right
      rw [List.getD, List.getElem?_eq_getElem (by omega)]
      exact List.pairwise_iff_getElem.1 h2 (j - 1) j (by omega) hj (by omega)
theorem names_nodup {ss : List ByteArray} (h : namesOk ss = true) : ss.length ≤ 64 ∧ ss.Nodup ∧ ∀ s ∈ ss, nameS s.data.toList = true := by
  unfold namesOk at h
  rw [Bool.and_eq_true, decide_eq_true_iff, allI_iff] at h
  obtain ⟨h1, h2⟩ := h
  have key : ∀ j (hj : j < ss.length), nameS ss[j].data.toList = true ∧ ss[j] ∉ ss.take j := fun j hj => by
    have := h2 j (Nat.zero_le _) (by omega)
    unfold nameAt at this
    rw [List.getElem?_eq_getElem hj] at this
    simp only [Bool.and_eq_true, Bool.not_eq_true'] at this
    refine ⟨this.1, fun hm => ?_⟩
    have h3 := this.2
    rw [show hasS (ss.take j) ss[j] = true from (hasS_iff _ _).2 hm] at h3
    cases h3
  refine ⟨h1, ?_, fun s hs => ?_⟩
  · rw [List.nodup_iff_pairwise_ne, List.pairwise_iff_getElem]
    intro i j hi hj hij e
    refine (key j hj).2 ?_
    rw [List.mem_take_iff_getElem]
    exact ⟨i, by omega, e⟩
  · obtain ⟨j, hj, e⟩ := List.getElem_of_mem hs
    rw [← e]; exact (key j hj).1
/-- A name is added, if it is not there. -/
def addS (out : List ByteArray) (s : ByteArray) : List ByteArray := if hasS out s = true then out else out ++ [s]
def unionS (ns : List ByteArray) : List ByteArray := ns.foldl addS []
theorem addS_prefix (out : List ByteArray) (s : ByteArray) : out <+: addS out s := by
  unfold addS
  split
  · exact List.prefix_refl _
  · exact List.prefix_append _ _
theorem fold_prefix : ∀ (ns out : List ByteArray), out <+: ns.foldl addS out
  | [], _ => List.prefix_refl _
  | s :: ns, out => (addS_prefix out s).trans (fold_prefix ns (addS out s))
theorem addS_nodup {out : List ByteArray} (h : out.Nodup) (s : ByteArray) : (addS out s).Nodup := by
  unfold addS
  split
  · exact h
  · rename_i hs
    rw [List.nodup_append]
    exact ⟨h, by simp, fun a ha b hb e => hs ((hasS_iff _ _).2 (by simp at hb; subst hb; exact e ▸ ha))⟩
theorem fold_nodup : ∀ (ns : List ByteArray) {out : List ByteArray}, out.Nodup → (ns.foldl addS out).Nodup
  | [], _, h => h
  | s :: ns, _, h => fold_nodup ns (addS_nodup h s)
theorem addS_mem {out : List ByteArray} {s x : ByteArray} : x ∈ addS out s ↔ x ∈ out ∨ x = s := by
  unfold addS
  split
  · rename_i h
    constructor
    · exact .inl
    · rintro (h1 | rfl)
      · exact h1
      · exact (hasS_iff _ _).1 h
  · simp
theorem fold_mem : ∀ (ns out : List ByteArray) (x : ByteArray), x ∈ ns.foldl addS out ↔ x ∈ out ∨ x ∈ ns
  | [], out, x => by simp
  | s :: ns, out, x => by
    rw [List.foldl_cons, fold_mem, addS_mem, List.mem_cons, or_assoc]
theorem union_nodup (ns : List ByteArray) : (unionS ns).Nodup := fold_nodup ns List.nodup_nil
theorem union_mem {ns : List ByteArray} {x : ByteArray} : x ∈ unionS ns ↔ x ∈ ns := by unfold unionS; rw [fold_mem]; simp
/-- Where a name stands does not turn when more names are added. -/
theorem idxS_prefix {out U : List ByteArray} (hp : out <+: U) (hU : U.Nodup) {x : ByteArray} (hx : x ∈ out) : idxS out x = idxS U x := by
  obtain ⟨k, h1, h2, h3⟩ := idxS_at hx
  obtain ⟨r, rfl⟩ := hp
  rw [h1, idxS_nodup hU (k := k) (x := x) (by rw [List.getElem?_append_left h3]; exact h2)]
/-- Ids by the names of all. -/
def mvI (U ss : List ByteArray) (ids : List Int) : List Int := (ids.map fun id => idxS U (ss.getD id.toNat default)).mergeSort fun x y => decide (x ≤ y)
def mvR (U ss : List ByteArray) (ids : List Int) : List Int := (((List.range U.length).filter fun k => decide (0 ≤ idxS ss (U.getD k default)) && hasZ ids (idxS ss (U.getD k default))).map fun k : Nat => (k : Int))
theorem mv_eq {U ss : List ByteArray} {ids : List Int} (hU : U.Nodup) (hs : ss.Nodup) (hsub : ∀ s ∈ ss, s ∈ U) (hi : idsOk ids ss.length = true) : mvI U ss ids = mvR U ss ids := by
  obtain ⟨h1, h2⟩ := idsOk_iff.1 hi
  have hget : ∀ id ∈ ids, ∃ (j k : Nat) (s : ByteArray), id = (j : Int) ∧ ss[j]? = some s ∧ U[k]? = some s ∧ idxS U (ss.getD id.toNat default) = (k : Int) := fun id hid => by
    obtain ⟨a, b⟩ := h1 id hid
    obtain ⟨j, rfl⟩ := Int.eq_ofNat_of_zero_le a
    have hj : j < ss.length := by omega
    obtain ⟨k, k1, k2, _⟩ := idxS_at (hsub _ (List.getElem_mem hj))
    refine ⟨j, k, ss[j], rfl, List.getElem?_eq_getElem hj, k2, ?_⟩
    rw [Int.toNat_natCast, List.getD, List.getElem?_eq_getElem hj]
    exact k1
  have hmem : ∀ z, z ∈ mvI U ss ids ↔ z ∈ mvR U ss ids := fun z => by
    unfold mvI mvR
    rw [List.mem_mergeSort, List.mem_map, List.mem_map]
    constructor
    · rintro ⟨id, hid, rfl⟩
      obtain ⟨j, k, s, rfl, hj, hk, e⟩ := hget id hid
      refine ⟨k, ?_, e.symm⟩
      rw [List.mem_filter, List.mem_range]
      refine ⟨(List.getElem?_eq_some_iff.1 hk).1, ?_⟩
      have e2 : idxS ss (U.getD k default) = (j : Int) := by rw [List.getD, hk]; exact idxS_nodup hs hj
      rw [e2, hasZ_iff.2 hid]
      simp
    · rintro ⟨k, hk, rfl⟩
      rw [List.mem_filter, List.mem_range, Bool.and_eq_true, decide_eq_true_iff, hasZ_iff] at hk
      obtain ⟨k1, k2, k3⟩ := hk
      rw [idxS_mem] at k2
      obtain ⟨j, j1, j2, _⟩ := idxS_at k2
      refine ⟨_, k3, ?_⟩
      rw [j1, Int.toNat_natCast, List.getD, j2]
      show idxS U (U.getD k default) = _
      exact idxS_nodup hU (by rw [List.getD, List.getElem?_eq_getElem k1]; rfl)
  have hn1 : (mvI U ss ids).Nodup := by
    unfold mvI
    rw [(List.mergeSort_perm _ _).nodup_iff, List.nodup_iff_pairwise_ne, List.pairwise_map]
    refine h2.imp_of_mem fun {a b} ha hb hlt e => ?_
    obtain ⟨j, k, s, rfl, hj, hk, e1⟩ := hget a ha
    obtain ⟨j', k', s', rfl, hj', hk', e1'⟩ := hget b hb
    rw [e1, e1'] at e
    have : k = k' := by omega
    subst this
    rw [hk] at hk'
    injection hk' with hk'
    subst hk'
    have := nodup_at hs hj hj'
    omega
  have hp2 : (mvR U ss ids).Pairwise (· < ·) := by
    unfold mvR
    rw [List.pairwise_map]
    exact (List.pairwise_lt_range.filter _).imp fun h => by omega
  have hn2 : (mvR U ss ids).Nodup := by rw [List.nodup_iff_pairwise_ne]; exact hp2.imp fun h => by omega
  refine List.Perm.eq_of_pairwise (le := fun a b : Int => decide (a ≤ b) = true) (fun a b _ _ h1 h2 => ?_) ?_ (hp2.imp fun h => by simp; omega) ((List.perm_ext_iff_of_nodup hn1 hn2).2 hmem)
  · simp only [decide_eq_true_eq] at h1 h2; omega
  · unfold mvI
    exact List.pairwise_mergeSort (fun a b c h1 h2 => by simp only [decide_eq_true_eq] at *; omega) (fun a b => by simp; omega) _
/-- Several traces as one. -/
abbrev TrS := List ByteArray × List Evt
def namesT (ls : List TrS) : List ByteArray := unionS (ls.flatMap fun t => t.1)
def mergeE (ls : List TrS) : List (Nat × Evt) := mergeS (fun e : Evt => e.time) (sumLn (ls.map fun t => t.2)) (ls.map fun t => t.2)
def mergeT (ls : List TrS) : TrS := (namesT ls, (mergeE ls).map fun p => ⟨p.2.time, mvR (namesT ls) (ls.getD p.1 default).1 p.2.ids⟩)
def mayAll (ls : List TrS) : Bool := ls.all fun t => mayT t.1 t.2
end Go.Proofs.Ytgmbicjcfhmcdaa
