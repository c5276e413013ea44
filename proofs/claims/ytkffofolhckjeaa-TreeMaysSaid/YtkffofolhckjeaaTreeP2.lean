/- The reference's way to tell whether a list may be: the stack of open nodes. Plain lemmas. -/
import Derived.Test.YtkffofolhckjeaaTreeP
namespace Go.Proofs.Ytkffofolhckjeaa
/-- The places of the open nodes, the bottom first. -/
def opens : List Tr → List Int
  | [] => []
  | t :: st => opens st ++ [(total (t :: st) : Int) - 1]
theorem length_opens : ∀ st, (opens st).length = st.length
  | [] => rfl
  | t :: st => by simp [opens, length_opens st]
theorem opens_drop : ∀ (st : List Tr) (i : Nat), opens (st.drop i) = (opens st).take (st.length - i)
  | [], i => by simp [opens]
  | t :: st, 0 => by rw [List.drop_zero, List.take_of_length_le]; rw [length_opens]; exact Nat.le_refl _
  | t :: st, i + 1 => by
    rw [List.drop_succ_cons, opens_drop st i, opens, List.length_cons, show st.length + 1 - (i + 1) = st.length - i by omega, List.take_append_of_le_length (by rw [length_opens]; omega)]
theorem opens_get (st : List Tr) (i : Nat) (h : i < st.length) : (opens st)[st.length - 1 - i]? = some ((total (st.drop i) : Int) - 1) := by
  obtain ⟨t, st', e⟩ : ∃ t st', st.drop i = t :: st' := by
    cases hd : st.drop i with
    | nil => have := congrArg List.length hd; simp at this; omega
    | cons t st' => exact ⟨t, st', rfl⟩
  have h1 := opens_drop st i
  rw [e, opens] at h1
  have h2 : ((opens st).take (st.length - i))[st.length - 1 - i]? = (opens st)[st.length - 1 - i]? := by
    rw [List.getElem?_take, if_pos (by omega)]
  rw [← h2, ← h1]
  have hl : st'.length = st.length - 1 - i := by have := congrArg List.length e; simp at this; omega
  rw [List.getElem?_append_right (by rw [length_opens]; omega), length_opens, hl, Nat.sub_self, e]
  rfl
/-- Fits the kid j what is open? -/
def okK (n : Nd) (st : List Tr) (j : Nat) : Prop :=
  n.kids[j]? = some ((total (st.drop (n.kids.length - 1 - j)) : Int) - 1) ∧ ∀ t, st[n.kids.length - 1 - j]? = some t → regS t.root.kind = wantsS n.kind
theorem push_short {n : Nd} {st : List Tr} (h : st.length < n.kids.length) : pushS st n = none := by
  unfold pushS
  split
  · split
    · rename_i hk; rw [hk] at h; simp at h
    · rename_i hk; rw [hk] at h; simp at h <;> omega
    · rename_i hk; rw [hk] at h; simp at h <;> omega
    · rfl
  · rfl
theorem push_all {n : Nd} {st : List Tr} (hf : fieldsS n = true) (hl : n.kids.length ≤ st.length) (h : ∀ j, j < n.kids.length → okK n st j) : ∃ t, pushS st n = some (t :: st.drop n.kids.length) := by
  have hk := fields_kids hf
  have ha := arity_le n.kind
  match hkids : n.kids, hk with
  | [], _ =>
    exact ⟨.leaf n, by unfold pushS; rw [if_pos hf, hkids]; rfl⟩
  | [k], _ =>
    rw [hkids] at hl
    match st, hl with
    | a :: st, _ =>
      have h0 := h 0 (by rw [hkids]; simp)
      unfold okK at h0
      rw [hkids] at h0
      simp at h0
      exact ⟨.un n a, by unfold pushS; rw [if_pos hf, hkids]; simp only; rw [if_pos ⟨h0.1, h0.2⟩]; rfl⟩
  | [k, k'], _ =>
    rw [hkids] at hl
    match st, hl with
    | [a], hl => simp at hl
    | b :: a :: st, _ =>
      have h0 := h 0 (by rw [hkids]; simp)
      have h1 := h 1 (by rw [hkids]; simp)
      unfold okK at h0 h1
      rw [hkids] at h0 h1
      simp at h0 h1
      exact ⟨.bin n a b, by unfold pushS; rw [if_pos hf, hkids]; simp only; rw [if_pos ⟨h1.1, h1.2, h0.1, h0.2⟩]; rfl⟩
  | _ :: _ :: _ :: _, hk => simp at hk; omega
theorem push_bad {n : Nd} {st : List Tr} {j : Nat} (hj : j < n.kids.length) (h : ¬ okK n st j) : pushS st n = none := by
  cases hp : pushS st n with
  | none => rfl
  | some st' =>
    exfalso
    obtain ⟨_, ⟨hk, _⟩ | ⟨a, s0, rfl, hk, hr, _⟩ | ⟨b, a, s0, rfl, hk, hb, ha, _⟩⟩ := pushS_some hp
    · rw [hk] at hj; simp at hj
    · rw [hk] at hj
      obtain rfl : j = 0 := by simp at hj; exact hj
      apply h
      unfold okK
      rw [hk]
      simp [hr]
    · rw [hk] at hj
      simp at hj
      apply h
      unfold okK
      rw [hk]
      obtain rfl | rfl : j = 0 ∨ j = 1 := by omega
      · simp [ha]
      · simp [hb]
end Go.Proofs.Ytkffofolhckjeaa
