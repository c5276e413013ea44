/- One pass: the same place by place: plain. -/
import Derived.Test.YtaomehlhopiblaaOnlT
set_option linter.unusedVariables false
set_option linter.unusedSimpArgs false
/-! One pass: the same place by place: plain. -/
namespace Go.Proofs.Ytaomehlhopiblaa
/-- What is there while the places of a formula are gone through: truth by places, the atoms' functions so far, windows by places. -/
structure StM where
  tr : Nat → Fn
  ah : List Fn
  win : Nat → Win
def updT (tr : Nat → Fn) (i : Nat) (f : Fn) : Nat → Fn := fun j => if j = i then f else tr j
theorem updT_at (tr : Nat → Fn) (i : Nat) (f : Fn) : updT tr i f i = f := if_pos rfl
theorem updT_ne {tr : Nat → Fn} {i j : Nat} {f : Fn} (h : j ≠ i) : updT tr i f j = tr j := if_neg h
/-- The places of the formulas of a regular expression's tests. -/
def partsP : Tr → Nat → List Nat
  | .leaf _, _ => []
  | .un h a, o => if h.kind = 19 then [o + a.size - 1] else partsP a o
  | .bin _ a b, o => partsP a o ++ partsP b (o + a.size)
/-- A node at place i. -/
def nodeM (m d : Nat) (prop : ByteArray → Bool) (u : Tr) (i : Nat) (s : StM) : StM := match u with
  | .leaf h => if h.kind = 18 then s else ⟨updT s.tr i fun _ => if h.kind = 1 then true else if h.kind = 3 then prop h.name else false, s.ah, s.win⟩
  | .un h a =>
    if h.kind = 4 then ⟨updT s.tr i fun x => !s.tr (i - 1) x, s.ah, s.win⟩
    else if h.kind = 16 then ⟨updT s.tr i (backF h a ((partsP a (i - a.size)).map s.tr) (shiftW h d s.ah (s.win i))), s.ah, updW s.win i (backV m a ((partsP a (i - a.size)).map s.tr) (shiftW h d s.ah (s.win i)))⟩
    else if h.kind = 17 then ⟨updT s.tr i (foreF h a ((partsP a (i - a.size)).map s.tr) s.ah.length), s.ah ++ aheadL h a ((partsP a (i - a.size)).map s.tr) s.ah.length d, s.win⟩
    else s
  | .bin h a b => if h.kind = 5 then ⟨updT s.tr i fun x => s.tr (i - 1 - b.size) x && s.tr (i - 1) x, s.ah, s.win⟩
    else if h.kind = 6 then ⟨updT s.tr i fun x => s.tr (i - 1 - b.size) x || s.tr (i - 1) x, s.ah, s.win⟩ else s
/-- The first k places of a tree, from place o on. -/
def runM (m d : Nat) (prop : ByteArray → Bool) (u : Tr) (o : Nat) : Nat → StM → StM
  | 0, s => s
  | k + 1, s => nodeM m d prop (u.sub k) (o + k) (runM m d prop u o k s)
theorem node_tr (m d : Nat) (prop : ByteArray → Bool) (u : Tr) (i : Nat) (s : StM) (j : Nat) (h : j ≠ i) : (nodeM m d prop u i s).tr j = s.tr j := by
  cases u with
  | leaf hd =>
    unfold nodeM
    dsimp only
    split
    · rfl
    · exact updT_ne h
  | un hd a =>
    unfold nodeM
    dsimp only
    split
    · exact updT_ne h
    · split
      · exact updT_ne h
      · split
        · exact updT_ne h
        · rfl
  | bin hd a b =>
    unfold nodeM
    dsimp only
    split
    · exact updT_ne h
    · split
      · exact updT_ne h
      · rfl
theorem run_tr (m d : Nat) (prop : ByteArray → Bool) (u : Tr) (o : Nat) (s : StM) : ∀ (k j : Nat), j < o ∨ o + k ≤ j → (runM m d prop u o k s).tr j = s.tr j
  | 0, j, _ => rfl
  | k + 1, j, h => by
    unfold runM
    rw [node_tr m d prop _ _ _ j (by omega), run_tr m d prop u o s k j (by omega)]
theorem run_sub (m d : Nat) (prop : ByteArray → Bool) (u v : Tr) (o k0 : Nat) (s : StM) : ∀ k, (∀ j, j < k → u.sub (k0 + j) = v.sub j) → runM m d prop u o (k0 + k) s = runM m d prop v (o + k0) k (runM m d prop u o k0 s)
  | 0, _ => rfl
  | k + 1, h => by
    rw [← Nat.add_assoc]
    unfold runM
    rw [run_sub m d prop u v o k0 s k fun j hj => h j (by omega), h k (by omega), Nat.add_assoc]
theorem parts_range : ∀ (t : Tr) (o : Nat), ∀ j ∈ partsP t o, o ≤ j ∧ j < o + t.size
  | .leaf _, o, j, h => by cases h
  | .un h a, o, j, hj => by
    have hsz : (Tr.un h a).size = a.size + 1 := rfl
    have := a.size_pos
    unfold partsP at hj
    split at hj
    · simp at hj; omega
    · have := parts_range a o j hj; omega
  | .bin h a b, o, j, hj => by
    have hsz : (Tr.bin h a b).size = a.size + b.size + 1 := rfl
    unfold partsP at hj
    rcases List.mem_append.1 hj with hj | hj
    · have := parts_range a o j hj; omega
    · have := parts_range b _ j hj; omega
/-- The tests' formulas lie just below the tests. -/
theorem parts_tests : ∀ (t : Tr) (o : Nat), partsP t o = (testsL t o).map (· - 1)
  | .leaf _, _ => rfl
  | .un h a, o => by
    unfold partsP testsL
    split
    · rfl
    · exact parts_tests a o
  | .bin _ a b, o => by
    unfold partsP testsL
    rw [List.map_append, parts_tests a o, parts_tests b _]
/-- Gone through place by place, a tree gives what stF says. -/
theorem run_stF (m d : Nat) (prop : ByteArray → Bool) : ∀ (u : Tr) (f : Bool), Pl f u → ∀ (o : Nat) (s : StM),
    (runM m d prop u o u.size s).ah = (stF m d prop u o ⟨s.ah, s.win⟩).2.ah ∧ (runM m d prop u o u.size s).win = (stF m d prop u o ⟨s.ah, s.win⟩).2.win ∧
    (f = true → (runM m d prop u o u.size s).tr (o + u.size - 1) = (stF m d prop u o ⟨s.ah, s.win⟩).1.1) ∧
    (f = false → (partsP u o).map (runM m d prop u o u.size s).tr = (stF m d prop u o ⟨s.ah, s.win⟩).1.2)
  | .leaf h, f, hf, o, s => by
    have h0 : runM m d prop (.leaf h) o (Tr.leaf h).size s = nodeM m d prop (.leaf h) (o + 0) s := rfl
    rw [h0, Nat.add_zero]
    cases f with
    | false =>
      have hk : h.kind = 18 := hf
      unfold nodeM
      dsimp only
      rw [if_pos hk]
      exact ⟨rfl, rfl, fun e => (by cases e), fun _ => rfl⟩
    | true =>
      have hk : h.kind ≠ 18 := by rcases hf with k | k | k <;> omega
      unfold nodeM
      dsimp only
      rw [if_neg hk]
      exact ⟨rfl, rfl, fun _ => updT_at _ _ _, fun e => (by cases e)⟩
  | .un h a, f, hf, o, s => by
    have hsz : (Tr.un h a).size = a.size + 1 := rfl
    have hpos := a.size_pos
    have hsub : ∀ j, j < a.size → (Tr.un h a).sub (0 + j) = a.sub j := fun j hj => by
      rw [Nat.zero_add]
      show (if j < a.size then a.sub j else .un h a) = _
      rw [if_pos hj]
    have hroot : (Tr.un h a).sub a.size = .un h a := by
      show (if a.size < a.size then a.sub a.size else .un h a) = _
      rw [if_neg (by omega)]
    have hrun : runM m d prop (.un h a) o (Tr.un h a).size s = nodeM m d prop (.un h a) (o + a.size) (runM m d prop a o a.size s) := by
      rw [hsz]
      have := run_sub m d prop (.un h a) a o 0 s a.size hsub
      rw [Nat.zero_add] at this
      show nodeM m d prop ((Tr.un h a).sub a.size) (o + a.size) (runM m d prop (.un h a) o a.size s) = _
      rw [hroot, this]; rfl
    rw [hrun]
    obtain ⟨q, hq⟩ : ∃ q, runM m d prop a o a.size s = q := ⟨_, rfl⟩
    obtain ⟨r, hr⟩ : ∃ r, stF m d prop a o ⟨s.ah, s.win⟩ = r := ⟨_, rfl⟩
    have IH := fun g hg => run_stF m d prop a g hg o s
    rw [hq, hr] at IH
    rw [hq, stF_un m d prop h a o ⟨s.ah, s.win⟩ r hr]
    have hl : o + (Tr.un h a).size - 1 = o + a.size := by omega
    have hsb : o + a.size - a.size = o := by omega
    unfold nodeM
    dsimp only
    rw [hl, hsb]
    cases f with
    | false =>
      rcases hf with ⟨k, hp⟩ | ⟨k, hp⟩
      · obtain ⟨i1, i2, i3, _⟩ := IH true hp
        rw [if_neg (by omega), if_neg (by omega), if_neg (by omega), if_neg (by omega), if_pos k]
        refine ⟨i1, i2, fun e => (by cases e), fun _ => ?_⟩
        unfold partsP
        rw [if_pos k]
        show [q.tr (o + a.size - 1)] = [r.1.1]
        rw [i3 rfl]
      · obtain ⟨i1, i2, _, i4⟩ := IH false hp
        rw [if_neg (by omega), if_neg (by omega), if_neg (by omega), if_neg (by omega), if_neg (by omega), if_neg (by omega), if_neg (by omega)]
        refine ⟨i1, i2, fun e => (by cases e), fun _ => ?_⟩
        unfold partsP
        rw [if_neg (by omega)]
        exact i4 rfl
    | true =>
      rcases hf with ⟨k, hp⟩ | ⟨k, _, hp⟩
      · obtain ⟨i1, i2, i3, _⟩ := IH true hp
        rw [if_pos k, if_pos k]
        refine ⟨i1, i2, fun _ => ?_, fun e => (by cases e)⟩
        show updT q.tr (o + a.size) _ (o + a.size) = _
        rw [updT_at, i3 rfl]
      · obtain ⟨i1, i2, _, i4⟩ := IH false hp
        rw [i4 rfl, i1, i2]
        rcases k with k | k
        · rw [if_neg (by omega), if_pos k, if_neg (by omega), if_neg (by omega), if_pos k]
          exact ⟨rfl, rfl, fun _ => updT_at _ _ _, fun e => (by cases e)⟩
        · rw [if_neg (by omega), if_neg (by omega), if_pos k, if_neg (by omega), if_neg (by omega), if_neg (by omega), if_pos k]
          exact ⟨rfl, rfl, fun _ => updT_at _ _ _, fun e => (by cases e)⟩
  | .bin h a b, f, hf, o, s => by
    have hsz : (Tr.bin h a b).size = a.size + b.size + 1 := rfl
    have hpa := a.size_pos
    have hpb := b.size_pos
    have hsub1 : ∀ j, j < a.size → (Tr.bin h a b).sub (0 + j) = a.sub j := fun j hj => by
      rw [Nat.zero_add]
      show (if j < a.size then a.sub j else if j < a.size + b.size then b.sub (j - a.size) else .bin h a b) = _
      rw [if_pos hj]
    have hsub2 : ∀ j, j < b.size → (Tr.bin h a b).sub (a.size + j) = b.sub j := fun j hj => by
      show (if a.size + j < a.size then a.sub (a.size + j) else if a.size + j < a.size + b.size then b.sub (a.size + j - a.size) else .bin h a b) = _
      rw [if_neg (by omega), if_pos (by omega), Nat.add_sub_cancel_left]
    have hroot : (Tr.bin h a b).sub (a.size + b.size) = .bin h a b := by
      show (if a.size + b.size < a.size then a.sub (a.size + b.size) else if a.size + b.size < a.size + b.size then b.sub (a.size + b.size - a.size) else .bin h a b) = _
      rw [if_neg (by omega), if_neg (by omega)]
    have hrun : runM m d prop (.bin h a b) o (Tr.bin h a b).size s = nodeM m d prop (.bin h a b) (o + (a.size + b.size)) (runM m d prop b (o + a.size) b.size (runM m d prop a o a.size s)) := by
      rw [hsz]
      have h1 := run_sub m d prop (.bin h a b) a o 0 s a.size hsub1
      rw [Nat.zero_add] at h1
      have h2 := run_sub m d prop (.bin h a b) b o a.size s b.size hsub2
      show nodeM m d prop ((Tr.bin h a b).sub (a.size + b.size)) (o + (a.size + b.size)) (runM m d prop (.bin h a b) o (a.size + b.size) s) = _
      rw [hroot, h2, h1]; rfl
    rw [hrun]
    have ga : Pl f a := by cases f; exact hf.2.1; exact hf.2.1
    have gb : Pl f b := by cases f; exact hf.2.2; exact hf.2.2
    obtain ⟨i1, i2, i3, i4⟩ := run_stF m d prop a f ga o s
    obtain ⟨q, hq⟩ : ∃ q, runM m d prop a o a.size s = q := ⟨_, rfl⟩
    obtain ⟨r, hr⟩ : ∃ r, stF m d prop a o ⟨s.ah, s.win⟩ = r := ⟨_, rfl⟩
    rw [hq, hr] at i1 i2 i3 i4
    obtain ⟨j1, j2, j3, j4⟩ := run_stF m d prop b f gb (o + a.size) q
    have htr := fun j hj => run_tr m d prop b (o + a.size) q b.size j hj
    obtain ⟨q', hq'⟩ : ∃ q', runM m d prop b (o + a.size) b.size q = q' := ⟨_, rfl⟩
    rw [i1, i2] at j1 j2 j3 j4
    obtain ⟨r', hr'⟩ : ∃ r', stF m d prop b (o + a.size) r.2 = r' := ⟨_, rfl⟩
    have hr'' : stF m d prop b (o + a.size) ⟨r.2.ah, r.2.win⟩ = r' := hr'
    rw [hq', hr''] at j1 j2 j3 j4
    rw [hq'] at htr
    rw [hq, hq', stF_bin m d prop h a b o ⟨s.ah, s.win⟩ r r' hr hr']
    have hl : o + (Tr.bin h a b).size - 1 = o + (a.size + b.size) := by omega
    have e1 : o + (a.size + b.size) - 1 - b.size = o + a.size - 1 := by omega
    have e2 : o + (a.size + b.size) - 1 = o + a.size + b.size - 1 := by omega
    unfold nodeM
    dsimp only
    rw [hl, e1, e2]
    cases f with
    | false =>
      have hk : h.kind = 20 ∨ h.kind = 21 := hf.1
      rw [if_neg (by omega), if_neg (by omega)]
      refine ⟨j1, j2, fun e => (by cases e), fun _ => ?_⟩
      show (partsP a o ++ partsP b (o + a.size)).map q'.tr = _
      rw [List.map_append, j4 rfl, ← i4 rfl]
      congr 1
      refine List.map_congr_left fun j hj => ?_
      have := parts_range a o j hj
      exact htr j (by omega)
    | true =>
      have hta : q'.tr (o + a.size - 1) = r.1.1 := by rw [htr _ (by omega), i3 rfl]
      rcases hf.1 with k | k
      · rw [if_pos k]
        refine ⟨j1, j2, fun _ => ?_, fun e => (by cases e)⟩
        show updT q'.tr (o + (a.size + b.size)) _ (o + (a.size + b.size)) = _
        rw [updT_at, hta, j3 rfl]
        funext x
        rw [if_pos k]
      · rw [if_neg (by omega), if_pos k]
        refine ⟨j1, j2, fun _ => ?_, fun e => (by cases e)⟩
        show updT q'.tr (o + (a.size + b.size)) _ (o + (a.size + b.size)) = _
        rw [updT_at, hta, j3 rfl]
        funext x
        rw [if_neg (by omega), if_pos k]
end Go.Proofs.Ytaomehlhopiblaa
