/- The names of a list, sorted, each once. Plain lemmas. -/
import Derived.Test.YtaomehlhopiblaaApp
import Derived.Sort.KeysCollected
import Derived.Lib.SlicesCompact
import Derived.Test.YtaomehlhopiblaaPileP
import Derived.Test.YtaomehlhopiblaaJoin
import Derived.Test.YtaomehlhopiblaaPathsP
set_option linter.unusedVariables false
set_option linter.unusedSimpArgs false
/-! The names of a list, sorted, each once. Plain lemmas. -/
namespace Go.Proofs.Ytaomehlhopiblaa
end Go.Proofs.Ytaomehlhopiblaa
/-! A list that may be, its root's kids and their parts. Plain lemmas. -/
namespace Go.Proofs.Ytaomehlhopiblaa
theorem push_valid {st st' : List Tr} {n : Nd} (h : pushS st n = some st') (hv : ∀ t ∈ st, validT t = true) : ∀ t ∈ st', validT t = true := by
  obtain ⟨hf, ⟨hk, rfl⟩ | ⟨a, s0, rfl, hk, hr, rfl⟩ | ⟨b, a, s0, rfl, hk, hr, hr2, rfl⟩⟩ := pushS_some h
  · intro t ht
    rcases List.mem_cons.1 ht with rfl | ht
    · exact (fields_len n [] n.kids (by rw [hk])).trans hf
    · exact hv t ht
  · intro t ht
    rcases List.mem_cons.1 ht with rfl | ht
    · have h1 : fieldsS { n with kids := [0] } = true := (fields_len n [0] n.kids (by rw [hk]; rfl)).trans hf
      simp [validT, h1, hr, hv a (by simp)]
    · exact hv t (by simp [ht])
  · intro t ht
    rcases List.mem_cons.1 ht with rfl | ht
    · have h1 : fieldsS { n with kids := [0, 0] } = true := (fields_len n [0, 0] n.kids (by rw [hk]; rfl)).trans hf
      simp [validT, h1, hr, hr2, hv a (by simp), hv b (by simp)]
    · exact hv t (by simp [ht])
theorem parse_valid : ∀ (l : List Nd) (st st' : List Tr), l.foldlM pushS st = some st' → (∀ t ∈ st, validT t = true) → ∀ t ∈ st', validT t = true
  | [], st, st', h, hv => by
    simp only [List.foldlM_nil] at h
    injection h with h
    subst h
    exact hv
  | n :: l, st, st', h, hv => by
    rw [List.foldlM_cons] at h
    cases h1 : pushS st n with
    | none => rw [h1] at h; cases h
    | some s1 => rw [h1] at h; exact parse_valid l s1 st' h (push_valid h1 hv)
theorem tree_valid {l : List Nd} {t : Tr} (h : treeS l = some t) : validT t = true := parse_valid l [] [t] (tree_parse h) (by simp) t (by simp)
theorem sub_valid : ∀ (t : Tr) (i : Nat), validT t = true → validT (t.sub i) = true
  | .leaf _, _, h => h
  | .un h a, i, hv => by
    unfold Tr.sub
    split
    · simp only [validT, Bool.and_eq_true] at hv
      exact sub_valid a i hv.2
    · exact hv
  | .bin h a b, i, hv => by
    unfold Tr.sub
    split
    · simp only [validT, Bool.and_eq_true] at hv
      exact sub_valid a i hv.1.2
    · split
      · simp only [validT, Bool.and_eq_true] at hv
        exact sub_valid b _ hv.2
      · exact hv
end Go.Proofs.Ytaomehlhopiblaa
/-! The stack of paths.own: plain lemmas. -/
namespace Go.Proofs.Ytaomehlhopiblaa
abbrev TO := Tr × Nat
abbrev zs (xs : List Nat) : List Int := xs.map fun x : Nat => (x : Int)
def placeT (p : TO) : Nat := p.2 + p.1.size - 1
def backT (p : TO) : List Nat := (ownT p.1 p.2).reverse
def PlacedT (l : List Nd) (p : TO) : Prop := regV p.1 ∧ ∃ pre post, l = pre ++ p.1.flat p.2 ++ post ∧ pre.length = p.2
def sumT (st : List TO) : Nat := (st.map fun p => p.1.size).sum
theorem own_step {l : List Nd} {p : TO} (h : PlacedT l p) : ∃ nd subs, l[placeT p]? = some nd ∧ (nd.kind = 19 → subs = []) ∧ (nd.kind ≠ 19 → nd.kids = zs (subs.map placeT)) ∧ (∀ q ∈ subs, PlacedT l q) ∧ backT p = placeT p :: (subs.reverse.map backT).flatten ∧ sumT subs < p.1.size := by
  obtain ⟨t, o⟩ := p
  obtain ⟨hv, pre, post, hl, hp⟩ := h
  dsimp only at hv hl hp
  cases t with
  | leaf h =>
    refine ⟨{ h with kids := [] }, [], ?_, fun _ => rfl, fun _ => rfl, by simp, by simp [backT, ownT, placeT, Tr.size], by simp [sumT, Tr.size]⟩
    rw [hl, Tr.flat, List.append_assoc, List.getElem?_append_right (by simp [placeT, Tr.size]; omega)]
    simp [hp, placeT, Tr.size]
  | un h a =>
    have hroot : l[placeT (.un h a, o)]? = some { h with kids := [((o + a.size : Nat) : Int) - 1] } := by
      rw [hl, Tr.flat, List.append_assoc, List.append_assoc, ← List.append_assoc pre, List.getElem?_append_right (by simp [Tr.length_flat, placeT, Tr.size]; omega)]
      simp [hp, Tr.length_flat, placeT, Tr.size]
    by_cases h19 : h.kind = 19
    · refine ⟨_, [], hroot, fun _ => rfl, fun x => absurd h19 x, by simp, by simp [backT, ownT, placeT, Tr.size, h19], by simp [sumT, Tr.size]⟩
    · refine ⟨_, [(a, o)], hroot, fun x => absurd x h19, fun _ => ?_, ?_, by simp [backT, ownT, placeT, Tr.size, h19], by simp [sumT, Tr.size]⟩
      · have := a.size_pos
        simp only [zs, placeT, List.map_cons, List.map_nil, List.cons.injEq, and_true]
        omega
      · intro q hq
        simp at hq
        subst hq
        rcases hv with hv | ⟨_, hv⟩
        · exact absurd hv h19
        · exact ⟨hv, pre, { h with kids := [((o + a.size : Nat) : Int) - 1] } :: post, by rw [hl, Tr.flat]; simp, hp⟩
  | bin h a b =>
    obtain ⟨hk, hva, hvb⟩ := hv
    have hroot : l[placeT (.bin h a b, o)]? = some { h with kids := [((o + a.size : Nat) : Int) - 1, ((o + a.size + b.size : Nat) : Int) - 1] } := by
      rw [hl, Tr.flat, List.append_assoc, List.append_assoc, List.append_assoc, ← List.append_assoc (a.flat o), ← List.append_assoc pre, List.getElem?_append_right (by simp [Tr.length_flat, placeT, Tr.size]; omega)]
      simp [hp, Tr.length_flat, placeT, Tr.size]
    have h19 : h.kind ≠ 19 := by rcases hk with hk | hk <;> omega
    refine ⟨_, [(a, o), (b, o + a.size)], hroot, fun x => absurd x h19, fun _ => ?_, ?_, by simp [backT, ownT, placeT, Tr.size, Nat.add_assoc]; omega, by simp [sumT, Tr.size]⟩
    · have := a.size_pos
      have := b.size_pos
      simp only [zs, placeT, List.map_cons, List.map_nil, List.cons.injEq, and_true]
      omega
    · intro q hq
      simp at hq
      rcases hq with rfl | rfl
      · exact ⟨hva, pre, b.flat (o + a.size) ++ { h with kids := [((o + a.size : Nat) : Int) - 1, ((o + a.size + b.size : Nat) : Int) - 1] } :: post, by rw [hl, Tr.flat]; simp, hp⟩
      · exact ⟨hvb, pre ++ a.flat o, { h with kids := [((o + a.size : Nat) : Int) - 1, ((o + a.size + b.size : Nat) : Int) - 1] } :: post, by rw [hl, Tr.flat]; simp, by simp [hp, Tr.length_flat]⟩
/-- The stack: what was taken off, and what is left to take off. -/
def StackT (l : List Nd) (T : Tr) (out : List Nat) (st : List TO) : Prop := out ++ (st.map backT).flatten = (ownT T 0).reverse ∧ (∀ p ∈ st, PlacedT l p) ∧ out.length + sumT st ≤ T.size
theorem stack_start {l : List Nd} {T : Tr} (hl : l = T.flat 0) (hv : regV T) : StackT l T [] [(T, 0)] := by
  refine ⟨by simp [backT], fun p hp => ?_, by simp [sumT]⟩
  simp at hp
  subst hp
  exact ⟨hv, [], [], by simpa using hl, rfl⟩
theorem stack_step {l : List Nd} {T : Tr} {out : List Nat} {p : TO} {st : List TO} (h : StackT l T out (p :: st)) :
    ∃ nd subs, l[placeT p]? = some nd ∧ (nd.kind = 19 → subs = []) ∧ (nd.kind ≠ 19 → nd.kids = zs (subs.map placeT)) ∧ StackT l T (out ++ [placeT p]) (subs.reverse ++ st) ∧ sumT (subs.reverse ++ st) < sumT (p :: st) := by
  obtain ⟨h1, h2, h3⟩ := h
  obtain ⟨nd, subs, e1, e2, e3, e4, e5, e6⟩ := own_step (h2 p (by simp))
  have hs : sumT (subs.reverse ++ st) = sumT subs + sumT st := by simp [sumT]
  have hs2 : sumT (p :: st) = p.1.size + sumT st := by simp [sumT]
  refine ⟨nd, subs, e1, e2, e3, ⟨?_, ?_, ?_⟩, by omega⟩
  · rw [← h1, List.map_cons, List.flatten_cons, e5]
    simp
  · intro q hq
    simp at hq
    rcases hq with hq | hq
    · exact e4 q hq
    · exact h2 q (by simp [hq])
  · simp only [List.length_append, List.length_singleton]; omega
theorem stack_len {st : List TO} : st.length ≤ sumT st := by
  induction st with
  | nil => simp [sumT]
  | cons p st ih => have := p.1.size_pos; simp [sumT] at ih ⊢; omega
theorem stack_end {l : List Nd} {T : Tr} {out : List Nat} (h : StackT l T out []) : out = (ownT T 0).reverse := by simpa using h.1
/-- Sorted, what was taken off is the own nodes' list. -/
theorem sort_own (T : Tr) : ((zs (ownT T 0).reverse).mergeSort fun x y => decide (x ≤ y)) = zs (ownT T 0) := by
  have tr : ∀ a b c : Int, decide (a ≤ b) = true → decide (b ≤ c) = true → decide (a ≤ c) = true := fun a b c h1 h2 => by simp only [decide_eq_true_eq] at *; omega
  have tt : ∀ a b : Int, (decide (a ≤ b) || decide (b ≤ a)) = true := fun a b => by simp only [Bool.or_eq_true, decide_eq_true_eq]; omega
  refine List.Perm.eq_of_pairwise (le := fun a b => decide (a ≤ b) = true) (fun a b _ _ h1 h2 => by simp only [decide_eq_true_eq] at h1 h2; omega) (List.pairwise_mergeSort tr tt _) ?_ ?_
  · unfold zs
    rw [List.pairwise_map]
    exact (own_sorted T 0).imp fun {a b} h => by simp only [decide_eq_true_eq]; omega
  · refine (List.mergeSort_perm _ _).trans ?_
    unfold zs
    rw [List.map_reverse]
    exact List.reverse_perm _
theorem arity_of {h : Nd} {ks : List Int} (hf : fieldsS { h with kids := ks } = true) (hr : 18 ≤ h.kind) : (ks.length = 0 → h.kind = 18) ∧ (ks.length = 1 → h.kind = 19 ∨ h.kind = 22) ∧ (ks.length = 2 → h.kind = 20 ∨ h.kind = 21) := by
  simp only [fieldsS, Bool.and_eq_true, decide_eq_true_eq] at hf
  have ha := hf.2
  unfold arityS at ha
  split at ha
  · refine ⟨fun _ => by omega, fun e => by omega, fun e => by omega⟩
  · split at ha
    · refine ⟨fun _ => by omega, fun e => by omega, fun e => by omega⟩
    · split at ha
      · refine ⟨fun _ => by omega, fun e => by omega, fun e => by omega⟩
      · refine ⟨fun _ => by omega, fun e => by omega, fun e => by omega⟩
/-- A regular expression that may be has its shape. -/
theorem regV_of : ∀ {t : Tr}, validT t = true → regS t.root.kind = true → regV t
  | .leaf h, hv, hr => by
    simp only [regS, Tr.root] at hr
    exact (arity_of hv (of_decide_eq_true hr)).1 rfl
  | .un h a, hv, hr => by
    simp only [regS, Tr.root] at hr
    simp only [validT, Bool.and_eq_true, beq_iff_eq] at hv
    obtain ⟨⟨hf, hw⟩, ha⟩ := hv
    rcases (arity_of hf (of_decide_eq_true hr)).2.1 rfl with h1 | h1
    · exact .inl h1
    · refine .inr ⟨h1, regV_of ha ?_⟩
      rw [hw]; simp [wantsS, h1]
  | .bin h a b, hv, hr => by
    simp only [regS, Tr.root] at hr
    simp only [validT, Bool.and_eq_true, beq_iff_eq] at hv
    obtain ⟨⟨⟨⟨hf, hwa⟩, hwb⟩, ha⟩, hb⟩ := hv
    have h1 := (arity_of hf (of_decide_eq_true hr)).2.2 rfl
    refine ⟨h1, regV_of ha ?_, regV_of hb ?_⟩
    · rw [hwa]; rcases h1 with h1 | h1 <;> simp [wantsS, h1]
    · rw [hwb]; rcases h1 with h1 | h1 <;> simp [wantsS, h1]
/-- The own nodes of a list that is a regular expression. -/
def ownS (l : List Nd) : List Nat := match treeS l with | some t => if regS t.root.kind then ownT t 0 else [] | none => []
theorem ownS_no {l : List Nd} (h : regL l = false) : ownS l = [] := by
  unfold regL at h
  unfold ownS
  cases ht : treeS l with
  | none => rfl
  | some t => rw [ht] at h; simp only at h ⊢; rw [h]; rfl
theorem ownS_yes {l : List Nd} (h : regL l = true) : ∃ t, treeS l = some t ∧ regS t.root.kind = true ∧ ownS l = ownT t 0 := by
  unfold regL at h
  unfold ownS
  cases ht : treeS l with
  | none => rw [ht] at h; cases h
  | some t => rw [ht] at h; exact ⟨t, rfl, h, by simp only; rw [if_pos h]⟩
end Go.Proofs.Ytaomehlhopiblaa
