/- What a regular expression reaches: plain definitions and lemmas, no program in sight. -/
import Derived.Test.YtaomehlhopiblaaTreeP
set_option linter.unusedVariables false
set_option linter.unusedSimpArgs false
namespace Go.Proofs.Ytaomehlhopiblaa
abbrev Mx := Nat → Nat → Bool
def prodM (n : Nat) (a b : Mx) : Mx := fun i j => (List.range n).any fun k => a i k && b k j
def orM (a b : Mx) : Mx := fun i j => a i j || b i j
def idM : Mx := fun i j => decide (i = j)
def pwM (n : Nat) (a : Mx) : Nat → Mx
  | 0 => idM
  | k + 1 => prodM n a (pwM n a k)
def reflM (a : Mx) : Mx := orM idM a
def starM (n : Nat) (a : Mx) : Mx := pwM n (reflM a) n
theorem prodM_iff {n : Nat} {a b : Mx} {i j : Nat} : prodM n a b i j = true ↔ ∃ k, k < n ∧ a i k = true ∧ b k j = true := by
  unfold prodM
  simp [List.any_eq_true]
theorem pw_zero {n : Nat} {a : Mx} {i j : Nat} : pwM n a 0 i j = true ↔ i = j := by simp [pwM, idM]
theorem pw_succ {n : Nat} {a : Mx} {k i j : Nat} : pwM n a (k + 1) i j = true ↔ ∃ m, m < n ∧ a i m = true ∧ pwM n a k m j = true := prodM_iff
theorem refl_iff {a : Mx} {i j : Nat} : reflM a i j = true ↔ i = j ∨ a i j = true := by simp [reflM, orM, idM]
/-- Ways go forwards. -/
def FwM (a : Mx) : Prop := ∀ i j, a i j = true → i ≤ j
/-! ### What a tree reaches -/
/-- The places of a regular expression's own nodes, rising. -/
def ownT : Tr → Nat → List Nat
  | .leaf _, o => [o]
  | .un h a, o => if h.kind = 19 then [o + a.size] else ownT a o ++ [o + a.size]
  | .bin _ a b, o => ownT a o ++ ownT b (o + a.size) ++ [o + a.size + b.size]
/-- How many tests. -/
def testsT : Tr → Nat
  | .leaf _ => 0
  | .un h a => if h.kind = 19 then 1 else testsT a
  | .bin _ a b => testsT a + testsT b
def stepM : Mx := fun i j => decide (i + 1 = j)
def testM (v : Nat → Nat → Bool) (k : Nat) : Mx := fun i j => decide (i = j) && v i k
/-- What a regular expression reaches: its tests are told from number k on. -/
def reachT (n : Nat) (v : Nat → Nat → Bool) : Tr → Nat → Mx
  | .leaf _, _ => stepM
  | .un h a, k => if h.kind = 19 then testM v k else starM n (reachT n v a k)
  | .bin h a b, k => if h.kind = 20 then orM (reachT n v a k) (reachT n v b (k + testsT a)) else prodM n (reachT n v a k) (reachT n v b (k + testsT a))
theorem step_fw : FwM stepM := fun i j h => by simp [stepM] at h; omega
theorem test_fw (v : Nat → Nat → Bool) (k : Nat) : FwM (testM v k) := fun i j h => by simp [testM] at h; omega
theorem pw_fw {n : Nat} {a : Mx} (hf : FwM a) : ∀ k, FwM (pwM n (reflM a) k)
  | 0, i, j, h => by have := pw_zero.1 h; omega
  | k + 1, i, j, h => by
    obtain ⟨m, _, h1, h2⟩ := pw_succ.1 h
    have h3 := pw_fw hf k m j h2
    rcases refl_iff.1 h1 with h4 | h4
    · omega
    · have := hf _ _ h4; omega
theorem reach_fw (n : Nat) (v : Nat → Nat → Bool) : ∀ (t : Tr) (k : Nat), FwM (reachT n v t k)
  | .leaf _, _ => step_fw
  | .un h a, k => by
    unfold reachT
    split
    · exact test_fw v k
    · exact pw_fw (reach_fw n v a k) n
  | .bin h a b, k => by
    unfold reachT
    have ha := reach_fw n v a k
    have hb := reach_fw n v b (k + testsT a)
    split
    · intro i j h
      simp only [orM, Bool.or_eq_true] at h
      exact h.elim (ha i j) (hb i j)
    · intro i j h
      obtain ⟨m, _, h1, h2⟩ := prodM_iff.1 h
      have := ha _ _ h1
      have := hb _ _ h2
      omega
/-! ### The entries of a tree's own nodes -/
theorem own_bounds : ∀ (t : Tr) (o p : Nat), p ∈ ownT t o → o ≤ p ∧ p < o + t.size
  | .leaf _, o, p, h => by simp [ownT] at h; simp [Tr.size]; omega
  | .un h a, o, p, hp => by
    have ih := own_bounds a o p
    unfold ownT at hp
    simp only [Tr.size]
    split at hp
    · simp at hp; omega
    · simp at hp
      rcases hp with h1 | h1
      · have := ih h1; omega
      · omega
  | .bin h a b, o, p, hp => by
    have ih := own_bounds a o p
    have ih2 := own_bounds b (o + a.size) p
    simp [ownT] at hp
    simp only [Tr.size]
    rcases hp with h1 | h1 | h1
    · have := ih h1; omega
    · have := ih2 h1; omega
    · omega
theorem own_sorted : ∀ (t : Tr) (o : Nat), (ownT t o).Pairwise (· < ·)
  | .leaf _, o => by simp [ownT]
  | .un h a, o => by
    unfold ownT
    split
    · simp
    · rw [List.pairwise_append]
      refine ⟨own_sorted a o, by simp, ?_⟩
      intro p hp q hq
      have := own_bounds a o p hp
      simp at hq
      omega
  | .bin h a b, o => by
    unfold ownT
    rw [List.pairwise_append, List.pairwise_append]
    refine ⟨⟨own_sorted a o, own_sorted b _, ?_⟩, by simp, ?_⟩
    · intro p hp q hq
      have := own_bounds a o p hp
      have := own_bounds b _ q hq
      omega
    · intro p hp q hq
      simp at hq hp
      rcases hp with hp | hp
      · have := own_bounds a o p hp; omega
      · have := own_bounds b _ p hp; omega
/-- A regular expression's shape. -/
def regV : Tr → Prop
  | .leaf h => h.kind = 18
  | .un h a => h.kind = 19 ∨ h.kind = 22 ∧ regV a
  | .bin h a b => (h.kind = 20 ∨ h.kind = 21) ∧ regV a ∧ regV b
/-- An own node: its place, whether it is a test, its table. -/
structure Ent where
  at_ : Nat
  test : Bool
  m : Mx
def resT (n : Nat) (v : Nat → Nat → Bool) : Tr → Nat → Nat → List Ent
  | .leaf h, o, k => [⟨o, false, reachT n v (.leaf h) k⟩]
  | .un h a, o, k => if h.kind = 19 then [⟨o + a.size, true, reachT n v (.un h a) k⟩] else resT n v a o k ++ [⟨o + a.size, false, reachT n v (.un h a) k⟩]
  | .bin h a b, o, k => resT n v a o k ++ resT n v b (o + a.size) (k + testsT a) ++ [⟨o + a.size + b.size, false, reachT n v (.bin h a b) k⟩]
theorem res_own (n : Nat) (v : Nat → Nat → Bool) : ∀ (t : Tr) (o k : Nat), (resT n v t o k).map Ent.at_ = ownT t o
  | .leaf _, _, _ => rfl
  | .un h a, o, k => by
    unfold resT ownT
    split
    · rfl
    · rw [List.map_append, res_own n v a]; rfl
  | .bin h a b, o, k => by
    unfold resT ownT
    rw [List.map_append, List.map_append, res_own n v a, res_own n v b]; rfl
theorem res_tests (n : Nat) (v : Nat → Nat → Bool) : ∀ (t : Tr) (o k : Nat), (resT n v t o k).countP Ent.test = testsT t
  | .leaf _, _, _ => rfl
  | .un h a, o, k => by
    unfold resT testsT
    split
    · rfl
    · rw [List.countP_append, res_tests n v a]; rfl
  | .bin h a b, o, k => by
    unfold resT testsT
    rw [List.countP_append, List.countP_append, res_tests n v a, res_tests n v b]; rfl
theorem res_last (n : Nat) (v : Nat → Nat → Bool) (t : Tr) (o k : Nat) : ∃ es e, resT n v t o k = es ++ [e] ∧ e.at_ + 1 = o + t.size ∧ e.m = reachT n v t k := by
  cases t with
  | leaf h => exact ⟨[], _, rfl, rfl, rfl⟩
  | un h a =>
    unfold resT
    split
    · exact ⟨[], _, rfl, by simp [Tr.size]; omega, rfl⟩
    · exact ⟨_, _, rfl, by simp [Tr.size]; omega, rfl⟩
  | bin h a b => exact ⟨_, _, rfl, by simp [Tr.size]; omega, rfl⟩
/-- What an own node's table is made of, of the nodes l, behind the entries es. -/
def EntOk (n : Nat) (v : Nat → Nat → Bool) (l : List Nd) (k : Nat) (es : List Ent) (e : Ent) : Prop :=
  ∃ nd, l[e.at_]? = some nd ∧ e.test = decide (nd.kind = 19) ∧
    ((nd.kind = 18 ∧ e.m = stepM) ∨ (nd.kind = 19 ∧ e.m = testM v (k + es.countP Ent.test)) ∨
     (nd.kind = 20 ∧ ∃ a b, a ∈ es ∧ b ∈ es ∧ nd.kids = [(a.at_ : Int), (b.at_ : Int)] ∧ e.m = orM a.m b.m) ∨
     (nd.kind = 21 ∧ ∃ a b, a ∈ es ∧ b ∈ es ∧ nd.kids = [(a.at_ : Int), (b.at_ : Int)] ∧ e.m = prodM n a.m b.m) ∨
     (nd.kind = 22 ∧ ∃ a, a ∈ es ∧ nd.kids = [(a.at_ : Int)] ∧ e.m = starM n a.m ∧ FwM a.m))
theorem EntOk.more {n : Nat} {v : Nat → Nat → Bool} {l : List Nd} {k : Nat} {es : List Ent} {e : Ent} (pre : List Ent) (k' : Nat) (h : EntOk n v l k es e) (hk : k = k' + pre.countP Ent.test) : EntOk n v l k' (pre ++ es) e := by
  obtain ⟨nd, h1, h2, h3⟩ := h
  refine ⟨nd, h1, h2, ?_⟩
  rcases h3 with h3 | ⟨h3, h4⟩ | ⟨h3, a, b, ha, hb, h4⟩ | ⟨h3, a, b, ha, hb, h4⟩ | ⟨h3, a, ha, h4⟩
  · exact .inl h3
  · exact .inr (.inl ⟨h3, by rw [h4, List.countP_append, hk, Nat.add_assoc]⟩)
  · exact .inr (.inr (.inl ⟨h3, a, b, by simp [ha], by simp [hb], h4⟩))
  · exact .inr (.inr (.inr (.inl ⟨h3, a, b, by simp [ha], by simp [hb], h4⟩)))
  · exact .inr (.inr (.inr (.inr ⟨h3, a, by simp [ha], h4⟩)))
/-- Each entry is made of those before it. -/
def AllOk (n : Nat) (v : Nat → Nat → Bool) (l : List Nd) (k : Nat) (es : List Ent) : Prop := ∀ es1 e es2, es = es1 ++ e :: es2 → EntOk n v l k es1 e
theorem AllOk.snoc {n : Nat} {v : Nat → Nat → Bool} {l : List Nd} {k : Nat} {es : List Ent} {e : Ent} (h : AllOk n v l k es) (he : EntOk n v l k es e) : AllOk n v l k (es ++ [e]) := by
  intro es1 x es2 h2
  rcases List.append_eq_append_iff.1 h2 with ⟨c, h3, h4⟩ | ⟨c, h3, h4⟩
  · cases c with
    | nil =>
      simp at h3 h4
      obtain ⟨rfl, rfl⟩ := h4
      rw [h3]; exact he
    | cons y c => simp at h4
  · cases c with
    | nil =>
      simp at h3 h4
      obtain ⟨rfl, rfl⟩ := h4
      rw [← h3]; exact he
    | cons y c =>
      injection h4 with h4 h5
      subst h4
      exact h es1 _ c h3
theorem AllOk.append {n : Nat} {v : Nat → Nat → Bool} {l : List Nd} {k k2 : Nat} {es es' : List Ent} (h : AllOk n v l k es) (h' : AllOk n v l k2 es') (hk : k2 = k + es.countP Ent.test) : AllOk n v l k (es ++ es') := by
  intro es1 x es2 h2
  rcases List.append_eq_append_iff.1 h2 with ⟨c, h3, h4⟩ | ⟨c, h3, h4⟩
  · subst h3
    exact (h' c x es2 h4).more es k hk
  · cases c with
    | nil =>
      simp at h3 h4
      rw [← h3]
      have := (h' [] x es2 (by rw [← h4]; rfl)).more es k hk
      simpa using this
    | cons y c =>
      injection h4 with h4 h5
      subst h4
      exact h es1 _ c h3
theorem res_ok (n : Nat) (v : Nat → Nat → Bool) : ∀ (t : Tr) (o k : Nat) (l pre post : List Nd), l = pre ++ t.flat o ++ post → pre.length = o → regV t → AllOk n v l k (resT n v t o k)
  | .leaf h, o, k, l, pre, post, hl, hp, hv => by
    intro es1 e es2 h2
    have : es1 = [] ∧ e = ⟨o, false, reachT n v (.leaf h) k⟩ := by
      cases es1 with
      | nil => simp [resT] at h2; exact ⟨rfl, h2.1.symm⟩
      | cons => simp [resT] at h2
    obtain ⟨rfl, rfl⟩ := this
    refine ⟨{ h with kids := [] }, ?_, ?_, .inl ⟨hv, rfl⟩⟩
    · rw [hl, Tr.flat, List.append_assoc, List.getElem?_append_right (by show pre.length ≤ o; omega)]
      simp [hp]
    · simp [show h.kind = 18 from hv]
  | .un h a, o, k, l, pre, post, hl, hp, hv => by
    have hroot : l[o + a.size]? = some { h with kids := [((o + a.size : Nat) : Int) - 1] } := by
      rw [hl, Tr.flat, List.append_assoc, List.append_assoc, ← List.append_assoc pre, List.getElem?_append_right (by simp [Tr.length_flat]; omega)]
      simp [hp, Tr.length_flat]
    unfold resT
    split
    · rename_i h19
      intro es1 e es2 h2
      have : es1 = [] ∧ e = ⟨o + a.size, true, reachT n v (.un h a) k⟩ := by
        cases es1 with
        | nil => simp at h2; exact ⟨rfl, h2.1.symm⟩
        | cons => simp at h2
      obtain ⟨rfl, rfl⟩ := this
      refine ⟨_, hroot, by simp [h19], .inr (.inl ⟨h19, ?_⟩)⟩
      simp [reachT, h19]
    · rename_i h19
      rcases hv with hv | ⟨hv, hva⟩
      · exact absurd hv h19
      · have ih := res_ok n v a o k l pre ({ h with kids := [((o + a.size : Nat) : Int) - 1] } :: post) (by rw [hl, Tr.flat]; simp) hp hva
        refine ih.snoc ⟨_, hroot, by simp [h19], .inr (.inr (.inr (.inr ⟨hv, ?_⟩)))⟩
        obtain ⟨es, e, h1, h2, h3⟩ := res_last n v a o k
        refine ⟨e, by rw [h1]; simp, ?_, ?_, ?_⟩
        · simp; omega
        · rw [h3]; simp [reachT, h19]
        · rw [h3]; exact reach_fw n v a k
  | .bin h a b, o, k, l, pre, post, hl, hp, hv => by
    have hroot : l[o + a.size + b.size]? = some { h with kids := [((o + a.size : Nat) : Int) - 1, ((o + a.size + b.size : Nat) : Int) - 1] } := by
      rw [hl, Tr.flat, List.append_assoc, List.append_assoc, List.append_assoc, ← List.append_assoc (a.flat o), ← List.append_assoc pre, List.getElem?_append_right (by simp [Tr.length_flat]; omega)]
      simp [hp, Tr.length_flat, Nat.add_assoc]
    obtain ⟨hk, hva, hvb⟩ := hv
    have iha := res_ok n v a o k l pre (b.flat (o + a.size) ++ { h with kids := [((o + a.size : Nat) : Int) - 1, ((o + a.size + b.size : Nat) : Int) - 1] } :: post) (by rw [hl, Tr.flat]; simp) hp hva
    have ihb := res_ok n v b (o + a.size) (k + testsT a) l (pre ++ a.flat o) ({ h with kids := [((o + a.size : Nat) : Int) - 1, ((o + a.size + b.size : Nat) : Int) - 1] } :: post) (by rw [hl, Tr.flat]; simp) (by simp [hp, Tr.length_flat]) hvb
    unfold resT
    refine (iha.append ihb (by rw [res_tests])).snoc ⟨_, hroot, ?_, ?_⟩
    · rcases hk with hk | hk <;> simp [hk]
    · obtain ⟨es, e, h1, h2, h3⟩ := res_last n v a o k
      obtain ⟨es', e', h1', h2', h3'⟩ := res_last n v b (o + a.size) (k + testsT a)
      have he : e ∈ resT n v a o k ++ resT n v b (o + a.size) (k + testsT a) := by rw [h1]; simp
      have he' : e' ∈ resT n v a o k ++ resT n v b (o + a.size) (k + testsT a) := by rw [h1']; simp
      have hks : [((o + a.size : Nat) : Int) - 1, ((o + a.size + b.size : Nat) : Int) - 1] = [(e.at_ : Int), (e'.at_ : Int)] := by
        simp only [List.cons.injEq, and_true]
        omega
      rcases hk with hk | hk
      · refine .inr (.inr (.inl ⟨hk, e, e', he, he', hks, ?_⟩))
        simp [reachT, hk, h3, h3']
      · refine .inr (.inr (.inr (.inl ⟨hk, e, e', he, he', hks, ?_⟩)))
        simp [reachT, hk, h3, h3']
/-! ### The own nodes as the document tells them: within no test -/
def insT : Tr → Nat → Bool
  | .leaf _, _ => false
  | .un h a, i => decide (i < a.size) && (decide (h.kind = 19) || insT a i)
  | .bin _ a b, i => if i < a.size then insT a i else if i < a.size + b.size then insT b (i - a.size) else false
theorem own_filter : ∀ (t : Tr) (o : Nat), ownT t o = ((List.range t.size).filter fun i => !insT t i).map (o + ·)
  | .leaf _, o => by simp [ownT, Tr.size, insT]
  | .un h a, o => by
    rw [show (Tr.un h a).size = a.size + 1 from rfl, List.range_succ, List.filter_append, List.map_append]
    have hl : (([a.size].filter fun i => !insT (.un h a) i).map (o + ·)) = [o + a.size] := by simp [insT]
    rw [hl]
    unfold ownT
    split
    · rename_i h19
      have : (List.range a.size).filter (fun i => !insT (.un h a) i) = [] := by
        rw [List.filter_eq_nil_iff]
        intro i hi
        simp at hi
        simp [insT, hi, h19]
      rw [this]; rfl
    · rename_i h19
      rw [own_filter a o]
      congr 2
      apply List.filter_congr
      intro i hi
      simp at hi
      simp [insT, hi, h19]
  | .bin h a b, o => by
    rw [show (Tr.bin h a b).size = a.size + b.size + 1 from rfl, List.range_succ, List.filter_append, List.map_append, List.range_add, List.filter_append, List.map_append]
    have hl : (([a.size + b.size].filter fun i => !insT (.bin h a b) i).map (o + ·)) = [o + a.size + b.size] := by simp [insT, Nat.add_assoc]
    rw [hl]
    unfold ownT
    rw [own_filter a o, own_filter b (o + a.size)]
    congr 1
    congr 1
    · congr 1
      apply List.filter_congr
      intro i hi
      simp at hi
      simp [insT, hi]
    · rw [List.filter_map, List.map_map]
      have : List.filter ((fun i => !insT (Tr.bin h a b) i) ∘ fun x => a.size + x) (List.range b.size) = List.filter (fun i => !insT b i) (List.range b.size) := by
        apply List.filter_congr
        intro i hi
        simp at hi
        simp [insT, hi, show ¬ a.size + i < a.size by omega]
      rw [this]
      apply List.map_congr_left
      intro i _
      simp; omega
/-- The places of the tests. -/
def testsL : Tr → Nat → List Nat
  | .leaf _, _ => []
  | .un h a, o => if h.kind = 19 then [o + a.size] else testsL a o
  | .bin _ a b, o => testsL a o ++ testsL b (o + a.size)
theorem tests_res (n : Nat) (v : Nat → Nat → Bool) : ∀ (t : Tr) (o k : Nat), ((resT n v t o k).filter Ent.test).map Ent.at_ = testsL t o
  | .leaf _, _, _ => rfl
  | .un h a, o, k => by
    unfold resT testsL
    split
    · rfl
    · rw [List.filter_append, List.map_append, tests_res n v a]; simp
  | .bin h a b, o, k => by
    unfold resT testsL
    rw [List.filter_append, List.filter_append, List.map_append, List.map_append, tests_res n v a, tests_res n v b]; simp
def kindAt (l : List Nd) (p : Nat) : Int := match l[p]? with | some nd => nd.kind | none => 0
/-- The own nodes of one kind. -/
def ownK (l : List Nd) (t : Tr) (k : Int) : List Nat := (ownT t 0).filter fun p => decide (kindAt l p = k)
theorem ownK_tests {l : List Nd} {t : Tr} (hl : l = t.flat 0) (hv : regV t) : ownK l t 19 = testsL t 0 := by
  have h := res_ok 0 (fun _ _ => false) t 0 0 l [] [] (by simpa using hl) rfl hv
  unfold ownK
  rw [← res_own 0 (fun _ _ => false) t 0 0, ← tests_res 0 (fun _ _ => false) t 0 0, List.filter_map]
  congr 1
  apply List.filter_congr
  intro e he
  obtain ⟨es1, es2, h1⟩ := List.append_of_mem he
  obtain ⟨nd, h2, h3, _⟩ := h es1 e es2 h1
  simp only [Function.comp, kindAt, h2]
  rw [h3]
theorem length_tests : ∀ (t : Tr) (o : Nat), (testsL t o).length = testsT t
  | .leaf _, _ => rfl
  | .un h a, o => by
    unfold testsL testsT
    split
    · rfl
    · exact length_tests a o
  | .bin h a b, o => by
    unfold testsL testsT
    rw [List.length_append, length_tests a, length_tests b]
theorem testsT_le : ∀ t : Tr, testsT t ≤ t.size
  | .leaf _ => by simp [testsT]
  | .un h a => by
    have := testsT_le a
    unfold testsT
    simp only [Tr.size]
    split <;> omega
  | .bin h a b => by
    have := testsT_le a
    have := testsT_le b
    simp only [testsT, Tr.size]
    omega
/-! ### What tests say, and where the points lie -/
end Go.Proofs.Ytaomehlhopiblaa
