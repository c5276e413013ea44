/- The walks of the law's Span and plainer. -/
import Derived.Test.YtdbbooibkiicnaaTwo
set_option linter.unusedVariables false
set_option linter.unusedSimpArgs false
/-! The walks of the law's Span and plainer. -/
namespace Go.Proofs.Ytdbbooibkiicnaa
open Go.RowKit
def spanLo (n : Int) : Int := if 2600 ≤ n then n else n % 3
def spanHi (n : Int) : Int := if n / 3 % 2 = 1 then spanLo n + n / 6 % 3 else -1
theorem span_w (n : Int) (h0 : 0 ≤ n) (hn : n ≤ 3000) (w : World) : Calls Try.prog 109 #[.int .i64 n] w fun e w' => e = .returned (.agg #[.int .i64 (spanLo n), .int .i64 (spanHi n)]) ∧ Below w.heap.size w w' := by
  obtain ⟨lo, hlo⟩ : ∃ lo, lo = spanLo n := ⟨_, rfl⟩
  obtain ⟨hi, hhi⟩ : ∃ hi, hi = spanHi n := ⟨_, rfl⟩
  have h3 : 0 ≤ n % 3 ∧ n % 3 ≤ 2 := by omega
  have h6 : 0 ≤ n / 6 % 3 ∧ n / 6 % 3 ≤ 2 := by omega
  rw [← hlo, ← hhi]
  unfold spanHi at hhi
  rw [← hlo] at hhi
  unfold spanLo at hlo
  by_cases h1 : 2600 ≤ n
  · rw [if_pos h1] at hlo
    rw [hlo] at hhi ⊢
    clear hlo
    by_cases h2 : n / 3 % 2 = 1
    · rw [if_pos h2] at hhi
      have e2 : (n / 3 % 2 == 1) = true := by rw [h2]; rfl
      have HH := Lib.hid hhi
      clear hhi h2
      go_enter Try.func109, Try.ntmps109
      go_wp2_with fail
      rw [HH.out]
      exact bodyPost_ret (v := .agg #[.int .i64 (n), .int .i64 _]) (by simp [results, Try.results109, go_sem]) rfl ⟨rfl, by first | exact (balloc _ _).alloc (by simp) _ | exact ((balloc _ _).alloc (by simp) _).setCell (by simp) _⟩
    · rw [if_neg h2] at hhi
      have e2 : (n / 3 % 2 == 1) = false := by rw [beq_eq_false_iff_ne]; exact h2
      have HH := Lib.hid hhi
      clear hhi h2
      go_enter Try.func109, Try.ntmps109
      go_wp2_with fail
      rw [HH.out]
      exact bodyPost_ret (v := .agg #[.int .i64 (n), .int .i64 _]) (by simp [results, Try.results109, go_sem]) rfl ⟨rfl, by first | exact (balloc _ _).alloc (by simp) _ | exact ((balloc _ _).alloc (by simp) _).setCell (by simp) _⟩
  · rw [if_neg h1] at hlo
    rw [hlo] at hhi ⊢
    have h1' : decide (2600 ≤ n) = false := decide_eq_false h1
    clear hlo
    by_cases h2 : n / 3 % 2 = 1
    · rw [if_pos h2] at hhi
      have e2 : (n / 3 % 2 == 1) = true := by rw [h2]; rfl
      have HH := Lib.hid hhi
      clear hhi h2
      go_enter Try.func109, Try.ntmps109
      go_wp2_with fail
      rw [HH.out]
      exact bodyPost_ret (v := .agg #[.int .i64 (n % 3), .int .i64 _]) (by simp [results, Try.results109, go_sem]) rfl ⟨rfl, by first | exact (balloc _ _).alloc (by simp) _ | exact ((balloc _ _).alloc (by simp) _).setCell (by simp) _⟩
    · rw [if_neg h2] at hhi
      have e2 : (n / 3 % 2 == 1) = false := by rw [beq_eq_false_iff_ne]; exact h2
      have HH := Lib.hid hhi
      clear hhi h2
      go_enter Try.func109, Try.ntmps109
      go_wp2_with fail
      rw [HH.out]
      exact bodyPost_ret (v := .agg #[.int .i64 (n % 3), .int .i64 _]) (by simp [results, Try.results109, go_sem]) rfl ⟨rfl, by first | exact (balloc _ _).alloc (by simp) _ | exact ((balloc _ _).alloc (by simp) _).setCell (by simp) _⟩
def plainS2 (op : Int) : Int := if op = 7 ∨ op = 15 then 6 else if 8 ≤ op ∧ op ≤ 10 then 16 else if 11 ≤ op ∧ op ≤ 13 then 17 else if op = 14 then 5 else op
theorem plainer_w (op : Nat) (hop : op < 24) (w : World) : Calls Try.prog 70 #[.int .i64 (op : Int)] w fun e w' => e = .returned (.int .i64 (plainS2 op)) ∧ w = w' := by
  have h : op = 0 ∨ op = 1 ∨ op = 2 ∨ op = 3 ∨ op = 4 ∨ op = 5 ∨ op = 6 ∨ op = 7 ∨ op = 8 ∨ op = 9 ∨ op = 10 ∨ op = 11 ∨ op = 12 ∨ op = 13 ∨ op = 14 ∨ op = 15 ∨ op = 16 ∨ op = 17 ∨ op = 18 ∨ op = 19 ∨ op = 20 ∨ op = 21 ∨ op = 22 ∨ op = 23 := by omega
  rcases h with h | h | h | h | h | h | h | h | h | h | h | h | h | h | h | h | h | h | h | h | h | h | h | h <;> subst h
  all_goals
    go_enter Try.func70, Try.ntmps70
    go_wp2_with fail
    go_ret
    exact ⟨rfl, rfl⟩
end Go.Proofs.Ytdbbooibkiicnaa
/-! Piles of trees: what each number adds. Plain definitions and lemmas. -/
namespace Go.Proofs.Ytdbbooibkiicnaa
/-- A pile, its top first. -/
def memL (ts : List Tr) : List (List Nd) := ts.reverse.map fun t => t.flat 0
theorem memL_cons (t : Tr) (ts : List Tr) : memL (t :: ts) = memL ts ++ [t.flat 0] := by simp [memL]
theorem length_memL (ts : List Tr) : (memL ts).length = ts.length := by simp [memL]
def ndK (k : Int) : Nd := ⟨k, ⟨#[]⟩, 0, 0, []⟩
def ndS (k lo hi : Int) : Nd := ⟨k, ⟨#[]⟩, lo, hi, []⟩
def nameT (i : Nat) : ByteArray := if i = 0 then ⟨#[112]⟩ else if i = 1 then ⟨#[113]⟩ else ⟨#[114]⟩
def ndP (i : Nat) : Nd := ⟨3, nameT i, 0, 0, []⟩
def oneT (n : Nd) : List Tr → List Tr
  | t :: ts => .un n t :: ts
  | [] => []
def twoT (n : Nd) : List Tr → List Tr
  | b :: a :: ts => .bin n a b :: ts
  | ts => ts
def addT (p : List Tr × List Tr) (op arg : Nat) : List Tr × List Tr :=
  if op = 0 then (.leaf (ndK (1 + (arg % 2 : Nat))) :: p.1, p.2)
  else if op ≤ 3 then (.leaf (ndP (arg % 3)) :: p.1, p.2)
  else if op = 4 then (oneT (ndK 4) p.1, p.2)
  else if op ≤ 7 then (twoT (ndK op) p.1, p.2)
  else if op ≤ 13 then (oneT (ndS op (spanLo arg) (spanHi arg)) p.1, p.2)
  else if op ≤ 15 then (twoT (ndS op (spanLo arg) (spanHi arg)) p.1, p.2)
  else if op ≤ 17 then (match p.2 with | t :: r => (.un (ndS op (spanLo arg) (spanHi arg)) t :: p.1, r) | [] => p)
  else if op ≤ 19 then (p.1, .leaf (ndK 18) :: p.2)
  else if op = 20 then (match p.1 with | t :: f => (f, .un (ndK 19) t :: p.2) | [] => p)
  else if op ≤ 22 then (p.1, twoT (ndK ((op : Int) - 1)) p.2)
  else (p.1, oneT (ndK 22) p.2)
theorem flat_kids : ∀ (t : Tr) (o : Nat), o + t.size ≤ 100000 → KidsB (t.flat o)
  | .leaf h, o, _ => by
    intro n hn
    simp [Tr.flat] at hn
    subst hn
    simp
  | .un h a, o, ho => by
    simp only [Tr.size] at ho
    have ha := flat_kids a o (by omega)
    have hp := a.size_pos
    intro n hn
    rcases List.mem_append.1 hn with hn | hn
    · exact ha n hn
    · simp at hn
      subst hn
      refine ⟨by simp, fun k hk => ?_⟩
      simp at hk
      omega
  | .bin h a b, o, ho => by
    simp only [Tr.size] at ho
    have ha := flat_kids a o (by omega)
    have hb := flat_kids b (o + a.size) (by omega)
    have hp := a.size_pos
    have hq := b.size_pos
    intro n hn
    rcases List.mem_append.1 hn with hn | hn
    · rcases List.mem_append.1 hn with hn | hn
      · exact ha n hn
      · exact hb n hn
    · simp at hn
      subst hn
      refine ⟨by simp, fun k hk => ?_⟩
      simp at hk
      omega
theorem shift_up (d : Nat) (t : Tr) : (t.flat 0).map (shiftN (d : Int)) = t.flat d := by
  have h := shift_flat d t 0
  rw [Nat.zero_add] at h
  rw [← h, List.map_map, List.map_congr_left (g := id), List.map_id]
  intro n _
  cases n
  simp only [Function.comp, shiftN, id, Nd.mk.injEq, true_and, List.map_map]
  rw [List.map_congr_left (g := id), List.map_id]
  intro k _
  simp only [Function.comp, id]
  omega
theorem over_un (n : Nd) (t : Tr) : overL n (t.flat 0) [] = (Tr.un n t).flat 0 := by
  have hp := t.size_pos
  simp only [overL, overK, List.map_nil, List.append_nil, Tr.flat, Tr.length_flat, List.length_nil, Nat.zero_add]
  rw [if_neg (by omega)]
  simp
theorem over_bin (n : Nd) (a b : Tr) : overL n (a.flat 0) (b.flat 0) = (Tr.bin n a b).flat 0 := by
  have hp := a.size_pos
  have hq := b.size_pos
  simp only [overL, overK, Tr.flat, Tr.length_flat, Nat.zero_add]
  rw [if_neg (by omega), if_neg (by omega), shift_up]
  simp
def totT (ts : List Tr) : Nat := (ts.map Tr.size).sum
theorem totT_cons (t : Tr) (ts : List Tr) : totT (t :: ts) = t.size + totT ts := by simp [totT]
theorem totT_len : ∀ ts : List Tr, ts.length ≤ totT ts
  | [] => Nat.le_refl _
  | t :: ts => by have := totT_len ts; have := t.size_pos; rw [totT_cons, List.length_cons]; omega
theorem tot_one (n : Nd) (ts : List Tr) : totT (oneT n ts) ≤ totT ts + 1 := by
  cases ts with
  | nil => simp [oneT]
  | cons t ts => simp [oneT, totT_cons, Tr.size]; omega
theorem tot_two (n : Nd) (ts : List Tr) : totT (twoT n ts) ≤ totT ts + 1 := by
  match ts with
  | [] => simp [twoT]
  | [a] => simp [twoT]
  | b :: a :: ts => simp [twoT, totT_cons, Tr.size]; omega
theorem tot_add (p : List Tr × List Tr) (op arg : Nat) : totT (addT p op arg).1 + totT (addT p op arg).2 ≤ totT p.1 + totT p.2 + 1 := by
  unfold addT
  split
  · simp [totT_cons, Tr.size]; omega
  split
  · simp [totT_cons, Tr.size]; omega
  split
  · have := tot_one (ndK 4) p.1; simp; omega
  split
  · have := tot_two (ndK op) p.1; simp; omega
  split
  · have := tot_one (ndS op (spanLo arg) (spanHi arg)) p.1; simp; omega
  split
  · have := tot_two (ndS op (spanLo arg) (spanHi arg)) p.1; simp; omega
  split
  · match h : p.2 with
    | [] => simp [h]
    | t :: r => simp [totT_cons, Tr.size]; omega
  split
  · simp [totT_cons, Tr.size]; omega
  split
  · match h : p.1 with
    | [] => simp [h]
    | t :: r => simp [totT_cons, Tr.size]; omega
  split
  · have := tot_two (ndK ((op : Int) - 1)) p.2; simp; omega
  · have := tot_one (ndK 22) p.2; simp; omega
/-! What is piled up may be. -/
def validT : Tr → Bool
  | .leaf h => fieldsS { h with kids := [] }
  | .un h a => fieldsS { h with kids := [0] } && (regS a.root.kind == wantsS h.kind) && validT a
  | .bin h a b => fieldsS { h with kids := [0, 0] } && (regS a.root.kind == wantsS h.kind) && (regS b.root.kind == wantsS h.kind) && validT a && validT b
theorem fields_len (h : Nd) (ks ks' : List Int) (hl : ks.length = ks'.length) : fieldsS { h with kids := ks } = fieldsS { h with kids := ks' } := by
  unfold fieldsS
  simp only [hl]
theorem fold_flat : ∀ (t : Tr) (st : List Tr), validT t = true → ∃ t', (t.flat (total st)).foldlM pushS st = some (t' :: st) ∧ t'.size = t.size ∧ t'.root.kind = t.root.kind ∧ (∀ o, t'.flat o = t.flat o) ∧ t'.depth = t.depth
  | .leaf h, st, hv => by
    refine ⟨.leaf { h with kids := [] }, ?_, rfl, rfl, fun o => rfl, rfl⟩
    simp only [Tr.flat, List.foldlM_cons, List.foldlM_nil, pushS]
    rw [if_pos (show fieldsS { h with kids := [] } = true from hv)]
    rfl
  | .un h a, st, hv => by
    simp only [validT, Bool.and_eq_true, beq_iff_eq] at hv
    obtain ⟨⟨h1, h2⟩, h3⟩ := hv
    obtain ⟨a', e1, e2, e3, e4, e5⟩ := fold_flat a st h3
    refine ⟨.un { h with kids := [((total st + a.size : Nat) : Int) - 1] } a', ?_, by simp [Tr.size, e2], rfl, fun o => by simp [Tr.flat, e4, e2], by simp [Tr.depth, e5]⟩
    simp only [Tr.flat]
    rw [List.foldlM_append, e1]
    simp only [Option.bind_eq_bind, Option.bind_some, List.foldlM_cons, List.foldlM_nil, pushS]
    rw [if_pos ((fields_len h [((total st + a.size : Nat) : Int) - 1] [0] rfl).trans h1), if_pos ⟨by rw [total_cons, e2, Nat.add_comm], by rw [e3]; exact h2⟩]
    rfl
  | .bin h a b, st, hv => by
    simp only [validT, Bool.and_eq_true, beq_iff_eq] at hv
    obtain ⟨⟨⟨⟨h1, h2⟩, h3⟩, h4⟩, h5⟩ := hv
    obtain ⟨a', e1, e2, e3, e4, e5⟩ := fold_flat a st h4
    obtain ⟨b', f1, f2, f3, f4, f5⟩ := fold_flat b (a' :: st) h5
    rw [total_cons, e2, Nat.add_comm] at f1
    refine ⟨.bin { h with kids := [((total st + a.size : Nat) : Int) - 1, ((total st + a.size + b.size : Nat) : Int) - 1] } a' b', ?_, by simp [Tr.size, e2, f2], rfl, fun o => by simp [Tr.flat, e4, e2, f4, f2], by simp [Tr.depth, e5, f5]⟩
    simp only [Tr.flat]
    rw [List.foldlM_append, List.foldlM_append, e1]
    simp only [Option.bind_eq_bind, Option.bind_some, f1, List.foldlM_cons, List.foldlM_nil, pushS]
    rw [if_pos ((fields_len h [((total st + a.size : Nat) : Int) - 1, ((total st + a.size + b.size : Nat) : Int) - 1] [0, 0] rfl).trans h1), if_pos ⟨by rw [total_cons, total_cons, e2, f2]; congr 1; omega, by rw [f3]; exact h3, by rw [total_cons, e2, Nat.add_comm], by rw [e3]; exact h2⟩]
    rfl
theorem tree_of_valid {t : Tr} (h : validT t = true) : ∃ t', treeS (t.flat 0) = some t' ∧ t'.size = t.size ∧ t'.root.kind = t.root.kind := by
  obtain ⟨t', h1, h2, h3, _, _⟩ := fold_flat t [] h
  refine ⟨t', ?_, h2, h3⟩
  unfold treeS parseS
  rw [show (Tr.flat t 0) = Tr.flat t (total []) from rfl, h1]
end Go.Proofs.Ytdbbooibkiicnaa
