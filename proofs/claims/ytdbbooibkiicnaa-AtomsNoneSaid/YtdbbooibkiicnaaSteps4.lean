/- Tables of truths and of sets; the numbers of a plan; what fill makes of a node. -/
import Derived.Test.YtdbbooibkiicnaaSteps3
set_option linter.unusedVariables false
set_option linter.unusedSimpArgs false
/-! Tables of truths and of sets; the numbers of a plan; what fill makes of a node. -/
namespace Go.Proofs.Ytdbbooibkiicnaa
open Go.RowKit
/-- A table of truths. -/
def BB (w : World) (g N : Nat) (f : Nat → Bool) : Prop := ∃ us : List Value, Blk w g 4 us.toArray ∧ us.length = N ∧ ∀ j, j < N → us[j]? = some (.bool (f j))
namespace BB
variable {w w' : World} {g N : Nat} {f : Nat → Bool}
theorem lt (h : BB w g N f) : g < w.heap.size := let ⟨_, h1, _⟩ := h; h1.lt
theorem call (h : BB w g N f) (hb : Below w.heap.size w w') : BB w' g N f := let ⟨us, h1, h2, h3⟩ := h; ⟨us, h1.call hb, h2, h3⟩
theorem wr {Gs : List Nat} (h : BB w g N f) (hw : Wr Gs w w') (hg : g ∉ Gs) : BB w' g N f := let ⟨us, h1, h2, h3⟩ := h; ⟨us, hw.blk h1 hg, h2, h3⟩
theorem at_ (h : BB w g N f) {j : Nat} (hj : j < N) : w.cell? ⟨g, j, none⟩ = some (.bool (f j)) := by
  obtain ⟨us, h1, h2, h3⟩ := h
  rw [h1.cell]; simpa using h3 j hj
theorem soft (h : BB w g N f) (j : Nat) : w.frozen? ⟨g, j, none⟩ = false := let ⟨_, h1, _⟩ := h; h1.frozen j
theorem set (h : BB w g N f) {i : Nat} (hi : i < N) (v : Bool) : BB (w.setCell ⟨g, i, none⟩ (.bool v)) g N (upd f i v) := by
  obtain ⟨us, h1, h2, h3⟩ := h
  refine ⟨us.set i (.bool v), by have := h1.set_ i (.bool v); simpa using this, by simp [h2], fun j hj => ?_⟩
  by_cases e : j = i
  · subst e
    rw [List.getElem?_set_self (by omega), upd_same]
  · rw [List.getElem?_set_ne (by omega), upd_ne e]; exact h3 j hj
theorem far (h : BB w g N f) {p : Addr} (hne : g ≠ p.block) (u : Value) : BB (w.setCell p u) g N f := let ⟨us, h1, h2, h3⟩ := h; ⟨us, h1.far hne u, h2, h3⟩
theorem eq {f' : Nat → Bool} (h : BB w g N f) (e : ∀ j, j < N → f j = f' j) : BB w g N f' := let ⟨us, h1, h2, h3⟩ := h; ⟨us, h1, h2, fun j hj => by rw [← e j hj]; exact h3 j hj⟩
end BB
/-- A table of sets. -/
def SB (w : World) (g N : Nat) (Gs : List Nat) (P : Nat → Nat → Bool) : Prop := ∃ us : List Value, Blk w g 58 us.toArray ∧ us.length = N ∧ ∀ j, j < N → ∃ v, us[j]? = some v ∧ SetV (hx w Gs) v (P j)
namespace SB
variable {w w' : World} {g N : Nat} {Gs : List Nat} {P : Nat → Nat → Bool}
theorem lt (h : SB w g N Gs P) : g < w.heap.size := let ⟨_, h1, _⟩ := h; h1.lt
theorem call (h : SB w g N Gs P) (hb : Below w.heap.size w w') : SB w' g N Gs P :=
  let ⟨zs, h1, h2, h3⟩ := h
  ⟨zs, h1.call hb, h2, fun j hj => let ⟨v, e, hv⟩ := h3 j hj; ⟨v, e, hv.cle (Wr.of_below hb).cle⟩⟩
theorem far (h : SB w g N Gs P) {g' : Nat} (hg' : g' ∈ Gs) (hne : g ≠ g') (i : Nat) (u : Value) : SB (w.setCell ⟨g', i, none⟩ u) g N Gs P :=
  let ⟨zs, h1, h2, h3⟩ := h
  ⟨zs, h1.far (p := ⟨g', i, none⟩) hne u, h2, fun j hj => let ⟨v, e, hv⟩ := h3 j hj; ⟨v, e, hv.cle (wr_set hg' i u).cle⟩⟩
theorem at_ (h : SB w g N Gs P) {j : Nat} (hj : j < N) : ∃ v, w.cell? ⟨g, j, none⟩ = some v ∧ SetV (hx w Gs) v (P j) := by
  obtain ⟨zs, h1, h2, h3⟩ := h
  obtain ⟨v, e, hv⟩ := h3 j hj
  exact ⟨v, by rw [h1.cell]; simpa using e, hv⟩
theorem soft (h : SB w g N Gs P) (j : Nat) : w.frozen? ⟨g, j, none⟩ = false := let ⟨_, h1, _⟩ := h; h1.frozen j
theorem set (h : SB w g N Gs P) (hg : g ∈ Gs) {i : Nat} (hi : i < N) {v : Value} {f : Nat → Bool} (hv : SetV (hx w Gs) v f) : SB (w.setCell ⟨g, i, none⟩ v) g N Gs (upd P i f) := by
  obtain ⟨zs, h1, h2, h3⟩ := h
  refine ⟨zs.set i v, by have := h1.set_ i v; simpa using this, by simp [h2], fun j hj => ?_⟩
  by_cases e : j = i
  · subst e
    exact ⟨v, by rw [List.getElem?_set_self (by omega)], by rw [upd_same]; exact hv.cle (wr_set hg j v).cle⟩
  · obtain ⟨y, h4, h5⟩ := h3 j hj
    exact ⟨y, by rw [List.getElem?_set_ne (by omega)]; exact h4, by rw [upd_ne e]; exact h5.cle (wr_set hg i v).cle⟩
theorem eq {P' : Nat → Nat → Bool} (h : SB w g N Gs P) (e : ∀ j, j < N → ∀ q, P j q = P' j q) : SB w g N Gs P' :=
  let ⟨zs, h1, h2, h3⟩ := h
  ⟨zs, h1, h2, fun j hj => let ⟨v, e1, hv⟩ := h3 j hj; ⟨v, e1, hv.eq (e j hj)⟩⟩
end SB
/-- What is handed back lies in none of the blocks Gs. -/
theorem SetV.newx {w w' : World} {v : Value} {P : Nat → Bool} (h : SetV (newF w w') v P) {Gs : List Nat} (hG : ∀ g, g ∈ Gs → g < w.heap.size) : SetV (hx w' Gs) v P := h.cle fun a v hc => by
  unfold Fz.cell at hc ⊢
  unfold newF at hc
  by_cases hb : a.block < w.heap.size
  · rw [if_pos hb] at hc; cases hc
  · rw [if_neg hb] at hc
    rw [hx_out (fun e => hb (hG _ e))]
    exact hc
theorem sb_new (w : World) (M : Nat) (Gs : List Nat) : SB (w.alloc (.cells (zeros (.slice none 0 0) M) 58)) w.heap.size M Gs (fun _ _ => false) :=
  ⟨List.replicate M (.slice none 0 0), Blk.new w _ _, by simp, fun j hj => ⟨_, by simp [hj], SetV.nil _⟩⟩
theorem bb_new (w : World) (M : Nat) : BB (w.alloc (.cells (zeros (.bool false) M) 4)) w.heap.size M (fun _ => false) :=
  ⟨List.replicate M (.bool false), Blk.new w _ _, by simp, fun j hj => by simp [hj]⟩
theorem mkB (n : Nat) (hn : n ≤ 1000) (w : World) : (Instr.makeSlice 46 (.int .i64 (n : Int)) (.int .i64 (n : Int))).run Try.prog w = .ok (.slice (some ⟨w.heap.size, 0, none⟩) n n) (w.alloc (.cells (zeros (.bool false) n) 4)) :=
  run_make1 _ _ _ 1 Try.underlying46 (by kernel_rfl) rfl n (by omega) (by omega) w
/-- The number of a step or of a test, one more; of another node 0. -/
def numO (t : Tr) (i : Nat) : Nat := if isS t i = true then (posT t i true 0 0).2.2 + 1 else if isT t i = true then (posT t i true 0 0).2.1 + 1 else 0
theorem numO_le {t : Tr} (hv : regV t) {i : Nat} (hi : i < t.size) : numO t i ≤ t.size := by
  unfold numO
  split
  · rename_i h
    have h1 := step_back hv hi h
    have h2 := (List.getElem?_eq_some_iff.1 h1).1
    rw [length_stepsL t 0 hv] at h2
    have := stepsN_le t
    omega
  · split
    · rename_i h
      have h1 := test_back hv hi h
      have h2 := (List.getElem?_eq_some_iff.1 h1).1
      have h3 := length_tests t 0
      have h4 := testsT_le t
      omega
    · omega
theorem numO_step {t : Tr} (hv : regV t) (hva : validT t = true) {n : Nat} (hn : n < t.size) (hk : (t.sub n).root.kind = 18) (z : Zf) : (∀ b, fstS (fstO t z n) b = (decide (numO t n ≠ 0) && (b == numO t n))) ∧ zerO t z n 0 = false := by
  obtain ⟨h1, h2⟩ := fill_same hv hva z hn (by omega)
  have hT : isT t n = false := by unfold isT; rw [hk]; simp
  refine ⟨fun b => ?_, by rw [h1, zer1_test hv z hn, hT]; rfl⟩
  rw [h2, fst1_all hv hn]
  unfold numO
  split
  · rw [fstS_one]; simp
  · rw [fstS_nil, hT]; simp
theorem numO_test {t : Tr} (hv : regV t) (hva : validT t = true) {n : Nat} (hn : n < t.size) (hk : (t.sub n).root.kind = 19) (z : Zf) : (∀ b, fstS (fstO t z n) b = false) ∧ zerO t z n 0 = (decide (numO t n ≠ 0) && z (numO t n - 1) 0) := by
  obtain ⟨h1, h2⟩ := fill_same hv hva z hn (by omega)
  have hvn := sub_valid t n hva
  have hS : isS t n = false := by
    unfold isS
    rw [Bool.and_eq_false_iff]; right
    rw [decide_eq_false_iff_not]
    intro e
    cases hx : t.sub n with
    | leaf h =>
      rw [hx] at hvn hk
      have hk : h.kind = 19 := hk
      have := leaf_kind hvn
      omega
    | un h a => rw [hx] at e; have := a.size_pos; simp [Tr.size] at e; omega
    | bin h a b => rw [hx] at e; have := a.size_pos; simp [Tr.size] at e; omega
  refine ⟨fun b => by rw [h2, fst1_all hv hn, hS]; exact fstS_nil b, ?_⟩
  rw [h1, zer1_test hv z hn]
  unfold numO
  rw [hS]
  cases hT : isT t n <;> simp
theorem numO_other {t : Tr} (hv : regV t) (hva : validT t = true) {n : Nat} (hn : n < t.size) (hk : (t.sub n).root.kind ≠ 18 ∧ (t.sub n).root.kind ≠ 19 ∧ (t.sub n).root.kind ≠ 20 ∧ (t.sub n).root.kind ≠ 21 ∧ (t.sub n).root.kind ≠ 22) (z : Zf) : (∀ b, fstS (fstO t z n) b = false) ∧ zerO t z n 0 = false := by
  obtain ⟨h1, h2⟩ := fill_same hv hva z hn ⟨hk.2.2.1, hk.2.2.2.1, hk.2.2.2.2⟩
  have hT : isT t n = false := by unfold isT; rw [decide_eq_false hk.2.1, Bool.and_false]
  have hS : isS t n = false := by
    cases hS : isS t n with
    | false => rfl
    | true =>
      have ho := isS_own hS
      obtain ⟨h, hx⟩ := (own_shape hv hn ho).2.1 hS
      have := own_regV t n 0 0 hv hn ho
      rw [hx] at this hk
      exact absurd this hk.1
  refine ⟨fun b => by rw [h2, fst1_all hv hn, hS]; exact fstS_nil b, by rw [h1, zer1_test hv z hn, hT]; rfl⟩
/-- The numbers when j steps are told, and k tests. -/
def numJ (t : Tr) (j k i : Nat) : Nat := if isS t i = true ∧ (posT t i true 0 0).2.2 < j then (posT t i true 0 0).2.2 + 1 else if isT t i = true ∧ (posT t i true 0 0).2.1 < k then (posT t i true 0 0).2.1 + 1 else 0
theorem numJ_zero (t : Tr) (i : Nat) : numJ t 0 0 i = 0 := by unfold numJ; simp
theorem numJ_s {t : Tr} {j k i : Nat} (h : isS t i = true ∧ (posT t i true 0 0).2.2 < j) : numJ t j k i = (posT t i true 0 0).2.2 + 1 := if_pos h
theorem numJ_t {t : Tr} {j k i : Nat} (h : ¬ (isS t i = true ∧ (posT t i true 0 0).2.2 < j)) (h2 : isT t i = true ∧ (posT t i true 0 0).2.1 < k) : numJ t j k i = (posT t i true 0 0).2.1 + 1 := by unfold numJ; rw [if_neg h, if_pos h2]
theorem numJ_n {t : Tr} {j k i : Nat} (h : ¬ (isS t i = true ∧ (posT t i true 0 0).2.2 < j)) (h2 : ¬ (isT t i = true ∧ (posT t i true 0 0).2.1 < k)) : numJ t j k i = 0 := by unfold numJ; rw [if_neg h, if_neg h2]
theorem test_noS {t : Tr} (hv : regV t) {x : Nat} (hxl : x < t.size) (hx : isT t x = true) : ¬ isS t x = true := fun hS => by
  obtain ⟨h, a, e1, _⟩ := (own_shape hv hxl (isT_own hx)).1.1 hx
  obtain ⟨h', e2⟩ := (own_shape hv hxl (isT_own hx)).2.1 hS
  rw [e1] at e2; cases e2
theorem numJ_step {t : Tr} (hv : regV t) {j p : Nat} (hp : (stepsL t 0)[j]? = some p) (i : Nat) (hi : i < t.size) : numJ t (j + 1) 0 i = if i = p then j + 1 else numJ t j 0 i := by
  obtain ⟨h1, h2, h3⟩ := step_facts hv hp
  by_cases e : i = p
  · subst e
    rw [if_pos rfl, numJ_s ⟨h2, by omega⟩, h3]
  · rw [if_neg e]
    by_cases hs : isS t i = true
    · have hb := step_back hv hi hs
      have hne : (posT t i true 0 0).2.2 ≠ j := fun e' => by rw [e', hp] at hb; injection hb with hb; exact e hb.symm
      by_cases hlt : (posT t i true 0 0).2.2 < j
      · rw [numJ_s ⟨hs, by omega⟩, numJ_s ⟨hs, hlt⟩]
      · rw [numJ_n (fun h => by have := h.2; omega) (fun h => by have := h.2; omega), numJ_n (fun h => hlt h.2) (fun h => by have := h.2; omega)]
    · rw [numJ_n (fun h => hs h.1) (fun h => by have := h.2; omega), numJ_n (fun h => hs h.1) (fun h => by have := h.2; omega)]
theorem numJ_test {t : Tr} (hv : regV t) {M k p : Nat} (hp : (testsL t 0)[k]? = some p) (i : Nat) (hi : i < t.size) : numJ t M (k + 1) i = if i = p then k + 1 else numJ t M k i := by
  obtain ⟨h1, h2, h3⟩ := test_facts hv hp
  by_cases e : i = p
  · subst e
    rw [if_pos rfl, numJ_t (fun h => test_noS hv hi h2 h.1) ⟨h2, by omega⟩, h3]
  · rw [if_neg e]
    by_cases hs : isT t i = true
    · have hb := test_back hv hi hs
      have hne : (posT t i true 0 0).2.1 ≠ k := fun e' => by rw [e', hp] at hb; injection hb with hb; exact e hb.symm
      have hS : ∀ j, ¬ (isS t i = true ∧ (posT t i true 0 0).2.2 < j) := fun j h => test_noS hv hi hs h.1
      by_cases hlt : (posT t i true 0 0).2.1 < k
      · rw [numJ_t (hS _) ⟨hs, by omega⟩, numJ_t (hS _) ⟨hs, hlt⟩]
      · rw [numJ_n (hS _) (fun h => by have := h.2; omega), numJ_n (hS _) (fun h => hlt h.2)]
    · unfold numJ
      simp [hs]
theorem numJ_all {t : Tr} (hv : regV t) {i : Nat} (hi : i < t.size) : numJ t (stepsN t) (testsT t) i = numO t i := by
  unfold numO
  by_cases hs : isS t i = true
  · have hb := step_back hv hi hs
    have h2 := (List.getElem?_eq_some_iff.1 hb).1
    rw [length_stepsL t 0 hv] at h2
    rw [numJ_s ⟨hs, h2⟩, if_pos hs]
  · rw [if_neg hs]
    by_cases ht : isT t i = true
    · have hb := test_back hv hi ht
      have h2 := (List.getElem?_eq_some_iff.1 hb).1
      rw [length_tests t 0] at h2
      rw [numJ_t (fun h => hs h.1) ⟨ht, h2⟩, if_pos ht]
    · rw [numJ_n (fun h => hs h.1) (fun h => ht h.1), if_neg ht]
theorem kid_alts {t : Tr} (hva : validT t = true) (z : Zf) {n : Nat} (hn : n < t.size) (hk : (t.sub n).root.kind = 20) : ∃ a b, a < n ∧ b < n ∧ kidsN t n = [a, b] ∧ zerO t z n 0 = (zerO t z a 0 || zerO t z b 0) ∧ ∀ q, fstS (fstO t z n) q = (fstS (fstO t z a) q || fstS (fstO t z b) q) := by
  have hvn := sub_valid t n hva
  cases hx : t.sub n with
  | leaf h => rw [hx] at hvn hk; have hk : h.kind = 20 := hk; have := leaf_kind hvn; omega
  | un h a => rw [hx] at hvn hk; have hk : h.kind = 20 := hk; have := un_kind hvn; omega
  | bin h a b =>
    rw [hx] at hk
    have hap := a.size_pos
    have hbp := b.size_pos
    obtain ⟨h1, _⟩ := kid_bin hn hx
    exact ⟨n - 1 - b.size, n - 1, by omega, by omega, by unfold kidsN; rw [hx], zerO_alt z hn hx hk 0, fun q => by rw [fstO_alt z hn hx hk, fstS_append]⟩
theorem kid_seqs {t : Tr} (hva : validT t = true) (z : Zf) {n : Nat} (hn : n < t.size) (hk : (t.sub n).root.kind = 21) : ∃ a b, a < n ∧ b < n ∧ kidsN t n = [a, b] ∧ zerO t z n 0 = (zerO t z a 0 && zerO t z b 0) ∧ ∀ q, fstS (fstO t z n) q = (fstS (fstO t z a) q || (fstS (fstO t z b) q && zerO t z a 0)) := by
  have hvn := sub_valid t n hva
  cases hx : t.sub n with
  | leaf h => rw [hx] at hvn hk; have hk : h.kind = 21 := hk; have := leaf_kind hvn; omega
  | un h a => rw [hx] at hvn hk; have hk : h.kind = 21 := hk; have := un_kind hvn; omega
  | bin h a b =>
    rw [hx] at hk
    have hap := a.size_pos
    have hbp := b.size_pos
    obtain ⟨h1, _⟩ := kid_bin hn hx
    exact ⟨n - 1 - b.size, n - 1, by omega, by omega, by unfold kidsN; rw [hx], zerO_seq z hn hx hk 0, fun q => by rw [fstO_seq z hn hx hk, fstS_append, fstS_map]⟩
theorem kid_manys {t : Tr} (hva : validT t = true) (z : Zf) {n : Nat} (hn : n < t.size) (hk : (t.sub n).root.kind = 22) : ∃ a, a < n ∧ kidsN t n = [a] ∧ zerO t z n 0 = true ∧ fstO t z n = fstO t z a := by
  have hvn := sub_valid t n hva
  cases hx : t.sub n with
  | leaf h => rw [hx] at hvn hk; have hk : h.kind = 22 := hk; have := leaf_kind hvn; omega
  | un h a =>
    rw [hx] at hk
    have hap := a.size_pos
    obtain ⟨h1, _⟩ := kid_un hn hx
    exact ⟨n - 1, by omega, by unfold kidsN; rw [hx], zerO_many z hx hk 0, fstO_many z hn hx hk⟩
  | bin h a b => rw [hx] at hvn hk; have hk : h.kind = 22 := hk; have := bin_kind hvn; omega
def zT (t : Tr) (z : Zf) (n i : Nat) : Bool := if i < n then zerO t z i 0 else false
def sT (t : Tr) (z : Zf) (n i b : Nat) : Bool := if i < n then fstS (fstO t z i) b else false
theorem zT_at {t : Tr} {z : Zf} {n i : Nat} (h : i < n) : zT t z n i = zerO t z i 0 := if_pos h
theorem sT_at {t : Tr} {z : Zf} {n i : Nat} (h : i < n) (b : Nat) : sT t z n i b = fstS (fstO t z i) b := if_pos h
theorem BB.nextZ {w : World} {g N : Nat} {t : Tr} {z : Zf} {n : Nat} {v : Bool} (h : BB w g N (upd (zT t z n) n v)) (e : v = zerO t z n 0) : BB w g N (zT t z (n + 1)) := h.eq fun j _ => by
  unfold upd zT
  by_cases hj : j = n
  · subst hj; rw [if_pos rfl, if_pos (by omega), e]
  · rw [if_neg hj]
    by_cases hl : j < n
    · rw [if_pos hl, if_pos (by omega)]
    · rw [if_neg hl, if_neg (by omega)]
theorem BB.keepZ {w : World} {g N : Nat} {t : Tr} {z : Zf} {n : Nat} (h : BB w g N (zT t z n)) (e : zerO t z n 0 = false) : BB w g N (zT t z (n + 1)) := h.eq fun j _ => by
  unfold zT
  by_cases hj : j = n
  · subst hj; rw [if_neg (by omega), if_pos (by omega), e]
  · by_cases hl : j < n
    · rw [if_pos hl, if_pos (by omega)]
    · rw [if_neg hl, if_neg (by omega)]
theorem SB.nextS {w : World} {g N : Nat} {Gs : List Nat} {t : Tr} {z : Zf} {n : Nat} {P : Nat → Bool} (h : SB w g N Gs (upd (sT t z n) n P)) (e : ∀ q, P q = fstS (fstO t z n) q) : SB w g N Gs (sT t z (n + 1)) := h.eq fun j _ q => by
  unfold upd sT
  by_cases hj : j = n
  · subst hj; rw [if_pos rfl, if_pos (by omega), e]
  · rw [if_neg hj]
    by_cases hl : j < n
    · rw [if_pos hl, if_pos (by omega)]
    · rw [if_neg hl, if_neg (by omega)]
theorem SB.keepS {w : World} {g N : Nat} {Gs : List Nat} {t : Tr} {z : Zf} {n : Nat} (h : SB w g N Gs (sT t z n)) (e : ∀ q, fstS (fstO t z n) q = false) : SB w g N Gs (sT t z (n + 1)) := h.eq fun j _ q => by
  unfold sT
  by_cases hj : j = n
  · subst hj; rw [if_neg (by omega), if_pos (by omega), e]
  · by_cases hl : j < n
    · rw [if_pos hl, if_pos (by omega)]
    · rw [if_neg hl, if_neg (by omega)]
end Go.Proofs.Ytdbbooibkiicnaa
