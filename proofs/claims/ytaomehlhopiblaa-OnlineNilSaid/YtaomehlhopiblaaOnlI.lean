/- One pass: how long windows are, that classes fit: plain. -/
import Derived.Test.YtaomehlhopiblaaOnlM
import Derived.Test.YtaomehlhopiblaaBoundA
import Derived.Test.YtaomehlhopiblaaOnlT
set_option linter.unusedVariables false
set_option linter.unusedSimpArgs false
/-! One pass: how long windows are, that classes fit: plain. -/
namespace Go.Proofs.Ytaomehlhopiblaa
/-! ### How long windows are -/
theorem len_add (out : Win) (c : Nat) (f : Nat → Fn) : (addW out c f).length ≤ out.length + 1 := by
  unfold addW
  split
  · split
    · simp
    · simp
  · simp
theorem len_go (h : Nd) (d : Nat) (ah : List Fn) : ∀ (W out : Win), (goW h d ah W out).length ≤ out.length + W.length
  | [], out => by simp [goW]
  | b :: W, out => by
    unfold goW
    have h1 := len_go h d ah W (match laterC h b.1 d with | none => out | some c => addW out c fun k x => b.2 k (asg ah x))
    refine Nat.le_trans h1 ?_
    rw [List.length_cons]
    cases laterC h b.1 d with
    | none => show out.length + _ ≤ _; omega
    | some c => have := len_add out c fun k x => b.2 k (asg ah x); show (addW out c _).length + _ ≤ _; omega
theorem len_shift (h : Nd) (d : Nat) (ah : List Fn) (W : Win) : (shiftW h d ah W).length ≤ W.length + 1 := by
  have h1 : ∀ V : Win, (yesW V).length = V.length := fun V => by cases V <;> rfl
  have h2 : (startW h d W).length ≤ 1 := by
    cases W with
    | nil => exact Nat.le_refl _
    | cons b r => show (if laterC h b.1 d = some 0 then [] else [(0, fun _ => noFn)] : Win).length ≤ 1; split <;> simp
  unfold shiftW
  rw [h1]
  have := len_go h d ah W (startW h d W)
  omega
theorem len_back (m : Nat) (a : Tr) (zs : List Fn) (W : Win) : (backV m a zs W).length ≤ W.length := by
  unfold backV
  refine Nat.le_trans (List.length_filter_le _ _) ?_
  simp
theorem len_win (m d : Nat) (prop : ByteArray → Bool) : ∀ (t : Tr) (o : Nat) (s : StO) (j : Nat), ((stF m d prop t o s).2.win j).length ≤ (s.win j).length + 1
  | .leaf h, o, s, j => Nat.le_succ _
  | .un h a, o, s, j => by
    have ih := len_win m d prop a o s
    have hw := fun j hj => stF_win m d prop a o s j hj
    obtain ⟨r, hr⟩ : ∃ r, stF m d prop a o s = r := ⟨_, rfl⟩
    rw [stF_un m d prop h a o s r hr]
    rw [hr] at ih
    simp only [hr] at hw
    split
    · exact ih j
    · split
      · exact ih j
      · split
        · show (updW r.2.win (o + a.size) _ j).length ≤ _
          unfold updW
          split
          · rename_i e
            refine Nat.le_trans (len_back m a _ _) (Nat.le_trans (len_shift h d _ _) ?_)
            rw [hw _ (by omega), e]
            exact Nat.le_refl _
          · exact ih j
        · split
          · exact ih j
          · exact ih j
  | .bin h a b, o, s, j => by
    obtain ⟨r, hr⟩ : ∃ r, stF m d prop a o s = r := ⟨_, rfl⟩
    obtain ⟨r', hr'⟩ : ∃ r', stF m d prop b (o + a.size) r.2 = r' := ⟨_, rfl⟩
    rw [stF_bin m d prop h a b o s r r' hr hr']
    show (r'.2.win j).length ≤ _
    have iha := len_win m d prop a o s
    have hwa := fun j hj => stF_win m d prop a o s j hj
    have ihb := len_win m d prop b (o + a.size) r.2
    have hwb := fun j hj => stF_win m d prop b (o + a.size) r.2 j hj
    rw [hr] at iha
    simp only [hr] at hwa
    rw [hr'] at ihb
    simp only [hr'] at hwb
    by_cases hj : j < o + a.size
    · rw [hwb j (.inl hj)]; exact iha j
    · have := ihb j
      rw [hwa j (by omega)] at this
      exact this
/-! ### Classes fit -/
/-- Each class of a window is one of its span. -/
def InW (h : Nd) (W : Win) : Prop := ∀ b ∈ W, b.1 ≤ lastC h
theorem in_add {h : Nd} {out : Win} (ho : InW h out) {c : Nat} (hc : c ≤ lastC h) (f : Nat → Fn) : InW h (addW out c f) := by
  unfold addW
  split
  · split
    · intro b hb
      rcases List.mem_append.1 hb with hb | hb
      · exact ho b (List.dropLast_subset _ hb)
      · simp at hb; subst hb; exact hc
    · intro b hb
      rcases List.mem_append.1 hb with hb | hb
      · exact ho b hb
      · simp at hb; subst hb; exact hc
  · intro b hb
    simp at hb; subst hb; exact hc
theorem in_go (h : Nd) (d : Nat) (ah : List Fn) : ∀ (W out : Win), InW h out → InW h (goW h d ah W out)
  | [], out, ho => ho
  | b :: W, out, ho => by
    unfold goW
    refine in_go h d ah W _ ?_
    cases e : laterC h b.1 d with
    | none => exact ho
    | some c => exact in_add ho (later_le e) _
theorem in_shift (h : Nd) (d : Nat) (ah : List Fn) (W : Win) : InW h (shiftW h d ah W) := by
  have h1 : ∀ V : Win, InW h V → InW h (yesW V) := fun V hV => by
    cases V with
    | nil => exact hV
    | cons b r =>
      intro b' hb
      rcases List.mem_cons.1 hb with rfl | hb
      · exact hV b List.mem_cons_self
      · exact hV b' (List.mem_cons_of_mem _ hb)
  refine h1 _ (in_go h d ah W _ ?_)
  have h2 : InW h [(0, fun _ => noFn)] := fun b hb => by simp at hb; subst hb; exact Nat.zero_le _
  cases W with
  | nil => exact h2
  | cons b r =>
    show InW h (if laterC h b.1 d = some 0 then [] else [(0, fun _ => noFn)])
    split
    · intro b hb; cases hb
    · exact h2
theorem in_back (h : Nd) (m : Nat) (a : Tr) (zs : List Fn) {W : Win} (hW : InW h W) : InW h (backV m a zs W) := by
  intro b hb
  obtain ⟨b0, h1, rfl⟩ := List.mem_map.1 (List.mem_filter.1 hb).1
  exact hW b0 h1
/-! ### What a node changes -/
theorem node_ah (m d : Nat) (prop : ByteArray → Bool) (u : Tr) (i : Nat) (s : StM) : (nodeM m d prop u i s).ah.length = s.ah.length + atomM u := by
  cases u with
  | leaf h =>
    unfold nodeM
    dsimp only
    split <;> rfl
  | bin h a b =>
    unfold nodeM
    dsimp only
    split
    · rfl
    · split <;> rfl
  | un h a =>
    show _ = _ + (if h.kind = 17 then stepsN a * wideN h else 0)
    unfold nodeM
    dsimp only
    split
    · rename_i e; rw [if_neg (by omega)]; rfl
    · split
      · rename_i e; rw [if_neg (by omega)]; rfl
      · split
        · rw [List.length_append, length_aheadL]
        · rfl
theorem run_ah (m d : Nat) (prop : ByteArray → Bool) (u : Tr) (o : Nat) (s : StM) : ∀ k, (runM m d prop u o k s).ah.length = s.ah.length + uptoN atomM u k
  | 0 => rfl
  | k + 1 => by
    unfold runM
    rw [node_ah, run_ah m d prop u o s k, uptoN_succ, Nat.add_assoc]
theorem node_win (m d : Nat) (prop : ByteArray → Bool) (u : Tr) (i : Nat) (s : StM) (j : Nat) (h : j ≠ i) : (nodeM m d prop u i s).win j = s.win j := by
  cases u with
  | leaf hd =>
    unfold nodeM
    dsimp only
    split <;> rfl
  | bin hd a b =>
    unfold nodeM
    dsimp only
    split
    · rfl
    · split <;> rfl
  | un hd a =>
    unfold nodeM
    dsimp only
    split
    · rfl
    · split
      · show updW s.win i _ j = _
        unfold updW
        rw [if_neg h]
      · split <;> rfl
theorem run_win (m d : Nat) (prop : ByteArray → Bool) (u : Tr) (o : Nat) (s : StM) : ∀ (k j : Nat), j < o ∨ o + k ≤ j → (runM m d prop u o k s).win j = s.win j
  | 0, j, _ => rfl
  | k + 1, j, h => by
    unfold runM
    rw [node_win m d prop _ _ _ j (by omega), run_win m d prop u o s k j (by omega)]
/-- The whole formula, gone through place by place from what a pass keeps. -/
theorem run_all (m d : Nat) (prop : ByteArray → Bool) {t : Tr} (ht : Pl true t) (tr : Nat → Fn) (win : Nat → Win) :
    (runM m d prop t 0 t.size ⟨tr, [], win⟩).ah = (stF m d prop t 0 ⟨[], win⟩).2.ah ∧ (runM m d prop t 0 t.size ⟨tr, [], win⟩).win = (stF m d prop t 0 ⟨[], win⟩).2.win ∧ (runM m d prop t 0 t.size ⟨tr, [], win⟩).tr (t.size - 1) = (stF m d prop t 0 ⟨[], win⟩).1.1 := by
  obtain ⟨h1, h2, h3, _⟩ := run_stF m d prop t true ht 0 ⟨tr, [], win⟩
  refine ⟨h1, h2, ?_⟩
  have := h3 rfl
  rwa [Nat.zero_add] at this
end Go.Proofs.Ytaomehlhopiblaa
/-! The walks of ival.Later and ival.In: classes of time. -/
namespace Go.Proofs.Ytaomehlhopiblaa
open Go.RowKit
def laterV (h : Nd) (c d : Nat) : Int := match laterC h c d with
  | some c' => (c' : Nat)
  | none => -1
theorem last_is {h : Nd} (hs : spanS h.lo h.hi = true) : lastV h.lo h.hi = ((lastC h : Nat) : Int) ∧ wideN h = lastC h + 1 ∧ lastC h ≤ 9999 := by
  obtain ⟨h1, h2, h3⟩ := wideN_of hs
  unfold lastC
  omega
set_option maxRecDepth 100000 in
theorem later_w (h : Nd) (hs : spanS h.lo h.hi = true) (c d : Nat) (hd : d < 18446744073709551616) (hc : c < 9223372036854775808) (w : World) :
    Calls Try.prog 45 #[.agg #[.int .i64 h.lo, .int .i64 h.hi], .int .i64 (c : Nat), .int .u64 (d : Nat)] w fun e w' => e = .returned (.int .i64 (laterV h c d)) ∧ Below w.heap.size w w' := by
  obtain ⟨e1, e2, e3⟩ := last_is hs
  have HB := Lib.hid (Blk.new w 46 #[.int .i64 h.lo, .int .i64 h.hi])
  obtain ⟨k0, k1, _, _⟩ := blkA HB.out
  have HW := Lib.hid (fun X => e2 ▸ wide_w h hs X)
  have HL := Lib.hid (fun X => e1 ▸ last_w h.lo h.hi X)
  obtain ⟨V, hV⟩ : ∃ V, laterV h c d = V := ⟨_, rfl⟩
  rw [hV]
  unfold laterV laterC at hV
  clear e1 e2 hs
  generalize lastC h = L at *
  generalize h.lo = lo at *
  have hc0 : ((c : Int) < 0) = False := by simp
  by_cases g1 : L < c
  · rw [if_pos g1] at hV
    obtain rfl : -1 = V := hV
    have g1' : ((L + 1 : Nat) : Int) ≤ (c : Int) := by omega
    clear g1
    go_enter Try.func45, Try.ntmps45
    go_wp2_with (first
      | (go_at_call 44; refine (HW.out _).mono ?_; rintro e w1 ⟨rfl, hw1⟩; obtain ⟨q0, q1, _, _⟩ := blkA (HB.out.call hw1)))
    go_ret
    exact ⟨rfl, bthen (balloc _ _) hw1⟩
  · rw [if_neg g1] at hV
    have g1' : ¬ ((L + 1 : Nat) : Int) ≤ (c : Int) := by omega
    have wS : IntKind.i64.wrap ((L : Int) - (c : Int)) = ((L - c : Nat) : Int) := by rw [show (L : Int) - (c : Int) = ((L - c : Nat) : Int) by omega]; exact wrap_i (by omega) (by omega)
    have wU : IntKind.u64.wrap ((L - c : Nat) : Int) = ((L - c : Nat) : Int) := wrap_u (by omega) (by omega)
    by_cases g2 : d ≤ L - c
    · rw [if_pos g2] at hV
      obtain rfl : ((c + d : Nat) : Int) = V := hV
      have g2' : (d : Int) ≤ ((L - c : Nat) : Int) := by omega
      have wD : IntKind.i64.wrap (d : Int) = (d : Int) := wrap_i (by omega) (by omega)
      have wA : IntKind.i64.wrap ((c : Int) + (d : Int)) = ((c + d : Nat) : Int) := by rw [show (c : Int) + (d : Int) = ((c + d : Nat) : Int) by omega]; exact wrap_i (by omega) (by omega)
      clear g1 g2
      go_enter Try.func45, Try.ntmps45
      go_wp2_with (first
        | (go_at_call 44; refine (HW.out _).mono ?_; rintro e w1 ⟨rfl, hw1⟩; obtain ⟨q0, q1, _, _⟩ := blkA (HB.out.call hw1))
        | (go_at_call 63; refine (HL.out _).mono ?_; rintro e w2 ⟨rfl, hw2⟩; obtain ⟨r0, r1, _, _⟩ := blkA ((HB.out.call hw1).call hw2)))
      go_ret
      exact ⟨rfl, bthen (bthen (balloc _ _) hw1) hw2⟩
    · rw [if_neg g2] at hV
      have g2' : ¬ (d : Int) ≤ ((L - c : Nat) : Int) := by omega
      by_cases g3 : h.hi = -1
      · rw [if_pos g3] at hV
        obtain rfl : ((L : Nat) : Int) = V := hV
        have k1' := k1
        rw [g3] at k1' HB HW HL
        rw [g3]
        clear g1 g2 k1
        go_enter Try.func45, Try.ntmps45
        go_wp2_with (first
          | (go_at_call 44; refine (HW.out _).mono ?_; rintro e w1 ⟨rfl, hw1⟩; obtain ⟨q0, q1, _, _⟩ := blkA (HB.out.call hw1))
          | (go_at_call 63; refine (HL.out _).mono ?_; rintro e w2 ⟨rfl, hw2⟩; obtain ⟨r0, r1, _, _⟩ := blkA ((HB.out.call hw1).call hw2)))
        go_ret
        exact ⟨rfl, bthen (bthen (balloc _ _) hw1) hw2⟩
      · rw [if_neg g3] at hV
        obtain rfl : -1 = V := hV
        have g3' : (h.hi == -1) = false := by rw [beq_eq_false_iff_ne]; exact g3
        generalize h.hi = hi at *
        clear g1 g2 g3
        go_enter Try.func45, Try.ntmps45
        go_wp2_with (first
          | (go_at_call 44; refine (HW.out _).mono ?_; rintro e w1 ⟨rfl, hw1⟩; obtain ⟨q0, q1, _, _⟩ := blkA (HB.out.call hw1))
          | (go_at_call 63; refine (HL.out _).mono ?_; rintro e w2 ⟨rfl, hw2⟩; obtain ⟨r0, r1, _, _⟩ := blkA ((HB.out.call hw1).call hw2)))
        go_ret
        exact ⟨rfl, bthen (bthen (balloc _ _) hw1) hw2⟩
set_option maxRecDepth 100000 in
theorem iin_w (h : Nd) (hs : spanS h.lo h.hi = true) (c : Nat) (hc : c < 9223372036854775808) (w : World) :
    Calls Try.prog 43 #[.agg #[.int .i64 h.lo, .int .i64 h.hi], .int .i64 (c : Nat)] w fun e w' => e = .returned (.bool (inC h c)) ∧ Below w.heap.size w w' := by
  obtain ⟨e1, e2, e3⟩ := last_is hs
  have hlo : 0 ≤ h.lo ∧ h.lo ≤ 9999 := by
    unfold spanS at hs
    simp only [decide_eq_true_eq] at hs
    omega
  have HB := Lib.hid (Blk.new w 46 #[.int .i64 h.lo, .int .i64 h.hi])
  obtain ⟨k0, k1, _, _⟩ := blkA HB.out
  have HW := Lib.hid (fun X => e2 ▸ wide_w h hs X)
  obtain ⟨V, hV⟩ : ∃ V, inC h c = V := ⟨_, rfl⟩
  rw [hV]
  unfold inC at hV
  clear e1 e2 hs
  generalize lastC h = L at *
  generalize h.lo = lo at *
  generalize h.hi = hi at *
  have hmx : max lo 0 = lo := by omega
  by_cases g1 : lo ≤ (c : Int)
  · by_cases g2 : (c : Int) < ((L + 1 : Nat) : Int)
    · obtain rfl : true = V := by rw [← hV]; exact (decide_eq_true ⟨g1, by omega⟩).symm
      clear hV
      go_enter Try.func43, Try.ntmps43
      go_wp2_with (go_at_call 44; refine (HW.out _).mono ?_; rintro e w1 ⟨rfl, hw1⟩)
      go_ret
      exact ⟨by first | rfl | (simp; omega) | simp, bthen (balloc _ _) hw1⟩
    · obtain rfl : false = V := by rw [← hV]; exact (decide_eq_false (fun h => g2 (by omega))).symm
      clear hV
      go_enter Try.func43, Try.ntmps43
      go_wp2_with (go_at_call 44; refine (HW.out _).mono ?_; rintro e w1 ⟨rfl, hw1⟩)
      go_ret
      exact ⟨by first | rfl | (simp; omega) | simp, bthen (balloc _ _) hw1⟩
  · obtain rfl : false = V := by rw [← hV]; exact (decide_eq_false (fun h => g1 h.1)).symm
    clear hV
    go_enter Try.func43, Try.ntmps43
    go_wp2_with fail
    go_ret
    exact ⟨by first | rfl | simp, balloc _ _⟩
end Go.Proofs.Ytaomehlhopiblaa
