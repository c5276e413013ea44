/- The walk of the law BoundPast. -/
import Derived.Test.YtdohbbjinbofbaaBoundJ
set_option linter.unusedVariables false
set_option linter.unusedSimpArgs false
namespace Go.Proofs.Ytdohbbjinbofbaa
open Go.RowKit
/-- One of a future match; one of a head that rests. -/
def foreM (x : Tr) : Nat := if x.root.kind = 17 then 1 else 0
def pastM (x : Tr) : Nat := if x.root.kind = 1 ∨ x.root.kind = 2 ∨ x.root.kind = 3 ∨ x.root.kind = 16 then 1 else 0
theorem fields_arity {h : Nd} (hf : fieldsS h = true) : (h.kids.length : Int) = arityS h.kind := by
  unfold fieldsS at hf
  simp only [Bool.and_eq_true, decide_eq_true_eq] at hf
  exact hf.2
theorem rest_past : ∀ t : Tr, validT t = true → allN foreM t = 0 → restT t = allN pastM t ∧ extraT t = 0
  | .leaf h, hv, hf => by
    have ha := fields_arity (show fieldsS { h with kids := [] } = true by simpa [validT] using hv)
    have ha : (0 : Int) = arityS h.kind := ha
    unfold arityS at ha
    have hk : h.kind = 1 ∨ h.kind = 2 ∨ h.kind = 3 ∨ h.kind = 18 := by
      repeat' split at ha
      all_goals first | assumption | omega
    refine ⟨?_, rfl⟩
    show (if h.kind = 18 then 0 else 1) = if h.kind = 1 ∨ h.kind = 2 ∨ h.kind = 3 ∨ h.kind = 16 then 1 else 0
    by_cases e : h.kind = 18
    · rw [if_pos e, if_neg (by omega)]
    · rw [if_neg e, if_pos (by omega)]
  | .un h a, hv, hf => by
    simp only [validT, Bool.and_eq_true] at hv
    have ha := fields_arity hv.1.1
    have ha : (1 : Int) = arityS h.kind := ha
    unfold arityS at ha
    have hk : ¬ (h.kind = 1 ∨ h.kind = 2 ∨ h.kind = 3 ∨ h.kind = 18) := by
      intro e
      rw [if_pos e] at ha
      omega
    simp only [allN] at hf
    have hf1 : allN foreM a = 0 := by omega
    have hf2 : (if h.kind = 17 then 1 else 0) = 0 := by
      have : foreM (.un h a) = 0 := by omega
      exact this
    have h17 : h.kind ≠ 17 := fun e => by rw [if_pos e] at hf2; omega
    obtain ⟨i1, i2⟩ := rest_past a hv.2 hf1
    constructor
    · show restT a + (if h.kind = 16 ∨ h.kind = 17 then 1 else 0) = allN pastM a + (if h.kind = 1 ∨ h.kind = 2 ∨ h.kind = 3 ∨ h.kind = 16 then 1 else 0)
      rw [i1]
      by_cases e : h.kind = 16
      · rw [if_pos (.inl e), if_pos (by omega)]
      · rw [if_neg (by omega), if_neg (by omega)]
    · show extraT a + (if h.kind = 17 then restT a + 1 else 0) = 0
      rw [i2, if_neg h17]
  | .bin h a b, hv, hf => by
    simp only [validT, Bool.and_eq_true] at hv
    have ha := fields_arity hv.1.1.1.1
    have ha : (2 : Int) = arityS h.kind := ha
    unfold arityS at ha
    have hk : ¬ (h.kind = 1 ∨ h.kind = 2 ∨ h.kind = 3 ∨ h.kind = 18) := by
      intro e
      rw [if_pos e] at ha
      omega
    have hk2 : h.kind ≠ 16 := by
      intro e
      rw [if_neg hk, if_neg (by omega), if_neg (by omega)] at ha
      omega
    simp only [allN] at hf
    obtain ⟨i1, i2⟩ := rest_past a hv.1.2 (by omega)
    obtain ⟨j1, j2⟩ := rest_past b hv.2 (by omega)
    constructor
    · show restT a + restT b = allN pastM a + allN pastM b + (if h.kind = 1 ∨ h.kind = 2 ∨ h.kind = 3 ∨ h.kind = 16 then 1 else 0)
      rw [i1, j1, if_neg (by omega), Nat.add_zero]
    · show max (extraT a) (extraT b) = 0
      rw [i2, j2]; rfl
theorem pastM_le (x : Tr) : pastM x ≤ 1 := by unfold pastM; split <;> omega
set_option maxRecDepth 100000 in
set_option maxHeartbeats 4000000 in
theorem boundPast_c {F : Fz} {w : World} (hF : Sat F w) (ns : List Nat) (hns : ∀ k ∈ ns, k < 65536) (B : Option Addr) (m d : Nat) (hr : Rd F 1 B m (ns.map encW)) (props room : Int) :
    Calls Try.prog 4 #[.slice B m d, .int .i64 props, .int .i64 room] w fun e w' => e = .returned (.bool true) ∧ Below w.heap.size w w' := by
  have HMk := Lib.hid (make_w hF ns hns B m d hr true (makeT true ns) rfl)
  have hsz := (make_size true ns).1
  rw [← Tr.length_flat (makeT true ns) 0] at hsz
  obtain ⟨hf, _, hp⟩ := ok_form (make_ok true ns hns).1
  have hp := hp rfl
  obtain ⟨l, hl⟩ : ∃ l, (makeT true ns).flat 0 = l := ⟨_, rfl⟩
  rw [hl] at HMk hsz hf hp
  have hb : (formL l && plainS l) = true := by rw [hf, hp]; rfl
  obtain ⟨_, _, t, ht⟩ := plain_tree hb
  clear hl hr hns
  have hn : l.length ≤ 1000 := by omega
  have hlt := tree_len ht
  have HUP := Lib.hid (fun i (hi : i ≤ l.length) => uptoN_le (g := pastM) (t := t) (n := l.length) (B := 1) (fun _ _ => pastM_le _) i hi)
  have HALP : Hid (uptoN pastM t l.length = allN pastM t) := Lib.hid (by rw [hlt, uptoN_all])
  have HALF : Hid (uptoN foreM t l.length = allN foreM t) := Lib.hid (by rw [hlt, uptoN_all])
  have HRP := Lib.hid (rest_past t (tree_valid ht))
  have HKD := Lib.hid (fun i (hi : i < l.length) => get_flat_root ht i hi)
  have hRT := onT_yes (f := restT) hb ht
  have hET := onT_yes (f := extraT) hb ht
  have hnb : l.length ≤ 100 := by omega
  clear hlt hf hp hb ht
  go_enter Try.func4, Try.ntmps4
  go_wp2_with fail
  go_at_call 11
  refine HMk.out.mono ?_
  rintro e W ⟨A, c, F1, rfl, hc, hN, hbW, hF1, _⟩
  have hRs := Lib.hid (fun (X : World) (h : Sat F1 X) => brest_w h l hn A l.length c hc hN (restT t) hRT)
  have hEx := Lib.hid (fun (X : World) (h : Sat F1 X) => bextra_w h l hn A l.length c hc hN (extraT t) hET)
  have hHd := Lib.hid (fun (X : World) (h : Sat F1 X) => bheads_w h l hn A l.length c hc hN (restT t) (extraT t) hRT hET)
  obtain ⟨_, hl2⟩ := hN
  have hzW := hbW.size
  clear hRT hET
  go_wp2_with fail
  go_loopw [8, 10, 15] (fun v8 _ v15 wr => ∃ i : Nat, i ≤ l.length ∧ v15 = .int .i64 i ∧ v8 = .int .i64 (uptoN pastM t i : Nat) ∧ Hid (uptoN foreM t i = 0) ∧ Below w.heap.size w wr ∧ Below W.heap.size W wr) (fun _ _ v15 _ => l.length - (intOf v15).toNat)
  case atStart => exact ⟨0, Nat.zero_le _, rfl, rfl, Lib.hid rfl, hbW, Below.refl _ _⟩
  case round =>
    obtain ⟨i, hi, rfl, rfl, HU, hbl, hbl2⟩ := hrel
    have hFr := hF1.below hbl2
    have hzl := hbl.size
    have hzl2 := hbl2.size
    by_cases hlt : i < l.length
    · have hiI : (i : Int) < (l.length : Int) := by omega
      have hkd := HKD.out i hlt
      obtain ⟨ad, rfl, hL⟩ := hl2 (by omega)
      obtain ⟨Ak, ck, _, hK, hd⟩ := hL i hlt
      have hup := HUP.out i (by omega)
      have hsp := uptoN_succ pastM t i
      have hsf := uptoN_succ foreM t i
      rw [HU.out] at hsf
      obtain ⟨x, hx⟩ : ∃ x, t.sub i = x := ⟨_, rfl⟩
      rw [hx] at hkd hsp hsf
      generalize l[i] = nd at *
      obtain ⟨UP, hUP⟩ : ∃ UP, uptoN pastM t i = UP := ⟨_, rfl⟩
      obtain ⟨VP, hVP⟩ : ∃ VP, uptoN pastM t (i + 1) = VP := ⟨_, rfl⟩
      rw [hUP] at hup hsp ⊢
      rw [hVP] at hsp
      have hup : UP ≤ 1000 := by omega
      obtain ⟨R, hR⟩ : ∃ R, x.root = R := ⟨_, rfl⟩
      rw [hR] at hkd
      have hpm : pastM x = if R.kind = 1 ∨ R.kind = 2 ∨ R.kind = 3 ∨ R.kind = 16 then 1 else 0 := by unfold pastM; rw [hR]
      have hfm : foreM x = if R.kind = 17 then 1 else 0 := by unfold foreM; rw [hR]
      rw [hpm] at hsp
      rw [hfm] at hsf
      obtain ⟨ks, hks⟩ : ∃ ks, x.rootKids (i + 1 - x.size) = ks := ⟨_, rfl⟩
      rw [hks] at hkd
      obtain ⟨kind, name, lo, hi', kk⟩ := R
      subst hkd
      dsimp only at hK hd hsp hsf
      obtain ⟨c0, c1, c2, c3, c4⟩ := hd.sat hFr
      dsimp only at c0 c1 c2 c3 c4
      have hVPX := Lib.hid hVP
      have hbA := balloc wr (.cells #[.int .i64 kind, .string name, .int .i64 lo, .int .i64 hi', .slice Ak ks.length ck] 30)
      obtain ⟨m0, m1, m2, m3, m4⟩ := blk5 (Blk.new wr 30 #[.int .i64 kind, .string name, .int .i64 lo, .int .i64 hi', .slice Ak ks.length ck])
      clear hUP hVP hx hR hks hpm hfm hL hK hd HU HALP HALF HRP HKD HUP
      by_cases h17 : kind = 17
      · subst h17
        clear hsp hsf hVPX
        go_wp2_with (go_at_call 17; refine (awake26_w _).mono ?_; rintro e w3 ⟨rfl, hw3⟩)
        go_ret
        exact ⟨rfl, bthen (bthen hbl hbA) hw3⟩
      have h17b : (kind == 17) = false := by rw [beq_eq_false_iff_ne]; exact h17
      rw [if_neg h17, Nat.add_zero] at hsf
      have HSF := Lib.hid hsf
      clear hsf
      by_cases h1 : kind = 1
      · subst h1
        rw [if_pos (by decide)] at hsp
        have HSP := Lib.hid hsp
        clear hsp
        go_wp2_with fail
        go_roundw
        case rel => exact ⟨i + 1, by omega, by go_num, by rw [hVPX.out, HSP.out]; go_num, HSF, bthen hbl hbA, bthen hbl2 hbA⟩
        case measure => simp [intOf]; omega
      have h1b : (kind == 1) = false := by rw [beq_eq_false_iff_ne]; exact h1
      by_cases h2 : kind = 2
      · subst h2
        rw [if_pos (by decide)] at hsp
        have HSP := Lib.hid hsp
        clear hsp
        go_wp2_with fail
        go_roundw
        case rel => exact ⟨i + 1, by omega, by go_num, by rw [hVPX.out, HSP.out]; go_num, HSF, bthen hbl hbA, bthen hbl2 hbA⟩
        case measure => simp [intOf]; omega
      have h2b : (kind == 2) = false := by rw [beq_eq_false_iff_ne]; exact h2
      by_cases h3 : kind = 3
      · subst h3
        rw [if_pos (by decide)] at hsp
        have HSP := Lib.hid hsp
        clear hsp
        go_wp2_with fail
        go_roundw
        case rel => exact ⟨i + 1, by omega, by go_num, by rw [hVPX.out, HSP.out]; go_num, HSF, bthen hbl hbA, bthen hbl2 hbA⟩
        case measure => simp [intOf]; omega
      have h3b : (kind == 3) = false := by rw [beq_eq_false_iff_ne]; exact h3
      by_cases h16 : kind = 16
      · subst h16
        rw [if_pos (by decide)] at hsp
        have HSP := Lib.hid hsp
        clear hsp
        go_wp2_with fail
        go_roundw
        case rel => exact ⟨i + 1, by omega, by go_num, by rw [hVPX.out, HSP.out]; go_num, HSF, bthen hbl hbA, bthen hbl2 hbA⟩
        case measure => simp [intOf]; omega
      have h16b : (kind == 16) = false := by rw [beq_eq_false_iff_ne]; exact h16
      rw [if_neg (by omega), Nat.add_zero] at hsp
      have HSP := Lib.hid hsp
      clear hsp
      go_wp2_with fail
      go_roundw
      case rel => exact ⟨i + 1, by omega, by go_num, by rw [hVPX.out, HSP.out], HSF, bthen hbl hbA, bthen hbl2 hbA⟩
      case measure => simp [intOf]; omega
    · obtain rfl : i = l.length := by omega
      have hdec : decide ((l.length : Int) < (l.length : Int)) = false := decide_eq_false (by omega)
      obtain ⟨e1, e2⟩ := HRP.out (by rw [← HALF.out, HU.out])
      have hRs' := hRs.out
      have hEx' := hEx.out
      have hHd' := hHd.out
      rw [e1, e2] at hHd'
      rw [e1] at hRs'
      rw [e2] at hEx'
      rw [HALP.out]
      generalize allN pastM t = N at *
      have HRs := Lib.hid hRs'
      have HEx := Lib.hid hEx'
      have HHd := Lib.hid hHd'
      clear hRs hEx hHd hRs' hEx' hHd' HU HALP HALF HRP HKD HUP e1 e2
      go_wp2_with (first
        | (go_at_call 18; refine (HRs.out _ hFr).mono ?_; rintro e w1 ⟨rfl, hw1, hNb⟩)
        | (go_at_call 19; refine (HEx.out _ (hFr.below hw1)).mono ?_; rintro e w2 ⟨rfl, hw2, _⟩)
        | (go_at_call 20; refine (HHd.out _ ((hFr.below hw1).below hw2)).mono ?_; rintro e w3 ⟨rfl, hw3, _⟩)
        | (go_at_call 17; refine (awake26_w _).mono ?_; rintro e w4 ⟨rfl, hw4⟩))
      go_ret
      exact ⟨by simp, bthen (bthen (bthen (bthen hbl hw1) hw2) hw3) hw4⟩
end Go.Proofs.Ytdohbbjinbofbaa
