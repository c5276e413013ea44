/- The walk of bound.over, whatever it is handed. -/
import Derived.Test.YtdohbbjinbofbaaGreatBoundO
set_option linter.unusedVariables false
set_option linter.unusedSimpArgs false
namespace Go.Proofs.YtdohbbjinbofbaaGreat
open Go.RowKit
/-- What stands below a node: its kids, or a match's parts. -/
def belM (x : Tr) (i : Nat) : List Nat :=
  match x with
  | .leaf _ => []
  | .un h a => if h.kind = 16 ∨ h.kind = 17 then (testsL a (i - a.size)).map (· - 1) else [i - 1]
  | .bin _ _ b => [i - 1 - b.size, i - 1]
def stepsM : Tr → Nat
  | .un h a => if h.kind = 16 ∨ h.kind = 17 then stepsN a else 0
  | _ => 0
def testsM : Tr → Nat
  | .un h a => if h.kind = 16 ∨ h.kind = 17 then testsT a else 0
  | _ => 0
theorem sub_bin_kids {t : Tr} {i : Nat} (hi : i < t.size) {h : Nd} {a b : Tr} (hx : t.sub i = .bin h a b) : a.size + b.size ≤ i ∧ t.sub (i - 1) = b ∧ t.sub (i - 1 - b.size) = a := by
  have h1 := Tr.sub_size_le t i hi
  rw [hx] at h1
  simp only [Tr.size] at h1
  have hp := a.size_pos
  have hq := b.size_pos
  have h2 : ∀ j, j < a.size + b.size → t.sub (i - (a.size + b.size) + j) = (Tr.bin h a b).sub j := fun j hj => by
    have := Tr.sub_sub t i j hi (by rw [hx]; simp only [Tr.size]; omega)
    rw [hx] at this
    rw [← this]
    congr 1
    simp only [Tr.size]
    omega
  refine ⟨by omega, ?_, ?_⟩
  · have := h2 (a.size + b.size - 1) (by omega)
    rw [show i - (a.size + b.size) + (a.size + b.size - 1) = i - 1 by omega, sub_bin, if_neg (by omega), if_pos (by omega), show a.size + b.size - 1 - a.size = b.size - 1 by omega, Tr.sub_root] at this
    exact this
  · have := h2 (a.size - 1) (by omega)
    rw [show i - (a.size + b.size) + (a.size - 1) = i - 1 - b.size by omega, sub_bin, if_pos (by omega), Tr.sub_root] at this
    exact this
/-- The kids of a node that is no match are what stands below it. -/
theorem bel_kids {l : List Nd} {t : Tr} (ht : treeS l = some t) (i : Nat) (hi : i < l.length) (hm : ¬ ((t.sub i).root.kind = 16 ∨ (t.sub i).root.kind = 17)) : l[i].kids = zs (belM (t.sub i) i) ∧ stepsM (t.sub i) = 0 ∧ testsM (t.sub i) = 0 := by
  have hk := get_kids ht i hi
  have hit : i < t.size := by rw [← tree_len ht]; exact hi
  cases hx : t.sub i with
  | leaf h => rw [hx] at hk; exact ⟨hk, rfl, rfl⟩
  | un h a =>
    rw [hx] at hk hm
    obtain ⟨h1, _, _⟩ := sub_un_kid hit hx
    have hp := a.size_pos
    have hm' : ¬ (h.kind = 16 ∨ h.kind = 17) := hm
    refine ⟨?_, by simp only [stepsM]; rw [if_neg hm'], by simp only [testsM]; rw [if_neg hm']⟩
    rw [hk]
    simp only [belM]
    rw [if_neg hm']
    show [((i + 1 - (a.size + 1) + a.size : Nat) : Int) - 1] = [((i - 1 : Nat) : Int)]
    simp only [List.cons.injEq, and_true]
    omega
  | bin h a b =>
    rw [hx] at hk
    obtain ⟨h1, _, _⟩ := sub_bin_kids hit hx
    have hp := a.size_pos
    have hq := b.size_pos
    refine ⟨?_, rfl, rfl⟩
    rw [hk]
    show [((i + 1 - (a.size + b.size + 1) + a.size : Nat) : Int) - 1, ((i + 1 - (a.size + b.size + 1) + a.size + b.size : Nat) : Int) - 1] = [((i - 1 - b.size : Nat) : Int), ((i - 1 : Nat) : Int)]
    simp only [List.cons.injEq, and_true]
    omega
theorem match_un {l : List Nd} {t : Tr} (ht : treeS l = some t) (i : Nat) (hi : i < l.length) (hm : (t.sub i).root.kind = 16 ∨ (t.sub i).root.kind = 17) : ∃ h a, t.sub i = .un h a ∧ (h.kind = 16 ∨ h.kind = 17) ∧ regS a.root.kind = true ∧ l[i].kids = [(i : Int) - 1] ∧ spanS h.lo h.hi = true ∧ 1 ≤ i := by
  have hit : i < t.size := by rw [← tree_len ht]; exact hi
  have hk := get_kids ht i hi
  have hv := sub_valid t i (tree_valid ht)
  cases hx : t.sub i with
  | leaf h =>
    rw [hx] at hm hv
    have hm' : h.kind = 16 ∨ h.kind = 17 := hm
    have := fields_kids (show fieldsS { h with kids := [] } = true from hv)
    rcases hm' with e | e <;> rw [show ({ h with kids := [] } : Nd).kind = h.kind from rfl, e] at this <;> simp [arityS] at this
  | un h a =>
    rw [hx] at hm hv hk
    have hm' : h.kind = 16 ∨ h.kind = 17 := hm
    obtain ⟨h1, _, _⟩ := sub_un_kid hit hx
    have hp := a.size_pos
    simp only [validT, Bool.and_eq_true, beq_iff_eq] at hv
    obtain ⟨⟨h2, h3⟩, _⟩ := hv
    refine ⟨h, a, rfl, hm', by rw [h3]; rcases hm' with e | e <;> rw [e] <;> rfl, ?_, ?_, by omega⟩
    · rw [hk]
      show [((i + 1 - (a.size + 1) + a.size : Nat) : Int) - 1] = [(i : Int) - 1]
      simp only [List.cons.injEq, and_true]
      omega
    · unfold fieldsS at h2
      simp only [Bool.and_eq_true] at h2
      have h4 := h2.1.2
      have ht : timedS h.kind = true := by rcases hm' with e | e <;> rw [e] <;> rfl
      rw [show ({ h with kids := [0] } : Nd).kind = h.kind from rfl, ht, if_pos rfl] at h4
      exact h4
  | bin h a b =>
    rw [hx] at hm hv
    have hm' : h.kind = 16 ∨ h.kind = 17 := hm
    simp only [validT, Bool.and_eq_true] at hv
    have := fields_kids hv.1.1.1.1
    rcases hm' with e | e <;> rw [show ({ h with kids := [0, 0] } : Nd).kind = h.kind from rfl, e] at this <;> simp [arityS] at this
theorem get_flat_root {l : List Nd} {t : Tr} (ht : treeS l = some t) (i : Nat) (hi : i < l.length) : l[i] = { (t.sub i).root with kids := (t.sub i).rootKids (i + 1 - (t.sub i).size) } := by
  have h1 := Tr.get_flat t i 0 (by rw [← tree_len ht]; exact hi)
  rw [← tree_flat ht, List.getElem?_eq_getElem hi, Nat.zero_add] at h1
  injection h1
set_option maxRecDepth 100000 in
set_option maxHeartbeats 4000000 in
theorem over26_w {F : Fz} {w : World} (hF : Sat F w) (l : List Nd) (hn : l.length ≤ 1000) (A : Option Addr) (n c : Nat) (hc : n ≤ c) (hl : NodesF F A n l) (hform : formL l = true) (hplain : plainS l = true) {t : Tr} (ht : treeS l = some t)
    (k : Nat) (cap : Array Value) (eg : ∀ args w, (callFunc k args).run Tryz.prog w = .ok (.enter k args) w) (B : Nat) (hFB : ∀ b o, F b = some o → b < B) (hBw : B ≤ w.heap.size)
    (Inv : Nat → World → Prop) (val : Nat → Nat) (hstab : ∀ i X X', Inv i X → Below X.heap.size X X' → Inv i X')
    (hskip : ∀ i (hi : i < l.length), 18 ≤ l[i].kind → ∀ X, Inv i X → Inv (i + 1) X)
    (htell : ∀ (i : Nat) (hi : i < l.length) (x : Tr), t.sub i = x → x.root.kind < 18 → ∀ (X : World), Sat F X → B ≤ X.heap.size → Inv i X → ∀ (s : ByteArray) (Ak : Option Addr) (ck : Nat) (P : Option Addr) (pc : Nat) (Bl : Option Addr) (bn bc : Nat), Rd (heapF X) 1 Bl bn ((zs (belM x i)).map encI) →
      Calls Tryz.prog k (#[.int .i64 i, .agg #[.int .i64 x.root.kind, .string s, .int .i64 x.root.lo, .int .i64 x.root.hi, .slice Ak (kidsT x).length ck], .agg #[.int .i64 (stepsM x : Nat), .int .i64 (testsM x : Nat), .slice P (testsM x) pc], .slice Bl bn bc] ++ cap) X fun e w' => e = .returned (encU (val i)) ∧ Inv (i + 1) w' ∧ Below B X w')
    (h0 : Inv 0 w) :
    Calls Tryz.prog 48 #[.slice A n c, .func (.func k) #[] cap] w fun e w' => e = .returned (encU (val (l.length - 1))) ∧ Inv l.length w' ∧ Below B w w' := by
  have HFm := Lib.hid (bform_w hF l hn A n c hl true (by rw [hform, hplain]; rfl))
  have HL := Lib.hid hl
  have hlast : l.length - 1 < l.length ∧ (t.sub (l.length - 1)).root.kind < 18 ∧ 0 < l.length := by
    have h1 := tree_len ht
    have h2 := t.size_pos
    refine ⟨by omega, ?_, by omega⟩
    rw [h1, Tr.sub_root]
    unfold formL at hform
    rw [ht] at hform
    simp [regS] at hform
    exact hform
  have hOf := fun (X : World) (h : Sat F X) (i : Nat) (hi : i < l.length) (nd : Nd) (a : Tr) (hx : t.sub i = .un nd a) (hr : regS a.root.kind = true) (kk : Int) (s : ByteArray) (lo hi' : Int) (Ak : Option Addr) (ck : Nat) (hK : Rd F 1 Ak 1 [.int .i64 ((i : Int) - 1)]) => of_w h l hn A n c hc hl ht i hi nd a hx hr kk s lo hi' Ak ck h hK
  have hkind := fun i (hi : i < l.length) => get_flat_root ht i hi
  have hbk := fun i (hi : i < l.length) hm => bel_kids ht i hi hm
  have hmu := fun i (hi : i < l.length) hm => match_un ht i hi hm
  obtain ⟨rfl, hl2⟩ := hl
  have HT := Lib.hid htell
  have HSK := Lib.hid hskip
  have HST := Lib.hid hstab
  have HOF := Lib.hid hOf
  have HKD := Lib.hid hkind
  have HBK := Lib.hid hbk
  have HMU := Lib.hid hmu
  have HLA := Lib.hid hlast
  have HI0 := Lib.hid h0
  have HFB := Lib.hid hFB
  clear htell hskip hstab hOf hkind hbk hmu hlast h0 hFB hform hplain ht
  go_enter Tryz.func48, Tryz.ntmps48
  go_wp2_with (go_at_call 46; refine HFm.out.mono ?_; rintro e w1 ⟨rfl, hw1⟩)
  have hz1 := hw1.size
  go_loopw [5, 6, 7, 8, 14] (fun v5 _ _ _ v14 wr => ∃ i : Nat, i ≤ l.length ∧ v14 = .int .i64 i ∧ Hid (0 < i → (t.sub (i - 1)).root.kind < 18 → v5 = encU (val (i - 1))) ∧ Hid (Inv i wr) ∧ Sat F wr ∧ Below B w wr) (fun _ _ _ _ v14 _ => l.length - (intOf v14).toNat)
  case atStart => exact ⟨0, Nat.zero_le _, rfl, Lib.hid (fun h => by omega), Lib.hid (HST.out 0 _ _ HI0.out hw1), hF.below hw1, hw1.mono hBw⟩
  case round =>
    obtain ⟨i, hi, rfl, HV, HI, hFr, hbl⟩ := hrel
    have hzl := hbl.size
    by_cases hlt : i < l.length
    · have hiI : (i : Int) < (l.length : Int) := by omega
      have hkd := HKD.out i hlt
      obtain ⟨ad, rfl, hL⟩ := hl2 (by omega)
      obtain ⟨Ak, ck, _, hK, hd⟩ := hL i hlt
      have hbkx := HBK.out i hlt
      have hmux := HMU.out i hlt
      have htx := fun h => HT.out i hlt (t.sub i) rfl h
      have hskx := HSK.out i hlt
      have hofx := fun X h nd a hx hr => HOF.out X h i hlt nd a hx hr
      obtain ⟨x, hx⟩ : ∃ x, t.sub i = x := ⟨_, rfl⟩
      have hklen : ((x.rootKids (i + 1 - x.size)).length = (kidsT x).length) := by cases x <;> rfl
      rw [hx] at hkd hbkx hmux htx
      simp only [hx] at hofx
      generalize l[i] = nd at *
      have HHX := Lib.hid hx
      obtain ⟨R, hR⟩ : ∃ R, x.root = R := ⟨_, rfl⟩
      rw [hR] at hkd hbkx hmux htx
      obtain ⟨ks, hks⟩ : ∃ ks, x.rootKids (i + 1 - x.size) = ks := ⟨_, rfl⟩
      rw [hks] at hkd hklen
      obtain ⟨kind, name, lo, hi', kk⟩ := R
      subst hkd
      dsimp only at hK hd hbkx hmux htx hskx
      obtain ⟨c0, c1, c2, c3, c4⟩ := hd.sat hFr
      dsimp only at c0 c1 c2 c3 c4
      rw [hklen] at c4 hK
      obtain ⟨kl, hkl⟩ : ∃ kl, (kidsT x).length = kl := ⟨_, rfl⟩
      rw [hkl] at c4 hK htx
      have hbA := balloc wr (.cells #[.int .i64 kind, .string name, .int .i64 lo, .int .i64 hi', .slice Ak kl ck] 45)
      have hBA := Blk.new wr 45 #[.int .i64 kind, .string name, .int .i64 lo, .int .i64 hi', .slice Ak kl ck]
      obtain ⟨m0, m1, m2, m3, m4⟩ := blk5 hBA
      have hHR := Lib.hid hR
      by_cases h18 : (18 : Int) ≤ kind
      · have HI2 := Lib.hid (hskx h18 _ (HST.out i _ _ HI.out hbA))
        have hb2 := hbl.trans (hbA.mono (by omega))
        have hF2 := hFr.below hbA
        have HV2 : Hid (0 < i + 1 → (t.sub (i + 1 - 1)).root.kind < 18 → ∀ v5 : Value, v5 = encU (val (i + 1 - 1))) := Lib.hid (fun _ h => by
          rw [Nat.add_sub_cancel, HHX.out, hHR.out] at h
          exact absurd h (by show ¬ kind < 18; omega))
        clear hbkx hmux htx hskx hofx hd hK
        go_wp2_with fail
        go_roundw
        case rel => exact ⟨i + 1, by omega, by go_num, Lib.hid (fun h1 h2 => HV2.out h1 h2 _), HI2, hF2, hb2⟩
        case measure => simp [intOf]; omega
      · have h18b : decide ((18 : Int) ≤ kind) = false := decide_eq_false h18
        by_cases hm : kind = 16 ∨ kind = 17
        · obtain ⟨h, a, hxa, hha, hra, hkk, hsp, hi1⟩ := hmux hm
          have hMt := match_w kind name lo hi' Ak kl ck (wr.alloc (.cells #[.int .i64 kind, .string name, .int .i64 lo, .int .i64 hi', .slice Ak kl ck] 45)) true (by unfold matchS; simp [hm])
          have hbe : belM x i = (testsL a (i - a.size)).map (· - 1) := by rw [hxa]; simp only [belM]; rw [if_pos hha]
          have hst : stepsM x = stepsN a := by rw [hxa]; simp only [stepsM]; rw [if_pos hha]
          have hte : testsM x = testsT a := by rw [hxa]; simp only [testsM]; rw [if_pos hha]
          have hkl1 : kl = 1 := by rw [← hkl, hxa]; rfl
          subst hkl1
          have hOF := fun (X : World) (hX : Sat F X) => hofx X hX h a hxa hra kind name lo hi' Ak ck (by rw [hkk] at hK; exact hK)
          have htell := fun X h1 h2 h3 => htx (by omega) X h1 h2 h3 name Ak ck
          rw [hbe, hst, hte] at htell
          have HM := Lib.hid hMt
          have HO := Lib.hid hOF
          have HTL := Lib.hid htell
          generalize (testsL a (i - a.size)).map (· - 1) = PS at *
          generalize stepsN a = M at *
          generalize testsT a = N at *
          clear hbkx hmux htx hskx hofx hMt hOF htell hbe hst hte hd hK hkl hxa hra hha hsp hkk
          go_wp2_with (first
            | (go_at_call 82; refine HM.out.mono ?_; rintro e w3 ⟨rfl, hw3⟩; obtain ⟨m0, m1, m2, m3, m4⟩ := blk5 (hBA.call hw3))
            | (go_at_call 83; refine (HO.out _ ((hFr.below hbA).below hw3)).mono ?_; rintro e w4 ⟨P, pc, rfl, hr4, hw4⟩; obtain ⟨q0, q1, q2, q3, q4⟩ := blk5 (((hBA.call hw3).call hw4).alloc (.cells #[.int .i64 (M : Nat), .int .i64 (N : Nat), .slice P N pc] 75)); obtain ⟨p0, p1, p2, _, _, _⟩ := blk3 (Blk.new w4 75 #[.int .i64 (M : Nat), .int .i64 (N : Nat), .slice P N pc])))
          have hb4 := bthen (bthen hbA hw3) hw4
          have hb5 := bthen hb4 (balloc w4 (.cells #[.int .i64 (M : Nat), .int .i64 (N : Nat), .slice P N pc] 75))
          refine (HTL.out _ (hFr.below hb5) (by have := hb5.size; omega) (HST.out i _ _ HI.out hb5) P pc P N pc (hr4.cle (cle_below (balloc _ _)))).mono ?_
          rintro e w6 ⟨rfl, hI6, hb6⟩
          have hbf := (hbl.trans (hb5.mono (by omega))).trans hb6
          have hFf := hF.below_of hbf HFB.out
          have HI6 := Lib.hid hI6
          clear hI6
          go_wp2_with fail
          go_roundw
          case rel => exact ⟨i + 1, by omega, by go_num, Lib.hid (fun _ _ => by rw [Nat.add_sub_cancel]), HI6, hFf, hbf⟩
          case measure => simp [intOf]; omega
        · obtain ⟨hkk, hst, hte⟩ := hbkx hm
          have hMt := match_w kind name lo hi' Ak kl ck (wr.alloc (.cells #[.int .i64 kind, .string name, .int .i64 lo, .int .i64 hi', .slice Ak kl ck] 45)) false (by unfold matchS; simp [hm])
          have htell := fun X h1 h2 h3 => htx (by omega) X h1 h2 h3 name Ak ck
          rw [hst, hte] at htell
          rw [hkk] at hK
          have HM := Lib.hid hMt
          have HTL := Lib.hid htell
          have HK := Lib.hid hK
          clear hbkx hmux htx hskx hofx hMt htell hst hte hd hK hkk
          go_wp2_with (go_at_call 82; refine HM.out.mono ?_; rintro e w3 ⟨rfl, hw3⟩; obtain ⟨m0, m1, m2, m3, m4⟩ := blk5 (hBA.call hw3))
          have hb5 := bthen hbA hw3
          refine (HTL.out _ (hFr.below hb5) (by have := hb5.size; omega) (HST.out i _ _ HI.out hb5) none 0 Ak kl ck (HK.out.cle (hFr.below hb5).cle)).mono ?_
          rintro e w6 ⟨rfl, hI6, hb6⟩
          have hbf := (hbl.trans (hb5.mono (by omega))).trans hb6
          have hFf := hF.below_of hbf HFB.out
          have HI6 := Lib.hid hI6
          clear hI6
          go_wp2_with fail
          go_roundw
          case rel => exact ⟨i + 1, by omega, by go_num, Lib.hid (fun _ _ => by rw [Nat.add_sub_cancel]), HI6, hFf, hbf⟩
          case measure => simp [intOf]; omega
    · obtain rfl : i = l.length := by omega
      have hdec : decide ((l.length : Int) < (l.length : Int)) = false := decide_eq_false (by omega)
      have hv5 := HV.out HLA.out.2.2 HLA.out.2.1
      subst hv5
      go_wp2_with fail
      go_ret
      exact ⟨rfl, HI.out, hbl⟩
end Go.Proofs.YtdohbbjinbofbaaGreat
