/- The walk of the law BoundParts. -/
import Derived.Test.YtdohbbjinbofbaaBoundG
set_option linter.unusedVariables false
set_option linter.unusedSimpArgs false
namespace Go.Proofs.Ytdohbbjinbofbaa
open Go.RowKit
/-- The contracts of the bound's functions on one list of numbers that are known. -/
structure Told (F : Fz) (A : Option Addr) (n c : Nat) (props room : Int) (R E V N O : Nat) : Prop where
  rest : ∀ X, Sat F X → Calls Try.prog 18 #[.slice A n c] X fun e w' => e = .returned (.int .i64 (R : Nat)) ∧ Below X.heap.size X w'
  extra : ∀ X, Sat F X → Calls Try.prog 19 #[.slice A n c] X fun e w' => e = .returned (.int .i64 (E : Nat)) ∧ Below X.heap.size X w'
  heads : ∀ X, Sat F X → Calls Try.prog 20 #[.slice A n c] X fun e w' => e = .returned (.int .i64 ((R + E : Nat) : Int)) ∧ Below X.heap.size X w'
  cells : ∀ X, Sat F X → Calls Try.prog 21 #[.slice A n c, .int .i64 props, .int .i64 room] X fun e w' => e = .returned (encU V) ∧ Below X.heap.size X w'
  atoms : ∀ X, Sat F X → Calls Try.prog 15 #[.slice A n c] X fun e w' => e = .returned (.int .i64 (N : Nat)) ∧ Below X.heap.size X w'
  once : ∀ X, Sat F X → Calls Try.prog 16 #[.slice A n c] X fun e w' => e = .returned (encU O) ∧ Below X.heap.size X w'
theorem told {F : Fz} (l : List Nd) (hn : l.length ≤ 1000) (A : Option Addr) (c : Nat) (hc : l.length ≤ c) (hl : NodesF F A l.length l) (props room : Int) (P C : Nat) (hP : min (max props 0) 64 = (P : Int)) (hC : min (max room 1) 4096 = (C : Int)) :
    Told F A l.length c props room (onT restT l) (onT extraT l) (onT (cellsT P C) l) (onT atomsN l) (onT onceT l) where
  rest X h := (brest_w h l hn A l.length c hc hl _ rfl).mono fun _ _ h => ⟨h.1, h.2.1⟩
  extra X h := (bextra_w h l hn A l.length c hc hl _ rfl).mono fun _ _ h => ⟨h.1, h.2.1⟩
  heads X h := (bheads_w h l hn A l.length c hc hl _ _ rfl rfl).mono fun _ _ h => ⟨h.1, h.2.1⟩
  cells X h := (bcells_w h l hn A l.length c hc hl props room P C hP hC _ rfl).mono fun _ _ h => ⟨h.1, h.2.1⟩
  atoms X h := (batoms_w h l hn A l.length c hc hl _ rfl).mono fun _ _ h => ⟨h.1, h.2.1⟩
  once X h := bonce_w h l hn A l.length c hc hl _ rfl
/-- A made formula: a tree, plain, of at most a hundred nodes. -/
theorem made_form (ns : List Nat) (hns : ∀ k ∈ ns, k < 65536) : ∃ t, treeS ((makeT true ns).flat 0) = some t ∧ formL ((makeT true ns).flat 0) = true ∧ plainS ((makeT true ns).flat 0) = true ∧ ((makeT true ns).flat 0).length ≤ 100 := by
  have hsz := (make_size true ns).1
  rw [← Tr.length_flat (makeT true ns) 0] at hsz
  obtain ⟨hf, _, hp⟩ := ok_form (make_ok true ns hns).1
  have hp := hp rfl
  obtain ⟨_, _, t, ht⟩ := plain_tree (l := (makeT true ns).flat 0) (by rw [hf, hp]; rfl)
  exact ⟨t, ht, hf, hp, hsz⟩
theorem backN_le {l : List Nd} (hn : l.length ≤ 1000) {t : Tr} (ht : treeS l = some t) : backN t ≤ 20000000000 := by
  have hlt := tree_len ht
  have hup := uptoN_le (g := backM) (t := t) (n := l.length) (B := 20000000) (fun i hi => (atomM_le hn ht i hi).2) l.length (Nat.le_refl _)
  rw [hlt, uptoN_all, ← backN_all] at hup
  omega
theorem atomsN_le {l : List Nd} (hn : l.length ≤ 1000) {t : Tr} (ht : treeS l = some t) : atomsN t ≤ 10000000000 := by
  have hlt := tree_len ht
  have hup := uptoN_le (g := atomM) (t := t) (n := l.length) (B := 10000000) (fun i hi => (atomM_le hn ht i hi).1) l.length (Nat.le_refl _)
  rw [hlt, uptoN_all, ← atomsN_all] at hup
  omega
set_option maxRecDepth 100000 in
set_option maxHeartbeats 4000000 in
theorem boundParts_c {F : Fz} {w : World} (hF : Sat F w) (ns : List Nat) (hns : ∀ k ∈ ns, k < 65536) (B : Option Addr) (m d : Nat) (hr : Rd F 1 B m (ns.map encW)) (props room : Int) :
    Calls Try.prog 5 #[.slice B m d, .int .i64 props, .int .i64 room] w fun e w' => e = .returned (.bool true) ∧ Below w.heap.size w w' := by
  have HMk := Lib.hid (make_w hF ns hns B m d hr true (makeT true ns) rfl)
  obtain ⟨t, ht, hf, hp, hsz⟩ := made_form ns hns
  obtain ⟨l, hl⟩ : ∃ l, (makeT true ns).flat 0 = l := ⟨_, rfl⟩
  rw [hl] at HMk ht hf hp hsz
  have hb : (formL l && plainS l) = true := by rw [hf, hp]; rfl
  clear hl hr hns
  have hn : l.length ≤ 1000 := by omega
  obtain ⟨P, hP⟩ : ∃ P : Nat, min (max props 0) 64 = (P : Int) := ⟨(min (max props 0) 64).toNat, by omega⟩
  obtain ⟨C, hC⟩ : ∃ C : Nat, min (max room 1) 4096 = (C : Int) := ⟨(min (max room 1) 4096).toNat, by omega⟩
  have hlt := tree_len ht
  have hval := tree_valid ht
  have k1 := restT_le t
  have k2 := extraT_le t
  have k3 := cellsT_le (P := P) (C := C) (by omega) (by omega) hval (by omega)
  have k4 := restT_pos t hval (form_root hf ht)
  have k5 := cellsT_heads P C t
  have k6 : t.size * t.size ≤ 1000000 := Nat.le_trans (Nat.mul_le_mul (show t.size ≤ 1000 by omega) (show t.size ≤ 1000 by omega)) (by omega)
  have k7 := backN_le hn ht
  have hTl := fun (F1 : Fz) A c hc hN => told (F := F1) l hn A c hc hN props room P C hP hC
  rw [onT_yes hb ht, onT_yes hb ht, onT_yes hb ht, onT_yes hb ht, onT_yes hb ht] at hTl
  have HS : Hid (∀ i, i < l.length → partL l (i : Int) = (t.sub i).flat 0 ∧ ((t.sub i).flat 0).length ≤ 1000 ∧ formL ((t.sub i).flat 0) = decide ((t.sub i).root.kind < 18) ∧
      (¬ (t.sub i).root.kind < 18 → ∀ f, onT f ((t.sub i).flat 0) = 0) ∧
      ((t.sub i).root.kind < 18 → onT restT ((t.sub i).flat 0) = restT (t.sub i) ∧ onT extraT ((t.sub i).flat 0) = extraT (t.sub i) ∧ onT (cellsT P C) ((t.sub i).flat 0) = cellsT P C (t.sub i) ∧ onT atomsN ((t.sub i).flat 0) = atomsN (t.sub i) ∧ onT onceT ((t.sub i).flat 0) = onceT (t.sub i) ∧
        1 ≤ restT (t.sub i) ∧ restT (t.sub i) ≤ restT t ∧ extraT (t.sub i) ≤ extraT t ∧ cellsT P C (t.sub i) ≤ cellsT P C t ∧ atomsN (t.sub i) ≤ atomsN t ∧ (atomsN t ≤ 10 → onceT (t.sub i) ≤ onceT t))) := Lib.hid (fun i hi => by
    obtain ⟨q1, q2, q3, q4, q5⟩ := part_at ht hp i hi
    refine ⟨q1, by omega, q5, fun hk f => on_none f (by rw [q5, decide_eq_false hk]), fun hk => ⟨(on_flat restT restT_eq q3 hk q4).1, (on_flat extraT extraT_eq q3 hk q4).1, (on_flat (cellsT P C) cellsT_eq q3 hk q4).1, (on_flat atomsN atomsN_eq q3 hk q4).1, (on_flat onceT onceT_eq q3 hk q4).1, restT_pos _ q3 hk, restT_sub t i, extraT_sub t i, cellsT_sub P C t i, atomsN_sub t i, fun h10 => ?_⟩⟩
    exact onceV_mono (atomsN_sub t i) (backN_sub t i) h10 (by omega))
  have HTL := Lib.hid hTl
  generalize restT t = R at *
  generalize extraT t = E at *
  generalize cellsT P C t = V at *
  have k8 := atomsN_le hn ht
  generalize atomsN t = N at *
  generalize onceT t = O at *
  obtain ⟨H, hH⟩ : ∃ H, R + E = H := ⟨_, rfl⟩
  obtain ⟨H3, hH3⟩ : ∃ H3, 3 * H = H3 := ⟨_, rfl⟩
  have d1 : decide ((H : Int) < 1) = false := decide_eq_false (by omega)
  have wA : IntKind.u64.wrap (H : Int) = (H : Int) := wrap_u (by omega) (by omega)
  have wB : IntKind.u64.wrap (3 * (H : Int)) = (H3 : Int) := by rw [show 3 * (H : Int) = (H3 : Int) by omega]; exact wrap_u (by omega) (by omega)
  have wB' : IntKind.u64.wrap ((H : Int) * 3) = (H3 : Int) := by rw [show (H : Int) * 3 = (H3 : Int) by omega]; exact wrap_u (by omega) (by omega)
  have d2 : decide (V < H3) = false := decide_eq_false (by rw [hH] at k5; omega)
  have HH := Lib.hid hH
  have HPC := Lib.hid hP
  have HCC := Lib.hid hC
  clear hTl k1 k2 k3 k4 k5 k6 k7 hH hH3 hf hp hb ht hlt hval hP hC
  go_enter Try.func5, Try.ntmps5
  go_wp2_with fail
  go_at_call 11
  refine HMk.out.mono ?_
  rintro e W ⟨A, c, F1, rfl, hc, hN, hbW, hF1, _⟩
  have hT := Lib.hid (HTL.out F1 A c hc hN)
  have hPt := Lib.hid (fun (X : World) (h : Sat F1 X) i h1 h2 => part_w h l hn A l.length c hc hN i h1 h2)
  have hzW := hbW.size
  clear hN
  go_wp2_with fail
  go_at_call 20
  refine (hT.out.heads _ hF1).mono ?_
  rintro e w1 ⟨rfl, hw1⟩
  rw [HH.out]
  have hF2 := hF1.below hw1
  go_wp2_with fail
  go_at_call 21
  refine (hT.out.cells _ hF2).mono ?_
  rintro e w2 ⟨rfl, hw2⟩
  have hF3 := hF2.below hw2
  go_wp2_with fail
  go_at_call 20
  refine (hT.out.heads _ hF3).mono ?_
  rintro e w3 ⟨rfl, hw3⟩
  rw [HH.out]
  have hF4 := hF3.below hw3
  have hb4 := bthen (bthen (bthen hbW hw1) hw2) hw3
  clear hF1 hF2 hF3 hw1 hw2 hbW hw3 hzW
  have hz4 := hb4.size
  go_wp2_with fail
  go_loopw [8, 9, 28] (fun _ _ v28 wr => ∃ i : Nat, i ≤ l.length ∧ v28 = .int .i64 i ∧ Below w.heap.size w wr ∧ Below w3.heap.size w3 wr) (fun _ _ v28 _ => l.length - (intOf v28).toNat)
  case atStart => exact ⟨0, Nat.zero_le _, rfl, hb4, Below.refl _ _⟩
  case round =>
    obtain ⟨i, hi, rfl, hbl, hbl2⟩ := hrel
    have hFr := hF4.below hbl2
    have hzl := hbl.size
    have hzl2 := hbl2.size
    by_cases hlt : i < l.length
    · have hiI : (i : Int) < (l.length : Int) := by omega
      obtain ⟨q1, q2, q3, q4, q5⟩ := HS.out i hlt
      have hPi := fun X h => hPt.out X h (i : Int) (by omega) (by omega)
      rw [q1] at hPi
      have HPi := Lib.hid hPi
      generalize t.sub i = s at *
      obtain ⟨p, hp⟩ : ∃ p, s.flat 0 = p := ⟨_, rfl⟩
      rw [hp] at q2 q3 HPi q4 q5
      have HTP := Lib.hid (fun (F2 : Fz) A c hc hN => told (F := F2) p q2 A c hc hN props room P C HPC.out HCC.out)
      have HFm := Lib.hid (fun (F2 : Fz) (X : World) (h : Sat F2 X) (A : Option Addr) (c : Nat) (hN : NodesF F2 A p.length p) => form_w h p q2 A p.length c hN _ q3)
      clear hPi q1 q2 q3 hp
      by_cases hk : s.root.kind < 18
      · obtain ⟨e1, e2, e3, e4, e5, j1, j2, j3, j4, j5, j6⟩ := q5 hk
        rw [e1, e2, e3, e4, e5] at HTP
        rw [decide_eq_true hk] at HFm
        generalize restT s = R' at *
        generalize extraT s = E' at *
        generalize cellsT P C s = V' at *
        generalize atomsN s = N' at *
        generalize onceT s = O' at *
        have c1 : decide ((R' : Int) < 1) = false := decide_eq_false (by omega)
        have c2 : decide (R < R') = false := decide_eq_false (by omega)
        have c3 : decide (E < E') = false := decide_eq_false (by omega)
        have c4 : decide (V < V') = false := decide_eq_false (by omega)
        have c5 : decide (N < N') = false := decide_eq_false (by omega)
        have hlb : l.length ≤ 1000 := hn
        by_cases h10 : N ≤ 10
        · have c6 : (N : Int) ≤ 10 := by omega
          have c7 : decide (O < O') = false := decide_eq_false (by have := j6 h10; omega)
          clear q4 q5 e1 e2 e3 e4 e5 j1 j2 j3 j4 j5 j6 hk h10
          go_wp2_with fail
          go_at_call 13
          refine (HPi.out _ hFr).mono ?_
          rintro e u0 ⟨A1, c1', F2, rfl, hc1, hN1, hb0, hG0, _⟩
          have hT1 := Lib.hid (HTP.out F2 A1 c1' hc1 hN1)
          have hE0 := hFr.below hb0
          go_wp2_with fail
          go_at_call 22
          refine (HFm.out F2 _ hG0 A1 c1' hN1).mono ?_
          rintro e u1 ⟨rfl, hy1⟩
          have hG1 := hG0.below hy1
          have hE1 := hE0.below hy1
          have hb1 := bthen hb0 hy1
          clear hN1
          go_wp2_with fail
          go_at_call 18
          refine (hT1.out.rest _ hG1).mono ?_
          rintro e u2 ⟨rfl, hy2⟩
          have hG2 := hG1.below hy2
          have hE2 := hE1.below hy2
          have hb2 := bthen hb1 hy2
          clear hG1 hE1 hy2 hb1
          go_wp2_with fail
          go_at_call 18
          refine (hT1.out.rest _ hG2).mono ?_
          rintro e u3 ⟨rfl, hy3⟩
          have hG3 := hG2.below hy3
          have hE3 := hE2.below hy3
          have hb3 := bthen hb2 hy3
          clear hG2 hE2 hy3 hb2
          go_wp2_with fail
          go_at_call 18
          refine (hT.out.rest _ hE3).mono ?_
          rintro e u4 ⟨rfl, hy4⟩
          have hG4 := hG3.below hy4
          have hE4 := hE3.below hy4
          have hb4 := bthen hb3 hy4
          clear hG3 hE3 hy4 hb3
          go_wp2_with fail
          go_at_call 19
          refine (hT1.out.extra _ hG4).mono ?_
          rintro e u5 ⟨rfl, hy5⟩
          have hG5 := hG4.below hy5
          have hE5 := hE4.below hy5
          have hb5 := bthen hb4 hy5
          clear hG4 hE4 hy5 hb4
          go_wp2_with fail
          go_at_call 19
          refine (hT.out.extra _ hE5).mono ?_
          rintro e u6 ⟨rfl, hy6⟩
          have hG6 := hG5.below hy6
          have hE6 := hE5.below hy6
          have hb6 := bthen hb5 hy6
          clear hG5 hE5 hy6 hb5
          go_wp2_with fail
          go_at_call 21
          refine (hT1.out.cells _ hG6).mono ?_
          rintro e u7 ⟨rfl, hy7⟩
          have hG7 := hG6.below hy7
          have hE7 := hE6.below hy7
          have hb7 := bthen hb6 hy7
          clear hG6 hE6 hy7 hb6
          go_wp2_with fail
          go_at_call 21
          refine (hT.out.cells _ hE7).mono ?_
          rintro e u8 ⟨rfl, hy8⟩
          have hG8 := hG7.below hy8
          have hE8 := hE7.below hy8
          have hb8 := bthen hb7 hy8
          clear hG7 hE7 hy8 hb7
          go_wp2_with fail
          go_at_call 15
          refine (hT1.out.atoms _ hG8).mono ?_
          rintro e u9 ⟨rfl, hy9⟩
          have hG9 := hG8.below hy9
          have hE9 := hE8.below hy9
          have hb9 := bthen hb8 hy9
          clear hG8 hE8 hy9 hb8
          go_wp2_with fail
          go_at_call 15
          refine (hT.out.atoms _ hE9).mono ?_
          rintro e u10 ⟨rfl, hy10⟩
          have hG10 := hG9.below hy10
          have hE10 := hE9.below hy10
          have hb10 := bthen hb9 hy10
          clear hG9 hE9 hy10 hb9
          go_wp2_with fail
          go_at_call 15
          refine (hT.out.atoms _ hE10).mono ?_
          rintro e u11 ⟨rfl, hy11⟩
          have hG11 := hG10.below hy11
          have hE11 := hE10.below hy11
          have hb11 := bthen hb10 hy11
          clear hG10 hE10 hy11 hb10
          go_wp2_with fail
          go_at_call 16
          refine (hT1.out.once _ hG11).mono ?_
          rintro e u12 ⟨rfl, hy12⟩
          have hG12 := hG11.below hy12
          have hE12 := hE11.below hy12
          have hb12 := bthen hb11 hy12
          clear hG11 hE11 hy12 hb11
          go_wp2_with fail
          go_at_call 16
          refine (hT.out.once _ hE12).mono ?_
          rintro e u13 ⟨rfl, hy13⟩
          have hG13 := hG12.below hy13
          have hE13 := hE12.below hy13
          have hb13 := bthen hb12 hy13
          clear hG12 hE12 hy13 hb12
          go_wp2_with fail
          go_roundw
          case rel => exact ⟨i + 1, by omega, by go_num, bthen hbl hb13, bthen hbl2 hb13⟩
          case measure => simp [intOf]; omega
        · have c6 : decide ((N : Int) ≤ 10) = false := decide_eq_false (by omega)
          clear q4 q5 e1 e2 e3 e4 e5 j1 j2 j3 j4 j5 j6 hk h10
          go_wp2_with fail
          go_at_call 13
          refine (HPi.out _ hFr).mono ?_
          rintro e u0 ⟨A1, c1', F2, rfl, hc1, hN1, hb0, hG0, _⟩
          have hT1 := Lib.hid (HTP.out F2 A1 c1' hc1 hN1)
          have hE0 := hFr.below hb0
          go_wp2_with fail
          go_at_call 22
          refine (HFm.out F2 _ hG0 A1 c1' hN1).mono ?_
          rintro e u1 ⟨rfl, hy1⟩
          have hG1 := hG0.below hy1
          have hE1 := hE0.below hy1
          have hb1 := bthen hb0 hy1
          clear hN1
          go_wp2_with fail
          go_at_call 18
          refine (hT1.out.rest _ hG1).mono ?_
          rintro e u2 ⟨rfl, hy2⟩
          have hG2 := hG1.below hy2
          have hE2 := hE1.below hy2
          have hb2 := bthen hb1 hy2
          clear hG1 hE1 hy2 hb1
          go_wp2_with fail
          go_at_call 18
          refine (hT1.out.rest _ hG2).mono ?_
          rintro e u3 ⟨rfl, hy3⟩
          have hG3 := hG2.below hy3
          have hE3 := hE2.below hy3
          have hb3 := bthen hb2 hy3
          clear hG2 hE2 hy3 hb2
          go_wp2_with fail
          go_at_call 18
          refine (hT.out.rest _ hE3).mono ?_
          rintro e u4 ⟨rfl, hy4⟩
          have hG4 := hG3.below hy4
          have hE4 := hE3.below hy4
          have hb4 := bthen hb3 hy4
          clear hG3 hE3 hy4 hb3
          go_wp2_with fail
          go_at_call 19
          refine (hT1.out.extra _ hG4).mono ?_
          rintro e u5 ⟨rfl, hy5⟩
          have hG5 := hG4.below hy5
          have hE5 := hE4.below hy5
          have hb5 := bthen hb4 hy5
          clear hG4 hE4 hy5 hb4
          go_wp2_with fail
          go_at_call 19
          refine (hT.out.extra _ hE5).mono ?_
          rintro e u6 ⟨rfl, hy6⟩
          have hG6 := hG5.below hy6
          have hE6 := hE5.below hy6
          have hb6 := bthen hb5 hy6
          clear hG5 hE5 hy6 hb5
          go_wp2_with fail
          go_at_call 21
          refine (hT1.out.cells _ hG6).mono ?_
          rintro e u7 ⟨rfl, hy7⟩
          have hG7 := hG6.below hy7
          have hE7 := hE6.below hy7
          have hb7 := bthen hb6 hy7
          clear hG6 hE6 hy7 hb6
          go_wp2_with fail
          go_at_call 21
          refine (hT.out.cells _ hE7).mono ?_
          rintro e u8 ⟨rfl, hy8⟩
          have hG8 := hG7.below hy8
          have hE8 := hE7.below hy8
          have hb8 := bthen hb7 hy8
          clear hG7 hE7 hy8 hb7
          go_wp2_with fail
          go_at_call 15
          refine (hT1.out.atoms _ hG8).mono ?_
          rintro e u9 ⟨rfl, hy9⟩
          have hG9 := hG8.below hy9
          have hE9 := hE8.below hy9
          have hb9 := bthen hb8 hy9
          clear hG8 hE8 hy9 hb8
          go_wp2_with fail
          go_at_call 15
          refine (hT.out.atoms _ hE9).mono ?_
          rintro e u10 ⟨rfl, hy10⟩
          have hG10 := hG9.below hy10
          have hE10 := hE9.below hy10
          have hb10 := bthen hb9 hy10
          clear hG9 hE9 hy10 hb9
          go_wp2_with fail
          go_at_call 15
          refine (hT.out.atoms _ hE10).mono ?_
          rintro e u11 ⟨rfl, hy11⟩
          have hG11 := hG10.below hy11
          have hE11 := hE10.below hy11
          have hb11 := bthen hb10 hy11
          clear hG10 hE10 hy11 hb10
          go_wp2_with fail
          go_roundw
          case rel => exact ⟨i + 1, by omega, by go_num, bthen hbl hb11, bthen hbl2 hb11⟩
          case measure => simp [intOf]; omega
      · rw [decide_eq_false hk] at HFm
        have hk2 : 18 ≤ s.root.kind := by omega
        rw [q4 hk2, q4 hk2, q4 hk2, q4 hk2, q4 hk2] at HTP
        have hlb : l.length ≤ 1000 := hn
        clear q4 q5 hk
        go_wp2_with fail
        go_at_call 13
        refine (HPi.out _ hFr).mono ?_
        rintro e u0 ⟨A1, c1', F2, rfl, hc1, hN1, hb0, hG0, _⟩
        have hT1 := Lib.hid (HTP.out F2 A1 c1' hc1 hN1)
        go_wp2_with fail
        go_at_call 22
        refine (HFm.out F2 _ hG0 A1 c1' hN1).mono ?_
        rintro e u1 ⟨rfl, hy1⟩
        have hG1 := hG0.below hy1
        have hb1 := bthen hb0 hy1
        clear hN1
        go_wp2_with fail
        go_at_call 18
        refine (hT1.out.rest _ hG1).mono ?_
        rintro e u2 ⟨rfl, hy2⟩
        have hG2 := hG1.below hy2
        have hb2 := bthen hb1 hy2
        clear hG1 hy2 hb1
        go_wp2_with fail
        go_at_call 21
        refine (hT1.out.cells _ hG2).mono ?_
        rintro e u3 ⟨rfl, hy3⟩
        have hG3 := hG2.below hy3
        have hb3 := bthen hb2 hy3
        clear hG2 hy3 hb2
        go_wp2_with fail
        go_at_call 16
        refine (hT1.out.once _ hG3).mono ?_
        rintro e u4 ⟨rfl, hy4⟩
        have hG4 := hG3.below hy4
        have hb4 := bthen hb3 hy4
        clear hG3 hy4 hb3
        go_wp2_with fail
        go_roundw
        case rel => exact ⟨i + 1, by omega, by go_num, bthen hbl hb4, bthen hbl2 hb4⟩
        case measure => simp [intOf]; omega
    · obtain rfl : i = l.length := by omega
      have hdec : decide ((l.length : Int) < (l.length : Int)) = false := decide_eq_false (by omega)
      go_wp2_with (go_at_call 17; refine (awake26_w _).mono ?_; rintro e w9 ⟨rfl, hw9⟩)
      go_ret
      exact ⟨rfl, bthen hbl hw9⟩
end Go.Proofs.Ytdohbbjinbofbaa
