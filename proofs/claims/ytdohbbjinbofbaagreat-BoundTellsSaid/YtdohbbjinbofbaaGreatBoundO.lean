/- The walks of bound.of and bound.over. -/
import Derived.Test.YtdohbbjinbofbaaGreatBoundW
set_option linter.unusedVariables false
set_option linter.unusedSimpArgs false
/-! bound.of. -/
namespace Go.Proofs.YtdohbbjinbofbaaGreat
open Go.RowKit
theorem step_pushI {w : World} {ops : Array Oper} {o : Oper} {a : Act} {K : Act → World → Prop} {Q : Exit → Act → World → Prop} {E : Prop} (hgd : o.guard = none) (s x : Operand)
    (ho : o.op = .call { callee := .builtin .append, args := #[s, x], argTypes := #[33, 33] })
    {F : Fz} {B n : Nat} {v : Value} {xs : List Int} (hown : Own F w B 3 1 v n (xs.map encI)) (hF : Sat F w) (hs : a.eval s = v)
    (g c : Nat) (y : Int) (hx : a.eval x = .slice (some ⟨g, 0, none⟩) 1 c) (hg : Blk w g 3 #[.int .i64 y]) (hn : n + 1 ≤ 1000000) (hB : B ≤ w.heap.size)
    (h : ∀ v' w', Own F w' B 3 1 v' (n + 1) ((xs ++ [y]).map encI) → Sat F w' → Below B w w' → w.grownBy w' v.ownBlock → (v'.ownBlock = v.ownBlock ∨ v'.ownBlock = some w.heap.size) → K (a.put o.dst v') w') :
    if Region.wanted o (yielded ops a.tmps) = true then Oper.wp Tryz.prog o a w K Q else E := by
  have hr : Rd (heapF w) 1 (some ⟨g, 0, none⟩) 1 [encI y] := by
    refine ⟨rfl, fun _ => ⟨_, rfl, fun j u hu => ?_⟩⟩
    rw [add_lit0]
    unfold Fz.cell heapF
    rw [hg]
    simpa using hu
  refine step_pushAll hgd s x _ ho 3 (.int .i64 0) 1 8 Tryz.underlying33 (by kernel_rfl) rfl (by omega) hown hF hs (some ⟨g, 0, none⟩) 1 c [encI y] hx (sat_heapF w) hr (by intro u hu; simp at hu; subst hu; rfl) (by simp [maxLen]; omega) (by omega) hB ?_
  intro v' w' h1 h2 h3 h4 h5
  exact h v' w' (by rw [List.map_append]; exact h1) h2 h3 h4 h5
theorem blk3 {w : World} {g : Nat} {t : TypeId} {a b c : Value} (h : Blk w g t #[a, b, c]) : w.cell? ⟨g, 0, none⟩ = some a ∧ w.cell? ⟨g, 1, none⟩ = some b ∧ w.cell? ⟨g, 2, none⟩ = some c ∧ w.frozen? ⟨g, 0, none⟩ = false ∧ w.frozen? ⟨g, 1, none⟩ = false ∧ w.frozen? ⟨g, 2, none⟩ = false := by
  refine ⟨?_, ?_, ?_, h.frozen 0, h.frozen 1, h.frozen 2⟩ <;> rw [h.cell] <;> rfl
theorem sub_un_kid {t : Tr} {i : Nat} (hi : i < t.size) {h : Nd} {a : Tr} (hx : t.sub i = .un h a) : a.size ≤ i ∧ t.sub (i - 1) = a ∧ ∀ j, j < a.size → t.sub (i - a.size + j) = a.sub j := by
  have h1 := Tr.sub_size_le t i hi
  rw [hx] at h1
  simp only [Tr.size] at h1
  have hp := a.size_pos
  have h2 : ∀ j, j < a.size → t.sub (i - a.size + j) = a.sub j := fun j hj => by
    have := Tr.sub_sub t i j hi (by rw [hx]; simp only [Tr.size]; omega)
    rw [hx, sub_un, if_pos hj] at this
    rw [← this]
    congr 1
    simp only [Tr.size]
    omega
  refine ⟨by omega, ?_, h2⟩
  have := h2 (a.size - 1) (by omega)
  rw [show i - a.size + (a.size - 1) = i - 1 by omega, Tr.sub_root] at this
  exact this
theorem testTr_un : ∀ (t : Tr) (x : Tr), x ∈ testTr t → ∃ h f, x = .un h f ∧ h.kind = 19
  | .leaf _, x, h => by simp [testTr] at h
  | .un h a, x, hx => by
    by_cases h1 : h.kind = 19
    · simp [testTr, h1] at hx; exact ⟨h, a, hx, h1⟩
    · simp only [testTr, h1, if_false] at hx; exact testTr_un a x hx
  | .bin h a b, x, hx => by
    simp only [testTr, List.mem_append] at hx
    rcases hx with hx | hx
    · exact testTr_un a x hx
    · exact testTr_un b x hx
/-- A test's node in its list: its kid stands ahead of it. -/
theorem test_node {a : Tr} {k p : Nat} (hk : (testsL a 0)[k]? = some p) : 1 ≤ p ∧ p < a.size ∧ ∃ nd, (a.flat 0)[p]? = some nd ∧ nd.kids = [(p : Int) - 1] := by
  obtain ⟨_, h2, h3⟩ := tests_sub a 0 k p hk
  rw [Nat.sub_zero] at h2 h3
  obtain ⟨h, f, e, _⟩ := testTr_un a _ (List.mem_of_getElem? h3)
  have hs := Tr.sub_size_le a p h2
  have hf := f.size_pos
  rw [e] at hs
  simp only [Tr.size] at hs
  refine ⟨by omega, h2, _, Tr.get_flat a p 0 h2, ?_⟩
  rw [e]
  show [((0 + (p + 1 - (f.size + 1)) + f.size : Nat) : Int) - 1] = _
  simp only [List.cons.injEq, and_true]
  omega
/-- What of leaves: how many steps, how many tests, where the tests' formulas stand. -/
def RetOf (w : World) (M N : Nat) (ps : List Nat) (e : Ending) (w' : World) : Prop := ∃ P pc, e = .returned (.agg #[.int .i64 (M : Nat), .int .i64 (N : Nat), .slice P N pc]) ∧ Rd (heapF w') 1 P N ((zs ps).map encI) ∧ Below w.heap.size w w'
set_option maxRecDepth 100000 in
set_option maxHeartbeats 2000000 in
theorem of_w {F F' : Fz} {w : World} (hF : Sat F w) (l : List Nd) (hn : l.length ≤ 1000) (A : Option Addr) (n c : Nat) (hc : n ≤ c) (hl : NodesF F A n l) {t : Tr} (ht : treeS l = some t) (i : Nat) (hi : i < l.length) (h : Nd) (a : Tr) (hx : t.sub i = .un h a) (hr : regS a.root.kind = true)
    (k : Int) (s : ByteArray) (lo hi' : Int) (Ak : Option Addr) (ck : Nat) (hF' : Sat F' w) (hK : Rd F' 1 Ak 1 [.int .i64 ((i : Int) - 1)]) :
    Calls Tryz.prog 83 #[.slice A n c, .agg #[.int .i64 k, .string s, .int .i64 lo, .int .i64 hi', .slice Ak 1 ck]] w (RetOf w (stepsN a) (testsT a) ((testsL a (i - a.size)).map (· - 1))) := by
  have hlen := tree_len ht
  have hval := sub_valid t i (tree_valid ht)
  rw [hx] at hval
  simp only [validT, Bool.and_eq_true] at hval
  have hva := hval.2
  obtain ⟨hs1, hs2, _⟩ := sub_un_kid (by omega) hx
  have hp := a.size_pos
  have hpart : partL l ((i : Int) - 1) = a.flat 0 := by
    unfold partL
    rw [ht]
    simp only
    rw [if_pos ⟨by omega, by omega⟩, show ((i : Int) - 1).toNat = i - 1 by omega, hs2]
  have hP := fun (X : World) (hX : Sat F X) => part_w hX l hn A n c hc hl ((i : Int) - 1) (by omega) (by omega)
  rw [hpart] at hP
  obtain ⟨a', e1, e2, e3, e4, _⟩ := fold_flat a [] hva
  have ha' : treeS (a.flat 0) = some a' := by
    unfold treeS parseS
    rw [show (Tr.flat a 0) = Tr.flat a (total []) from rfl, e1]
  have hr' : regS a'.root.kind = true := by rw [e3]; exact hr
  have hsh := eq_shape (eq_of_flat a' a 0 (e4 0))
  have hv := regV_of hva hr
  have hk19 : kindS (a.flat 0) 19 = testsL a 0 := by
    unfold kindS
    have he : ownS (a.flat 0) = ownT a' 0 := by unfold ownS; rw [ha']; simp only; rw [if_pos hr']
    have := ownK_tests (tree_flat ha') (regV_of (tree_valid ha') hr')
    rw [he, ← shape_testsL 0 hsh e2]
    exact this
  have hk18 : (kindS (a.flat 0) 18).length = stepsN a := by
    unfold kindS
    have he : ownS (a.flat 0) = ownT a' 0 := by unfold ownS; rw [ha']; simp only; rw [if_pos hr']
    rw [he, ← shape_steps hsh]
    exact own_steps a' 0 _ [] [] (by simpa using tree_flat ha') rfl (regV_of (tree_valid ha') hr')
  have hql : (a.flat 0).length = a.size := Tr.length_flat a 0
  have hTl := length_tests a 0
  have hte := testsT_le a
  have hnode := fun k p (hk : (testsL a 0)[k]? = some p) => test_node hk
  have hPL : (testsL a (i - a.size)).map (· - 1) = (testsL a 0).map fun p => i - a.size + p - 1 := by
    rw [show testsL a (i - a.size) = testsL a (i - a.size + 0) from rfl, tests_shift, List.map_map]
    rfl
  have hsb : stepsN a ≤ 1000 := by have := stepsN_le a; omega
  rw [hPL]
  obtain ⟨N, hN⟩ : ∃ N, testsT a = N := ⟨_, rfl⟩
  obtain ⟨M, hM⟩ : ∃ M, stepsN a = M := ⟨_, rfl⟩
  obtain ⟨d, hd⟩ : ∃ d, i - a.size = d := ⟨_, rfl⟩
  obtain ⟨z, hz⟩ : ∃ z, a.size = z := ⟨_, rfl⟩
  rw [hN] at hTl hte ⊢
  rw [hM] at hk18 hsb ⊢
  rw [hd]
  rw [hz] at hql hs1 hp hte
  simp only [hz] at hnode
  have hTT := fun (X : World) (G : Fz) (hX : Sat G X) (B : Option Addr) (m e : Nat) (hB : NodesF G B m (a.flat 0)) => tests_w hX (a.flat 0) (by omega) B m e hB
  have hSS := fun (X : World) (G : Fz) (hX : Sat G X) (B : Option Addr) (m e : Nat) (hB : NodesF G B m (a.flat 0)) => steps_w hX (a.flat 0) (by omega) B m e hB
  rw [hk19] at hTT
  generalize kindS (a.flat 0) 18 = S18 at *
  generalize a.flat 0 = q at *
  generalize testsL a 0 = T at *
  have HP := Lib.hid hP
  have HTT := Lib.hid hTT
  have HSS := Lib.hid hSS
  have HND := Lib.hid hnode
  have HQL := Lib.hid hql
  have HTL : Hid ((zs T).length = N) := Lib.hid (by rw [length_zs, hTl])
  have HT0 := Lib.hid hTl
  have HS18 : Hid ((zs S18).length = M) := Lib.hid (by rw [length_zs, hk18])
  have hz1 : (z : Int) ≤ (i : Int) := by omega
  have HDI : Hid ((i : Int) - (z : Int) = (d : Int)) := Lib.hid (by omega)
  have hib : i ≤ 1000 := by omega
  have hdb : d ≤ 1000 := by omega
  have hNb : N ≤ 1000 := by omega
  obtain ⟨ak, v, rfl, hv0, hk0⟩ := hK.at1 (k := 0) (by omega)
  obtain rfl : Value.int .i64 ((i : Int) - 1) = v := by simpa using hv0
  rw [show ak.add 0 = ak by unfold Addr.add; simp] at hk0
  have y0 := hF'.cell hk0
  have yl := hF'.clt hk0
  have hib2 : (1 : Int) ≤ (i : Int) := by omega
  clear hP hTT hSS hnode hql hTl hk18 hk19 hPL hM hN hd hz e1 e2 e3 e4 ha' hr' hsh hv hval hva hs1 hs2 hx hpart hlen ht hr hte hp hi hn hv0 hl hK
  have hb0 := (balloc w (.cells #[.int .i64 k, .string s, .int .i64 lo, .int .i64 hi', .slice (some ak) 1 ck] 45)).alloc (by simp) (.cells #[.int .i64 0, .int .i64 0, .slice none 0 0] 75)
  have y1 := (hb0.cell (p := ak) yl).trans y0
  obtain ⟨c0, c1, c2, c3, c4⟩ := blk5 ((Blk.new w 45 #[.int .i64 k, .string s, .int .i64 lo, .int .i64 hi', .slice (some ak) 1 ck]).alloc (.cells #[.int .i64 0, .int .i64 0, .slice none 0 0] 75))
  have HB4 := Lib.hid (Blk.new2 w (.cells #[.int .i64 k, .string s, .int .i64 lo, .int .i64 hi', .slice (some ak) 1 ck] 45) 75 #[.int .i64 0, .int .i64 0, .slice none 0 0])
  have hsz : ((w.alloc (.cells #[.int .i64 k, .string s, .int .i64 lo, .int .i64 hi', .slice (some ak) 1 ck] 45)).alloc (.cells #[.int .i64 0, .int .i64 0, .slice none 0 0] 75)).heap.size = w.heap.size + 2 := by simp
  have HF0 := Lib.hid (hF.below hb0)
  go_enter Tryz.func83, Tryz.ntmps83
  go_wp2_with (first
    | (go_at_call 64; refine (HP.out _ HF0.out).mono ?_; rintro e w1 ⟨A1, c1', F1, rfl, hc1, hN1, hw1, hF1, hle1⟩; rw [HQL.out] at hN1; rw [HQL.out])
    | (go_at_call 75; refine (HTT.out _ F1 hF1 A1 z c1' hN1).mono ?_; rintro e w2 ⟨A2, c2', rfl, _, hr2, hw2⟩; rw [HTL.out] at hr2; rw [HTL.out])
    | (go_at_call 74; refine (HSS.out _ F1 (hF1.below hw2) A1 z c1' hN1).mono ?_; rintro e w3 ⟨A3, c3', rfl, _, _, hw3⟩; rw [HS18.out]))
  rw [HDI.out]
  have hb3 := bthen (bthen (bthen hb0 hw1) hw2) hw3
  have hB4 := ((HB4.out.call hw1).call hw2).call hw3
  have hN3 := hN1.cle ((hF1.below hw2).below hw3).cle
  have hr3 := hr2.cle (cle_below hw3)
  have hz3 := hb3.size
  have hz4 : w.heap.size + 2 ≤ w3.heap.size := by have h1 := hw1.size; have h2 := hw2.size; have h3 := hw3.size; rw [hsz] at h1; omega
  obtain ⟨hqn, hqL⟩ := hN3
  clear y0 y1 c0 c1 c2 c3 c4 hN1 hr2 hF1 hle1
  go_loopw [11, 34] (fun _ v wr => ∃ (j : Nat) (A5 : Option Addr) (c5 : Nat), j ≤ N ∧ v = .int .i64 j ∧ Blk wr w3.heap.size 75 #[.int .i64 (M : Nat), .int .i64 (N : Nat), .slice A5 j c5] ∧ Own (heapF w3) wr (w3.heap.size + 1) 3 1 (.slice A5 j c5) j ((zs ((T.take j).map fun p => d + p - 1)).map encI) ∧ Below w3.heap.size w3 wr) (fun _ v _ => N - (intOf v).toNat)
  case atStart => exact ⟨0, none, 0, Nat.zero_le _, rfl, Blk.new _ _ _, Own.nil _ _ _ _ _, balloc _ _⟩
  case round =>
    obtain ⟨j, A5, c5, hj, rfl, hBr, hO, hbl⟩ := hrel
    have hFr := (sat_heapF w3).below hbl
    obtain ⟨k0, k1, k2, f0, f1, f2⟩ := blk3 hBr
    by_cases hlt : j < N
    · have hjI : (j : Int) < (N : Int) := by omega
      have hjT : j < T.length := by rw [HT0.out]; exact hlt
      have hTj : T[j]? = some T[j] := List.getElem?_eq_getElem hjT
      obtain ⟨b1, v1, rfl, hv1, hc1⟩ := hr3.at1 hlt
      have hx1 : ((zs T).map encI)[j]? = some (encI (T[j] : Nat)) := by simp [zs, hjT]
      rw [hx1] at hv1
      simp only [Option.some.injEq] at hv1
      subst hv1
      obtain ⟨p1, p2, nd, p3, p4⟩ := HND.out j _ hTj
      have htk : (T.take (j + 1)).map (fun p => d + p - 1) = (T.take j).map (fun p => d + p - 1) ++ [d + T[j] - 1] := by
        rw [List.take_succ_eq_append_getElem hjT, List.map_append]; rfl
      generalize T[j] = p at *
      obtain ⟨aq, rfl, hLq⟩ := hqL (by omega)
      have hpl : p < q.length := by rw [HQL.out]; exact p2
      obtain ⟨Ap, cp, _, hKp, hdp⟩ := hLq p hpl
      have hnd : q[p] = nd := by rw [List.getElem?_eq_getElem hpl] at p3; injection p3
      rw [hnd] at hKp hdp
      obtain ⟨nk, nn, nlo, nhi, nkids⟩ := nd
      dsimp only at p4
      subst p4
      obtain ⟨ap, vp, rfl, hvp, hcp⟩ := hKp.at1 (k := 0) (by simp)
      obtain rfl : Value.int .i64 ((p : Int) - 1) = vp := by simpa using hvp
      rw [show ap.add 0 = ap by unfold Addr.add; simp] at hcp
      have hd4 := hdp.2.2.2.2
      have z1 := hFr.cell hc1
      have z2 := hFr.cell hd4
      have z3 := hFr.cell hcp
      have hpI : (p : Int) < (z : Int) := by omega
      have hv5 : (d : Int) + ((p : Int) - 1) = ((d + p - 1 : Nat) : Int) := by omega
      have HTK : Hid (zs ((T.take j).map fun p => d + p - 1) ++ [(d : Int) + ((p : Int) - 1)] = zs ((T.take (j + 1)).map fun p => d + p - 1)) := Lib.hid (by rw [htk, zs_snoc, hv5])
      have hpb : p ≤ 1000 := by omega
      have HWR : Hid (IntKind.i64.wrap ((d : Int) + ((p : Int) - 1)) = (d : Int) + ((p : Int) - 1)) := Lib.hid (wrap_i (by omega) (by omega))
      have hzl := hbl.size
      have hglt := hBr.lt
      have hgr := fun g (h : (Value.slice A5 j c5).ownBlock = some g) => hO.1.lt g h
      have z2' : wr.cell? ⟨(aq.add (p * 5)).block, (aq.add (p * 5)).off + 4, none⟩ = some (.slice (some ap) 1 cp) := z2
      clear hTj hx1 htk hnd hdp hKp hvp hcp hc1 hd4 p3 hv5 z2
      go_wp2_with fail
      go_region_law ((refine step_pushI rfl (.tmp 39) (.tmp 49) (by rfl) (hO.drew.alloc _) (hFr.drew.alloc _) (by rfl) _ _ _ (by rfl) (Blk.new _ _ _) (by omega) (by show w3.heap.size + 1 ≤ _; have := hBr.lt; simp; omega) ?_; intro v6 w6 hO6 hF6 hb6 hg6 hat6; rw [HWR.out, HTK.out] at hO6; obtain ⟨A6, c6, hv6, hc6⟩ := hO6.shape; subst hv6; have hB6 := (Blk.alloc (hBr.drewN 1) _).grown hg6 (fun e => by have := hgr _ e.symm; omega); obtain ⟨q0, q1, q2, f0, f1, f2⟩ := blk3 hB6))
      all_goals
        have hB7 := hB6.set_ 2 (.slice A6 (j + 1) c6)
        have hO7 := hO6.setFar (a := ⟨w3.heap.size, 2, none⟩) (fun e => by have := (hO6.1.lt _ e).1; simp at this; omega) (.slice A6 (j + 1) c6)
        have hb7 := ((hbl.drew.alloc hzl _).trans (hb6.mono (Nat.le_succ _))).setCell (p := ⟨w3.heap.size, 2, none⟩) (Nat.le_refl _) (.slice A6 (j + 1) c6)
        go_wp2_with fail
        go_roundw
        case rel => exact ⟨j + 1, A6, c6, by omega, by go_num, hB7, hO7, hb7⟩
        case measure => simp [intOf]; omega
    · obtain rfl : j = N := by omega
      have hdec : decide ((j : Int) < (j : Int)) = false := decide_eq_false (by omega)
      have htk : T.take j = T := by rw [← HT0.out, List.take_length]
      rw [htk] at hO
      have hG := hB4.call hbl
      obtain ⟨r0, r1, r2, g0, g1, g2⟩ := blk3 hG
      have hgl := fun g (h : (Value.slice A5 j c5).ownBlock = some g) => (hO.1.lt g h).1
      have hne : ∀ (g : Nat), (Value.slice A5 j c5).ownBlock = some g → g ≠ w.heap.size + 1 := fun g h e => by have := hgl g h; omega
      have hO1 := (hO.setFar (a := ⟨w.heap.size + 1, 0, none⟩) (fun e => hne _ e rfl) (.int .i64 (M : Nat))).setFar (a := ⟨w.heap.size + 1, 1, none⟩) (fun e => hne _ e rfl) (.int .i64 (j : Nat))
      have hO2 := hO1.setFar (a := ⟨w.heap.size + 1, 2, none⟩) (fun e => hne _ e rfl) (.slice A5 j c5)
      obtain ⟨A9, c9, e9, _, hrd⟩ := hO2.rdH
      injection e9 with e91 _ e93
      subst e91 e93
      have hbf := (((bthen hb3 hbl).setCell (p := ⟨w.heap.size + 1, 0, none⟩) (Nat.le_succ _) (.int .i64 (M : Nat))).setCell (p := ⟨w.heap.size + 1, 1, none⟩) (Nat.le_succ _) (.int .i64 (j : Nat))).setCell (p := ⟨w.heap.size + 1, 2, none⟩) (Nat.le_succ _) (.slice A5 j c5)
      clear htk hO hO1 hO2 hgl hne
      go_wp2_with fail
      exact bodyPost_ret (v := .agg #[.int .i64 (M : Nat), .int .i64 (j : Nat), .slice A5 j c5]) (by simp [results, Tryz.results83, go_sem, r0, r1, r2, g0, g1, g2]) rfl ⟨A5, c5, rfl, hrd, hbf⟩
end Go.Proofs.YtdohbbjinbofbaaGreat
