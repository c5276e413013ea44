/- The walks of the reference's Wide, plain, size, parts. -/
import Derived.Test.YtdohbbjinbofbaaGreatBoundF
import Derived.Test.YtdohbbjinbofbaaGreatRPaths
set_option linter.unusedVariables false
set_option linter.unusedSimpArgs false
/-! The walks of the reference's Wide, plain, size, parts. -/
namespace Go.Proofs.YtdohbbjinbofbaaGreat
open Go.RowKit
set_option maxRecDepth 100000 in
theorem rwide1_w (h : Nd) (hs : spanS h.lo h.hi = true) (w : World) : Calls Tryz.prog 37 #[.agg #[.int .i64 h.lo, .int .i64 h.hi]] w fun e w' => e = .returned (.int .i64 (wideN h : Nat)) ∧ Below w.heap.size w w' := by
  obtain ⟨h1, h2, _⟩ := wideN_of hs
  have HB := Lib.hid (Blk.new w 43 #[.int .i64 h.lo, .int .i64 h.hi])
  obtain ⟨k0, k1, _, _⟩ := blkA HB.out
  have HM := Lib.hid (fun X => rmaySpan_b h.lo h.hi true hs X)
  obtain ⟨W, hW⟩ : ∃ W, wideN h = W := ⟨_, rfl⟩
  rw [hW] at h1 h2 ⊢
  unfold lastV at h1
  clear hs hW
  generalize h.lo = lo at *
  generalize h.hi = hi at *
  by_cases e : hi = -1
  · subst e
    rw [if_pos rfl] at h1
    have wS : IntKind.i64.wrap (lo + 1) = (W : Int) := by rw [h1]; exact wrap_i (by omega) (by omega)
    have H1 := Lib.hid h1
    clear h1
    go_enter Tryz.func37, Tryz.ntmps37
    go_wp2_with (go_at_call 69; refine (HM.out _).mono ?_; rintro e w1 ⟨rfl, hw1⟩; obtain ⟨q0, q1, _, _⟩ := blkA (HB.out.call hw1))
    go_ret
    exact ⟨by first | rfl | rw [← H1.out] | simp [wS], bthen (balloc _ _) hw1⟩
  · have hb : (hi == -1) = false := by rw [beq_eq_false_iff_ne]; exact e
    rw [if_neg e] at h1
    have wS : IntKind.i64.wrap (hi + 1) = (W : Int) := by rw [h1]; exact wrap_i (by omega) (by omega)
    have H1 := Lib.hid h1
    clear h1 e
    go_enter Tryz.func37, Tryz.ntmps37
    go_wp2_with (go_at_call 69; refine (HM.out _).mono ?_; rintro e w1 ⟨rfl, hw1⟩; obtain ⟨q0, q1, _, _⟩ := blkA (HB.out.call hw1))
    go_ret
    exact ⟨by first | rfl | rw [← H1.out] | simp [wS], bthen (balloc _ _) hw1⟩
set_option maxRecDepth 100000 in
theorem plain26_w {F : Fz} {w : World} (hF : Sat F w) (l : List Nd) (hn : l.length ≤ 1000) (A : Option Addr) (n c : Nat) (hl : NodesF F A n l) (b : Bool) (hb : (formL l && plainS l) = b) :
    Calls Tryz.prog 35 #[.slice A n c] w fun e w' => e = .returned (.bool b) ∧ Below w.heap.size w w' := by
  have h1 := fun (X : World) (h : Sat F X) b hb => rform_w h l hn A n c hl b hb
  have h2 := fun b hb => rplain_w hF l hn A n c hl b hb
  cases e1 : plainS l
  · have H2 := Lib.hid (h2 _ e1)
    have HB : Hid (b = false) := Lib.hid (by rw [← hb, e1, Bool.and_false])
    clear h1 h2 hb e1
    go_enter Tryz.func35, Tryz.ntmps35
    go_wp2_with (go_at_call 65; refine H2.out.mono ?_; rintro e w1 ⟨rfl, hw1⟩)
    go_ret
    exact ⟨by rw [HB.out] <;> rfl, hw1⟩
  · have H2 := Lib.hid (h2 _ e1)
    have H1 := Lib.hid (fun (X : World) (h : Sat F X) => h1 X h b (by rw [← hb, e1, Bool.and_true]))
    clear h1 h2 hb e1
    go_enter Tryz.func35, Tryz.ntmps35
    go_wp2_with (first
      | (go_at_call 65; refine H2.out.mono ?_; rintro e w1 ⟨rfl, hw1⟩)
      | (go_at_call 66; refine (H1.out _ (hF.below hw1)).mono ?_; rintro e w2 ⟨rfl, hw2⟩))
    go_ret
    exact ⟨rfl, bthen hw1 hw2⟩
set_option maxRecDepth 100000 in
theorem size26_w {F : Fz} {w : World} (hF : Sat F w) (q : List Nd) (hq : q.length ≤ 1000) (B : Option Addr) (m d : Nat) (hB : NodesF F B m q) (S T : Nat) (hS : (kindS q 18).length = S) (hT : (kindS q 19).length = T) (hSb : S ≤ 1000) (hTb : T ≤ 1000) :
    Calls Tryz.prog 86 #[.slice B m d] w fun e w' => e = .returned (.tuple #[.int .i64 ((S / 64 + 1 : Nat) : Int), .int .i64 (((T + 63) / 64 : Nat) : Int)]) ∧ Below w.heap.size w w' := by
  have hs := rsteps_w hF q hq B m d hB
  have ht := fun (X : World) (h : Sat F X) => rtests_w h q hq B m d hB
  have HS : Hid ((zs (kindS q 18)).length = S) := Lib.hid (by rw [length_zs, hS])
  have HT : Hid ((zs (kindS q 19)).length = T) := Lib.hid (by rw [length_zs, hT])
  obtain ⟨S64, hS64⟩ : ∃ S64, S / 64 = S64 := ⟨_, rfl⟩
  obtain ⟨S1, hS1⟩ : ∃ S1, S64 + 1 = S1 := ⟨_, rfl⟩
  obtain ⟨T63, hT63⟩ : ∃ T63, T + 63 = T63 := ⟨_, rfl⟩
  obtain ⟨V, hV⟩ : ∃ V, T63 / 64 = V := ⟨_, rfl⟩
  rw [hS64, hS1, hT63, hV]
  have wA' : IntKind.i64.wrap ((S : Int) / 64) = (S64 : Int) := by rw [show (S : Int) / 64 = ((S / 64 : Nat) : Int) from rfl, hS64]; exact wrap_i (by omega) (by omega)
  have wA : IntKind.i64.wrap ((S : Int).tdiv 64) = (S64 : Int) := by rw [Int.tdiv_eq_ediv_of_nonneg (by omega)]; exact wA'
  have wB : IntKind.i64.wrap ((S64 : Int) + 1) = (S1 : Int) := by rw [show (S64 : Int) + 1 = (S1 : Int) by omega]; exact wrap_i (by omega) (by omega)
  have wC : IntKind.i64.wrap ((T : Int) + 63) = (T63 : Int) := by rw [show (T : Int) + 63 = (T63 : Int) by omega]; exact wrap_i (by omega) (by omega)
  have wD' : IntKind.i64.wrap ((T63 : Int) / 64) = (V : Int) := by rw [show (T63 : Int) / 64 = ((T63 / 64 : Nat) : Int) from rfl, hV]; exact wrap_i (by omega) (by omega)
  have wD : IntKind.i64.wrap ((T63 : Int).tdiv 64) = (V : Int) := by rw [Int.tdiv_eq_ediv_of_nonneg (by omega)]; exact wD'
  have H1 := Lib.hid hs
  have H2 := Lib.hid ht
  generalize kindS q 18 = K18 at *
  generalize kindS q 19 = K19 at *
  clear hs ht hS hT hS64 hS1 hT63 hV hB hq hSb hTb
  go_enter Tryz.func86, Tryz.ntmps86
  go_wp2_with (first
    | (go_at_call 16; refine H1.out.mono ?_; rintro e w1 ⟨A1, c1, rfl, _, _, hw1⟩; rw [HS.out])
    | (go_at_call 108; refine (H2.out _ (hF.below hw1)).mono ?_; rintro e w2 ⟨A2, c2, rfl, _, _, hw2⟩; rw [HT.out]))
  go_ret2
  exact ⟨by simp [wA', wB, wD'], bthen hw1 hw2⟩
/-- A list of numbers of a call's own, in a block of its own. -/
def RetIF (w : World) (zs : List Int) (e : Ending) (w' : World) : Prop := ∃ A c, e = .returned (.slice A zs.length c) ∧ zs.length ≤ c ∧ Rd (heapF w') 1 A zs.length (zs.map encI) ∧ Below w.heap.size w w' ∧ ∀ a, A = some a → w.heap.size ≤ a.block
theorem Own.fresh {F : Fz} {w : World} {B : Nat} {e : TypeId} {size n : Nat} {A : Option Addr} {m c : Nat} {xs : List Value} (h : Own F w B e size (.slice A m c) n xs) : ∀ a, A = some a → B ≤ a.block := by
  rintro a rfl
  exact (h.1.lt a.block rfl).1
set_option maxRecDepth 100000 in
set_option maxHeartbeats 2000000 in
theorem parts26_w {F : Fz} {w : World} (hF : Sat F w) (l : List Nd) (hn : l.length ≤ 1000) (A : Option Addr) (n c : Nat) (hc : n ≤ c) (hl : NodesF F A n l) {t : Tr} (ht : treeS l = some t) (i : Nat) (hi : i < l.length) (h : Nd) (a : Tr) (hx : t.sub i = .un h a) (hr : regS a.root.kind = true) (hkk : l[i].kids = [(i : Int) - 1]) :
    Calls Tryz.prog 87 #[.slice A n c, .int .i64 (i : Nat)] w (RetIF w (zs ((testsL a (i - a.size)).map (· - 1)))) := by
  have hlen := tree_len ht
  have hval := sub_valid t i (tree_valid ht)
  rw [hx] at hval
  simp only [validT, Bool.and_eq_true] at hval
  have hva := hval.2
  obtain ⟨hs1, hs2, _⟩ := sub_un_kid (by omega) hx
  have hp := a.size_pos
  have hpart : partL l ((i : Int) - 1) = a.flat 0 := by
    unfold partL
    rw [ht]
    simp only
    rw [if_pos ⟨by omega, by omega⟩, show ((i : Int) - 1).toNat = i - 1 by omega, hs2]
  have hP := fun (X : World) (hX : Sat F X) => rpart_w hX l hn A n c hc hl ((i : Int) - 1) (by omega) (by omega)
  rw [hpart] at hP
  have hSt := fun (X : World) (hX : Sat F X) => start_w hX l hn A n c hl ht (i - 1) (by omega)
  rw [hs2, show ((i - 1 : Nat) : Int) = (i : Int) - 1 by omega, show i - 1 + 1 - a.size = i - a.size by omega] at hSt
  obtain ⟨a', e1, e2, e3, e4, _⟩ := fold_flat a [] hva
  have ha' : treeS (a.flat 0) = some a' := by
    unfold treeS parseS
    rw [show (Tr.flat a 0) = Tr.flat a (total []) from rfl, e1]
  have hr' : regS a'.root.kind = true := by rw [e3]; exact hr
  have hsh := eq_shape (eq_of_flat a' a 0 (e4 0))
  have hk19 : kindS (a.flat 0) 19 = testsL a 0 := by
    unfold kindS
    have he : ownS (a.flat 0) = ownT a' 0 := by unfold ownS; rw [ha']; simp only; rw [if_pos hr']
    have := ownK_tests (tree_flat ha') (regV_of (tree_valid ha') hr')
    rw [he, ← shape_testsL 0 hsh e2]
    exact this
  have hql : (a.flat 0).length = a.size := Tr.length_flat a 0
  have hTl := length_tests a 0
  have hte := testsT_le a
  have hnode := fun k p (hk : (testsL a 0)[k]? = some p) => test_node hk
  have hPL : (testsL a (i - a.size)).map (· - 1) = (testsL a 0).map fun p => i - a.size + p - 1 := by
    rw [show testsL a (i - a.size) = testsL a (i - a.size + 0) from rfl, tests_shift, List.map_map]
    rfl
  rw [hPL]
  obtain ⟨N, hN⟩ : ∃ N, testsT a = N := ⟨_, rfl⟩
  obtain ⟨d, hd⟩ : ∃ d, i - a.size = d := ⟨_, rfl⟩
  obtain ⟨z, hz⟩ : ∃ z, a.size = z := ⟨_, rfl⟩
  rw [hN] at hTl hte
  rw [hd] at hSt
  rw [hd]
  rw [hz] at hql hs1 hp hte
  simp only [hz] at hnode
  have hTT := fun (X : World) (G : Fz) (hX : Sat G X) (B : Option Addr) (m e : Nat) (hB : NodesF G B m (a.flat 0)) => rtests_w hX (a.flat 0) (by omega) B m e hB
  rw [hk19] at hTT
  generalize a.flat 0 = q at *
  generalize testsL a 0 = T at *
  have HP := Lib.hid hP
  have HST := Lib.hid hSt
  have HTT := Lib.hid hTT
  have HND := Lib.hid hnode
  have HQL := Lib.hid hql
  have HTL : Hid ((zs T).length = N) := Lib.hid (by rw [length_zs, hTl])
  have HT0 := Lib.hid hTl
  have HLR0 : (zs (T.map fun p => d + p - 1)).length = N := by rw [length_zs, List.length_map, hTl]
  obtain ⟨XS, hXS⟩ : ∃ XS, zs (T.map fun p => d + p - 1) = XS := ⟨_, rfl⟩
  rw [hXS] at HLR0 ⊢
  have HLR := Lib.hid HLR0
  have HXS := Lib.hid hXS
  clear HLR0 hXS
  have hib : i ≤ 1000 := by omega
  have hzb : z ≤ 1000 := by omega
  have hdb : d ≤ 1000 := by omega
  have hNb : N ≤ 1000 := by omega
  have hib2 : (1 : Int) ≤ (i : Int) := by omega
  obtain ⟨hln, hl2⟩ := hl
  obtain ⟨ad, rfl, hL⟩ := hl2 (by omega)
  obtain ⟨Ak, ck, _, hK, hdd⟩ := hL i hi
  clear hL hl2
  generalize l[i] = nd0 at *
  obtain ⟨k0, n0, lo0, hi0, kk0⟩ := nd0
  dsimp only at hkk hK hdd
  subst hkk
  obtain ⟨ak, v, rfl, hv0, hk0⟩ := hK.at1 (k := 0) (by simp)
  obtain rfl : Value.int .i64 ((i : Int) - 1) = v := by simpa using hv0
  rw [show ak.add 0 = ak by unfold Addr.add; simp] at hk0
  have y0 := hF.cell hk0
  have y1 := hF.cell hdd.2.2.2.2
  have hnl : n = l.length := by omega
  have hiI : (i : Int) < (n : Int) := by omega
  have y1' : w.cell? ⟨(ad.add (i * 5)).block, (ad.add (i * 5)).off + 4, none⟩ = some (.slice (some ak) 1 ck) := y1
  clear hP hTT hSt hnode hql hTl hk19 hPL hN hd hz e1 e2 e3 e4 ha' hr' hsh hval hva hs1 hs2 hx hpart hlen ht hr hte hp hi hv0 hK hdd hn hnl hln y1
  go_enter Tryz.func87, Tryz.ntmps87
  go_wp2_with (first
    | (go_at_call 68; refine (HST.out _ hF).mono ?_; rintro e w0 ⟨rfl, rfl⟩)
    | (go_at_call 36; refine (HP.out _ hF).mono ?_; rintro e w1 ⟨A1, c1', F1, rfl, hc1, hN1, hw1, hF1, hle1⟩; rw [HQL.out] at hN1; rw [HQL.out])
    | (go_at_call 108; refine (HTT.out _ F1 hF1 A1 z c1' hN1).mono ?_; rintro e w2 ⟨A2, c2', rfl, _, hr2, hw2⟩; rw [HTL.out] at hr2; rw [HTL.out]))
  have hb2 := bthen hw1 hw2
  have hN2 := hN1.cle (hF1.below hw2).cle
  have hz2 := hb2.size
  obtain ⟨hqn, hqL⟩ := hN2
  clear y0 y1' hN1 hF1 hle1
  go_loopw [8, 10, 27] (fun v8 _ v wr => ∃ (j : Nat) (A5 : Option Addr) (c5 : Nat), j ≤ N ∧ v = .int .i64 j ∧ v8 = .slice A5 j c5 ∧ Own (heapF w2) wr w2.heap.size 3 1 (.slice A5 j c5) j ((zs ((T.take j).map fun p => d + p - 1)).map encI) ∧ Below w2.heap.size w2 wr) (fun _ _ v _ => N - (intOf v).toNat)
  case atStart => exact ⟨0, none, 0, Nat.zero_le _, rfl, rfl, Own.nil _ _ _ _ _, Below.refl _ _⟩
  case round =>
    obtain ⟨j, A5, c5, hj, rfl, rfl, hO, hbl⟩ := hrel
    have hFr := (sat_heapF w2).below hbl
    have hzl := hbl.size
    by_cases hlt : j < N
    · have hjI : (j : Int) < (N : Int) := by omega
      have hjT : j < T.length := by rw [HT0.out]; exact hlt
      have hTj : T[j]? = some T[j] := List.getElem?_eq_getElem hjT
      obtain ⟨b1, v1, rfl, hv1, hc1⟩ := hr2.at1 hlt
      have hx1 : ((zs T).map encI)[j]? = some (encI (T[j] : Nat)) := by simp [zs, hjT]
      rw [hx1] at hv1
      simp only [Option.some.injEq] at hv1
      subst hv1
      obtain ⟨p1, p2, nd, p3, p4⟩ := HND.out j _ hTj
      have htk : (T.take (j + 1)).map (fun p => d + p - 1) = (T.take j).map (fun p => d + p - 1) ++ [d + T[j] - 1] := by
        rw [List.take_succ_eq_append_getElem hjT, List.map_append]; rfl
      generalize T[j] = p at *
      obtain ⟨aq, rfl, hLq⟩ := hqL (by omega)
      have hpl : p < q.length := by rw [HQL.out]; exact p2
      obtain ⟨Ap, cp, _, hKp, hdp⟩ := hLq p hpl
      have hnd : q[p] = nd := by rw [List.getElem?_eq_getElem hpl] at p3; injection p3
      rw [hnd] at hKp hdp
      obtain ⟨nk, nn, nlo, nhi, nkids⟩ := nd
      dsimp only at p4
      subst p4
      obtain ⟨ap, vp, rfl, hvp, hcp⟩ := hKp.at1 (k := 0) (by simp)
      obtain rfl : Value.int .i64 ((p : Int) - 1) = vp := by simpa using hvp
      rw [show ap.add 0 = ap by unfold Addr.add; simp] at hcp
      have hd4 := hdp.2.2.2.2
      have z1 := hFr.cell hc1
      have z2 := hFr.cell hd4
      have z3 := hFr.cell hcp
      have hpI : (p : Int) < (z : Int) := by omega
      have hv5 : (d : Int) + ((p : Int) - 1) = ((d + p - 1 : Nat) : Int) := by omega
      have HTK : Hid (zs ((T.take j).map fun p => d + p - 1) ++ [(d : Int) + ((p : Int) - 1)] = zs ((T.take (j + 1)).map fun p => d + p - 1)) := Lib.hid (by rw [htk, zs_snoc, hv5])
      have hpb : p ≤ 1000 := by omega
      have hWR : IntKind.i64.wrap ((d : Int) + ((p : Int) - 1)) = (d : Int) + ((p : Int) - 1) := wrap_i (by omega) (by omega)
      have z2' : wr.cell? ⟨(aq.add (p * 5)).block, (aq.add (p * 5)).off + 4, none⟩ = some (.slice (some ap) 1 cp) := z2
      clear hTj hx1 htk hnd hdp hKp hvp hcp hc1 hd4 p3 hv5 z2
      go_wp2_with (at_builtin; refine wpList_pushI rfl (.tmp 31) (.tmp 41) rfl (hO.alloc _) (hFr.alloc _) (by rfl) wr.heap.size 1 ((d : Int) + ((p : Int) - 1)) (by rfl) (Blk.new _ _ _) (by omega) (by simp; omega) ?_; intro v6 w6 hO6 hF6 hb6 hg6 hat6; rw [HTK.out] at hO6; obtain ⟨A6, c6, rfl, hc6⟩ := hO6.shape)
      go_roundw
      case rel => exact ⟨j + 1, A6, c6, by omega, by go_num, rfl, hO6, (hbl.alloc hzl _).trans hb6⟩
      case measure => simp [intOf]; omega
    · obtain rfl : j = N := by omega
      have hdec : decide ((j : Int) < (j : Int)) = false := decide_eq_false (by omega)
      have htk : T.take j = T := by rw [← HT0.out, List.take_length]
      rw [htk, HXS.out] at hO
      obtain ⟨A9, c9, e9, hc9, hrd⟩ := hO.rdH
      injection e9 with e91 _ e93
      subst e91 e93
      have hfr := hO.fresh
      clear htk hO
      go_wp2_with fail
      go_ret
      exact ⟨A5, c5, by rw [HLR.out]; rfl, by rw [HLR.out]; exact hc9, by rw [HLR.out]; exact hrd, bthen hb2 hbl, fun a ha => Nat.le_trans hz2 (hfr a ha)⟩
end Go.Proofs.YtdohbbjinbofbaaGreat
/-! The walks of the reference's Atoms, Words, Once. -/
namespace Go.Proofs.YtdohbbjinbofbaaGreat
open Go.RowKit
/-- The part below a match: it is a list of its own, with as many steps. -/
theorem part_steps26 {l : List Nd} (hn : l.length ≤ 1000) {t : Tr} (ht : treeS l = some t) (i : Nat) (hi : i < l.length) (h : Nd) (a : Tr) (hx : t.sub i = .un h a) (hr : regS a.root.kind = true) :
    partL l ((i : Int) - 1) = a.flat 0 ∧ (kindS (a.flat 0) 18).length = stepsN a ∧ (kindS (a.flat 0) 19).length = testsT a ∧ (a.flat 0).length ≤ 1000 ∧ stepsN a ≤ 1000 ∧ testsT a ≤ 1000 := by
  have hlen := tree_len ht
  have hval := sub_valid t i (tree_valid ht)
  rw [hx] at hval
  simp only [validT, Bool.and_eq_true] at hval
  have hva := hval.2
  obtain ⟨hs1, hs2, _⟩ := sub_un_kid (by omega) hx
  have hp := a.size_pos
  have hpart : partL l ((i : Int) - 1) = a.flat 0 := by
    unfold partL
    rw [ht]
    simp only
    rw [if_pos ⟨by omega, by omega⟩, show ((i : Int) - 1).toNat = i - 1 by omega, hs2]
  obtain ⟨a', e1, e2, e3, e4, _⟩ := fold_flat a [] hva
  have ha' : treeS (a.flat 0) = some a' := by
    unfold treeS parseS
    rw [show (Tr.flat a 0) = Tr.flat a (total []) from rfl, e1]
  have hr' : regS a'.root.kind = true := by rw [e3]; exact hr
  have hsh := eq_shape (eq_of_flat a' a 0 (e4 0))
  have he : ownS (a.flat 0) = ownT a' 0 := by unfold ownS; rw [ha']; simp only; rw [if_pos hr']
  have hk18 : (kindS (a.flat 0) 18).length = stepsN a := by
    unfold kindS
    rw [he, ← shape_steps hsh]
    exact own_steps a' 0 _ [] [] (by simpa using tree_flat ha') rfl (regV_of (tree_valid ha') hr')
  have hk19 : (kindS (a.flat 0) 19).length = testsT a := by
    unfold kindS
    have := ownK_tests (tree_flat ha') (regV_of (tree_valid ha') hr')
    rw [he]
    refine (congrArg List.length this).trans ?_
    rw [shape_testsL 0 hsh e2, length_tests]
  have hql : (a.flat 0).length = a.size := Tr.length_flat a 0
  have hsb := stepsN_le a
  have htb := testsT_le a
  exact ⟨hpart, hk18, hk19, by omega, by omega, by omega⟩
set_option maxRecDepth 100000 in
set_option maxHeartbeats 4000000 in
theorem atoms26_w {F : Fz} {w : World} (hF : Sat F w) (l : List Nd) (hn : l.length ≤ 1000) (A : Option Addr) (n c : Nat) (hc : n ≤ c) (hl : NodesF F A n l) (N : Nat) (hN : onT atomsN l = N) :
    Calls Tryz.prog 12 #[.slice A n c] w fun e w' => e = .returned (.int .i64 (N : Nat)) ∧ Below w.heap.size w w' := by
  cases hb : (formL l && plainS l)
  · have h0 := onT_no (f := atomsN) hb
    rw [hN] at h0
    subst h0
    have HP := Lib.hid (plain26_w hF l hn A n c hl false hb)
    clear hN hb hl hn
    go_enter Tryz.func12, Tryz.ntmps12
    go_wp2_with (go_at_call 35; refine HP.out.mono ?_; rintro e w1 ⟨rfl, hw1⟩)
    go_ret
    exact ⟨rfl, hw1⟩
  obtain ⟨hf, hp, t, ht⟩ := plain_tree hb
  have hN2 := onT_yes (f := atomsN) hb ht
  rw [hN] at hN2
  have hlt := tree_len ht
  have hab := fun i hi => (atomM_le hn ht i hi).1
  have HUA := Lib.hid (fun i (hi : i ≤ l.length) => uptoN_le (g := atomM) (t := t) (n := l.length) (B := 10000000) hab i hi)
  have HALA : Hid (uptoN atomM t l.length = N) := Lib.hid (by rw [hlt, uptoN_all, ← atomsN_all, hN2])
  have HKD := Lib.hid (fun i (hi : i < l.length) => get_flat_root ht i hi)
  have HMU := Lib.hid (fun i (hi : i < l.length) hm => match_un ht i hi hm)
  have HND := Lib.hid (fun i (hi : i < l.length) => (node_bounds hn ht i hi).1)
  have HPS := Lib.hid (fun i (hi : i < l.length) h a hx hr => part_steps26 hn ht i hi h a hx hr)
  have HPL := Lib.hid (plain26_w hF l hn A n c hl true hb)
  have hPt := Lib.hid (fun (X : World) (h : Sat F X) i h1 h2 => rpart_w h l hn A n c hc hl i h1 h2)
  obtain ⟨hln, hl2⟩ := hl
  have hnn : n ≤ 1000 := by omega
  subst hln
  clear hab hN hb hf hp hN2 hlt ht hc
  go_enter Tryz.func12, Tryz.ntmps12
  go_wp2_with (go_at_call 35; refine HPL.out.mono ?_; rintro e w0 ⟨rfl, hw0⟩)
  have hF0 := hF.below hw0
  have hz0 := hw0.size
  go_loopw [3, 5, 11] (fun v3 _ v11 wr => ∃ i : Nat, i ≤ l.length ∧ v11 = .int .i64 i ∧ v3 = .int .i64 (uptoN atomM t i : Nat) ∧ Below w.heap.size w wr ∧ Below w0.heap.size w0 wr) (fun _ _ v11 _ => l.length - (intOf v11).toNat)
  case atStart => exact ⟨0, Nat.zero_le _, rfl, rfl, hw0, Below.refl _ _⟩
  case round =>
    obtain ⟨i, hi, rfl, rfl, hbl, hbl2⟩ := hrel
    have hFr := hF0.below hbl2
    have hzl := hbl.size
    have hzl2 := hbl2.size
    by_cases hlt : i < l.length
    · have hiI : (i : Int) < (l.length : Int) := by omega
      have hkd := HKD.out i hlt
      obtain ⟨ad, rfl, hL⟩ := hl2 (by omega)
      obtain ⟨Ak, ck, _, hK, hd⟩ := hL i hlt
      have hmux := HMU.out i hlt
      have hnd := HND.out i hlt
      have hps := HPS.out i hlt
      have hua := HUA.out i (by omega)
      have hsa := uptoN_succ atomM t i
      obtain ⟨x, hx⟩ : ∃ x, t.sub i = x := ⟨_, rfl⟩
      rw [hx] at hkd hmux hnd hsa
      simp only [hx] at hps
      generalize l[i] = nd at *
      obtain ⟨VA, hVA⟩ : ∃ V, uptoN atomM t (i + 1) = V := ⟨_, rfl⟩
      have HVA := Lib.hid hVA
      rw [hVA] at hsa
      clear hVA
      generalize uptoN atomM t i = UA at *
      have hua' : UA ≤ 10000000000 := by omega
      obtain ⟨R, hR⟩ : ∃ R, x.root = R := ⟨_, rfl⟩
      rw [hR] at hkd hmux
      obtain ⟨ks, hks⟩ : ∃ ks, x.rootKids (i + 1 - x.size) = ks := ⟨_, rfl⟩
      rw [hks] at hkd
      obtain ⟨kind, name, lo, hi', kk⟩ := R
      subst hkd
      dsimp only at hK hd hmux
      obtain ⟨c0, c1, c2, c3, c4⟩ := hd.sat hFr
      dsimp only at c0 c1 c2 c3 c4
      have hRX := Lib.hid hR
      clear hx hR hks hlt
      by_cases h17 : kind = 17
      · obtain ⟨h, a, hxa, hha, hra, hkk, hsp, hi1⟩ := hmux (.inr h17)
        obtain ⟨_, hwb, _⟩ := hnd h a hxa hha
        obtain ⟨p1, p2, _, p3, p4, _⟩ := hps h a hxa hra
        have hRX := hRX.out
        rw [hxa] at hRX
        have hRX : h = ⟨kind, name, lo, hi', kk⟩ := hRX
        subst hRX
        subst h17
        rw [hxa] at hsa
        replace hsa : VA = UA + stepsN a * wideN ⟨17, name, lo, hi', kk⟩ := hsa
        have HW := Lib.hid (fun X => rwide1_w ⟨17, name, lo, hi', kk⟩ hsp X)
        obtain ⟨Wd, hWd⟩ : ∃ Wd, wideN ⟨17, name, lo, hi', kk⟩ = Wd := ⟨_, rfl⟩
        rw [hWd] at HW hwb hsa
        dsimp only at hkk HW
        subst hkk
        have HSS := Lib.hid (fun (X : World) (G : Fz) (hX : Sat G X) (B : Option Addr) (m e : Nat) (hB : NodesF G B m (a.flat 0)) => rsteps_w hX (a.flat 0) (by omega) B m e hB)
        have HS18 : Hid ((zs (kindS (a.flat 0) 18)).length = stepsN a) := Lib.hid (by rw [length_zs, p2])
        have HPt := Lib.hid (fun (X : World) (h : Sat F X) => hPt.out X h ((i : Int) - 1) (by omega) (by omega))
        rw [p1] at HPt
        generalize kindS (a.flat 0) 18 = S18 at *
        generalize a.flat 0 = q at *
        generalize stepsN a = M at *
        obtain ⟨ak, v, rfl, hv0, hk0⟩ := hK.at1 (k := 0) (by simp)
        obtain rfl : Value.int .i64 ((i : Int) - 1) = v := by simpa using hv0
        rw [show ak.add 0 = ak by unfold Addr.add; simp] at hk0
        have hmul : M * Wd ≤ 10000000 := Nat.le_trans (Nat.mul_le_mul p4 hwb) (by omega)
        have hmz : (M : Int) * (Wd : Int) = ((M * Wd : Nat) : Int) := by rw [Int.natCast_mul]
        obtain ⟨MW, hMW⟩ : ∃ MW, M * Wd = MW := ⟨_, rfl⟩
        rw [hMW] at hmz hmul hsa
        have wMW : IntKind.i64.wrap ((M : Int) * (Wd : Int)) = (MW : Int) := by rw [hmz]; exact wrap_i (by omega) (by omega)
        have wS : IntKind.i64.wrap ((UA : Int) + (MW : Int)) = (VA : Int) := by rw [show (UA : Int) + (MW : Int) = (VA : Int) by omega]; exact wrap_i (by omega) (by omega)
        have HBA := Lib.hid (Blk.new wr 45 #[.int .i64 17, .string name, .int .i64 lo, .int .i64 hi', .slice (some ak) 1 ck])
        have hbA := balloc wr (.cells #[.int .i64 17, .string name, .int .i64 lo, .int .i64 hi', .slice (some ak) 1 ck] 45)
        obtain ⟨W, hW⟩ : ∃ W, W = wr.alloc (.cells #[.int .i64 17, .string name, .int .i64 lo, .int .i64 hi', .slice (some ak) 1 ck] 45) := ⟨_, rfl⟩
        rw [← hW] at HBA hbA
        obtain ⟨m0, m1, m2, m3, m4⟩ := blk5 HBA.out
        have hFA := hFr.below hbA
        have y0 := hFA.cell hk0
        have yl := hFA.clt hk0
        have hml := HBA.out.lt
        have HWX := Lib.hid hW
        clear hsa hWd hMW hmz hmux hnd hps hxa hra hha hK hd p1 p2 hsp hv0 hk0 hL hW hl2
        go_wp2_with fail
        rw [← HWX.out]
        go_region_held3 (fun w' => w'.cell? ⟨wr.heap.size, 2, none⟩ = some (.int .i64 lo) ∧ w'.cell? ⟨wr.heap.size, 3, none⟩ = some (.int .i64 hi') ∧ w'.cell? ⟨wr.heap.size, 4, none⟩ = some (.slice (some ak) 1 ck) ∧ w'.cell? ak = some (.int .i64 ((i : Int) - 1))) (go_keep)
          (first
            | (go_at_call 37; refine (HW.out _).mono ?_; rintro e w4 ⟨rfl, hw4⟩; have hB4 : Below W.heap.size W w4 := (by refine bel_trans ?_ hw4; first | exact bel_eqv hB3 rfl rfl rfl rfl); have s0 := (hB4.cell (p := ⟨wr.heap.size, 2, none⟩) hml).trans m2; have s1 := (hB4.cell (p := ⟨wr.heap.size, 3, none⟩) hml).trans m3; have s2 := (hB4.cell (p := ⟨wr.heap.size, 4, none⟩) hml).trans m4; have s3 := (hB4.cell (p := ak) yl).trans y0)
            | (go_at_call 16; refine (HSS.out _ F2 (by first | exact hG1) A1 _ c1' hN1).mono ?_; rintro e w3 ⟨A3, c3', rfl, _, _, hw3⟩; rw [HS18.out]; have hB3 : Below W.heap.size W w3 := (by refine bel_trans ?_ hw3; first | exact bel_eqv hB1 rfl rfl rfl rfl); have s0 := (hB3.cell (p := ⟨wr.heap.size, 2, none⟩) hml).trans m2; have s1 := (hB3.cell (p := ⟨wr.heap.size, 3, none⟩) hml).trans m3; have s2 := (hB3.cell (p := ⟨wr.heap.size, 4, none⟩) hml).trans m4; have s3 := (hB3.cell (p := ak) yl).trans y0)
            | (go_at_call 36; refine (HPt.out _ (by first | exact hFA | exact hFA.drew)).mono ?_; rintro e w1 ⟨A1, c1', F2, rfl, hc1, hN1, hw1, hG1, _⟩; have hB1 : Below W.heap.size W w1 := (by refine bel_trans ?_ hw1; first | exact bel_eqv (Below.refl _ W) rfl rfl rfl rfl); have s0 := (hB1.cell (p := ⟨wr.heap.size, 2, none⟩) hml).trans m2; have s1 := (hB1.cell (p := ⟨wr.heap.size, 3, none⟩) hml).trans m3; have s2 := (hB1.cell (p := ⟨wr.heap.size, 4, none⟩) hml).trans m4; have s3 := (hB1.cell (p := ak) yl).trans y0))
        all_goals
          go_wp2_with fail
          go_roundw
          case rel => exact ⟨i + 1, by omega, by go_num, by rw [HVA.out], hbl.trans ((bthen hbA hB4).mono hzl), hbl2.trans ((bthen hbA hB4).mono hzl2)⟩
          case measure => simp [intOf]; omega
      · have hx0 : atomM x = 0 := by
          cases x with
          | leaf h => rfl
          | bin h a b => rfl
          | un h a =>
            have e : h = ⟨kind, name, lo, hi', kk⟩ := hRX.out
            subst e
            simp only [atomM]
            rw [if_neg h17]
        rw [hx0, Nat.add_zero] at hsa
        have h17b : (kind == 17) = false := by rw [beq_eq_false_iff_ne]; exact h17
        have hbA := balloc wr (.cells #[.int .i64 kind, .string name, .int .i64 lo, .int .i64 hi', .slice Ak ks.length ck] 45)
        obtain ⟨m0, m1, m2, m3, m4⟩ := blk5 (Blk.new wr 45 #[.int .i64 kind, .string name, .int .i64 lo, .int .i64 hi', .slice Ak ks.length ck])
        have HsA := Lib.hid hsa
        clear hsa hmux hnd hps hK hd hx0 hL
        go_wp2_with fail
        go_roundw
        case rel => exact ⟨i + 1, by omega, by go_num, by rw [HVA.out, HsA.out], bthen hbl hbA, bthen hbl2 hbA⟩
        case measure => simp [intOf]; omega
    · obtain rfl : i = l.length := by omega
      have hdec : decide ((l.length : Int) < (l.length : Int)) = false := decide_eq_false (by omega)
      rw [HALA.out]
      go_wp2_with fail
      go_ret
      exact ⟨rfl, hbl⟩
set_option maxRecDepth 100000 in
theorem words26_w (N : Nat) (hN : N ≤ 10) (w : World) : Calls Tryz.prog 58 #[.int .i64 (N : Nat)] w fun e w' => (∃ v : Nat, e = .returned (.int .i64 (v : Nat)) ∧ (N ≤ 6 → v = 1) ∧ v ≤ 16) ∧ Below w.heap.size w w' := by
  rcases (show N = 0 ∨ N = 1 ∨ N = 2 ∨ N = 3 ∨ N = 4 ∨ N = 5 ∨ N = 6 ∨ N = 7 ∨ N = 8 ∨ N = 9 ∨ N = 10 by omega) with rfl | rfl | rfl | rfl | rfl | rfl | rfl | rfl | rfl | rfl | rfl
  all_goals
    clear hN
    go_enter Tryz.func58, Tryz.ntmps58
    go_wp2_with fail
    go_ret
    refine ⟨?_, Below.refl _ _⟩
    first
      | exact ⟨1, rfl, fun _ => rfl, by omega⟩
      | exact ⟨2, rfl, fun h => by omega, by omega⟩
      | exact ⟨4, rfl, fun h => by omega, by omega⟩
      | exact ⟨8, rfl, fun h => by omega, by omega⟩
      | exact ⟨16, rfl, fun h => by omega, by omega⟩
set_option maxRecDepth 100000 in
set_option maxHeartbeats 4000000 in
theorem once26_w {F : Fz} {w : World} (hF : Sat F w) (l : List Nd) (hn : l.length ≤ 1000) (A : Option Addr) (n c : Nat) (hc : n ≤ c) (hl : NodesF F A n l) (R : Nat) (hR : onT onceT l = R) :
    Calls Tryz.prog 30 #[.slice A n c] w fun e w' => e = .returned (encU R) ∧ Below w.heap.size w w' := by
  obtain ⟨N, hN⟩ : ∃ N, onT atomsN l = N := ⟨_, rfl⟩
  have HAT := Lib.hid (atoms26_w hF l hn A n c hc hl N hN)
  cases hb : (formL l && plainS l)
  · have h0 := onT_no (f := onceT) hb
    rw [hR] at h0
    subst h0
    have HP := Lib.hid (fun (X : World) (h : Sat F X) => plain26_w h l hn A n c hl false hb)
    clear hR hb hl hn hN
    go_enter Tryz.func30, Tryz.ntmps30
    go_wp2_with (first
      | (go_at_call 12; refine HAT.out.mono ?_; rintro e w1 ⟨rfl, hw1⟩)
      | (go_at_call 35; refine (HP.out _ (hF.below hw1)).mono ?_; rintro e w2 ⟨rfl, hw2⟩))
    go_ret
    exact ⟨rfl, bthen hw1 hw2⟩
  obtain ⟨hf, hp, t, ht⟩ := plain_tree hb
  have hR2 := onT_yes (f := onceT) hb ht
  have hN2 := onT_yes (f := atomsN) hb ht
  rw [hN] at hN2
  have hR3 : R = onceV N (backN t) := by rw [← hR, hR2, hN2]; rfl
  have HPL := Lib.hid (fun (X : World) (h : Sat F X) => plain26_w h l hn A n c hl true hb)
  by_cases h10 : 10 < N
  · have hR4 : R = 0 := by rw [hR3]; unfold onceV; rw [if_pos h10]
    subst hR4
    have h10I : (10 : Int) < (N : Int) := by omega
    clear hR hb hl hn hN hR2 hR3 hN2 hf hp ht
    go_enter Tryz.func30, Tryz.ntmps30
    go_wp2_with (first
      | (go_at_call 12; refine HAT.out.mono ?_; rintro e w1 ⟨rfl, hw1⟩)
      | (go_at_call 35; refine (HPL.out _ (hF.below hw1)).mono ?_; rintro e w2 ⟨rfl, hw2⟩))
    go_ret
    exact ⟨rfl, bthen hw1 hw2⟩
  have h10I : decide ((10 : Int) < (N : Int)) = false := decide_eq_false (by omega)
  have HWO := Lib.hid (fun X => words26_w N (by omega) X)
  by_cases h5 : 5 < N
  · have hR4 : R = 4611686018427387904 := by rw [hR3]; unfold onceV; rw [if_neg h10, if_pos h5]
    subst hR4
    have h5I : (5 : Int) < (N : Int) := by omega
    clear hR hb hl hn hN hR2 hR3 hN2 hf hp ht h10
    go_enter Tryz.func30, Tryz.ntmps30
    go_wp2_with (first
      | (go_at_call 12; refine HAT.out.mono ?_; rintro e w1 ⟨rfl, hw1⟩)
      | (go_at_call 35; refine (HPL.out _ (hF.below hw1)).mono ?_; rintro e w2 ⟨rfl, hw2⟩)
      | (go_at_call 58; refine (HWO.out _).mono ?_; rintro e w3 ⟨⟨v, rfl, _, hvb⟩, hw3⟩))
    go_ret
    exact ⟨rfl, bthen (bthen hw1 hw2) hw3⟩
  have h5I : decide ((5 : Int) < (N : Int)) = false := decide_eq_false (by omega)
  have hN5 : N ≤ 5 := by omega
  have hR4 : R = 1 + funcsN N + 2 * backN t := by rw [hR3]; unfold onceV; rw [if_neg h10, if_neg h5]
  have hfb := funcsN_le hN5
  obtain ⟨P0, hP0⟩ : ∃ P0, (if N = 0 then 0 else 2 ^ (2 ^ N) - 2) = P0 := ⟨_, rfl⟩
  have hfP : funcsN N = 2 * P0 := by unfold funcsN; rw [← hP0]; split <;> rfl
  have hlt := tree_len ht
  have hbb := fun i hi => (atomM_le hn ht i hi).2
  have HUA := Lib.hid (fun i (hi : i ≤ l.length) => uptoN_le (g := backM) (t := t) (n := l.length) (B := 20000000) hbb i hi)
  have HALA : Hid (uptoN backM t l.length = backN t) := Lib.hid (by rw [hlt, uptoN_all, ← backN_all])
  have HKD := Lib.hid (fun i (hi : i < l.length) => get_flat_root ht i hi)
  have HMU := Lib.hid (fun i (hi : i < l.length) hm => match_un ht i hi hm)
  have HND := Lib.hid (fun i (hi : i < l.length) => (node_bounds hn ht i hi).1)
  have HPS := Lib.hid (fun i (hi : i < l.length) h a hx hr => part_steps26 hn ht i hi h a hx hr)
  have hPt := Lib.hid (fun (X : World) (h : Sat F X) i h1 h2 => rpart_w h l hn A n c hc hl i h1 h2)
  obtain ⟨Q0, hQ0⟩ : ∃ Q0, 1 + 2 * P0 = Q0 := ⟨_, rfl⟩
  obtain ⟨P2, hP2⟩ : ∃ P2, P0 * 2 = P2 := ⟨_, rfl⟩
  have hP0b : P0 ≤ 5000000000 := by omega
  have wP : IntKind.u64.wrap ((P0 : Int) * 2) = (P2 : Int) := by rw [show (P0 : Int) * 2 = (P2 : Int) by omega]; exact wrap_u (by omega) (by omega)
  have wQ : IntKind.u64.wrap (1 + (P2 : Int)) = (Q0 : Int) := by rw [show 1 + (P2 : Int) = (Q0 : Int) by omega]; exact wrap_u (by omega) (by omega)
  have hQb : Q0 ≤ 10000000001 := by omega
  have HR4 : Hid (R = Q0 + 2 * backN t) := Lib.hid (by omega)
  have HP0 := Lib.hid hP0
  obtain ⟨hln, hl2⟩ := hl
  have hnn : n ≤ 1000 := by omega
  subst hln
  clear hbb hR hb hf hp hN2 hlt ht hc hR2 hR3 hR4 hfb hfP hQ0 hP2 hP0 h10 h5 hN
  go_enter Tryz.func30, Tryz.ntmps30
  go_upto_if 24 with (first
    | (go_at_call 12; refine HAT.out.mono ?_; rintro e w1 ⟨rfl, hw1⟩)
    | (go_at_call 35; refine (HPL.out _ (hF.below hw1)).mono ?_; rintro e w2 ⟨rfl, hw2⟩)
    | (go_at_call 58; refine (HWO.out _).mono ?_; rintro e w0 ⟨⟨v, rfl, hv1, hvb⟩, hw3⟩; obtain rfl := hv1 (by omega)))
  have hw0 := bthen (bthen hw1 hw2) hw3
  go_cut [5] from 25 to 29 (fun v5 wx => v5 = encU P0 ∧ wx = w0)
  case first =>
    rcases (show N = 0 ∨ N = 1 ∨ N = 2 ∨ N = 3 ∨ N = 4 ∨ N = 5 by omega) with rfl | rfl | rfl | rfl | rfl | rfl
    all_goals
      obtain rfl := HP0.out
      go_wp2_with fail
      go_meet
      exact ⟨by first | rfl | simp, rfl⟩
  case rest =>
    obtain ⟨rfl, rfl⟩ := hcut
    have hF0 := hF.below hw0
    have hz0 := hw0.size
    clear HP0 hw1 hw2 hw3
    go_wp2_with fail
    go_loopw [6, 8, 37] (fun v3 _ v11 wr => ∃ i : Nat, i ≤ l.length ∧ v11 = .int .i64 i ∧ v3 = encU (Q0 + 2 * uptoN backM t i) ∧ Below w.heap.size w wr ∧ Below wc.heap.size wc wr) (fun _ _ v11 _ => l.length - (intOf v11).toNat)
    case atStart => exact ⟨0, Nat.zero_le _, rfl, by simp [uptoN, sumL], hw0, Below.refl _ _⟩
    case round =>
      obtain ⟨i, hi, rfl, rfl, hbl, hbl2⟩ := hrel
      have hFr := hF0.below hbl2
      have hzl := hbl.size
      have hzl2 := hbl2.size
      by_cases hlt : i < l.length
      · have hiI : (i : Int) < (l.length : Int) := by omega
        have hkd := HKD.out i hlt
        obtain ⟨ad, rfl, hL⟩ := hl2 (by omega)
        obtain ⟨Ak, ck, _, hK, hd⟩ := hL i hlt
        have hmux := HMU.out i hlt
        have hnd := HND.out i hlt
        have hps := HPS.out i hlt
        have hua := HUA.out i (by omega)
        have hsa := uptoN_succ backM t i
        obtain ⟨x, hx⟩ : ∃ x, t.sub i = x := ⟨_, rfl⟩
        rw [hx] at hkd hmux hnd hsa
        simp only [hx] at hps
        generalize l[i] = nd at *
        obtain ⟨VA, hVA⟩ : ∃ V, uptoN backM t (i + 1) = V := ⟨_, rfl⟩
        have HVA := Lib.hid hVA
        rw [hVA] at hsa
        clear hVA
        generalize uptoN backM t i = UA at *
        have hua' : UA ≤ 20000000000 := by omega
        obtain ⟨QA, hQA⟩ : ∃ QA, Q0 + 2 * UA = QA := ⟨_, rfl⟩
        rw [hQA]
        obtain ⟨R, hR⟩ : ∃ R, x.root = R := ⟨_, rfl⟩
        rw [hR] at hkd hmux
        obtain ⟨ks, hks⟩ : ∃ ks, x.rootKids (i + 1 - x.size) = ks := ⟨_, rfl⟩
        rw [hks] at hkd
        obtain ⟨kind, name, lo, hi', kk⟩ := R
        subst hkd
        dsimp only at hK hd hmux
        obtain ⟨c0, c1, c2, c3, c4⟩ := hd.sat hFr
        dsimp only at c0 c1 c2 c3 c4
        have hRX := Lib.hid hR
        clear hx hR hks hlt
        by_cases h16 : kind = 16
        · obtain ⟨h, a, hxa, hha, hra, hkk, hsp, hi1⟩ := hmux (.inl h16)
          obtain ⟨_, hwb, _⟩ := hnd h a hxa hha
          obtain ⟨p1, p2, _, p3, p4, _⟩ := hps h a hxa hra
          have hRX := hRX.out
          rw [hxa] at hRX
          have hRX : h = ⟨kind, name, lo, hi', kk⟩ := hRX
          subst hRX
          subst h16
          rw [hxa] at hsa
          replace hsa : VA = UA + wideN ⟨16, name, lo, hi', kk⟩ * (stepsN a + 1) := hsa
          have HW := Lib.hid (fun X => rwide1_w ⟨16, name, lo, hi', kk⟩ hsp X)
          obtain ⟨Wd, hWd⟩ : ∃ Wd, wideN ⟨16, name, lo, hi', kk⟩ = Wd := ⟨_, rfl⟩
          rw [hWd] at HW hwb hsa
          dsimp only at hkk HW
          subst hkk
          have HSS := Lib.hid (fun (X : World) (G : Fz) (hX : Sat G X) (B : Option Addr) (m e : Nat) (hB : NodesF G B m (a.flat 0)) => rsteps_w hX (a.flat 0) (by omega) B m e hB)
          have HS18 : Hid ((zs (kindS (a.flat 0) 18)).length = stepsN a) := Lib.hid (by rw [length_zs, p2])
          have HPt := Lib.hid (fun (X : World) (h : Sat F X) => hPt.out X h ((i : Int) - 1) (by omega) (by omega))
          rw [p1] at HPt
          generalize kindS (a.flat 0) 18 = S18 at *
          generalize a.flat 0 = q at *
          generalize stepsN a = M at *
          obtain ⟨ak, v, rfl, hv0, hk0⟩ := hK.at1 (k := 0) (by simp)
          obtain rfl : Value.int .i64 ((i : Int) - 1) = v := by simpa using hv0
          rw [show ak.add 0 = ak by unfold Addr.add; simp] at hk0
          obtain ⟨M1, hM1⟩ : ∃ M1, M + 1 = M1 := ⟨_, rfl⟩
          rw [hM1] at hsa
          have hmul : Wd * M1 ≤ 20000000 := Nat.le_trans (Nat.mul_le_mul hwb (show M1 ≤ 2000 by omega)) (by omega)
          have hmz : (Wd : Int) * (M1 : Int) = ((Wd * M1 : Nat) : Int) := by rw [Int.natCast_mul]
          obtain ⟨MW, hMW⟩ : ∃ MW, Wd * M1 = MW := ⟨_, rfl⟩
          rw [hMW] at hmz hmul hsa
          obtain ⟨M2, hM2⟩ : ∃ M2, MW * 2 = M2 := ⟨_, rfl⟩
          obtain ⟨Z, hZ⟩ : ∃ Z, QA + M2 = Z := ⟨_, rfl⟩
          have wA : IntKind.i64.wrap ((M : Int) + 1) = (M1 : Int) := by rw [show (M : Int) + 1 = (M1 : Int) by omega]; exact wrap_i (by omega) (by omega)
          have wMW : IntKind.i64.wrap ((Wd : Int) * (M1 : Int)) = (MW : Int) := by rw [hmz]; exact wrap_i (by omega) (by omega)
          have wC : IntKind.u64.wrap (MW : Int) = (MW : Int) := wrap_u (by omega) (by omega)
          have wM2 : IntKind.u64.wrap ((MW : Int) * 2) = (M2 : Int) := by rw [show (MW : Int) * 2 = (M2 : Int) by omega]; exact wrap_u (by omega) (by omega)
          have wS : IntKind.u64.wrap ((QA : Int) + (M2 : Int)) = (Z : Int) := by rw [show (QA : Int) + (M2 : Int) = (Z : Int) by omega]; exact wrap_u (by omega) (by omega)
          have HZ : Hid (Q0 + 2 * VA = Z) := Lib.hid (by omega)
          have w22 : IntKind.u64.wrap 2 = 2 := rfl
          have HBA := Lib.hid (Blk.new wr 45 #[.int .i64 16, .string name, .int .i64 lo, .int .i64 hi', .slice (some ak) 1 ck])
          have hbA := balloc wr (.cells #[.int .i64 16, .string name, .int .i64 lo, .int .i64 hi', .slice (some ak) 1 ck] 45)
          obtain ⟨W, hW⟩ : ∃ W, W = wr.alloc (.cells #[.int .i64 16, .string name, .int .i64 lo, .int .i64 hi', .slice (some ak) 1 ck] 45) := ⟨_, rfl⟩
          rw [← hW] at HBA hbA
          obtain ⟨m0, m1, m2, m3, m4⟩ := blk5 HBA.out
          have hFA := hFr.below hbA
          have y0 := hFA.cell hk0
          have yl := hFA.clt hk0
          have hml := HBA.out.lt
          have HWX := Lib.hid hW
          clear hsa hWd hMW hmz hM1 hM2 hZ hQA hmux hnd hps hxa hra hha hK hd p1 p2 hsp hv0 hk0 hL hW hl2
          go_wp2_with fail
          rw [← HWX.out]
          go_region_held3 (fun w' => w'.cell? ⟨wr.heap.size, 2, none⟩ = some (.int .i64 lo) ∧ w'.cell? ⟨wr.heap.size, 3, none⟩ = some (.int .i64 hi') ∧ w'.cell? ⟨wr.heap.size, 4, none⟩ = some (.slice (some ak) 1 ck) ∧ w'.cell? ak = some (.int .i64 ((i : Int) - 1))) (go_keep)
            (first
              | (go_at_call 16; refine (HSS.out _ F2 (by first | exact hG1) A1 _ c1' hN1).mono ?_; rintro e w4 ⟨A3, c3', rfl, _, _, hw4⟩; rw [HS18.out]; have hB4 : Below W.heap.size W w4 := (by refine bel_trans ?_ hw4; first | exact bel_eqv hB1 rfl rfl rfl rfl); have s0 := (hB4.cell (p := ⟨wr.heap.size, 2, none⟩) hml).trans m2; have s1 := (hB4.cell (p := ⟨wr.heap.size, 3, none⟩) hml).trans m3; have s2 := (hB4.cell (p := ⟨wr.heap.size, 4, none⟩) hml).trans m4; have s3 := (hB4.cell (p := ak) yl).trans y0)
              | (go_at_call 36; refine (HPt.out _ (by first | exact hFA.below hB3)).mono ?_; rintro e w1 ⟨A1, c1', F2, rfl, hc1, hN1, hw1, hG1, _⟩; have hB1 : Below W.heap.size W w1 := (by refine bel_trans ?_ hw1; first | exact bel_eqv hB3 rfl rfl rfl rfl); have s0 := (hB1.cell (p := ⟨wr.heap.size, 2, none⟩) hml).trans m2; have s1 := (hB1.cell (p := ⟨wr.heap.size, 3, none⟩) hml).trans m3; have s2 := (hB1.cell (p := ⟨wr.heap.size, 4, none⟩) hml).trans m4; have s3 := (hB1.cell (p := ak) yl).trans y0)
              | (go_at_call 37; refine (HW.out _).mono ?_; rintro e w3 ⟨rfl, hw3⟩; have hB3 : Below W.heap.size W w3 := (by refine bel_trans ?_ hw3; first | exact bel_eqv (Below.refl _ W) rfl rfl rfl rfl); have s0 := (hB3.cell (p := ⟨wr.heap.size, 2, none⟩) hml).trans m2; have s1 := (hB3.cell (p := ⟨wr.heap.size, 3, none⟩) hml).trans m3; have s2 := (hB3.cell (p := ⟨wr.heap.size, 4, none⟩) hml).trans m4; have s3 := (hB3.cell (p := ak) yl).trans y0))
          all_goals
            go_wp2_with fail
            go_roundw
            case rel => exact ⟨i + 1, by omega, by go_num, by rw [HVA.out, HZ.out], hbl.trans ((bthen hbA hB4).mono hzl), hbl2.trans ((bthen hbA hB4).mono hzl2)⟩
            case measure => simp [intOf]; omega
        · have hx0 : backM x = 0 := by
            cases x with
            | leaf h => rfl
            | bin h a b => rfl
            | un h a =>
              have e : h = ⟨kind, name, lo, hi', kk⟩ := hRX.out
              subst e
              simp only [backM]
              rw [if_neg h16]
          rw [hx0, Nat.add_zero] at hsa
          have h16b : (kind == 16) = false := by rw [beq_eq_false_iff_ne]; exact h16
          have hbA := balloc wr (.cells #[.int .i64 kind, .string name, .int .i64 lo, .int .i64 hi', .slice Ak ks.length ck] 45)
          obtain ⟨m0, m1, m2, m3, m4⟩ := blk5 (Blk.new wr 45 #[.int .i64 kind, .string name, .int .i64 lo, .int .i64 hi', .slice Ak ks.length ck])
          have HsA := Lib.hid hsa
          have HQA := Lib.hid hQA
          clear hQA hsa hmux hnd hps hK hd hx0 hL
          go_wp2_with fail
          go_roundw
          case rel => exact ⟨i + 1, by omega, by go_num, by rw [HVA.out, HsA.out, HQA.out], bthen hbl hbA, bthen hbl2 hbA⟩
          case measure => simp [intOf]; omega
      · obtain rfl : i = l.length := by omega
        have hdec : decide ((l.length : Int) < (l.length : Int)) = false := decide_eq_false (by omega)
        have hua := HUA.out l.length (Nat.le_refl _)
        rw [HALA.out] at hua ⊢
        rw [← HR4.out]
        have hRb : R ≤ 100000000000 := by have := HR4.out; omega
        have hmin : min (R : Int) 4611686018427387904 = (R : Int) := by omega
        clear hua HR4
        go_wp2_with fail
        go_ret
        exact ⟨rfl, hbl⟩
end Go.Proofs.YtdohbbjinbofbaaGreat
