/- One pass: the walk of New: a plain formula. -/
import Derived.Test.YtaomehlhopiblaaOnlNw
set_option linter.unusedVariables false
set_option linter.unusedSimpArgs false
/-! One pass: the walk of New: a plain formula. -/
namespace Go.Proofs.Ytaomehlhopiblaa
open Go.RowKit
attribute [local go_sem ↓] Go.wp_at_zero Go.wp_at_succ
theorem kind19_flat {a : Tr} (hva : validT a = true) (hr : regS a.root.kind = true) : kindS (a.flat 0) 19 = testsL a 0 := by
  obtain ⟨a', e1, e2, e3, e4, _⟩ := fold_flat a [] hva
  have ha' : treeS (a.flat 0) = some a' := by
    unfold treeS parseS
    rw [show (Tr.flat a 0) = Tr.flat a (total []) from rfl, e1]
  have hr' : regS a'.root.kind = true := by rw [e3]; exact hr
  have hsh := eq_shape (eq_of_flat a' a 0 (e4 0))
  unfold kindS
  have he : ownS (a.flat 0) = ownT a' 0 := by unfold ownS; rw [ha']; simp only; rw [if_pos hr']
  have := ownK_tests (tree_flat ha') (regV_of (tree_valid ha') hr')
  rw [he, ← shape_testsL 0 hsh e2]
  exact this
theorem blk_newS (w : World) (p q : Addr) (v v' : Value) (T : TypeId) (cs : Array Value) : Blk (((w.setCell p v).setCell q v').alloc (.cells cs T)) w.heap.size T cs := by
  have h := Blk.new ((w.setCell p v).setCell q v') T cs
  simpa using h
theorem blk_newS2 (w : World) (p q : Addr) (v v' : Value) (o : Obj) (T : TypeId) (cs : Array Value) : Blk ((((w.setCell p v).setCell q v').alloc o).alloc (.cells cs T)) (w.heap.size + 1) T cs := by
  have h := Blk.new (((w.setCell p v).setCell q v').alloc o) T cs
  simpa using h
theorem blk_go {w : World} {go : Nat} {T : TypeId} {x0 x1 x2 x3 x4 x5 x6 x7 : Value} (h : Blk w go T #[x0, x1, x2, x3, x4, x5, x6, x7]) {a b n : Nat} {o o' : Obj} :
    Blk ((((w.setCell ⟨go, 2, none⟩ (.slice (some ⟨a, 0, none⟩) n n)).setCell ⟨go, 3, none⟩ (.slice (some ⟨b, 0, none⟩) n n)).alloc o).alloc o') go T #[x0, x1, .slice (some ⟨a, 0, none⟩) n n, .slice (some ⟨b, 0, none⟩) n n, x4, x5, x6, x7] ∧
    Blk ((((w.setCell ⟨go, 3, none⟩ (.slice (some ⟨b, 0, none⟩) n n)).setCell ⟨go, 2, none⟩ (.slice (some ⟨a, 0, none⟩) n n)).alloc o).alloc o') go T #[x0, x1, .slice (some ⟨a, 0, none⟩) n n, .slice (some ⟨b, 0, none⟩) n n, x4, x5, x6, x7] := by
  constructor
  · have h2 := (((h.set_ 2 (.slice (some ⟨a, 0, none⟩) n n)).set_ 3 (.slice (some ⟨b, 0, none⟩) n n)).alloc o).alloc o'
    simpa using h2
  · have h2 := (((h.set_ 3 (.slice (some ⟨b, 0, none⟩) n n)).set_ 2 (.slice (some ⟨a, 0, none⟩) n n)).alloc o).alloc o'
    simpa using h2
/-- A row that has been made since has grown. -/
theorem wr_grownB {w w1 w' : World} {row : Option Nat} {Gs : List Nat} (h : w1.grownBy w' row) (hr : ∀ g, row = some g → w.heap.size ≤ g) (hb : Wr Gs w w1) : Wr Gs w w' :=
  ⟨h.os.trans hb.os, h.tape.trans hb.tape, h.output.trans hb.output, Nat.le_trans hb.size h.size, fun b hb1 hg => (h.block b (Nat.lt_of_lt_of_le hb1 hb.size) fun e => by have := hr b e.symm; omega).trans (hb.block b hb1 hg)⟩
set_option maxRecDepth 100000 in
set_option maxHeartbeats 8000000 in
theorem onew_w {F : Fz} {w : World} (hF : Sat F w) (l : List Nd) (hn : l.length ≤ 1000) (A : Option Addr) (n c : Nat) (hc : n ≤ c) (hl : NodesF F A n l) {t : Tr} (ht : treeS l = some t) (hbb : (formL l && plainS l) = true) (m : Nat) (hm : atomsN t = m) (hmb : m ≤ 10) :
    Calls Try.prog 16 #[.slice A n c] w fun e w' => ∃ go gx gw, e = .returned (.tuple #[.pointer (some ⟨go, 0, none⟩), .int .i64 0]) ∧ Below w.heap.size w w' ∧ PassW m l t w.heap.size go gx gw w' on0 0 none 0 := by
  have hlen := tree_len ht
  obtain ⟨hf, hp, _, _⟩ := plain_tree hbb
  have hm2 : onT atomsN l = m := by rw [onT_yes hbb ht, hm]
  have HPt := fun (X : World) (hX : Sat F X) => part_w hX l hn A n c hc hl ((l.length : Int) - 1) (by omega) (by omega)
  rw [part_allT ht] at HPt
  have HPt := Lib.hid HPt
  have HFo := Lib.hid (form_w hF l hn A n c hl true hf)
  have HPl := Lib.hid (fun (X : World) (hX : Sat F X) => plain_w hX l hn A n c hl true hp)
  have HCt := Lib.hid (fun (X : World) (hX : Sat F X) => acount_w hX l hn A n c hc hl m hm2)
  obtain rfl : l.length = n := hl.1
  have HPA := Lib.hid (fun (X : World) (hX : Sat F X) (i : Nat) (hi : i < l.length) => part_w hX l hn A l.length c hc hl ((i : Int) - 1) (by omega) (by omega))
  have HMU := Lib.hid (fun i (hi : i < l.length) hm => match_un ht i hi hm)
  have HPS := Lib.hid (fun i (hi : i < l.length) h a hx hr => part_steps hn ht i hi h a hx hr)
  have HKT : Hid (∀ (k : Nat) (hk : k < l.length), l[k].kind = (t.sub k).root.kind) := Lib.hid (fun k hk => get_kind ht k hk)
  have HVA : Hid (∀ i h a, t.sub i = .un h a → validT a = true) := Lib.hid (fun i h a hs => by
    have := sub_valid t i (tree_valid ht)
    rw [hs] at this
    unfold validT at this
    simp only [Bool.and_eq_true] at this
    exact this.2)
  have HSZ : Hid (∀ i h a, i < l.length → t.sub i = .un h a → a.size ≤ i) := Lib.hid (fun i h a hi hs => (sub_un_kid (by omega) hs).1)
  have HLEN := Lib.hid hlen
  have wN : IntKind.i64.wrap ((l.length : Int) - 1) = (l.length : Int) - 1 := wrap_i (by omega) (by omega)
  have hmI : decide ((10 : Int) < (m : Int)) = false := decide_eq_false (by omega)
  have hmI2 : decide (10 < m) = false := decide_eq_false (by omega)
  have HF := Lib.hid hF
  clear hf hp ht hbb hm hm2 hF hl hlen
  go_enter Try.func16, Try.ntmps16
  go_wp2_with (first
    | (go_at_call 35; refine (HCt.out _ ((HF.out.below (bthen hw1 hw2)).below hw3)).mono ?_; rintro e w4 ⟨rfl, hw4⟩)
    | (go_at_call 34; refine (HPt.out _ (HF.out.below (bthen hw1 hw2))).mono ?_; rintro e w3 ⟨A3, c3, F3, rfl, hc3, hN3, hw3, hF3, hle3⟩)
    | (go_at_call 33; refine (HPl.out _ (HF.out.below hw1)).mono ?_; rintro e w2 ⟨rfl, hw2⟩)
    | (go_at_call 32; refine HFo.out.mono ?_; rintro e w1 ⟨rfl, hw1⟩))
  have hb4 : Below w.heap.size w w4 := bthen (bthen (bthen hw1 hw2) hw3) hw4
  obtain ⟨W5, hW5⟩ : ∃ W5, W5 = w4.alloc (.cells #[.slice A3 l.length c3, .int .i64 (m : Nat), .slice none 0 0, .slice none 0 0, .slice none 0 0, .int .i64 0, .int .u64 0, .bool false] 40) := ⟨_, rfl⟩
  obtain ⟨go, hgo⟩ : ∃ go, go = w4.heap.size := ⟨_, rfl⟩
  have hB5 : Blk W5 go 40 #[.slice A3 l.length c3, .int .i64 (m : Nat), .slice none 0 0, .slice none 0 0, .slice none 0 0, .int .i64 0, .int .u64 0, .bool false] := by rw [hW5, hgo]; exact Blk.new _ _ _
  have hb45 : Below w4.heap.size w4 W5 := by rw [hW5]; exact balloc _ _
  have hb5 := bthen hb4 hb45
  have hz4 := hb4.size
  have hF35 : Sat F3 W5 := (hF3.below hw4).below hb45
  have hF3n : ∀ g, go ≤ g → F3 g = none := fun g hg => (hF3.below hw4).none_ (by omega)
  have lgo : go < W5.heap.size := hB5.lt
  rw [← hW5, ← hgo]
  have HN3 := Lib.hid hN3
  have HB5 := Lib.hid hb5
  have HF35 := Lib.hid hF35
  have HF3N := Lib.hid hF3n
  have HGO : Hid (w.heap.size ≤ go) := Lib.hid (by omega)
  have HC3 := Lib.hid hc3
  clear hw1 hw2 hw3 hw4 hF3 hle3 hN3 hb4 hb45 hb5 hF35 hF3n hW5 hgo hz4 hc3
  have e2 : W5.cell? ⟨go, 2, none⟩ = some (.slice none 0 0) := hB5.cell 2
  have e3 : W5.cell? ⟨go, 3, none⟩ = some (.slice none 0 0) := hB5.cell 3
  have f2 := hB5.frozen 2
  have f3 := hB5.frozen 3
  have hmk1 : ∀ X : World, (Instr.makeSlice 36 (.int .i64 (l.length : Int)) (.int .i64 (l.length : Int))).run Try.prog X = .ok (.slice (some ⟨X.heap.size, 0, none⟩) l.length l.length) (X.alloc (.cells (madeCells (Value.agg #[.slice none 0 0, .int .i64 0, .slice none 0 0]).cells (l.length * 3)) 80)) := fun X => makeRx X l.length (by omega)
  have hmk2 : ∀ X : World, (Instr.makeSlice 37 (.int .i64 (l.length : Int)) (.int .i64 (l.length : Int))).run Try.prog X = .ok (.slice (some ⟨X.heap.size, 0, none⟩) l.length l.length) (X.alloc (.cells (zeros (.slice none 0 0) l.length) 57)) := fun X => makeBk l.length (by omega) X
  go_cut [] from 33 to 44 (fun wx => ∃ gx gw : Nat, Blk wx go 40 #[.slice A3 l.length c3, .int .i64 (m : Nat), .slice (some ⟨gx, 0, none⟩) l.length l.length, .slice (some ⟨gw, 0, none⟩) l.length l.length, .slice none 0 0, .int .i64 0, .int .u64 0, .bool false] ∧
    Blk wx gx 80 (madeCells #[.slice none 0 0, .int .i64 0, .slice none 0 0] (l.length * 3)) ∧ Blk wx gw 57 (zeros (.slice none 0 0) l.length) ∧ gx ≠ gw ∧ go < gx ∧ go < gw ∧ Wr [go] W5 wx)
  case first =>
    go_region_law (fail)
    all_goals
      go_wp2_with fail
      go_meet
      refine ⟨_, _, (blk_go hB5).1.drew, ?g1, ?g2, ?g3, ?g4, ?g5, ?g6⟩
      case g1 => first | with_reducible exact ((blk_newS W5 _ _ _ _ _ _).alloc _).drew | with_reducible exact (blk_newS2 W5 _ _ _ _ _ _ _).drew
      case g2 => first | with_reducible exact ((blk_newS W5 _ _ _ _ _ _).alloc _).drew | with_reducible exact (blk_newS2 W5 _ _ _ _ _ _ _).drew
      case g3 => omega
      case g4 => omega
      case g5 => omega
      case g6 => exact (((((Wr.refl [go] W5).set (g := go) (by simp) _ _).set (g := go) (by simp) _ _).alloc _).alloc _).drew
  case rest =>
    obtain ⟨gx, gw, hB6, hBx6, hBw6, hxw, hgx, hgw, hw56⟩ := hcut
    obtain ⟨W6, hW6⟩ : ∃ W6, W6 = wc := ⟨_, rfl⟩
    subst hW6
    have hF36 : Sat F3 W6 := hw56.sat HF35.out fun g hg => by simp at hg; exact HF3N.out g (by omega)
    have hb6 : Below w.heap.size w W6 := HB5.out.trans (hw56.below (fun g hg => by simp at hg; have := HGO.out; omega) HB5.out.size)
    have HS3 : Hid (∀ X, Wr [gx] W6 X → Sat F3 X) := Lib.hid (fun X hX => hX.sat hF36 fun g hg => by simp at hg; exact HF3N.out g (by omega))
    have HSF : Hid (∀ X, Wr [gx] W6 X → Sat F X) := Lib.hid (fun X hX => hX.sat (HF.out.below hb6) fun g hg => by simp at hg; exact HF.out.none_ (by have := HGO.out; omega))
    have HFN : Hid (∀ g, g ∈ [gx, go, gw] → F g = none) := Lib.hid (fun g hg => HF.out.none_ (by have := HGO.out; simp at hg; omega))
    have HF3X : Hid (∀ g, g ∈ [gx, go, gw] → F3 g = none) := Lib.hid (fun g hg => HF3N.out g (by simp at hg; omega))
    have lX : ∀ g, g ∈ [gx, go, gw] → g < W6.heap.size := fun g hg => by
      simp at hg
      rcases hg with rfl | rfl | rfl
      · exact hBx6.lt
      · exact hB6.lt
      · exact hBw6.lt
    have HLX := Lib.hid lX
    have HB6 := Lib.hid hB6
    have HBw := Lib.hid hBw6
    have HBB6 := Lib.hid hb6
    have hRx6 : RxW t gx [gx, go, gw] W6 0 := RxW.zero (by rw [← HLEN.out]; exact hBx6)
    have e0 : W6.cell? ⟨go, 0, none⟩ = some (.slice A3 l.length c3) := hB6.cell 0
    obtain ⟨_, hL2⟩ := HN3.out
    have hne : gx ≠ go := by omega
    clear hmk1 hmk2 e2 e3 f2 f3 hB5 lgo lX hB6 hBx6 hBw6 hw56 hF36 hb6
    go_wp2_with fail
    go_loopw [5, 6, 7, 8, 10, 50] (fun _ _ _ _ _ v50 wr => ∃ k : Nat, k ≤ l.length ∧ v50 = .int .i64 (k : Nat) ∧ Wr [gx] W6 wr ∧ RxW t gx [gx, go, gw] wr k) (fun _ _ _ _ _ v50 _ => l.length - (intOf v50).toNat)
    case atStart => exact ⟨0, Nat.zero_le _, rfl, Wr.refl _ _, hRx6⟩
    case round =>
      clear hRx6 e0
      obtain ⟨k, hk, rfl, hwr, hRx⟩ := hrel
      have hFr := HS3.out _ hwr
      by_cases hkl : k < l.length
      · have hkI : (k : Int) < (l.length : Int) := by omega
        obtain ⟨ad, rfl, hLc⟩ := hL2 (by omega)
        obtain ⟨Ak, ck, _, hK, hd⟩ := hLc k hkl
        have hmu := HMU.out k hkl
        have hkt := HKT.out k hkl
        generalize l[k] = nd at *
        obtain ⟨b0, b1, b2, b3, b4⟩ := hd.sat hFr
        obtain ⟨wA, hwA⟩ : ∃ wA, wA = wr.alloc (.cells #[.int .i64 nd.kind, .string nd.name, .int .i64 nd.lo, .int .i64 nd.hi, .slice Ak nd.kids.length ck] 48) := ⟨_, rfl⟩
        have hbA : Below wr.heap.size wr wA := by rw [hwA]; exact balloc _ _
        obtain ⟨gA, hgA⟩ : ∃ gA, gA = wr.heap.size := ⟨_, rfl⟩
        have hBA : Blk wA gA 48 #[.int .i64 nd.kind, .string nd.name, .int .i64 nd.lo, .int .i64 nd.hi, .slice Ak nd.kids.length ck] := by rw [hwA, hgA]; exact Blk.new _ _ _
        obtain ⟨a0, a1, a2, a3, a4⟩ := blk5 hBA
        have lA : gA < wA.heap.size := hBA.lt
        have HWA := Lib.hid hwA
        have HGA := Lib.hid hgA
        by_cases hmm : nd.kind = 16 ∨ nd.kind = 17
        · rw [hkt] at hmm
          obtain ⟨h, a, hxs, hhk, hra, hkk, hsp, hk1⟩ := hmu hmm
          rw [← hkt] at hmm
          obtain ⟨p1, p2, p3, p4⟩ := HPS.out k hkl h a hxs hra
          obtain ⟨K1, hK1⟩ : ∃ K1, k = K1 + 1 := ⟨k - 1, by omega⟩
          have hva := HVA.out k h a hxs
          have hsz := HSZ.out k h a hkl hxs
          have hpos := a.size_pos
          have h19 := kind19_flat hva hra
          have hql : (a.flat 0).length = a.size := Tr.length_flat a 0
          have hTl := length_tests a 0
          have hte := testsT_le a
          have hnode := fun k p (hk : (testsL a 0)[k]? = some p) => test_node hk
          have hpart := fun (X : World) (hX : Sat F X) => HPA.out X hX k hkl
          rw [p1, show ((k : Int) - 1) = (K1 : Int) by omega] at hpart
          have hcount := fun (X : World) (G : Fz) (hX : Sat G X) (B : Option Addr) (m e : Nat) (hB : NodesF G B m (a.flat 0)) => scount_w hX (a.flat 0) p3 B m e hB (stepsN a) p2
          have htests := fun (X : World) (G : Fz) (hX : Sat G X) (B : Option Addr) (m e : Nat) (hB : NodesF G B m (a.flat 0)) => tests_wF hX (a.flat 0) p3 B m e hB
          rw [h19] at htests
          have hparts : (zs ((testsL a 0).map fun p => k - a.size + p - 1)).map encI = (partsP a (k - a.size)).map fun p => .int .i64 (p : Nat) := parts_zs (k - a.size)
          have hplen : (partsP a (k - a.size)).length = testsT a := by
            have := congrArg List.length hparts
            simp [zs] at this
            omega
          have hfin : ∀ (X : World), RxW t gx [gx, go, gw] X k → ∀ (Ar Ap : Option Addr) (cr np cp : Nat), a.size ≤ cr → NodesF (hx X [gx, go, gw]) Ar a.size (a.flat 0) → np ≤ cp → Rd (hx X [gx, go, gw]) 1 Ap np ((zs ((testsL a 0).map fun p => k - a.size + p - 1)).map encI) → np ≤ 1000 →
              RxW t gx [gx, go, gw] (set3 X gx (k * 3) (.slice Ar a.size cr) (.int .i64 (stepsN a : Nat)) (.slice Ap np cp)) (k + 1) := fun X hX Ar Ap cr np cp e2 e3 e6 e7 e8 => hX.set (by simp) (by rw [← HLEN.out]; exact hkl) hxs e2 e3 e6 (by rw [← hparts]; exact e7) e8
          have hKr : Rd F3 1 Ak 1 [.int .i64 (K1 : Nat)] := by
            have := hK
            rw [hkk, show ((k : Int) - 1) = (K1 : Int) by omega] at this
            exact this
          obtain ⟨ak, v, rfl, hv0, hk0⟩ := hKr.at1 (k := 0) (by omega)
          obtain rfl : Value.int .i64 (K1 : Nat) = v := by simpa using hv0
          rw [show ak.add 0 = ak by unfold Addr.add; simp] at hk0
          have hkl1 : nd.kids.length = 1 := by rw [hkk]; rfl
          rw [hkl1] at b4 a4 hBA HWA
          obtain ⟨z, hz⟩ : ∃ z, a.size = z := ⟨_, rfl⟩
          obtain ⟨NT, hNT⟩ : ∃ NT, testsT a = NT := ⟨_, rfl⟩
          obtain ⟨M, hM⟩ : ∃ M, stepsN a = M := ⟨_, rfl⟩
          rw [hz] at hql hsz hpos hte hfin
          rw [hNT] at hTl hte hplen
          rw [hM] at hcount p4 hfin
          simp only [hz] at hnode
          obtain ⟨dz, hdz⟩ : ∃ dz, k - z = dz := ⟨_, rfl⟩
          rw [hdz] at hfin
          have hplN : (zs ((testsL a 0).map fun p => dz + p - 1)).length = NT := by simp [zs]; omega
          generalize testsL a 0 = T at *
          generalize a.flat 0 = q at *
          have HPX := Lib.hid hpart
          have HCX := Lib.hid hcount
          have HTX := Lib.hid htests
          have HFN2 := Lib.hid hfin
          have HND := Lib.hid hnode
          have HQL := Lib.hid hql
          have HTN : Hid (T.length = NT) := Lib.hid hTl
          have HZT : Hid ((zs T).length = NT) := Lib.hid (by rw [length_zs, hTl])
          have HPN := Lib.hid hplN
          have hzk : z ≤ k := hsz
          have hNTb : NT ≤ 1000 := by omega
          have hzb : z ≤ 1000 := by omega
          have hmb : M ≤ 1000 := p4
          have hkb : k ≤ 1000 := by omega
          have hFrF := HSF.out _ hwr
          have HRXk := Lib.hid (hRx.wr (Wr.of_below (Gs := [gx, go, gw]) hbA) (hbA.block gx hRx.lt))
          have HWRk := Lib.hid (hwr.call hbA)
          have HFA := Lib.hid (hFrF.below hbA)
          have y0 := (hFr.below hbA).cell hk0
          have wr1 : IntKind.i64.wrap ((K1 : Int) + 1) = (k : Int) := by rw [show (K1 : Int) + 1 = (k : Int) by omega]; exact wrap_i (by omega) (by omega)
          have wr2 : IntKind.i64.wrap ((k : Int) - (z : Int)) = (dz : Int) := by rw [show (k : Int) - (z : Int) = (dz : Int) by omega]; exact wrap_i (by omega) (by omega)
          have hdzb : dz ≤ 1000 := by omega
          have HK1 := Lib.hid hK1
          have HGXl := hRx.lt
          clear hmu hkt hxs hhk hra hkk hsp hk1 p1 p2 p3 p4 hva hsz hpos h19 hql hTl hte hnode hpart hcount htests hfin hparts hplen hK hKr hv0 hk0 hplN hz hNT hM hdz hwr hRx hbA hwA hgA hd hLc hFr hFrF hkl1 hK1
          go_upto_region 10 with fail
          rw [← HWA.out, ← HGA.out]
          go_cut [50, 62] from 50 to 111 (fun v50 v62 wx => v50 = .int .i64 (k : Nat) ∧ v62 = .bool false ∧ wA = wx)
          case first =>
            rcases hmm with e | e
            · rw [e] at a0
              go_wp2_with fail
              go_meet
              exact ⟨rfl, rfl, rfl⟩
            · rw [e] at a0
              go_wp2_with fail
              go_meet
              exact ⟨rfl, rfl, rfl⟩
          case rest =>
            obtain ⟨rfl, rfl, rfl⟩ := hcut
            go_wp2_with (first
              | (go_at_call 37; refine (HTX.out _ F2 (((hF2.alloc _).below hw3).setCell (p := ⟨w2.heap.size, 1, none⟩) (hF2.none_ (Nat.le_refl _)) _) A2 z c2 hN2).mono ?_; rintro e w5 ⟨AT, cT, rfl, hcT, hrT, hw5, hfT⟩; rw [HZT.out] at hcT hrT; rw [HZT.out])
              | (go_at_call 36; refine (HCX.out _ F2 (hF2.alloc _) A2 z c2 hN2).mono ?_; rintro e w3 ⟨rfl, hw3⟩; have hB83 := (Blk.new w2 80 #[.slice A2 z c2, .int .i64 0, .slice none 0 0]).call hw3; obtain ⟨k0, k1, k2, f0, f1, f2⟩ := blk3 hB83)
              | (go_at_call 34; refine (HPX.out _ HFA.out).mono ?_; rintro e w2 ⟨A2, c2, F2, rfl, hc2, hN2, hw2, hF2, hle2⟩; rw [HQL.out] at hN2 hc2; rw [HQL.out]))
            have hB85 : Blk w5 w2.heap.size 80 #[.slice A2 z c2, .int .i64 (M : Nat), .slice none 0 0] := by
              have h := (hB83.set_ 1 (.int .i64 (M : Nat))).call hw5
              simpa using h
            have h23 : w2.heap.size < w3.heap.size := hB83.lt
            have h35 : w3.heap.size ≤ w5.heap.size := by have := hw5.size; simpa using this
            have hF25 : Sat F2 w5 := (((hF2.alloc _).below hw3).setCell (p := ⟨w2.heap.size, 1, none⟩) (hF2.none_ (Nat.le_refl _)) (.int .i64 (M : Nat))).below hw5
            have HF2n : Hid (∀ g, w2.heap.size ≤ g → F2 g = none) := Lib.hid (fun g hg => hF2.none_ hg)
            have HF2o : Hid (∀ g, g ∈ [gx, go, gw] → F2 g = none) := Lib.hid (fun g hg => by
              rw [hle2.2 g (Nat.lt_of_lt_of_le (HLX.out g hg) HWRk.out.size)]
              exact HFN.out g hg)
            have hbA5 : Below wA.heap.size wA w5 := by
              have h1 : Below wA.heap.size wA (w2.alloc (.cells #[.slice A2 z c2, .int .i64 0, .slice none 0 0] 80)) := hw2.alloc hw2.size _
              have h2 := bthen h1 hw3
              have h3 := h2.setCell (p := ⟨w2.heap.size, 1, none⟩) hw2.size (.int .i64 (M : Nat))
              exact bthen h3 hw5
            have hA2 := hw2.size
            have hrT2 : Rd (hx w5 [w2.heap.size]) 1 AT NT ((zs T).map encI) := rd_out hrT fun ad e hb => by
              have h1 := hfT ad e
              rw [List.mem_singleton.1 hb] at h1
              have h2 : w3.heap.size ≤ w2.heap.size := by simpa using h1
              omega
            have HRT := Lib.hid hrT2
            have HF25 := Lib.hid hF25
            have HN2 := Lib.hid hN2
            have HBA5 := Lib.hid hbA5
            have HC2 := Lib.hid hc2
            have HZ25 : Hid (wA.heap.size ≤ w2.heap.size ∧ w2.heap.size < w5.heap.size) := Lib.hid (by omega)
            clear hF2 hle2 hw2 hw3 hB83 k0 k1 k2 f0 f1 f2 hrT hfT hw5 hF25 hbA5 hrT2 hN2 hc2 h23 h35 hA2 y0 a0 a1 a2 a3 a4 lA
            go_loopw [10, 79] (fun _ v79 wr => ∃ (j : Nat) (A5 : Option Addr) (c5 : Nat), j ≤ NT ∧ v79 = .int .i64 (j : Nat) ∧ Wr [w2.heap.size] w5 wr ∧ Blk wr w2.heap.size 80 #[.slice A2 z c2, .int .i64 (M : Nat), .slice A5 j c5] ∧ Own (hx w5 [w2.heap.size]) wr w5.heap.size 3 1 (.slice A5 j c5) j ((zs ((T.take j).map fun p => dz + p - 1)).map encI)) (fun _ v79 _ => NT - (intOf v79).toNat)
            case atStart => exact ⟨0, none, 0, Nat.zero_le _, rfl, Wr.refl _ _, hB85, Own.nil _ _ _ _ _⟩
            case round =>
              clear hB85
              obtain ⟨j, A5, c5, hj, rfl, hwr2, hBr, hO⟩ := hrel
              have hZ25 := HZ25.out
              have hFr2 : Sat (hx w5 [w2.heap.size]) wr := hwr2.sat (sat_hx _ _) fun g hg => hx_in hg
              have hF2r : Sat F2 wr := hwr2.sat HF25.out fun g hg => by rw [List.mem_singleton.1 hg]; exact HF2n.out _ (Nat.le_refl _)
              obtain ⟨k0, k1, k2, f0, f1, f2⟩ := blk3 hBr
              by_cases hlt : j < NT
              · have hjI : (j : Int) < (NT : Int) := by omega
                have hjT : j < T.length := by rw [HTN.out]; exact hlt
                have hTj : T[j]? = some T[j] := List.getElem?_eq_getElem hjT
                obtain ⟨bt, v1, rfl, hv1, hc1⟩ := HRT.out.at1 hlt
                have hx1 : ((zs T).map encI)[j]? = some (encI (T[j] : Nat)) := by simp [zs, hjT]
                rw [hx1] at hv1
                simp only [Option.some.injEq] at hv1
                subst hv1
                obtain ⟨p1', p2, nd', p3, p4⟩ := HND.out j _ hTj
                have htk : (T.take (j + 1)).map (fun p => dz + p - 1) = (T.take j).map (fun p => dz + p - 1) ++ [dz + T[j] - 1] := by
                  rw [List.take_succ_eq_append_getElem hjT, List.map_append]; rfl
                generalize T[j] = p at *
                obtain ⟨_, hqL⟩ := HN2.out
                obtain ⟨aq, rfl, hLq⟩ := hqL (by omega)
                have hpl : p < q.length := by rw [HQL.out]; exact p2
                obtain ⟨Aq, cq, hcq, hKp, hdp⟩ := hLq p hpl
                clear hcq
                have hnd : q[p] = nd' := by rw [List.getElem?_eq_getElem hpl] at p3; injection p3
                rw [hnd] at hKp hdp
                obtain ⟨nk, nn, nlo, nhi, nkids⟩ := nd'
                dsimp only at p4
                subst p4
                obtain ⟨ap, vp, rfl, hvp, hcp⟩ := hKp.at1 (k := 0) (by simp)
                obtain rfl : Value.int .i64 ((p : Int) - 1) = vp := by simpa using hvp
                rw [show ap.add 0 = ap by unfold Addr.add; simp] at hcp
                obtain ⟨p1, hp1⟩ : ∃ p1, p = p1 + 1 := ⟨p - 1, by omega⟩
                rw [show (p : Int) - 1 = (p1 : Int) by omega] at hcp
                have hd4 : F2.cell ⟨(aq.add (p * 5)).block, (aq.add (p * 5)).off + 4, none⟩ = some (.slice (some ap) 1 cq) := hdp.2.2.2.2
                obtain ⟨y, hy⟩ : ∃ y, dz + p1 = y := ⟨_, rfl⟩
                have z1 := hFr2.cell hc1
                have z2 := hF2r.cell hd4
                have z3 := hF2r.cell hcp
                have hpI : (p : Int) < (z : Int) := by omega
                have wr3 : IntKind.i64.wrap ((dz : Int) + (p1 : Int)) = (y : Int) := by rw [show (dz : Int) + (p1 : Int) = (y : Int) by omega]; exact wrap_i (by omega) (by omega)
                have HTK : Hid (zs ((T.take j).map fun p => dz + p - 1) ++ [((y : Nat) : Int)] = zs ((T.take (j + 1)).map fun p => dz + p - 1)) := Lib.hid (by rw [htk, show dz + p - 1 = y by omega, zs_snoc])
                have hbW : Below wr.heap.size wr (wr.drew.alloc (.cells #[.int .i64 (y : Nat)] 3)) := (Below.refl wr.heap.size wr).drew.alloc (Nat.le_refl _) _
                have hOW : Own (hx w5 [w2.heap.size]) (wr.drew.alloc (.cells #[.int .i64 (y : Nat)] 3)) w5.heap.size 3 1 (.slice A5 j c5) j ((zs ((T.take j).map fun p => dz + p - 1)).map encI) := hO.call hbW
                have hSW : Sat (hx w5 [w2.heap.size]) (wr.drew.alloc (.cells #[.int .i64 (y : Nat)] 3)) := hFr2.drew.alloc _
                have hKW : Blk (wr.drew.alloc (.cells #[.int .i64 (y : Nat)] 3)) wr.heap.size 3 #[.int .i64 (y : Nat)] := Blk.new wr.drew _ _
                have hBs : w5.heap.size ≤ (wr.drew.alloc (.cells #[.int .i64 (y : Nat)] 3)).heap.size := by
                  show w5.heap.size ≤ (wr.alloc _).heap.size
                  have := hwr2.size
                  simp
                  omega
                have hrowB : ∀ g, (Value.slice A5 j c5).ownBlock = some g → w5.heap.size ≤ g := fun g e => (hO.1.lt g e).1
                have hrow : some w2.heap.size ≠ (Value.slice A5 j c5).ownBlock := fun e => by have := hrowB _ e.symm; omega
                have hrowF : ∀ g, (Value.slice A5 j c5).ownBlock = some g → F2 g = none := fun g e => HF2n.out g (by have := hrowB g e; omega)
                have lg8 : w2.heap.size < wr.heap.size := hBr.lt
                have nF2 : ∀ (a : Addr) (v : Value), F2.cell a = some v → a.block ≠ w2.heap.size := fun a v h e => by
                  unfold Fz.cell at h
                  rw [HF2n.out a.block (by omega)] at h
                  cases h
                have q0 : (⟨w2.heap.size, 2, none⟩ : Addr) ≠ ⟨w2.heap.size, 0, none⟩ := addr_o (by omega)
                have q1 : (⟨w2.heap.size, 2, none⟩ : Addr) ≠ ⟨(aq.add (p * 5)).block, (aq.add (p * 5)).off + 4, none⟩ := fun e => nF2 _ _ hd4 (congrArg Addr.block e).symm
                have q2 : (⟨w2.heap.size, 2, none⟩ : Addr) ≠ ap := fun e => nF2 _ _ hcp (congrArg Addr.block e).symm
                have HF2r := Lib.hid hF2r
                have HWr2 := Lib.hid hwr2
                clear hTj hx1 htk hnd hdp hKp hvp hc1 p3 hwr2 hFr2 hF2r hO hp1 hy hpl hjT hZ25
                go_wp2_with fail
                refine wp_region_noPanic ?_
                refine wp_region_held_drew (S := (fun w' => w'.cell? ⟨w2.heap.size, 0, none⟩ = some (.slice (some aq) z c2) ∧ w'.cell? ⟨(aq.add (p * 5)).block, (aq.add (p * 5)).off + 4, none⟩ = some (.slice (some ap) 1 cq) ∧ w'.cell? ap = some (.int .i64 (p1 : Nat)))) (by kernel_rfl) ?hS0 (fun hHeld => ?hR0)
                case hS0 => (try dsimp only); go_keep
                case hR0 =>
                  refine tk 0 (h := ?_)
                  try simp only [pn]
                  refine tk 2 (h := ?_)
                  try simp only [pn]
                  refine tk 3 (h := ?_)
                  try simp only [pn]
                  refine tk 4 (h := ?_)
                  try simp only [pn]
                  refine tk 5 (h := ?_)
                  try simp only [pn]
                  refine tk 6 (h := ?_)
                  try simp only [pn]
                  refine tk 7 (h := ?_)
                  try simp only [pn]
                  refine tk 8 (h := ?_)
                  try simp only [pn]
                  refine tk 9 (h := ?_)
                  try simp only [pn]
                  refine tk 10 (h := ?_)
                  try simp only [pn]
                  refine tk 11 (h := ?_)
                  try simp only [pn]
                  refine tk 12 (h := ?_)
                  try simp only [pn]
                  refine tk 13 (h := ?_)
                  try simp only [pn]
                  refine tk 14 (h := ?_)
                  try simp only [pn]
                  refine tk 15 (h := ?_)
                  try simp only [pn]
                  refine tk 16 (h := ?_)
                  try simp only [pn]
                  refine wpAnyH_ready (rs := [1, 17]) (by kernel_rfl) (by simp) ?_
                  refine AllReadyH.cons (o := ?sO901) ?sA901 (fun K hK => ?sB901) ?sC901
                  case sA901 => simp only [List.getElem?_toArray, List.getElem?_cons_succ, List.getElem?_cons_zero]; rfl
                  case sB901 =>
                    go_simp
                    refine hK.out _ _ ?kS902 (fun hHeld => ?kR902)
                    case kS902 => (try dsimp only); go_keep
                    case kR902 =>
                      clear hK K
                      try simp only [Act.put, List.setIfInBounds_toArray, List.set_cons_zero, List.set_cons_succ]
                      refine wpAnyH_ready (rs := [17]) (by kernel_rfl) (by simp) ?_
                      refine AllReadyH.cons (o := ?sO903) ?sA903 (fun K hK => ?sB903) ?sC903
                      case sA903 => simp only [List.getElem?_toArray, List.getElem?_cons_succ, List.getElem?_cons_zero]; rfl
                      case sB903 =>
                        go_simp
                        try go_wp2_with fail
                        refine hK.out _ _ ?kS904 (fun hHeld => ?kR904)
                        case kS904 => (try dsimp only); go_keep
                        case kR904 =>
                          clear hK K
                          try simp only [Act.put, List.setIfInBounds_toArray, List.set_cons_zero, List.set_cons_succ]
                          refine wpAnyH_ready (rs := [18]) (by kernel_rfl) (by simp) ?_
                          refine AllReadyH.cons (o := ?sO905) ?sA905 (fun K hK => ?sB905) ?sC905
                          case sA905 => simp only [List.getElem?_toArray, List.getElem?_cons_succ, List.getElem?_cons_zero]; rfl
                          case sB905 =>
                            refine step_pushI rfl (.tmp 84) (.tmp 100) (by rfl) hOW hSW (by rfl) _ 1 _ (by rfl) hKW (by omega) hBs ?_; intro v6 w6 hO6 hF6 hb6 hg6 hat6; rw [HTK.out] at hO6; obtain ⟨A6, c6, hv6, hc6⟩ := hO6.shape; subst hv6; have hB6 := (hBr.call hbW).grown hg6 hrow; obtain ⟨k0, k1, k2, f0, f1, f2⟩ := blk3 hB6; have hF26 := (HF2r.out.drew.alloc (.cells #[.int .i64 (y : Nat)] 3)).grown hg6 hrowF; have s1 := hF26.cell hd4; have s2 := hF26.cell hcp
                            refine hK.out _ _ ?kS906 (fun hHeld => ?kR906)
                            case kS906 => (try dsimp only); go_keep
                            case kR906 =>
                              clear hK K
                              try simp only [Act.put, List.setIfInBounds_toArray, List.set_cons_zero, List.set_cons_succ]
                              refine tk 19 (h := ?_)
                              try simp only [pn]
                              refine wpAnyH_ready (rs := [20]) (by kernel_rfl) (by simp) ?_
                              refine AllReadyH.cons (o := ?sO907) ?sA907 (fun K hK => ?sB907) ?sC907
                              case sA907 => simp only [List.getElem?_toArray, List.getElem?_cons_succ, List.getElem?_cons_zero]; rfl
                              case sB907 =>
                                go_simp
                                refine hK.out _ _ ?kS908 (fun hHeld => ?kR908)
                                case kS908 => (try dsimp only); (first | exact ⟨cellNe q0 k0, cellNe q1 s1, cellNe q2 s2⟩ | go_keep)
                                case kR908 =>
                                  clear hK K
                                  try simp only [Act.put, List.setIfInBounds_toArray, List.set_cons_zero, List.set_cons_succ]
                                  refine wpAnyH_done (by kernel_rfl) ?_ _
                                  refine NoPanic.normal ?_
                                  have hB7 := hB6.set_ 2 (.slice A6 (j + 1) c6)
                                  have hO7 := hO6.setFar (a := ⟨w2.heap.size, 2, none⟩) (fun e => by have := (hO6.1.lt _ e).1; have h2 := HZ25.out; dsimp only at this; omega) (.slice A6 (j + 1) c6)
                                  have hw7 := ((wr_grownB hg6 hrowB (HWr2.out.call hbW)).set (g := w2.heap.size) (by simp) 2 (.slice A6 (j + 1) c6))
                                  have HFJ := Lib.hid (And.intro hw7 (And.intro (show Blk (w6.setCell ⟨w2.heap.size, 2, none⟩ (.slice A6 (j + 1) c6)) w2.heap.size 80 #[.slice (some aq) z c2, .int .i64 (M : Nat), .slice A6 (j + 1) c6] by simpa using hB7) hO7))
                                  clear hB7 hO7 hw7 hB6 hO6 hF6 hb6 hg6 hat6 hF26 s1 s2 k0 k1 k2 f0 f1 f2 hOW hSW hKW hbW
                                  go_wp2_with fail
                                  go_roundw
                                  case rel => exact ⟨j + 1, A6, c6, by omega, by go_num, HFJ.out.1, HFJ.out.2.1, HFJ.out.2.2⟩
                                  case measure => simp [intOf]; omega
                              case sC907 =>
                                exact AllReadyH.nil
                          case sC905 =>
                            exact AllReadyH.nil
                      case sC903 =>
                        exact AllReadyH.nil
                  case sC901 =>
                    refine AllReadyH.cons (o := ?sO909) ?sA909 (fun K hK => ?sB909) ?sC909
                    case sA909 => simp only [List.getElem?_toArray, List.getElem?_cons_succ, List.getElem?_cons_zero]; rfl
                    case sB909 =>
                      go_simp
                      try go_wp2_with fail
                      refine hK.out _ _ ?kS910 (fun hHeld => ?kR910)
                      case kS910 => (try dsimp only); go_keep
                      case kR910 =>
                        clear hK K
                        try simp only [Act.put, List.setIfInBounds_toArray, List.set_cons_zero, List.set_cons_succ]
                        refine wpAnyH_ready (rs := [1]) (by kernel_rfl) (by simp) ?_
                        refine AllReadyH.cons (o := ?sO911) ?sA911 (fun K hK => ?sB911) ?sC911
                        case sA911 => simp only [List.getElem?_toArray, List.getElem?_cons_succ, List.getElem?_cons_zero]; rfl
                        case sB911 =>
                          go_simp
                          refine hK.out _ _ ?kS912 (fun hHeld => ?kR912)
                          case kS912 => (try dsimp only); go_keep
                          case kR912 =>
                            clear hK K
                            try simp only [Act.put, List.setIfInBounds_toArray, List.set_cons_zero, List.set_cons_succ]
                            refine wpAnyH_ready (rs := [18]) (by kernel_rfl) (by simp) ?_
                            refine AllReadyH.cons (o := ?sO913) ?sA913 (fun K hK => ?sB913) ?sC913
                            case sA913 => simp only [List.getElem?_toArray, List.getElem?_cons_succ, List.getElem?_cons_zero]; rfl
                            case sB913 =>
                              refine step_pushI rfl (.tmp 84) (.tmp 100) (by rfl) hOW hSW (by rfl) _ 1 _ (by rfl) hKW (by omega) hBs ?_; intro v6 w6 hO6 hF6 hb6 hg6 hat6; rw [HTK.out] at hO6; obtain ⟨A6, c6, hv6, hc6⟩ := hO6.shape; subst hv6; have hB6 := (hBr.call hbW).grown hg6 hrow; obtain ⟨k0, k1, k2, f0, f1, f2⟩ := blk3 hB6; have hF26 := (HF2r.out.drew.alloc (.cells #[.int .i64 (y : Nat)] 3)).grown hg6 hrowF; have s1 := hF26.cell hd4; have s2 := hF26.cell hcp
                              refine hK.out _ _ ?kS914 (fun hHeld => ?kR914)
                              case kS914 => (try dsimp only); go_keep
                              case kR914 =>
                                clear hK K
                                try simp only [Act.put, List.setIfInBounds_toArray, List.set_cons_zero, List.set_cons_succ]
                                refine tk 19 (h := ?_)
                                try simp only [pn]
                                refine wpAnyH_ready (rs := [20]) (by kernel_rfl) (by simp) ?_
                                refine AllReadyH.cons (o := ?sO915) ?sA915 (fun K hK => ?sB915) ?sC915
                                case sA915 => simp only [List.getElem?_toArray, List.getElem?_cons_succ, List.getElem?_cons_zero]; rfl
                                case sB915 =>
                                  go_simp
                                  refine hK.out _ _ ?kS916 (fun hHeld => ?kR916)
                                  case kS916 => (try dsimp only); (first | exact ⟨cellNe q0 k0, cellNe q1 s1, cellNe q2 s2⟩ | go_keep)
                                  case kR916 =>
                                    clear hK K
                                    try simp only [Act.put, List.setIfInBounds_toArray, List.set_cons_zero, List.set_cons_succ]
                                    refine wpAnyH_done (by kernel_rfl) ?_ _
                                    refine NoPanic.normal ?_
                                    have hB7 := hB6.set_ 2 (.slice A6 (j + 1) c6)
                                    have hO7 := hO6.setFar (a := ⟨w2.heap.size, 2, none⟩) (fun e => by have := (hO6.1.lt _ e).1; have h2 := HZ25.out; dsimp only at this; omega) (.slice A6 (j + 1) c6)
                                    have hw7 := ((wr_grownB hg6 hrowB (HWr2.out.call hbW)).set (g := w2.heap.size) (by simp) 2 (.slice A6 (j + 1) c6))
                                    have HFJ := Lib.hid (And.intro hw7 (And.intro (show Blk (w6.setCell ⟨w2.heap.size, 2, none⟩ (.slice A6 (j + 1) c6)) w2.heap.size 80 #[.slice (some aq) z c2, .int .i64 (M : Nat), .slice A6 (j + 1) c6] by simpa using hB7) hO7))
                                    clear hB7 hO7 hw7 hB6 hO6 hF6 hb6 hg6 hat6 hF26 s1 s2 k0 k1 k2 f0 f1 f2 hOW hSW hKW hbW
                                    go_wp2_with fail
                                    go_roundw
                                    case rel => exact ⟨j + 1, A6, c6, by omega, by go_num, HFJ.out.1, HFJ.out.2.1, HFJ.out.2.2⟩
                                    case measure => simp [intOf]; omega
                                case sC915 =>
                                  exact AllReadyH.nil
                            case sC913 =>
                              exact AllReadyH.nil
                        case sC911 =>
                          exact AllReadyH.nil
                    case sC909 =>
                      exact AllReadyH.nil
              · obtain rfl : j = NT := by omega
                have hdec : decide ((j : Int) < (j : Int)) = false := decide_eq_false (by omega)
                have htk : T.take j = T := by rw [← HTN.out, List.take_length]
                rw [htk] at hO
                have hbAr : Below wA.heap.size wA wr := HBA5.out.trans (hwr2.below (fun g hg => by rw [List.mem_singleton.1 hg]; exact HZ25.out.1) HBA5.out.size)
                have hRxr := HRXk.out.wr (Wr.of_below (Gs := [gx, go, gw]) hbAr) (hbAr.block gx HRXk.out.lt)
                have hzA := HWRk.out.size
                have hN2r : NodesF (hx wr [gx, go, gw]) A2 z q := HN2.out.cle (cle_hx hF2r HF2o.out)
                obtain ⟨A9, c9, e9, hc9, hrd⟩ := hO.rdH
                injection e9 with e91 _ e93
                subst e91 e93
                have hrd2 : Rd (hx wr [gx, go, gw]) 1 A5 j ((zs (T.map fun p => dz + p - 1)).map encI) := rd_out hrd fun ad e hb => by
                  have h1 := (hO.1.lt ad.block (by rw [e]; rfl)).1
                  have h2 := HLX.out _ hb
                  omega
                have hFN := HFN2.out wr hRxr A2 A5 c2 j c5 HC2.out hN2r hc9 hrd2 (by omega)
                have hwF := (((HWRk.out.call hbAr).set (g := gx) (by simp) (k * 3) (.slice A2 z c2)).set (g := gx) (by simp) (k * 3 + 1) (.int .i64 (M : Nat))).set (g := gx) (by simp) (k * 3 + 2) (.slice A5 j c5)
                have hkt3 : k * 3 + 2 < t.size * 3 := by have := HLEN.out; omega
                obtain ⟨⟨v0, z0⟩, g0⟩ := hRxr.room (i := k * 3) (by omega)
                obtain ⟨⟨v1, z1⟩, g1⟩ := hRxr.room (i := k * 3 + 1) (by omega)
                obtain ⟨⟨v2, z2⟩, g2⟩ := hRxr.room (i := k * 3 + 2) (by omega)
                have y2 : wr.cell? ⟨go, 2, none⟩ = some (.slice (some ⟨gx, 0, none⟩) l.length l.length) := ((HWRk.out.call hbAr).blk HB6.out (by simp; omega)).cell 2
                have hkI2 : (k : Int) < (l.length : Int) := by omega
                have n8 : gx ≠ w2.heap.size := by have := HZ25.out.1; have := HRXk.out.lt; omega
                have m2 : ∀ i, (⟨gx, i, none⟩ : Addr) ≠ ⟨go, 2, none⟩ := fun i => addr_b hne
                have m8 : ∀ i j, (⟨gx, i, none⟩ : Addr) ≠ ⟨w2.heap.size, j, none⟩ := fun i j => addr_b n8
                have HFNL := Lib.hid (And.intro hwF hFN)
                clear hwF hFN hrd hrd2 hN2r hRxr hbAr hO hFr2 hF2r hwr2 hBr htk
                go_wp2_with fail
                go_region_held3 (fun w' => w'.cell? ⟨go, 2, none⟩ = some (.slice (some ⟨gx, 0, none⟩) l.length l.length) ∧ w'.cell? ⟨w2.heap.size, 0, none⟩ = some (.slice A2 z c2) ∧ w'.cell? ⟨w2.heap.size, 1, none⟩ = some (.int .i64 (M : Nat)) ∧ w'.cell? ⟨w2.heap.size, 2, none⟩ = some (.slice A5 j c5))
                  (first | exact ⟨y2, k0, k1, k2⟩ | exact ⟨cellNe (m2 _) (cellNe (m2 _) (cellNe (m2 _) y2)), cellNe (m8 _ _) (cellNe (m8 _ _) (cellNe (m8 _ _) k0)), cellNe (m8 _ _) (cellNe (m8 _ _) (cellNe (m8 _ _) k1)), cellNe (m8 _ _) (cellNe (m8 _ _) (cellNe (m8 _ _) k2))⟩ | go_keep) (fail)
                all_goals
                  go_wp2_with fail
                  go_roundw
                  case rel => exact ⟨k + 1, by omega, by go_num, HFNL.out.1.drew, HFNL.out.2.wr ((Wr.refl _ _).drew) rfl⟩
                  case measure => simp [intOf]; omega
        · have h16 : (nd.kind == 16) = false := by rw [beq_eq_false_iff_ne]; omega
          have h17 : (nd.kind == 17) = false := by rw [beq_eq_false_iff_ne]; omega
          have h16n : ¬ nd.kind = 16 := fun e => hmm (.inl e)
          have h17n : ¬ nd.kind = 17 := fun e => hmm (.inr e)
          have h16b : (nd.kind != 16) = true := by rw [bne, h16]; rfl
          have h17b : (nd.kind != 17) = true := by rw [bne, h17]; rfl
          have hsk := (hRx.wr (Wr.of_below (Gs := [gx, go, gw]) hbA) (hbA.block gx hRx.lt)).skip (fun hd' a' hs' h6 => hmm (by rw [hkt, hs']; exact h6))
          have HFI := Lib.hid (And.intro (hwr.call hbA) hsk)
          clear hsk hwr hRx hbA hK hd hLc hwA hgA hFr hBA hmu hkt hmm
          go_wp2_with fail
          rw [← HWA.out]
          go_roundw
          case rel => exact ⟨k + 1, by omega, by go_num, HFI.out.1, HFI.out.2⟩
          case measure => simp [intOf]; omega
      · have hkn : k = l.length := by omega
        subst hkn
        have hdec : decide ((l.length : Int) < (l.length : Int)) = false := decide_eq_false (by omega)
        have HW := Lib.hid hwr
        have HR := Lib.hid hRx
        clear hwr hRx hFr
        go_wp2_with fail
        go_ret2
        have hgG := HGO.out
        have hRf := HR.out
        rw [HLEN.out] at hRf
        have hB7 := HW.out.blk HB6.out (by simp; omega)
        have hgxn : gx ∉ [go, gw] := by simp; omega
        have hBw7 := HW.out.blk HBw.out (by simp; omega)
        have hle3 : CLe F3 (hx wr [go, gw]) := cle_hx (HS3.out _ HW.out) fun g hg => HF3X.out g (List.mem_cons_of_mem _ hg)
        refine ⟨go, gx, gw, rfl, HBB6.out.trans (HW.out.below (fun g hg => by rw [List.mem_singleton.1 hg]; omega) HBB6.out.size), A3, c3, [], hB7, HC3.out, HN3.out.cle hle3, hRf.rxf hgxn (fun g hg => List.mem_cons_of_mem _ hg), ⟨List.replicate l.length (.slice none 0 0), ⟨_, hBw7, fun j u hj => by unfold zeros; rw [List.getElem?_toArray]; exact hj⟩, by rw [List.length_replicate, HLEN.out], fun i hi => ⟨none, 0, 0, by rw [List.getElem?_replicate, if_pos (by rw [HLEN.out]; exact hi)], fun _ _ _ _ => BkF.nil _ _ _ _, fun _ => rfl⟩⟩, NoU.zeros hBw7, OwnU.nil _ _ _ _ _, PlV.nil _ _, by omega, by omega, by omega, fun a e => (by cases e)⟩
end Go.Proofs.Ytaomehlhopiblaa
