/- Small lemmas that both atoms' and sat's texts lean on. -/
import Derived.Test.YtaomehlhopiblaaPlanM
import Derived.Test.YtaomehlhopiblaaPlanP
import Derived.Test.YtaomehlhopiblaaOwn
import Derived.Test.YtaomehlhopiblaaBoundA
import Derived.Test.YtaomehlhopiblaaPlanF
set_option linter.unusedVariables false
set_option linter.unusedSimpArgs false
namespace Go.Proofs.Ytaomehlhopiblaa
open Go.RowKit
theorem rd_lt {w : World} {A : Option Addr} {n : Nat} {xs : List Value} (h : Rd (heapF w) 1 A n xs) (hn : 0 < n) : ∀ a, A = some a → a.block < w.heap.size := by
  intro a ha
  obtain ⟨ad, v, e, _, hc⟩ := h.at1 hn
  rw [ha] at e
  injection e with e
  subst e
  have := (sat_heapF w).clt hc
  rwa [block_of_add] at this
theorem rd_call {w w' : World} {n : Nat} {A : Option Addr} {xs : List Value} (h : Rd (heapF w) 1 A n xs) (hb : Below w.heap.size w w') : Rd (heapF w') 1 A n xs := h.heap ((sat_heapF w).below hb)
theorem kind_tests2 {l : List Nd} {t : Tr} (ht : treeS l = some t) (hr : regS t.root.kind = true) : kindS l 19 = testsL t 0 := by
  have hv := regV_of (tree_valid ht) hr
  have he : ownS l = ownT t 0 := by unfold ownS; rw [ht]; simp only; rw [if_pos hr]
  unfold kindS; rw [he]; exact ownK_tests (tree_flat ht) hv
/-- A node's kids, by their places. -/
def kidsN (t : Tr) (n : Nat) : List Nat := match t.sub n with
  | .leaf _ => []
  | .un _ _ => [n - 1]
  | .bin _ _ b => [n - 1 - b.size, n - 1]
theorem kidsN_eq {l : List Nd} {t : Tr} (ht : treeS l = some t) (n : Nat) (hn : n < l.length) : l[n].kids = zs (kidsN t n) := by
  have h := get_flat_root ht n hn
  have hnt : n < t.size := by rw [← tree_len ht]; exact hn
  unfold kidsN
  rw [h]
  cases hx : t.sub n with
  | leaf h => rfl
  | un h a =>
    obtain ⟨h1, _⟩ := kid_un hnt hx
    have hp := a.size_pos
    show [((n + 1 - (a.size + 1) + a.size : Nat) : Int) - 1] = [((n - 1 : Nat) : Int)]
    simp only [List.cons.injEq, and_true]
    omega
  | bin h a b =>
    obtain ⟨h1, _⟩ := kid_bin hnt hx
    have hp := a.size_pos
    have hq := b.size_pos
    show [((n + 1 - (a.size + b.size + 1) + a.size : Nat) : Int) - 1, ((n + 1 - (a.size + b.size + 1) + a.size + b.size : Nat) : Int) - 1] = [((n - 1 - b.size : Nat) : Int), ((n - 1 : Nat) : Int)]
    simp only [List.cons.injEq, and_true]
    constructor <;> omega
theorem kidsN_len (t : Tr) (n : Nat) : (kidsN t n).length ≤ 2 := by unfold kidsN; split <;> simp
theorem rd_intsL {w : World} {g : Nat} {ks : List Int} (h : Blk w g 3 (ks.map (Value.int .i64)).toArray) : Rd (heapF w) 1 (some ⟨g, 0, none⟩) ks.length (ks.map (Value.int .i64)) := by
  refine ⟨by simp, fun _ => ⟨_, rfl, fun j u hu => ?_⟩⟩
  rw [add_lit0]
  unfold Fz.cell heapF
  rw [h]
  simpa using hu
end Go.Proofs.Ytaomehlhopiblaa
namespace Go.Proofs.Ytaomehlhopiblaa
open Go.RowKit
attribute [local go_sem ↓] Go.wp_at_zero Go.wp_at_succ
set_option maxRecDepth 100000 in
set_option maxHeartbeats 4000000 in
theorem fill_seq {w : World} (m : Nat) (hm : m ≤ 10) (gp : Nat) (Al As : Option Addr) (N cl ns cs gu gz gf : Nat) (hP : PlanB w gp m Al N cl As ns cs gu gz gf) (Gs : List Nat) (hgz : gz ∈ Gs) (hgf : gf ∈ Gs) (hgp : gp ∉ Gs) (hne : gz ≠ gf) (hGl : ∀ g, g ∈ Gs → g < w.heap.size)
    (p : Nat → Nat → Bool) (L : Nat → Fst) (hZ : ZB w gz N Gs m p) (hFB : FB w gf N Gs m L) (hLn : ∀ j, (L j).length ≤ 1000) (i a b : Nat) (hi : i < N) (ha : a < N) (hb : b < N) (hai : a ≠ i) (hbi : b ≠ i) (hN : N ≤ 1000)
    (name : ByteArray) (lo hi' : Int) (Ak : Option Addr) (ck : Nat) (hK : Rd (hx w Gs) 1 Ak 2 [.int .i64 (a : Nat), .int .i64 (b : Nat)]) :
    Calls Try.prog 71 #[.pointer (some ⟨gp, 0, none⟩), .int .i64 (i : Nat), .agg #[.int .i64 21, .string name, .int .i64 lo, .int .i64 hi', .slice Ak 2 ck]] w
      (FillR w gz gf N Gs m p L i (fun x => and (p a x) (p b x)) (cutL (L a) (fun _ => true) ++ cutL (L b) (p a))) := by
  obtain ⟨ak, v, rfl, hv0, hk0⟩ := hK.at1 (k := 0) (by omega)
  obtain rfl : Value.int .i64 (a : Nat) = v := by simpa using hv0
  rw [show ak.add 0 = ak by unfold Addr.add; simp] at hk0
  obtain ⟨ak', v', e', hv1, hk1⟩ := hK.at1 (k := 1) (by omega)
  injection e' with e'
  subst e'
  obtain rfl : Value.int .i64 (b : Nat) = v' := by simpa using hv1
  have hb0 := balloc w (.cells #[.int .i64 21, .string name, .int .i64 lo, .int .i64 hi', .slice (some ak) 2 ck] 48)
  have hkn := Blk.new w 48 #[.int .i64 21, .string name, .int .i64 lo, .int .i64 hi', .slice (some ak) 2 ck]
  have hP0 : PlanB (w.alloc (.cells #[.int .i64 21, .string name, .int .i64 lo, .int .i64 hi', .slice (some ak) 2 ck] 48)) gp m Al N cl As ns cs gu gz gf := Blk.call hP hb0
  obtain ⟨p0, p1, p2, p3, p4, p5⟩ := hP0.cells
  have HY := Lib.hid (fun (X : World) => q_yes hm (w := X))
  clear hv0 hv1
  go_enter Try.func71, Try.ntmps71
  go_wp2_with fail
  refine (HY.out _).mono ?_
  rintro e w1 hr1
  obtain ⟨Vy, rfl, hw1, hWy⟩ := RetQ.hx hr1 (Gs := Gs) (fun g hg => by have := hGl g hg; simp; omega)
  obtain ⟨Ay, ny, cy, fy, ey, hh⟩ := id hWy
  subst ey
  have hb1 := bthen hb0 hw1
  have hP1 : PlanB w1 gp m Al N cl As ns cs gu gz gf := Blk.call hP0 hw1
  have hZ1 := (hZ.call hb0).call hw1
  have hF1 := (hFB.call hb0).call hw1
  have hx1 := (Wr.of_below (Gs := Gs) hb1).cle
  have y0 := (sat_hx w1 Gs).cell (hx1 _ _ hk0)
  have y1 : w1.cell? ⟨ak.block, ak.off + 1, none⟩ = some (.int .i64 (b : Nat)) := (sat_hx w1 Gs).cell (hx1 _ _ hk1)
  obtain ⟨m0, m1, m2, m3, m4⟩ := blk5 (hkn.call hw1)
  have hGl1 : ∀ g, g ∈ Gs → g < w1.heap.size := fun g hg => Nat.lt_of_lt_of_le (hGl g hg) hb1.size
  have HWY := Lib.hid hWy
  have HGl1 := Lib.hid hGl1
  have HB1 := Lib.hid hb1
  clear hh hr1 hP0 hP hZ hFB hK hk0 hk1 hkn hb0 hw1 hx1 p0 p1 p2 p3 p4 p5 hGl hGl1 hWy hb1
  go_wp2_with fail
  go_quiet (fail)
  obtain ⟨w2, hw2⟩ : ∃ w2, w1.drewN nq = w2 := ⟨_, rfl⟩
  have hb12 : Below w1.heap.size w1 w2 := hw2 ▸ below_drewN (Below.refl _ _) nq
  rw [hw2]
  have hP2 : PlanB w2 gp m Al N cl As ns cs gu gz gf := Blk.call hP1 hb12
  have hZ2 := hZ1.call hb12
  have hF2 := hF1.call hb12
  have hWY2 := HWY.out.cle (Wr.of_below hb12).cle
  have hGl2 : ∀ g, g ∈ Gs → g < w2.heap.size := fun g hg => Nat.lt_of_lt_of_le (HGl1.out g hg) hb12.size
  have hB2 := bthen HB1.out hb12
  clear hw2 hb12 hP1 hZ1 hF1 m0 m1 m2 m3 m4 y0 y1 HWY HGl1 HB1
  obtain ⟨p0, p1, p2, p3, p4, p5⟩ := hP2.cells
  obtain ⟨va, za, hva⟩ := hZ2.at_ ha
  obtain ⟨Aa, na, ca, fa, ea, hh⟩ := id hva
  subst ea
  clear hh
  obtain ⟨vb, zb, hvb⟩ := hZ2.at_ hb
  obtain ⟨Ab, nb, cb, fb, eb, hh⟩ := id hvb
  subst eb
  clear hh
  have hgpl := Blk.lt hP2
  have hgzl := hZ2.lt
  have hgfl := hF2.lt
  have hgpz : gz ≠ gp := fun e => hgp (e ▸ hgz)
  have hgpf : gf ≠ gp := fun e => hgp (e ▸ hgf)
  have haI : (a : Int) < (N : Int) := by omega
  have hbI : (b : Int) < (N : Int) := by omega
  have hiI : (i : Int) < (N : Int) := by omega
  have n0 : (⟨gz, i, none⟩ : Addr) ≠ ⟨gp, 0, none⟩ := addr_b hgpz
  have n1 : (⟨gz, i, none⟩ : Addr) ≠ ⟨gp, 4, none⟩ := addr_b hgpz
  have n2 : (⟨gz, i, none⟩ : Addr) ≠ ⟨gz, a, none⟩ := addr_o (Ne.symm hai)
  have n3 : (⟨gz, i, none⟩ : Addr) ≠ ⟨gz, b, none⟩ := addr_o (Ne.symm hbi)
  have HOr := Lib.hid (fun (X : World) (hb : Below w2.heap.size w2 X) => q_and hm (w := X) (hva.heap ((sat_hx w2 Gs).below hb)) (hvb.heap ((sat_hx w2 Gs).below hb)))
  have HP2 := Lib.hid hP2
  have HZ2 := Lib.hid hZ2
  have HF2 := Lib.hid hF2
  have HG2 := Lib.hid hGl2
  have HWY2 := Lib.hid hWY2
  have HB2 := Lib.hid hB2
  have HN := Lib.hid (And.intro hgpz (And.intro hgpf hne))
  have hai' : a ≠ i := hai
  have hbi' : b ≠ i := hbi
  clear hP2 hZ2 hF2 hGl2 hWY2 hB2 hva hvb p1 p2 p3 p5 hgpz hgpf hne hai hbi
  go_wp2_with fail
  go_region_held3 (fun w' => w'.cell? ⟨gp, 0, none⟩ = some (.int .i64 (m : Nat)) ∧ w'.cell? ⟨gp, 4, none⟩ = some (.slice (some ⟨gz, 0, none⟩) N N) ∧ w'.cell? ⟨gz, a, none⟩ = some (.slice Aa na ca) ∧ w'.cell? ⟨gz, b, none⟩ = some (.slice Ab nb cb)) (first | go_keep | exact ⟨cellNe n0 s0, cellNe n1 s1, cellNe n2 s2, cellNe n3 s3⟩)
    (first
      | (go_at_call 21; refine (HOr.out _ (below_drewN (Below.refl _ _) 1)).mono ?_; rintro e w3 hr3; refine (fun hr => ?_) (RetQ.hx hr3 (Gs := Gs) HG2.out); obtain ⟨V3, rfl, hw3, hW3⟩ := hr; have hb3 : Below w2.heap.size w2 w3 := undr hw3; obtain ⟨A3, n3', c3, f3, e3, hh⟩ := id hW3; subst e3; have s0 := (hb3.cell (p := ⟨gp, 0, none⟩) hgpl).trans p0; have s1 := (hb3.cell (p := ⟨gp, 4, none⟩) hgpl).trans p4; have s2 := (hb3.cell (p := ⟨gz, a, none⟩) hgzl).trans za; have s3 := (hb3.cell (p := ⟨gz, b, none⟩) hgzl).trans zb; have hZ3 := HZ2.out.call hb3; refine (fun hz => ?_) (hZ3.at_ hi); obtain ⟨vi, zi, _⟩ := hz; have zs := hZ3.soft i; have HW3 := Lib.hid hW3; clear hh hW3 hr3 hw3))
  obtain ⟨hgpz, hgpf, hne⟩ := HN.out
  have hP4 : PlanB (w3.setCell ⟨gz, i, none⟩ (.slice A3 n3' c3)) gp m Al N cl As ns cs gu gz gf := Blk.far (Blk.call HP2.out hb3) (p := ⟨gz, i, none⟩) (Ne.symm hgpz) _
  have hZ4 := hZ3.set hgz hi HW3.out
  have hF4 := (HF2.out.call hb3).far hgz (Ne.symm hne) i (.slice A3 n3' c3)
  have hWY4 := (HWY2.out.cle (Wr.of_below hb3).cle).cle (wr_set hgz i (.slice A3 n3' c3)).cle
  have hwr4 : Wr [gz, gf] w (w3.setCell ⟨gz, i, none⟩ (.slice A3 n3' c3)) := (((Wr.of_below HB2.out).call hb3).set (by simp) i _)
  have hG4 : ∀ g, g ∈ Gs → g < (w3.setCell ⟨gz, i, none⟩ (.slice A3 n3' c3)).heap.size := fun g hg => Nat.lt_of_lt_of_le (HG2.out g hg) (by simpa using hb3.size)
  obtain ⟨w4, hw4⟩ : ∃ w4, w3.setCell ⟨gz, i, none⟩ (.slice A3 n3' c3) = w4 := ⟨_, rfl⟩
  rw [hw4] at hP4 hZ4 hF4 hWY4 hwr4 hG4 ⊢
  clear hw4 s0 s1 s2 s3 zi zs p0 p4 za zb n0 n1 n2 n3 hZ3 hb3 HW3 HP2 HZ2 HF2 HG2 HWY2 HB2 HOr HN HY hgzl hgpl hgfl
  obtain ⟨p0, p1, p2, p3, p4, p5⟩ := hP4.cells
  obtain ⟨La, lca, za, hca, hpa⟩ := hF4.at_ ha
  obtain ⟨Lb, lcb, zb, hcb, hpb⟩ := hF4.at_ hb
  obtain ⟨Li, lci, zi, _, _⟩ := hF4.at_ hi
  obtain ⟨va, zv, hva⟩ := hZ4.at_ ha
  rw [upd_ne hai'] at hva
  obtain ⟨Av, nv, cv, fv, ev, hh⟩ := id hva
  subst ev
  clear hh
  have hgpl := Blk.lt hP4
  have hgfl := hF4.lt
  have hgzl := hZ4.lt
  have n0 : (⟨gf, i, none⟩ : Addr) ≠ ⟨gp, 5, none⟩ := addr_b hgpf
  have n1 : (⟨gf, i, none⟩ : Addr) ≠ ⟨gf, a, none⟩ := addr_o (fun e => hai' e.symm)
  have n2 : (⟨gf, i, none⟩ : Addr) ≠ ⟨gf, b, none⟩ := addr_o (fun e => hbi' e.symm)
  have n3 : (⟨gf, i, none⟩ : Addr) ≠ ⟨gp, 4, none⟩ := addr_b hgpf
  have n4 : (⟨gf, i, none⟩ : Addr) ≠ ⟨gz, a, none⟩ := addr_b (Ne.symm hne)
  have HWi := Lib.hid (within_w (w := w4.drew) (F := hx w4 Gs) (sat_hx w4 Gs) m hm gp (hP4.hx0 hgp) La _ lca (L a) hpa (hLn a) (.slice Ay ny cy) (fun _ => true) hWY4)
  have HWj := Lib.hid (fun (F5 : Fz) (X : World) (h5 : Sat F5 X) (hle : Fle w4.drew (hx w4 Gs) F5) => within_w (w := X) (F := F5) h5 m hm gp (hle.cell (hP4.hx0 hgp)) Lb _ lcb (L b) (hpb.cle hle.cle) (hLn b) (.slice Av nv cv) (p a) (hva.cle hle.cle))
  have hlen : (cutL (L a) fun _ => true).length + (cutL (L b) (p a)).length ≤ 1000000 := by rw [length_cutL, length_cutL]; have := hLn a; have := hLn b; omega
  have HZ4 := Lib.hid hZ4
  have HF4 := Lib.hid hF4
  have HWR := Lib.hid hwr4
  have HG4 := Lib.hid hG4
  obtain ⟨na', hna⟩ : ∃ n', (L a).length = n' := ⟨_, rfl⟩
  obtain ⟨nb', hnb⟩ : ∃ n', (L b).length = n' := ⟨_, rfl⟩
  rw [hna] at HWi za hca
  rw [hnb] at HWj zb hcb
  clear hP4 hZ4 hF4 hwr4 hG4 hpa hpb hWY4 hva p0 p1 p2 p3 hna hnb hai' hbi'
  go_wp2_with fail
  go_region_held3 (fun w' => w'.cell? ⟨gp, 5, none⟩ = some (.slice (some ⟨gf, 0, none⟩) N N) ∧ w'.cell? ⟨gf, a, none⟩ = some (.slice La na' lca) ∧ w'.cell? ⟨gf, b, none⟩ = some (.slice Lb nb' lcb) ∧ w'.cell? ⟨gp, 4, none⟩ = some (.slice (some ⟨gz, 0, none⟩) N N) ∧ w'.cell? ⟨gz, a, none⟩ = some (.slice Av nv cv)) (first | exact ⟨cellNe n0 t0, cellNe n1 t1, cellNe n2 t2, cellNe n3 t5, cellNe n4 t6⟩ | (refine ⟨?_, ?_, ?_, ?_, ?_⟩ <;> go_keep))
    (first
      | (have tok := HO5.out; go_at_call 77; refine (HWj.out F5 _ hF5 HL5.out).mono ?_; rintro e w7 hr7; obtain ⟨V7, F7, rfl, hO7, hF7, hw7, hle7⟩ := hr7; have HO7 := Lib.hid hO7; have hlo : Fle w4.drew (hx w4 Gs) F7 := HL5.out.trans hle7 hz5; have HL7 := Lib.hid hlo; have HO57 : Hid (OwnL m F7 w7 w4.heap.size V5 (cutL (L a) fun _ => true)) := Lib.hid ((HO5.out.le hle7).call hw7); have hb7 : Below w4.heap.size w4 w7 := hb5.trans (hw7.mono hz5); have hz7 := hb7.size; have r0 := (hb7.cell (p := ⟨gp, 5, none⟩) hgpl).trans p5; have r1 := (hb7.cell (p := ⟨gf, a, none⟩) hgfl).trans za; have r2 := (hb7.cell (p := ⟨gf, b, none⟩) hgfl).trans zb; have r3 := (hb7.cell (p := ⟨gp, 4, none⟩) hgpl).trans p4; have r4 := (hb7.cell (p := ⟨gz, a, none⟩) hgzl).trans zv; clear hO7 hle7 hw7 hlo tok)
      | (go_at_call 77; refine HWi.out.mono ?_; rintro e w5 hr5; obtain ⟨V5, F5, rfl, hO5, hF5, hw5, hle5⟩ := hr5; have hb5 : Below w4.heap.size w4 w5 := undr hw5; have s0 := (hb5.cell (p := ⟨gp, 5, none⟩) hgpl).trans p5; have s1 := (hb5.cell (p := ⟨gf, a, none⟩) hgfl).trans za; have s2 := (hb5.cell (p := ⟨gf, b, none⟩) hgfl).trans zb; have s3 := (hb5.cell (p := ⟨gp, 4, none⟩) hgpl).trans p4; have s4 := (hb5.cell (p := ⟨gz, a, none⟩) hgzl).trans zv; have hz5 := hb5.size; have HO5 : Hid (OwnL m F5 w5 w4.heap.size V5 (cutL (L a) fun _ => true)) := Lib.hid hO5; have HL5 := Lib.hid hle5; clear hO5 hle5 hw5)
      | ((refine step_ownL rfl (.tmp 126) (.tmp 142) (by rfl) (m := m) (F := F7) (B := w4.heap.size) HO57.out HO7.out hF7 (by rfl) (by rfl) hlen hz7 ?_; intro v6 w6 hO6 hF6 hb6 hg6 hat6; have t0 := (hb6.cell (p := ⟨gp, 5, none⟩) hgpl).trans r0; have t1 := (hb6.cell (p := ⟨gf, a, none⟩) hgfl).trans r1; have t2 := (hb6.cell (p := ⟨gf, b, none⟩) hgfl).trans r2; have t5 := (hb6.cell (p := ⟨gp, 4, none⟩) hgpl).trans r3; have t6 := (hb6.cell (p := ⟨gz, a, none⟩) hgzl).trans r4; have t3 := (hb6.cell (p := ⟨gf, i, none⟩) hgfl).trans ((hb7.cell (p := ⟨gf, i, none⟩) hgfl).trans zi); have t4 := (HF4.out.call (hb7.trans hb6)).soft i; refine (fun hd => ?_) (hO6.doneX hF6 (Gs := Gs) (fun g hg => (HL7.out.2 g (HG4.out g hg)).trans (hx_in hg)) HG4.out); obtain ⟨A6, c6, e6, hc6, hp6⟩ := hd; subst e6)))
  have hb46 : Below w4.heap.size w4 w6 := hb7.trans hb6
  go_wp2_with fail
  go_end0
  rw [show (cutL (L a) fun _ => true).length + (cutL (L b) (p a)).length = (cutL (L a) (fun _ => true) ++ cutL (L b) (p a)).length from (List.length_append ..).symm]
  refine ⟨?_, (HZ4.out.call hb46).far hgf hne i _, (HF4.out.call hb46).set hgf hi hc6 hp6, (HWR.out.call hb46).set (by simp) i _⟩
  rfl
end Go.Proofs.Ytaomehlhopiblaa
