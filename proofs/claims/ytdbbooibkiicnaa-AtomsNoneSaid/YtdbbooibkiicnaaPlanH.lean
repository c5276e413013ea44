/- The walk of fill: what may be left out, and all else. -/
import Derived.Test.YtdbbooibkiicnaaPlanF
import Derived.RegionTactic
set_option linter.unusedVariables false
set_option linter.unusedSimpArgs false
namespace Go.Proofs.Ytdbbooibkiicnaa
open Go.RowKit
attribute [local go_sem ↓] Go.wp_at_zero Go.wp_at_succ
set_option maxRecDepth 100000 in
set_option maxHeartbeats 4000000 in
theorem fill_many {w : World} (m : Nat) (hm : m ≤ 10) (gp : Nat) (Al As : Option Addr) (N cl ns cs gu gz gf : Nat) (hP : PlanB w gp m Al N cl As ns cs gu gz gf) (Gs : List Nat) (hgz : gz ∈ Gs) (hgf : gf ∈ Gs) (hgp : gp ∉ Gs) (hne : gz ≠ gf) (hGl : ∀ g, g ∈ Gs → g < w.heap.size)
    (p : Nat → Nat → Bool) (L : Nat → Fst) (hZ : ZB w gz N Gs m p) (hFB : FB w gf N Gs m L) (hLn : ∀ j, (L j).length ≤ 1000) (i a : Nat) (hi : i < N) (ha : a < N) (hai : a ≠ i) (hN : N ≤ 1000)
    (name : ByteArray) (lo hi' : Int) (Ak : Option Addr) (ck : Nat) (hK : Rd (hx w Gs) 1 Ak 1 [.int .i64 (a : Nat)]) :
    Calls Try.prog 96 #[.pointer (some ⟨gp, 0, none⟩), .int .i64 (i : Nat), .agg #[.int .i64 22, .string name, .int .i64 lo, .int .i64 hi', .slice Ak 1 ck]] w
      (FillR w gz gf N Gs m p L i (fun _ => true) (L a)) := by
  obtain ⟨ak, v, rfl, hv0, hk0⟩ := hK.at1 (k := 0) (by omega)
  obtain rfl : Value.int .i64 (a : Nat) = v := by simpa using hv0
  rw [show ak.add 0 = ak by unfold Addr.add; simp] at hk0
  have hb0 := balloc w (.cells #[.int .i64 22, .string name, .int .i64 lo, .int .i64 hi', .slice (some ak) 1 ck] 29)
  have hkn := Blk.new w 29 #[.int .i64 22, .string name, .int .i64 lo, .int .i64 hi', .slice (some ak) 1 ck]
  have hP0 : PlanB (w.alloc (.cells #[.int .i64 22, .string name, .int .i64 lo, .int .i64 hi', .slice (some ak) 1 ck] 29)) gp m Al N cl As ns cs gu gz gf := Blk.call hP hb0
  obtain ⟨p0, p1, p2, p3, p4, p5⟩ := hP0.cells
  have HY := Lib.hid (fun (X : World) => q_yes hm (w := X))
  clear hv0
  go_enter Try.func96, Try.ntmps96
  go_wp2_with fail
  refine (HY.out _).mono ?_
  rintro e w1 hr1
  obtain ⟨Vy, rfl, hw1, hWy⟩ := RetQ.hx hr1 (Gs := Gs) (fun g hg => by have := hGl g hg; simp; omega)
  obtain ⟨Ay, ny, cy, fy, ey, hh⟩ := id hWy
  subst ey
  have hb1 := bthen hb0 hw1
  have hP1 : PlanB w1 gp m Al N cl As ns cs gu gz gf := Blk.call hP0 hw1
  have hZ1 := (hZ.call hb0).call hw1
  have hF1 := (hFB.call hb0).call hw1
  have hx1 := (Wr.of_below (Gs := Gs) hb1).cle
  have y0 := (sat_hx w1 Gs).cell (hx1 _ _ hk0)
  obtain ⟨m0, m1, m2, m3, m4⟩ := blk5 (hkn.call hw1)
  have hGl1 : ∀ g, g ∈ Gs → g < w1.heap.size := fun g hg => Nat.lt_of_lt_of_le (hGl g hg) hb1.size
  have HWY := Lib.hid hWy
  have HGl1 := Lib.hid hGl1
  have HB1 := Lib.hid hb1
  clear hh hr1 hP0 hP hZ hFB hK hk0 hkn hb0 hw1 hx1 p0 p1 p2 p3 p4 p5 hGl hGl1 hWy hb1
  go_wp2_with fail
  obtain ⟨p0, p1, p2, p3, p4, p5⟩ := hP1.cells
  obtain ⟨La, lca, za, hca, hpa⟩ := hF1.at_ ha
  obtain ⟨Li, lci, zi, _, _⟩ := hF1.at_ hi
  obtain ⟨vi, zv, _⟩ := hZ1.at_ hi
  have sf := hF1.soft i
  have sz := hZ1.soft i
  have hgpz : gz ≠ gp := fun e => hgp (e ▸ hgz)
  have hgpf : gf ≠ gp := fun e => hgp (e ▸ hgf)
  have haI : (a : Int) < (N : Int) := by omega
  have hiI : (i : Int) < (N : Int) := by omega
  have hzf1 : gf ≠ gz := Ne.symm hne
  have HZ1 := Lib.hid hZ1
  have HF1 := Lib.hid hF1
  have HPA := Lib.hid hpa
  have HCA := Lib.hid hca
  obtain ⟨na, hna⟩ : ∃ n', (L a).length = n' := ⟨_, rfl⟩
  rw [hna] at za
  have HNA := Lib.hid hna
  clear hP1 hZ1 hF1 hpa hca hna HGl1 HY hLn
  go_region
  all_goals
    go_wp2_with fail
    go_end0
    rw [← HNA.out]
    exact ⟨rfl, (HZ1.out.set hgz hi HWY.out).far hgf hne i (.slice La (L a).length lca), (HF1.out.far hgz hzf1 i (.slice Ay ny cy)).set hgf hi HCA.out (HPA.out.cle (wr_set hgz i _).cle), (((Wr.of_below HB1.out).set (by simp) i _).set (by simp) i _).drew⟩
set_option maxRecDepth 100000 in
set_option maxHeartbeats 4000000 in
theorem fill_no {w : World} (m : Nat) (hm : m ≤ 10) (gp : Nat) (Al As : Option Addr) (N cl ns cs gu gz gf : Nat) (hP : PlanB w gp m Al N cl As ns cs gu gz gf) (i : Nat) (K : Int) (h20 : (K == 20) = false) (h21 : (K == 21) = false) (h22 : (K == 22) = false)
    (name : ByteArray) (lo hi' : Int) (Ak : Option Addr) (nk ck : Nat) :
    Calls Try.prog 96 #[.pointer (some ⟨gp, 0, none⟩), .int .i64 (i : Nat), .agg #[.int .i64 K, .string name, .int .i64 lo, .int .i64 hi', .slice Ak nk ck]] w
      fun e w' => e = .returned (.tuple #[]) ∧ Below w.heap.size w w' := by
  have hb0 := balloc w (.cells #[.int .i64 K, .string name, .int .i64 lo, .int .i64 hi', .slice Ak nk ck] 29)
  have hkn := Blk.new w 29 #[.int .i64 K, .string name, .int .i64 lo, .int .i64 hi', .slice Ak nk ck]
  have hP0 : PlanB (w.alloc (.cells #[.int .i64 K, .string name, .int .i64 lo, .int .i64 hi', .slice Ak nk ck] 29)) gp m Al N cl As ns cs gu gz gf := Blk.call hP hb0
  obtain ⟨p0, p1, p2, p3, p4, p5⟩ := hP0.cells
  have HY := Lib.hid (fun (X : World) => q_yes hm (w := X))
  go_enter Try.func96, Try.ntmps96
  go_wp2_with fail
  refine (HY.out _).mono ?_
  rintro e w1 ⟨A, n, c, g, o, rfl, hw1, _⟩
  obtain ⟨m0, m1, m2, m3, m4⟩ := blk5 (hkn.call hw1)
  go_wp2_with fail
  go_end0
  exact ⟨rfl, bthen hb0 hw1⟩
end Go.Proofs.Ytdbbooibkiicnaa
