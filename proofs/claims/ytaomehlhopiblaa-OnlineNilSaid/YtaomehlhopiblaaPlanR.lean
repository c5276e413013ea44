/- The walk of fill: what may be left out, and all else. -/
import Derived.Test.YtaomehlhopiblaaPlanF
import Derived.RegionTactic
import Derived.Test.YtaomehlhopiblaaPlanA
import Derived.Test.YtaomehlhopiblaaPlanG
import Derived.Test.YtaomehlhopiblaaPlanP
import Derived.Test.YtaomehlhopiblaaBoundA
import Derived.Test.YtaomehlhopiblaaOwnP
set_option linter.unusedVariables false
set_option linter.unusedSimpArgs false
namespace Go.Proofs.Ytaomehlhopiblaa
open Go.RowKit
attribute [local go_sem ↓] Go.wp_at_zero Go.wp_at_succ
set_option maxRecDepth 100000 in
set_option maxHeartbeats 4000000 in
theorem fill_many {w : World} (m : Nat) (hm : m ≤ 10) (gp : Nat) (Al As : Option Addr) (N cl ns cs gu gz gf : Nat) (hP : PlanB w gp m Al N cl As ns cs gu gz gf) (Gs : List Nat) (hgz : gz ∈ Gs) (hgf : gf ∈ Gs) (hgp : gp ∉ Gs) (hne : gz ≠ gf) (hGl : ∀ g, g ∈ Gs → g < w.heap.size)
    (p : Nat → Nat → Bool) (L : Nat → Fst) (hZ : ZB w gz N Gs m p) (hFB : FB w gf N Gs m L) (hLn : ∀ j, (L j).length ≤ 1000) (i a : Nat) (hi : i < N) (ha : a < N) (hai : a ≠ i) (hN : N ≤ 1000)
    (name : ByteArray) (lo hi' : Int) (Ak : Option Addr) (ck : Nat) (hK : Rd (hx w Gs) 1 Ak 1 [.int .i64 (a : Nat)]) :
    Calls Try.prog 71 #[.pointer (some ⟨gp, 0, none⟩), .int .i64 (i : Nat), .agg #[.int .i64 22, .string name, .int .i64 lo, .int .i64 hi', .slice Ak 1 ck]] w
      (FillR w gz gf N Gs m p L i (fun _ => true) (L a)) := by
  obtain ⟨ak, v, rfl, hv0, hk0⟩ := hK.at1 (k := 0) (by omega)
  obtain rfl : Value.int .i64 (a : Nat) = v := by simpa using hv0
  rw [show ak.add 0 = ak by unfold Addr.add; simp] at hk0
  have hb0 := balloc w (.cells #[.int .i64 22, .string name, .int .i64 lo, .int .i64 hi', .slice (some ak) 1 ck] 48)
  have hkn := Blk.new w 48 #[.int .i64 22, .string name, .int .i64 lo, .int .i64 hi', .slice (some ak) 1 ck]
  have hP0 : PlanB (w.alloc (.cells #[.int .i64 22, .string name, .int .i64 lo, .int .i64 hi', .slice (some ak) 1 ck] 48)) gp m Al N cl As ns cs gu gz gf := Blk.call hP hb0
  obtain ⟨p0, p1, p2, p3, p4, p5⟩ := hP0.cells
  have HY := Lib.hid (fun (X : World) => q_yes hm (w := X))
  clear hv0
  go_enter Try.func71, Try.ntmps71
  go_wp2_with fail
  refine (HY.out _).mono ?_
  rintro e w1 hr1
  obtain ⟨Vy, rfl, hw1, hWy⟩ := RetQ.hx hr1 (Gs := Gs) (fun g hg => by have := hGl g hg; simp; omega)
  obtain ⟨Ay, ny, cy, fy, ey, hh⟩ := id hWy
  subst ey
  have hb1 := bthen hb0 hw1
  have hP1 : PlanB w1 gp m Al N cl As ns cs gu gz gf := Blk.call hP0 hw1
  have hZ1 := (hZ.call hb0).call hw1
  have hF1 := (hFB.call hb0).call hw1
  have hx1 := (Wr.of_below (Gs := Gs) hb1).cle
  have y0 := (sat_hx w1 Gs).cell (hx1 _ _ hk0)
  obtain ⟨m0, m1, m2, m3, m4⟩ := blk5 (hkn.call hw1)
  have hGl1 : ∀ g, g ∈ Gs → g < w1.heap.size := fun g hg => Nat.lt_of_lt_of_le (hGl g hg) hb1.size
  have HWY := Lib.hid hWy
  have HGl1 := Lib.hid hGl1
  have HB1 := Lib.hid hb1
  clear hh hr1 hP0 hP hZ hFB hK hk0 hkn hb0 hw1 hx1 p0 p1 p2 p3 p4 p5 hGl hGl1 hWy hb1
  go_wp2_with fail
  obtain ⟨p0, p1, p2, p3, p4, p5⟩ := hP1.cells
  obtain ⟨La, lca, za, hca, hpa⟩ := hF1.at_ ha
  obtain ⟨Li, lci, zi, _, _⟩ := hF1.at_ hi
  obtain ⟨vi, zv, _⟩ := hZ1.at_ hi
  have sf := hF1.soft i
  have sz := hZ1.soft i
  have hgpz : gz ≠ gp := fun e => hgp (e ▸ hgz)
  have hgpf : gf ≠ gp := fun e => hgp (e ▸ hgf)
  have haI : (a : Int) < (N : Int) := by omega
  have hiI : (i : Int) < (N : Int) := by omega
  have hzf1 : gf ≠ gz := Ne.symm hne
  have HZ1 := Lib.hid hZ1
  have HF1 := Lib.hid hF1
  have HPA := Lib.hid hpa
  have HCA := Lib.hid hca
  obtain ⟨na, hna⟩ : ∃ n', (L a).length = n' := ⟨_, rfl⟩
  rw [hna] at za
  have HNA := Lib.hid hna
  clear hP1 hZ1 hF1 hpa hca hna HGl1 HY hLn
  go_region
  all_goals
    go_wp2_with fail
    go_end0
    rw [← HNA.out]
    exact ⟨rfl, (HZ1.out.set hgz hi HWY.out).far hgf hne i (.slice La (L a).length lca), (HF1.out.far hgz hzf1 i (.slice Ay ny cy)).set hgf hi HCA.out (HPA.out.cle (wr_set hgz i _).cle), (((Wr.of_below HB1.out).set (by simp) i _).set (by simp) i _).drew⟩
set_option maxRecDepth 100000 in
set_option maxHeartbeats 4000000 in
theorem fill_no {w : World} (m : Nat) (hm : m ≤ 10) (gp : Nat) (Al As : Option Addr) (N cl ns cs gu gz gf : Nat) (hP : PlanB w gp m Al N cl As ns cs gu gz gf) (i : Nat) (K : Int) (h20 : (K == 20) = false) (h21 : (K == 21) = false) (h22 : (K == 22) = false)
    (name : ByteArray) (lo hi' : Int) (Ak : Option Addr) (nk ck : Nat) :
    Calls Try.prog 71 #[.pointer (some ⟨gp, 0, none⟩), .int .i64 (i : Nat), .agg #[.int .i64 K, .string name, .int .i64 lo, .int .i64 hi', .slice Ak nk ck]] w
      fun e w' => e = .returned (.tuple #[]) ∧ Below w.heap.size w w' := by
  have hb0 := balloc w (.cells #[.int .i64 K, .string name, .int .i64 lo, .int .i64 hi', .slice Ak nk ck] 48)
  have hkn := Blk.new w 48 #[.int .i64 K, .string name, .int .i64 lo, .int .i64 hi', .slice Ak nk ck]
  have hP0 : PlanB (w.alloc (.cells #[.int .i64 K, .string name, .int .i64 lo, .int .i64 hi', .slice Ak nk ck] 48)) gp m Al N cl As ns cs gu gz gf := Blk.call hP hb0
  obtain ⟨p0, p1, p2, p3, p4, p5⟩ := hP0.cells
  have HY := Lib.hid (fun (X : World) => q_yes hm (w := X))
  go_enter Try.func71, Try.ntmps71
  go_wp2_with fail
  refine (HY.out _).mono ?_
  rintro e w1 ⟨A, n, c, g, o, rfl, hw1, _⟩
  obtain ⟨m0, m1, m2, m3, m4⟩ := blk5 (hkn.call hw1)
  go_wp2_with fail
  go_end0
  exact ⟨rfl, bthen hb0 hw1⟩
end Go.Proofs.Ytaomehlhopiblaa
namespace Go.Proofs.Ytaomehlhopiblaa
open Go.RowKit
theorem ZB.wr {w w' : World} {g N m : Nat} {Gs Hs : List Nat} {p : Nat → Nat → Bool} (h : ZB w g N Gs m p) (hw : Wr Hs w w') (hs : ∀ k, k ∈ Hs → k ∈ Gs) (hg : g ∉ Hs) : ZB w' g N Gs m p :=
  let ⟨zs, h1, h2, h3⟩ := h
  ⟨zs, hw.blk h1 hg, h2, fun j hj => let ⟨v, e, hv⟩ := h3 j hj; ⟨v, e, hv.cle (hw.more hs).cle⟩⟩
theorem FB.wr {w w' : World} {g N m : Nat} {Gs Hs : List Nat} {L : Nat → Fst} (h : FB w g N Gs m L) (hw : Wr Hs w w') (hs : ∀ k, k ∈ Hs → k ∈ Gs) (hg : g ∉ Hs) : FB w' g N Gs m L :=
  let ⟨zs, h1, h2, h3⟩ := h
  ⟨zs, hw.blk h1 hg, h2, fun j hj => let ⟨A, c, e, hc, hv⟩ := h3 j hj; ⟨A, c, e, hc, hv.cle (hw.more hs).cle⟩⟩
theorem FB.eq {w : World} {g N m : Nat} {Gs : List Nat} {L L' : Nat → Fst} (h : FB w g N Gs m L) (e : ∀ j, j < N → L j = L' j) : FB w g N Gs m L' :=
  let ⟨zs, h1, h2, h3⟩ := h
  ⟨zs, h1, h2, fun j hj => by obtain ⟨A, c, a, hc, hv⟩ := h3 j hj; rw [e j hj] at a hc hv; exact ⟨A, c, a, hc, hv⟩⟩
/-- A table of numbers. -/
def UB (w : World) (g N : Nat) (f : Nat → Int) : Prop := ∃ us : List Value, Blk w g 3 us.toArray ∧ us.length = N ∧ ∀ j, j < N → us[j]? = some (.int .i64 (f j))
namespace UB
variable {w w' : World} {g N : Nat} {f : Nat → Int}
theorem lt (h : UB w g N f) : g < w.heap.size := let ⟨_, h1, _⟩ := h; h1.lt
theorem call (h : UB w g N f) (hb : Below w.heap.size w w') : UB w' g N f := let ⟨us, h1, h2, h3⟩ := h; ⟨us, h1.call hb, h2, h3⟩
theorem wr {Gs : List Nat} (h : UB w g N f) (hw : Wr Gs w w') (hg : g ∉ Gs) : UB w' g N f := let ⟨us, h1, h2, h3⟩ := h; ⟨us, hw.blk h1 hg, h2, h3⟩
theorem at_ (h : UB w g N f) {j : Nat} (hj : j < N) : w.cell? ⟨g, j, none⟩ = some (.int .i64 (f j)) := by
  obtain ⟨us, h1, h2, h3⟩ := h
  rw [h1.cell]; simpa using h3 j hj
theorem soft (h : UB w g N f) (j : Nat) : w.frozen? ⟨g, j, none⟩ = false := let ⟨_, h1, _⟩ := h; h1.frozen j
theorem set (h : UB w g N f) {i : Nat} (hi : i < N) (v : Int) : UB (w.setCell ⟨g, i, none⟩ (.int .i64 v)) g N (upd f i v) := by
  obtain ⟨us, h1, h2, h3⟩ := h
  refine ⟨us.set i (.int .i64 v), by have := h1.set_ i (.int .i64 v); simpa using this, by simp [h2], fun j hj => ?_⟩
  by_cases e : j = i
  · subst e
    rw [List.getElem?_set_self (by omega), upd_same]
  · rw [List.getElem?_set_ne (by omega), upd_ne e]; exact h3 j hj
theorem far (h : UB w g N f) {p : Addr} (hne : g ≠ p.block) (u : Value) : UB (w.setCell p u) g N f := let ⟨us, h1, h2, h3⟩ := h; ⟨us, h1.far hne u, h2, h3⟩
end UB
theorem kidsN_mem {t : Tr} {n : Nat} (hn : n < t.size) {k : Nat} (hk : k ∈ kidsN t n) : k < n ∧ parT t k = n := by
  unfold kidsN at hk
  cases hx : t.sub n with
  | leaf h => rw [hx] at hk; cases hk
  | un h a =>
    rw [hx] at hk
    obtain ⟨h1, _⟩ := kid_un hn hx
    have hp := a.size_pos
    simp only [List.mem_cons, List.mem_nil_iff, or_false] at hk
    subst hk
    exact ⟨by omega, par_un hn hx⟩
  | bin h a b =>
    rw [hx] at hk
    obtain ⟨h1, _⟩ := kid_bin hn hx
    have hp := a.size_pos
    have hq := b.size_pos
    obtain ⟨e1, e2⟩ := par_bin hn hx
    simp only [List.mem_cons, List.mem_nil_iff, or_false] at hk
    rcases hk with rfl | rfl
    · exact ⟨by omega, e1⟩
    · exact ⟨by omega, e2⟩
theorem kidsN_back {t : Tr} {k : Nat} (hk : k + 1 < t.size) : k ∈ kidsN t (parT t k) := by
  obtain ⟨h1, h2, h3⟩ := par_at t k hk
  unfold kidsN
  rcases h3 with ⟨h, a, hx, e⟩ | ⟨h, a, b, hx, e⟩
  · rw [hx]; simp; omega
  · rw [hx]; simp; omega
/-- The table up when n nodes are gone through: the nodes below these say who is above. -/
def UpTo (t : Tr) (N n : Nat) (f : Nat → Int) : Prop := ∀ k, k + 1 < N → parT t k < n → f k = (parT t k : Nat)
theorem UpTo.zero (t : Tr) (N : Nat) (f : Nat → Int) : UpTo t N 0 f := fun k _ h => absurd h (by omega)
theorem UpTo.kid {t : Tr} {N n : Nat} {f : Nat → Int} (h : UpTo t N n f) {k : Nat} (hk : parT t k = n) : UpTo t N n (upd f k n) := fun q hq hp => by
  have : q ≠ k := fun e => by rw [e, hk] at hp; omega
  rw [upd_ne this]
  exact h q hq hp
theorem UpTo.next {t : Tr} {N n : Nat} {f : Nat → Int} (hN : t.size = N) (h : UpTo t N n f) (hk : ∀ k, k ∈ kidsN t n → f k = (n : Nat)) : UpTo t N (n + 1) f := fun q hq hp => by
  by_cases e : parT t q = n
  · rw [e]
    exact hk q (e ▸ kidsN_back (by omega))
  · exact h q hq (by omega)
theorem fst2_len (t : Tr) (z : Zf) {n : Nat} (hn : n ≤ t.size) (i : Nat) : (fst2 t z n i).length ≤ t.size := by
  unfold fst2
  split
  · exact fstO_len t z (by omega)
  · have := fst1_len t (stepsN t) i; have := t.size_pos; omega
theorem cutL_true (L : Fst) : cutL L (fun _ => true) = L := by unfold cutL; simp
/-- What fill leaves of the node n. -/
def StepR (w : World) (gz gf N : Nat) (Gs : List Nat) (m : Nat) (t : Tr) (z : Zf) (n : Nat) (e : Ending) (w' : World) : Prop :=
  e = .returned (.tuple #[]) ∧ ZB w' gz N Gs m (zer2 t z (n + 1)) ∧ FB w' gf N Gs m (fst2 t z (n + 1)) ∧ Wr [gz, gf] w w'
theorem StepR.of_fill {w : World} {gz gf N : Nat} {Gs : List Nat} {m : Nat} {t : Tr} {z : Zf} {n : Nat} {f : Nat → Bool} {l : Fst} {e : Ending} {w' : World} (h : FillR w gz gf N Gs m (zer2 t z n) (fst2 t z n) n f l e w') (hf : ∀ x, f x = zerO t z n x) (hl : l = fstO t z n) : StepR w gz gf N Gs m t z n e w' := by
  obtain ⟨h1, h2, h3, h4⟩ := h
  refine ⟨h1, h2.same fun j hj x _ => ?_, h3.eq fun j hj => ?_, h4⟩
  · rw [← zer2_next]; unfold upd; split
    · exact hf x
    · rfl
  · rw [← fst2_next]; unfold upd; split
    · exact hl
    · rfl
set_option maxHeartbeats 2000000 in
theorem fill_step {F : Fz} {w : World} (hF : Sat F w) (m : Nat) (hm : m ≤ 10) (l : List Nd) (N : Nat) (hN : N ≤ 1000) (Al : Option Addr) (cl : Nat) {t : Tr} (ht : treeS l = some t) (hr : regV t) (hNt : t.size = N) (gp : Nat) (As : Option Addr) (M cs gu gz gf : Nat) (hP : PlanB w gp m Al N cl As M cs gu gz gf)
    (Gs : List Nat) (hgz : gz ∈ Gs) (hgf : gf ∈ Gs) (hgp : gp ∉ Gs) (hne : gz ≠ gf) (hGF : ∀ g, g ∈ Gs → F g = none) (hGl : ∀ g, g ∈ Gs → g < w.heap.size) (z : Zf) (n : Nat) (hn : n < N) (hnl : n < l.length) (hZ : ZB w gz N Gs m (zer2 t z n)) (hFB : FB w gf N Gs m (fst2 t z n))
    (nd : Nd) (hnd : l[n] = nd) (Ak : Option Addr) (ck : Nat) (hK : Rd F 1 Ak nd.kids.length (nd.kids.map (Value.int .i64))) :
    Calls Try.prog 71 #[.pointer (some ⟨gp, 0, none⟩), .int .i64 (n : Nat), .agg #[.int .i64 nd.kind, .string nd.name, .int .i64 nd.lo, .int .i64 nd.hi, .slice Ak nd.kids.length ck]] w (StepR w gz gf N Gs m t z n) := by
  have hgr := get_flat_root ht n hnl
  have hk := kidsN_eq ht n hnl
  rw [hnd] at hgr hk
  have hkd : nd.kind = (t.sub n).root.kind := by rw [hgr]
  have hva := tree_valid ht
  have hvn := sub_valid t n hva
  have hnt : n < t.size := by omega
  have hKx := hK.cle (cle_hx hF hGF)
  have hLn : ∀ j, (fst2 t z n j).length ≤ 1000 := fun j => by have := fst2_len t z (n := n) (by omega) j; omega
  have hno : (nd.kind == 20) = false → (nd.kind == 21) = false → (nd.kind == 22) = false → Calls Try.prog 71 #[.pointer (some ⟨gp, 0, none⟩), .int .i64 (n : Nat), .agg #[.int .i64 nd.kind, .string nd.name, .int .i64 nd.lo, .int .i64 nd.hi, .slice Ak nd.kids.length ck]] w (StepR w gz gf N Gs m t z n) := fun h20 h21 h22 => by
    have hkk : (t.sub n).root.kind ≠ 20 ∧ (t.sub n).root.kind ≠ 21 ∧ (t.sub n).root.kind ≠ 22 := by
      rw [← hkd]
      rw [beq_eq_false_iff_ne] at h20 h21 h22
      exact ⟨h20, h21, h22⟩
    refine (fill_no m hm gp Al As N cl M cs gu gz gf hP n nd.kind h20 h21 h22 nd.name nd.lo nd.hi Ak nd.kids.length ck).mono ?_
    rintro e w' ⟨rfl, hb⟩
    exact ⟨rfl, (hZ.call hb).same fun j _ x _ => zer2_keep hr hva z hnt hkk j x, (hFB.call hb).eq fun j _ => fst2_keep hr hva z hnt hkk j, .of_below hb⟩
  cases hx : t.sub n with
  | leaf h =>
    rw [hx] at hvn hkd
    have := leaf_kind hvn
    have hkd : nd.kind = h.kind := hkd
    exact hno (by rw [beq_eq_false_iff_ne]; omega) (by rw [beq_eq_false_iff_ne]; omega) (by rw [beq_eq_false_iff_ne]; omega)
  | un h a =>
    rw [hx] at hvn hkd
    have hkk := un_kind hvn
    have hkd : nd.kind = h.kind := hkd
    by_cases h22 : nd.kind = 22
    · obtain ⟨h1, _⟩ := kid_un hnt hx
      have hap := a.size_pos
      have hkx : nd.kids = [((n - 1 : Nat) : Int)] := by rw [hk]; unfold kidsN; rw [hx]; rfl
      rw [hkx] at hKx ⊢
      rw [h22]
      refine (fill_many m hm gp Al As N cl M cs gu gz gf hP Gs hgz hgf hgp hne hGl _ _ hZ hFB hLn n (n - 1) hn (by omega) (by omega) hN nd.name nd.lo nd.hi Ak ck hKx).mono ?_
      intro e w' h
      refine StepR.of_fill h (fun x => (zerO_many z hx (by omega) x).symm) ?_
      rw [fst2_kid (by omega), fstO_many z hnt hx (by omega)]
    · exact hno (by rw [beq_eq_false_iff_ne]; omega) (by rw [beq_eq_false_iff_ne]; omega) (by rw [beq_eq_false_iff_ne]; omega)
  | bin h a b =>
    rw [hx] at hvn hkd
    have hkk := bin_kind hvn
    have hkd : nd.kind = h.kind := hkd
    obtain ⟨h1, _⟩ := kid_bin hnt hx
    have hap := a.size_pos
    have hbp := b.size_pos
    have hkx : nd.kids = [((n - 1 - b.size : Nat) : Int), ((n - 1 : Nat) : Int)] := by rw [hk]; unfold kidsN; rw [hx]; rfl
    by_cases h20 : nd.kind = 20
    · rw [hkx] at hKx ⊢
      rw [h20]
      refine (fill_alt m hm gp Al As N cl M cs gu gz gf hP Gs hgz hgf hgp hne hGl _ _ hZ hFB hLn n (n - 1 - b.size) (n - 1) hn (by omega) (by omega) (by omega) (by omega) hN nd.name nd.lo nd.hi Ak ck hKx).mono ?_
      intro e w' h
      refine StepR.of_fill h (fun x => ?_) ?_
      · rw [zer2_kid (by omega), zer2_kid (by omega), zerO_alt z hnt hx (by omega)]
      · rw [cutL_true, fst2_kid (by omega), fst2_kid (by omega), fstO_alt z hnt hx (by omega)]
    by_cases h21 : nd.kind = 21
    · rw [hkx] at hKx ⊢
      rw [h21]
      refine (fill_seq m hm gp Al As N cl M cs gu gz gf hP Gs hgz hgf hgp hne hGl _ _ hZ hFB hLn n (n - 1 - b.size) (n - 1) hn (by omega) (by omega) (by omega) (by omega) hN nd.name nd.lo nd.hi Ak ck hKx).mono ?_
      intro e w' h
      refine StepR.of_fill h (fun x => ?_) ?_
      · rw [zer2_kid (by omega), zer2_kid (by omega), zerO_seq z hnt hx (by omega)]
      · rw [cutL_true, fst2_kid (by omega), fst2_kid (by omega), zer2_kid (by omega), fstO_seq z hnt hx (by omega)]; rfl
    · exact hno (by rw [beq_eq_false_iff_ne]; omega) (by rw [beq_eq_false_iff_ne]; omega) (by rw [beq_eq_false_iff_ne]; omega)
theorem rd_hx {w : World} {Gs : List Nat} {size n : Nat} {A : Option Addr} {xs : List Value} (h : Rd (heapF w) size A n xs) (hg : ∀ a, A = some a → 0 < n → a.block ∉ Gs) : Rd (hx w Gs) size A n xs := by
  refine ⟨h.1, fun h0 => ?_⟩
  obtain ⟨ad, e, hc⟩ := h.2 h0
  refine ⟨ad, e, fun j u hu => ?_⟩
  have := hc j u hu
  unfold Fz.cell at this ⊢
  rw [hx_out (by rw [block_of_add]; exact hg ad e h0)]
  exact this
theorem blk_heapF {w : World} {g : Nat} {t : TypeId} {cs : Array Value} (h : Blk w g t cs) {i : Nat} {v : Value} (e : cs[i]? = some v) : (heapF w).cell ⟨g, i, none⟩ = some v := (h.cell i).trans e
theorem plf_one {w : World} {Gs : List Nat} {m g q : Nat} {y : Value} {f : Nat → Bool} (hg : Blk w g 112 #[.int .i64 (q : Nat), y]) (hn : g ∉ Gs) (hy : WdF m (hx w Gs) y f) : PlF m (hx w Gs) (some ⟨g, 0, none⟩) [((q, f) : Nat × (Nat → Bool))].length [(q, f)] := by
  refine ⟨rfl, [(q, y)], ⟨rfl, fun _ => ⟨_, rfl, fun j u hu => ?_⟩⟩, PlV.one q hy⟩
  rw [add_lit0]
  unfold Fz.cell
  rw [hx_out hn, hg]
  simpa [plC] using hu
theorem kind_steps2 {l : List Nd} {t : Tr} (ht : treeS l = some t) (hr : regS t.root.kind = true) : kindS l 18 = stepsL t 0 := by
  have hv := regV_of (tree_valid ht) hr
  have he : ownS l = ownT t 0 := by unfold ownS; rw [ht]; simp only; rw [if_pos hr]
  unfold kindS; rw [he]
  exact stepsL_kinds t 0 l [] [] (by simpa using tree_flat ht) rfl hv
/-- The plan is made. -/
theorem plan_made {F : Fz} {w : World} (hF : Sat F w) {m : Nat} {l : List Nd} {t : Tr} (ht : treeS l = some t) (hr : regS t.root.kind = true) {z : Zf} {gp M : Nat} {ks : List Nat} (hks : kindS l 18 = ks) (hM : ks.length = M) {Al : Option Addr} {N cl : Nat} (hl : NodesF F Al N l) {As : Option Addr} {cs gu gz gf : Nat} (hP : PlanB w gp m Al N cl As M cs gu gz gf) {Gs : List Nat}
    (hZ : ZB w gz N Gs m (zer2 t z N)) (hFB : FB w gf N Gs m (fst2 t z N)) {f : Nat → Int} (hU : UB w gu N f) (hf : UpTo t N N f) (hR : Rd (hx w Gs) 1 As M ((zs ks).map encI)) : Plan (heapF w) gp m l t z M ks Al N cl As cs gu gz gf := by
  have hN : t.size = N := by rw [← tree_len ht]; exact hl.1
  have hle : CLe (hx w Gs) (heapF w) := by rw [← heap_hx w]; exact cle_nil w Gs
  unfold PlanB at hP
  refine ⟨blk_heapF hP rfl, blk_heapF hP rfl, blk_heapF hP rfl, blk_heapF hP rfl, blk_heapF hP rfl, blk_heapF hP rfl, hl.cle hF.cle, tree_flat ht, hN, regV_of (tree_valid ht) hr, by rw [← hks]; exact kind_steps2 ht hr, hM, ?_, ?_, ?_, ?_⟩
  · have := hR.cle hle
    rw [show (zs ks).map encI = ks.map fun i => .int .i64 (i : Nat) by simp [zs, encI]] at this
    exact this
  · intro i hi
    have h1 := hU.at_ (j := i) (by omega)
    rw [hf i hi (by have := (par_at t i (by omega)).2.1; omega)] at h1
    exact h1
  · intro i hi
    obtain ⟨v, h1, h2⟩ := hZ.at_ hi
    rw [zer2_kid hi] at h2
    exact ⟨v, h1, h2.cle hle⟩
  · intro i hi
    obtain ⟨A, c, h1, _, h2⟩ := hFB.at_ hi
    rw [fst2_kid hi] at h1 h2
    exact ⟨A, c, h1, h2.cle hle⟩
end Go.Proofs.Ytaomehlhopiblaa
