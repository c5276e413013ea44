/- The walk of fill: where a node can be passed, and its first steps. -/
import Derived.Test.YtaomehlhopiblaaPlanM
import Derived.Deep.QuietTactic
import Derived.BigQuiet
set_option linter.unusedVariables false
set_option linter.unusedSimpArgs false
namespace Go.Proofs.Ytaomehlhopiblaa
open Go.RowKit
attribute [local go_sem ↓] Go.wp_at_zero Go.wp_at_succ
theorem OwnL.doneX {m : Nat} {F : Fz} {w : World} {B : Nat} {v : Value} {L : Fst} (h : OwnL m F w B v L) (hF : Sat F w) {Gs : List Nat} (hG : ∀ g, g ∈ Gs → F g = none) (hB : ∀ g, g ∈ Gs → g < B) : ∃ A c, v = .slice A L.length c ∧ L.length ≤ c ∧ PlF m (hx w Gs) A L.length L := by
  obtain ⟨ps, h1, h2⟩ := h
  obtain ⟨A, c, rfl, hc, hr⟩ := h1.rdH
  refine ⟨A, c, rfl, hc, rfl, ps, ⟨hr.1, fun h0 => ?_⟩, h2.cle (cle_hx hF hG)⟩
  obtain ⟨ad, e, hcell⟩ := hr.2 h0
  refine ⟨ad, e, fun j u hu => ?_⟩
  have hb := (h1.1.lt ad.block (by rw [e]; rfl)).1
  have hn : (ad.add j).block ∉ Gs := fun hg => by have := hB _ hg; rw [block_of_add] at this; omega
  have := hcell j u hu
  unfold Fz.cell at this ⊢
  rw [hx_out hn]
  exact this
/-- The table zero, in block g: of node j a function that tells p j. -/
def ZB (w : World) (g N : Nat) (Gs : List Nat) (m : Nat) (p : Nat → Nat → Bool) : Prop := ∃ zs : List Value, Blk w g 49 zs.toArray ∧ zs.length = N ∧ ∀ j, j < N → ∃ v, zs[j]? = some v ∧ WdF m (hx w Gs) v (p j)
/-- The table first, in block g: of node j the places L j. -/
def FB (w : World) (g N : Nat) (Gs : List Nat) (m : Nat) (L : Nat → Fst) : Prop := ∃ fs : List Value, Blk w g 113 fs.toArray ∧ fs.length = N ∧ ∀ j, j < N → ∃ A c, fs[j]? = some (.slice A (L j).length c) ∧ (L j).length ≤ c ∧ PlF m (hx w Gs) A (L j).length (L j)
def upd {α : Type} (p : Nat → α) (i : Nat) (f : α) : Nat → α := fun j => if j = i then f else p j
theorem upd_same {α : Type} (p : Nat → α) (i : Nat) (f : α) : upd p i f i = f := if_pos rfl
theorem upd_ne {α : Type} {p : Nat → α} {i j : Nat} {f : α} (h : j ≠ i) : upd p i f j = p j := if_neg h
theorem wr_set {w : World} {Gs : List Nat} {g : Nat} (hg : g ∈ Gs) (i : Nat) (u : Value) : Wr Gs w (w.setCell ⟨g, i, none⟩ u) := (Wr.refl Gs w).set hg i u
namespace ZB
variable {w w' : World} {g N m : Nat} {Gs : List Nat} {p : Nat → Nat → Bool}
theorem lt (h : ZB w g N Gs m p) : g < w.heap.size := let ⟨_, h1, _⟩ := h; h1.lt
theorem call (h : ZB w g N Gs m p) (hb : Below w.heap.size w w') : ZB w' g N Gs m p :=
  let ⟨zs, h1, h2, h3⟩ := h
  ⟨zs, h1.call hb, h2, fun j hj => let ⟨v, e, hv⟩ := h3 j hj; ⟨v, e, hv.cle (Wr.of_below hb).cle⟩⟩
theorem far (h : ZB w g N Gs m p) {g' : Nat} (hg' : g' ∈ Gs) (hne : g ≠ g') (i : Nat) (u : Value) : ZB (w.setCell ⟨g', i, none⟩ u) g N Gs m p :=
  let ⟨zs, h1, h2, h3⟩ := h
  ⟨zs, h1.far (p := ⟨g', i, none⟩) hne u, h2, fun j hj => let ⟨v, e, hv⟩ := h3 j hj; ⟨v, e, hv.cle (wr_set hg' i u).cle⟩⟩
theorem at_ (h : ZB w g N Gs m p) {j : Nat} (hj : j < N) : ∃ v, w.cell? ⟨g, j, none⟩ = some v ∧ WdF m (hx w Gs) v (p j) := by
  obtain ⟨zs, h1, h2, h3⟩ := h
  obtain ⟨v, e, hv⟩ := h3 j hj
  exact ⟨v, by rw [h1.cell]; simpa using e, hv⟩
theorem soft (h : ZB w g N Gs m p) (j : Nat) : w.frozen? ⟨g, j, none⟩ = false := let ⟨_, h1, _⟩ := h; h1.frozen j
theorem set (h : ZB w g N Gs m p) (hg : g ∈ Gs) {i : Nat} (hi : i < N) {v : Value} {f : Nat → Bool} (hv : WdF m (hx w Gs) v f) : ZB (w.setCell ⟨g, i, none⟩ v) g N Gs m (upd p i f) := by
  obtain ⟨zs, h1, h2, h3⟩ := h
  refine ⟨zs.set i v, by have := h1.set_ i v; simpa using this, by simp [h2], fun j hj => ?_⟩
  by_cases e : j = i
  · subst e
    exact ⟨v, by rw [List.getElem?_set_self (by omega)], by rw [upd_same]; exact hv.cle (wr_set hg j v).cle⟩
  · obtain ⟨y, h4, h5⟩ := h3 j hj
    exact ⟨y, by rw [List.getElem?_set_ne (by omega)]; exact h4, by rw [upd_ne e]; exact h5.cle (wr_set hg i v).cle⟩
theorem same {q : Nat → Nat → Bool} (h : ZB w g N Gs m p) (e : ∀ j, j < N → ∀ x, x < 2 ^ m → p j x = q j x) : ZB w g N Gs m q :=
  let ⟨zs, h1, h2, h3⟩ := h
  ⟨zs, h1, h2, fun j hj => let ⟨v, e1, hv⟩ := h3 j hj; ⟨v, e1, hv.same (e j hj)⟩⟩
end ZB
/-- A table of M functions; the first k are told as functions are told, by p. -/
def ZP (w : World) (g M k : Nat) (Gs : List Nat) (m : Nat) (p : Nat → Nat → Bool) : Prop := ∃ zs : List Value, Blk w g 49 zs.toArray ∧ zs.length = M ∧ ∀ j, j < k → ∃ v, zs[j]? = some v ∧ WdG m (hx w Gs) v (p j)
/-- A table of N functions, all of them told as functions are told. -/
abbrev ZF (w : World) (g N : Nat) (Gs : List Nat) (m : Nat) (p : Nat → Nat → Bool) : Prop := ZP w g N N Gs m p
namespace ZP
variable {w w' : World} {g M k m : Nat} {Gs : List Nat} {p : Nat → Nat → Bool}
theorem lt (h : ZP w g M k Gs m p) : g < w.heap.size := let ⟨_, h1, _⟩ := h; h1.lt
theorem call (h : ZP w g M k Gs m p) (hb : Below w.heap.size w w') : ZP w' g M k Gs m p :=
  let ⟨zs, h1, h2, h3⟩ := h
  ⟨zs, h1.call hb, h2, fun j hj => let ⟨v, e, hv⟩ := h3 j hj; ⟨v, e, hv.cle (Wr.of_below hb).cle⟩⟩
theorem at_ (h : ZP w g M k Gs m p) {j : Nat} (hj : j < k) : ∃ v, w.cell? ⟨g, j, none⟩ = some v ∧ WdF m (hx w Gs) v (p j) := by
  obtain ⟨zs, h1, h2, h3⟩ := h
  obtain ⟨v, e, hv⟩ := h3 j hj
  exact ⟨v, by rw [h1.cell]; simpa using e, hv.wd⟩
theorem any (h : ZP w g M k Gs m p) {j : Nat} (hj : j < M) : ∃ v, w.cell? ⟨g, j, none⟩ = some v := by
  obtain ⟨zs, h1, h2, h3⟩ := h
  exact ⟨zs[j], by rw [h1.cell]; simp [h2, hj]⟩
theorem soft (h : ZP w g M k Gs m p) (j : Nat) : w.frozen? ⟨g, j, none⟩ = false := let ⟨_, h1, _⟩ := h; h1.frozen j
theorem put (h : ZP w g M k Gs m p) (hg : g ∈ Gs) {i k' : Nat} (hi : i < M) (hk : k' ≤ k ∨ (k' = k + 1 ∧ i = k)) {v : Value} {f : Nat → Bool} (hv : WdG m (hx w Gs) v f) : ZP (w.setCell ⟨g, i, none⟩ v) g M k' Gs m (upd p i f) := by
  obtain ⟨zs, h1, h2, h3⟩ := h
  refine ⟨zs.set i v, by have := h1.set_ i v; simpa using this, by simp [h2], fun j hj => ?_⟩
  by_cases e : j = i
  · subst e
    exact ⟨v, by rw [List.getElem?_set_self (by omega)], by rw [upd_same]; exact hv.cle (wr_set hg j v).cle⟩
  · obtain ⟨y, h4, h5⟩ := h3 j (by omega)
    exact ⟨y, by rw [List.getElem?_set_ne (by omega)]; exact h4, by rw [upd_ne e]; exact h5.cle (wr_set hg i v).cle⟩
theorem set (h : ZP w g M k Gs m p) (hg : g ∈ Gs) {i : Nat} (hi : i < M) {v : Value} {f : Nat → Bool} (hv : WdG m (hx w Gs) v f) : ZP (w.setCell ⟨g, i, none⟩ v) g M k Gs m (upd p i f) := h.put hg hi (.inl (Nat.le_refl _)) hv
theorem same {q : Nat → Nat → Bool} (h : ZP w g M k Gs m p) (e : ∀ j, j < k → ∀ x, x < 2 ^ m → p j x = q j x) : ZP w g M k Gs m q :=
  let ⟨zs, h1, h2, h3⟩ := h
  ⟨zs, h1, h2, fun j hj => let ⟨v, e1, hv⟩ := h3 j hj; ⟨v, e1, hv.same (e j hj)⟩⟩
end ZP
namespace FB
variable {w w' : World} {g N m : Nat} {Gs : List Nat} {L : Nat → Fst}
theorem lt (h : FB w g N Gs m L) : g < w.heap.size := let ⟨_, h1, _⟩ := h; h1.lt
theorem call (h : FB w g N Gs m L) (hb : Below w.heap.size w w') : FB w' g N Gs m L :=
  let ⟨zs, h1, h2, h3⟩ := h
  ⟨zs, h1.call hb, h2, fun j hj => let ⟨A, c, e, hc, hv⟩ := h3 j hj; ⟨A, c, e, hc, hv.cle (Wr.of_below hb).cle⟩⟩
theorem far (h : FB w g N Gs m L) {g' : Nat} (hg' : g' ∈ Gs) (hne : g ≠ g') (i : Nat) (u : Value) : FB (w.setCell ⟨g', i, none⟩ u) g N Gs m L :=
  let ⟨zs, h1, h2, h3⟩ := h
  ⟨zs, h1.far (p := ⟨g', i, none⟩) hne u, h2, fun j hj => let ⟨A, c, e, hc, hv⟩ := h3 j hj; ⟨A, c, e, hc, hv.cle (wr_set hg' i u).cle⟩⟩
theorem at_ (h : FB w g N Gs m L) {j : Nat} (hj : j < N) : ∃ A c, w.cell? ⟨g, j, none⟩ = some (.slice A (L j).length c) ∧ (L j).length ≤ c ∧ PlF m (hx w Gs) A (L j).length (L j) := by
  obtain ⟨zs, h1, h2, h3⟩ := h
  obtain ⟨A, c, e, hc, hv⟩ := h3 j hj
  exact ⟨A, c, by rw [h1.cell]; simpa using e, hc, hv⟩
theorem soft (h : FB w g N Gs m L) (j : Nat) : w.frozen? ⟨g, j, none⟩ = false := let ⟨_, h1, _⟩ := h; h1.frozen j
theorem set (h : FB w g N Gs m L) (hg : g ∈ Gs) {i : Nat} (hi : i < N) {A : Option Addr} {c : Nat} {l : Fst} (hc : l.length ≤ c) (hv : PlF m (hx w Gs) A l.length l) : FB (w.setCell ⟨g, i, none⟩ (.slice A l.length c)) g N Gs m (upd L i l) := by
  obtain ⟨zs, h1, h2, h3⟩ := h
  refine ⟨zs.set i (.slice A l.length c), by have := h1.set_ i (.slice A l.length c); simpa using this, by simp [h2], fun j hj => ?_⟩
  by_cases e : j = i
  · subst e
    exact ⟨A, c, by rw [List.getElem?_set_self (by omega), upd_same], by rw [upd_same]; exact hc, by rw [upd_same]; exact hv.cle (wr_set hg j _).cle⟩
  · obtain ⟨A', c', h4, hc', h5⟩ := h3 j hj
    exact ⟨A', c', by rw [List.getElem?_set_ne (by omega), upd_ne e]; exact h4, by rw [upd_ne e]; exact hc', by rw [upd_ne e]; exact h5.cle (wr_set hg i _).cle⟩
end FB
/-- A plan in block gp. -/
def PlanB (w : World) (gp m : Nat) (Al : Option Addr) (N cl : Nat) (As : Option Addr) (ns cs gu gz gf : Nat) : Prop :=
  Blk w gp 110 #[.int .i64 (m : Nat), .slice Al N cl, .slice As ns cs, .slice (some ⟨gu, 0, none⟩) N N, .slice (some ⟨gz, 0, none⟩) N N, .slice (some ⟨gf, 0, none⟩) N N]
theorem PlanB.cells {w : World} {gp m : Nat} {Al As : Option Addr} {N cl ns cs gu gz gf : Nat} (h : PlanB w gp m Al N cl As ns cs gu gz gf) :
    w.cell? ⟨gp, 0, none⟩ = some (.int .i64 (m : Nat)) ∧ w.cell? ⟨gp, 1, none⟩ = some (.slice Al N cl) ∧ w.cell? ⟨gp, 2, none⟩ = some (.slice As ns cs) ∧ w.cell? ⟨gp, 3, none⟩ = some (.slice (some ⟨gu, 0, none⟩) N N) ∧ w.cell? ⟨gp, 4, none⟩ = some (.slice (some ⟨gz, 0, none⟩) N N) ∧ w.cell? ⟨gp, 5, none⟩ = some (.slice (some ⟨gf, 0, none⟩) N N) := by
  unfold PlanB at h
  refine ⟨?_, ?_, ?_, ?_, ?_, ?_⟩ <;> rw [h.cell] <;> rfl
theorem PlanB.hx0 {w : World} {gp m : Nat} {Al As : Option Addr} {N cl ns cs gu gz gf : Nat} (h : PlanB w gp m Al N cl As ns cs gu gz gf) {Gs : List Nat} (hg : gp ∉ Gs) : (hx w Gs).cell ⟨gp, 0, none⟩ = some (.int .i64 (m : Nat)) := by
  unfold PlanB at h
  unfold Fz.cell
  rw [hx_out (by simpa using hg), h]
  rfl
/-- What fill leaves of node i. -/
def FillR (w : World) (gz gf N : Nat) (Gs : List Nat) (m : Nat) (p : Nat → Nat → Bool) (L : Nat → Fst) (i : Nat) (f : Nat → Bool) (l : Fst) (e : Ending) (w' : World) : Prop :=
  e = .returned (.tuple #[]) ∧ ZB w' gz N Gs m (upd p i f) ∧ FB w' gf N Gs m (upd L i l) ∧ Wr [gz, gf] w w'
set_option maxRecDepth 100000 in
set_option maxHeartbeats 4000000 in
theorem fill_alt {w : World} (m : Nat) (hm : m ≤ 10) (gp : Nat) (Al As : Option Addr) (N cl ns cs gu gz gf : Nat) (hP : PlanB w gp m Al N cl As ns cs gu gz gf) (Gs : List Nat) (hgz : gz ∈ Gs) (hgf : gf ∈ Gs) (hgp : gp ∉ Gs) (hne : gz ≠ gf) (hGl : ∀ g, g ∈ Gs → g < w.heap.size)
    (p : Nat → Nat → Bool) (L : Nat → Fst) (hZ : ZB w gz N Gs m p) (hFB : FB w gf N Gs m L) (hLn : ∀ j, (L j).length ≤ 1000) (i a b : Nat) (hi : i < N) (ha : a < N) (hb : b < N) (hai : a ≠ i) (hbi : b ≠ i) (hN : N ≤ 1000)
    (name : ByteArray) (lo hi' : Int) (Ak : Option Addr) (ck : Nat) (hK : Rd (hx w Gs) 1 Ak 2 [.int .i64 (a : Nat), .int .i64 (b : Nat)]) :
    Calls Try.prog 71 #[.pointer (some ⟨gp, 0, none⟩), .int .i64 (i : Nat), .agg #[.int .i64 20, .string name, .int .i64 lo, .int .i64 hi', .slice Ak 2 ck]] w
      (FillR w gz gf N Gs m p L i (fun x => or (p a x) (p b x)) (cutL (L a) (fun _ => true) ++ L b)) := by
  obtain ⟨ak, v, rfl, hv0, hk0⟩ := hK.at1 (k := 0) (by omega)
  obtain rfl : Value.int .i64 (a : Nat) = v := by simpa using hv0
  rw [show ak.add 0 = ak by unfold Addr.add; simp] at hk0
  obtain ⟨ak', v', e', hv1, hk1⟩ := hK.at1 (k := 1) (by omega)
  injection e' with e'
  subst e'
  obtain rfl : Value.int .i64 (b : Nat) = v' := by simpa using hv1
  have hb0 := balloc w (.cells #[.int .i64 20, .string name, .int .i64 lo, .int .i64 hi', .slice (some ak) 2 ck] 48)
  have hkn := Blk.new w 48 #[.int .i64 20, .string name, .int .i64 lo, .int .i64 hi', .slice (some ak) 2 ck]
  have hP0 : PlanB (w.alloc (.cells #[.int .i64 20, .string name, .int .i64 lo, .int .i64 hi', .slice (some ak) 2 ck] 48)) gp m Al N cl As ns cs gu gz gf := Blk.call hP hb0
  obtain ⟨p0, p1, p2, p3, p4, p5⟩ := hP0.cells
  have HY := Lib.hid (fun (X : World) => q_yes hm (w := X))
  clear hv0 hv1
  go_enter Try.func71, Try.ntmps71
  go_wp2_with fail
  refine (HY.out _).mono ?_
  rintro e w1 hr1
  obtain ⟨Vy, rfl, hw1, hWy⟩ := RetQ.hx hr1 (Gs := Gs) (fun g hg => by have := hGl g hg; simp; omega)
  obtain ⟨Ay, ny, cy, fy, ey, hh⟩ := id hWy
  subst ey
  have hb1 := bthen hb0 hw1
  have hP1 : PlanB w1 gp m Al N cl As ns cs gu gz gf := Blk.call hP0 hw1
  have hZ1 := (hZ.call hb0).call hw1
  have hF1 := (hFB.call hb0).call hw1
  have hx1 := (Wr.of_below (Gs := Gs) hb1).cle
  have y0 := (sat_hx w1 Gs).cell (hx1 _ _ hk0)
  have y1 : w1.cell? ⟨ak.block, ak.off + 1, none⟩ = some (.int .i64 (b : Nat)) := (sat_hx w1 Gs).cell (hx1 _ _ hk1)
  obtain ⟨m0, m1, m2, m3, m4⟩ := blk5 (hkn.call hw1)
  have hGl1 : ∀ g, g ∈ Gs → g < w1.heap.size := fun g hg => Nat.lt_of_lt_of_le (hGl g hg) hb1.size
  have HWY := Lib.hid hWy
  have HGl1 := Lib.hid hGl1
  have HB1 := Lib.hid hb1
  clear hh hr1 hP0 hP hZ hFB hK hk0 hk1 hkn hb0 hw1 hx1 p0 p1 p2 p3 p4 p5 hGl hGl1 hWy hb1
  go_wp2_with fail
  go_quiet (fail)
  obtain ⟨w2, hw2⟩ : ∃ w2, w1.drewN nq = w2 := ⟨_, rfl⟩
  have hb12 : Below w1.heap.size w1 w2 := hw2 ▸ below_drewN (Below.refl _ _) nq
  rw [hw2]
  have hP2 : PlanB w2 gp m Al N cl As ns cs gu gz gf := Blk.call hP1 hb12
  have hZ2 := hZ1.call hb12
  have hF2 := hF1.call hb12
  have hWY2 := HWY.out.cle (Wr.of_below hb12).cle
  have hGl2 : ∀ g, g ∈ Gs → g < w2.heap.size := fun g hg => Nat.lt_of_lt_of_le (HGl1.out g hg) hb12.size
  have hB2 := bthen HB1.out hb12
  clear hw2 hb12 hP1 hZ1 hF1 m0 m1 m2 m3 m4 y0 y1 HWY HGl1 HB1
  obtain ⟨p0, p1, p2, p3, p4, p5⟩ := hP2.cells
  obtain ⟨va, za, hva⟩ := hZ2.at_ ha
  obtain ⟨Aa, na, ca, fa, ea, hh⟩ := id hva
  subst ea
  clear hh
  obtain ⟨vb, zb, hvb⟩ := hZ2.at_ hb
  obtain ⟨Ab, nb, cb, fb, eb, hh⟩ := id hvb
  subst eb
  clear hh
  have hgpl := Blk.lt hP2
  have hgzl := hZ2.lt
  have hgfl := hF2.lt
  have hgpz : gz ≠ gp := fun e => hgp (e ▸ hgz)
  have hgpf : gf ≠ gp := fun e => hgp (e ▸ hgf)
  have haI : (a : Int) < (N : Int) := by omega
  have hbI : (b : Int) < (N : Int) := by omega
  have hiI : (i : Int) < (N : Int) := by omega
  have n0 : (⟨gz, i, none⟩ : Addr) ≠ ⟨gp, 0, none⟩ := addr_b hgpz
  have n1 : (⟨gz, i, none⟩ : Addr) ≠ ⟨gp, 4, none⟩ := addr_b hgpz
  have n2 : (⟨gz, i, none⟩ : Addr) ≠ ⟨gz, a, none⟩ := addr_o (Ne.symm hai)
  have n3 : (⟨gz, i, none⟩ : Addr) ≠ ⟨gz, b, none⟩ := addr_o (Ne.symm hbi)
  have HOr := Lib.hid (fun (X : World) (hb : Below w2.heap.size w2 X) => q_or hm (w := X) (hva.heap ((sat_hx w2 Gs).below hb)) (hvb.heap ((sat_hx w2 Gs).below hb)))
  have HP2 := Lib.hid hP2
  have HZ2 := Lib.hid hZ2
  have HF2 := Lib.hid hF2
  have HG2 := Lib.hid hGl2
  have HWY2 := Lib.hid hWY2
  have HB2 := Lib.hid hB2
  have HN := Lib.hid (And.intro hgpz (And.intro hgpf hne))
  have hai' : a ≠ i := hai
  have hbi' : b ≠ i := hbi
  clear hP2 hZ2 hF2 hGl2 hWY2 hB2 hva hvb p1 p2 p3 p5 hgpz hgpf hne hai hbi
  go_wp2_with fail
  go_region_held3 (fun w' => w'.cell? ⟨gp, 0, none⟩ = some (.int .i64 (m : Nat)) ∧ w'.cell? ⟨gp, 4, none⟩ = some (.slice (some ⟨gz, 0, none⟩) N N) ∧ w'.cell? ⟨gz, a, none⟩ = some (.slice Aa na ca) ∧ w'.cell? ⟨gz, b, none⟩ = some (.slice Ab nb cb)) (first | go_keep | exact ⟨cellNe n0 s0, cellNe n1 s1, cellNe n2 s2, cellNe n3 s3⟩)
    (first
      | (go_at_call 22; refine (HOr.out _ (below_drewN (Below.refl _ _) 1)).mono ?_; rintro e w3 hr3; refine (fun hr => ?_) (RetQ.hx hr3 (Gs := Gs) HG2.out); obtain ⟨V3, rfl, hw3, hW3⟩ := hr; have hb3 : Below w2.heap.size w2 w3 := undr hw3; obtain ⟨A3, n3', c3, f3, e3, hh⟩ := id hW3; subst e3; have s0 := (hb3.cell (p := ⟨gp, 0, none⟩) hgpl).trans p0; have s1 := (hb3.cell (p := ⟨gp, 4, none⟩) hgpl).trans p4; have s2 := (hb3.cell (p := ⟨gz, a, none⟩) hgzl).trans za; have s3 := (hb3.cell (p := ⟨gz, b, none⟩) hgzl).trans zb; have hZ3 := HZ2.out.call hb3; refine (fun hz => ?_) (hZ3.at_ hi); obtain ⟨vi, zi, _⟩ := hz; have zs := hZ3.soft i; have HW3 := Lib.hid hW3; clear hh hW3 hr3 hw3))
  obtain ⟨hgpz, hgpf, hne⟩ := HN.out
  have hP4 : PlanB (w3.setCell ⟨gz, i, none⟩ (.slice A3 n3' c3)) gp m Al N cl As ns cs gu gz gf := Blk.far (Blk.call HP2.out hb3) (p := ⟨gz, i, none⟩) (Ne.symm hgpz) _
  have hZ4 := hZ3.set hgz hi HW3.out
  have hF4 := (HF2.out.call hb3).far hgz (Ne.symm hne) i (.slice A3 n3' c3)
  have hWY4 := (HWY2.out.cle (Wr.of_below hb3).cle).cle (wr_set hgz i (.slice A3 n3' c3)).cle
  have hwr4 : Wr [gz, gf] w (w3.setCell ⟨gz, i, none⟩ (.slice A3 n3' c3)) := (((Wr.of_below HB2.out).call hb3).set (by simp) i _)
  have hG4 : ∀ g, g ∈ Gs → g < (w3.setCell ⟨gz, i, none⟩ (.slice A3 n3' c3)).heap.size := fun g hg => Nat.lt_of_lt_of_le (HG2.out g hg) (by simpa using hb3.size)
  obtain ⟨w4, hw4⟩ : ∃ w4, w3.setCell ⟨gz, i, none⟩ (.slice A3 n3' c3) = w4 := ⟨_, rfl⟩
  rw [hw4] at hP4 hZ4 hF4 hWY4 hwr4 hG4 ⊢
  clear hw4 s0 s1 s2 s3 zi zs p0 p4 za zb n0 n1 n2 n3 hZ3 hb3 HW3 HP2 HZ2 HF2 HG2 HWY2 HB2 HOr HN HY hgzl hgpl hgfl
  obtain ⟨p0, p1, p2, p3, p4, p5⟩ := hP4.cells
  obtain ⟨La, lca, za, hca, hpa⟩ := hF4.at_ ha
  obtain ⟨Lb, lcb, zb, hcb, hpb⟩ := hF4.at_ hb
  obtain ⟨Li, lci, zi, _, _⟩ := hF4.at_ hi
  have hgpl := Blk.lt hP4
  have hgfl := hF4.lt
  have n0 : (⟨gf, i, none⟩ : Addr) ≠ ⟨gp, 5, none⟩ := addr_b hgpf
  have n1 : (⟨gf, i, none⟩ : Addr) ≠ ⟨gf, a, none⟩ := addr_o (fun e => hai' e.symm)
  have n2 : (⟨gf, i, none⟩ : Addr) ≠ ⟨gf, b, none⟩ := addr_o (fun e => hbi' e.symm)
  have HWi := Lib.hid (within_w (w := w4.drew) (F := hx w4 Gs) (sat_hx w4 Gs) m hm gp (hP4.hx0 hgp) La _ lca (L a) hpa (hLn a) (.slice Ay ny cy) (fun _ => true) hWY4)
  have hlen : (cutL (L a) fun _ => true).length + (L b).length ≤ 1000000 := by rw [length_cutL]; have := hLn a; have := hLn b; omega
  have HZ4 := Lib.hid hZ4
  have HF4 := Lib.hid hF4
  have HWR := Lib.hid hwr4
  have HG4 := Lib.hid hG4
  have HPB := Lib.hid hpb
  obtain ⟨na', hna⟩ : ∃ n', (L a).length = n' := ⟨_, rfl⟩
  obtain ⟨nb', hnb⟩ : ∃ n', (L b).length = n' := ⟨_, rfl⟩
  rw [hna] at HWi za hca
  rw [hnb] at HPB zb hcb hlen
  clear hP4 hZ4 hF4 hwr4 hG4 hpa hpb hWY4 p0 p1 p2 p3 p4 hna hnb hai' hbi'
  go_wp2_with fail
  go_region_held3 (fun w' => w'.cell? ⟨gp, 5, none⟩ = some (.slice (some ⟨gf, 0, none⟩) N N) ∧ w'.cell? ⟨gf, a, none⟩ = some (.slice La na' lca) ∧ w'.cell? ⟨gf, b, none⟩ = some (.slice Lb nb' lcb)) (first | exact ⟨cellNe n0 t0, cellNe n1 t1, cellNe n2 t2⟩ | (refine ⟨?_, ?_, ?_⟩ <;> go_keep))
    (first
      | (go_at_call 77; refine HWi.out.mono ?_; rintro e w5 hr5; obtain ⟨V5, F5, rfl, hO5, hF5, hw5, hle5⟩ := hr5; have hb5 : Below w4.heap.size w4 w5 := undr hw5; have s0 := (hb5.cell (p := ⟨gp, 5, none⟩) hgpl).trans p5; have s1 := (hb5.cell (p := ⟨gf, a, none⟩) hgfl).trans za; have s2 := (hb5.cell (p := ⟨gf, b, none⟩) hgfl).trans zb; have hz5 := hb5.size; have HO5 : Hid (OwnL m F5 w5 w4.heap.size V5 (cutL (L a) fun _ => true)) := Lib.hid hO5; have HL5 := Lib.hid hle5; clear hO5 hle5 hw5)
      | ((refine step_allL rfl (.tmp 67) (.tmp 74) (by rfl) (m := m) (F := F5) (B := w4.heap.size) HO5.out hF5 (by rfl) Lb nb' lcb (L b) (by rfl) (HPB.out.cle HL5.out.cle) hlen hz5 ?_; intro v6 w6 hO6 hF6 hb6 hg6 hat6; have t0 := (hb6.cell (p := ⟨gp, 5, none⟩) hgpl).trans s0; have t1 := (hb6.cell (p := ⟨gf, a, none⟩) hgfl).trans s1; have t2 := (hb6.cell (p := ⟨gf, b, none⟩) hgfl).trans s2; have t3 := (hb6.cell (p := ⟨gf, i, none⟩) hgfl).trans ((hb5.cell (p := ⟨gf, i, none⟩) hgfl).trans zi); have t4 := (HF4.out.call (hb5.trans hb6)).soft i; refine (fun hd => ?_) (hO6.doneX hF6 (Gs := Gs) (fun g hg => (HL5.out.2 g (HG4.out g hg)).trans (hx_in hg)) HG4.out); obtain ⟨A6, c6, e6, hc6, hp6⟩ := hd; subst e6)))
  have hb46 : Below w4.heap.size w4 w6 := hb5.trans hb6
  go_wp2_with fail
  go_end0
  rw [show (cutL (L a) fun _ => true).length + (L b).length = (cutL (L a) (fun _ => true) ++ L b).length from (List.length_append ..).symm]
  refine ⟨?_, (HZ4.out.call hb46).far hgf hne i _, (HF4.out.call hb46).set hgf hi hc6 hp6, (HWR.out.call hb46).set (by simp) i _⟩
  rfl
end Go.Proofs.Ytaomehlhopiblaa
