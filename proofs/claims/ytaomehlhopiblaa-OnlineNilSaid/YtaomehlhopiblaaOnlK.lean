/- One pass: the walk of shifted: a match's window at a point. -/
import Derived.Test.YtaomehlhopiblaaOnlJ
import Derived.Laws.EntriesVeiled
set_option linter.unusedVariables false
set_option linter.unusedSimpArgs false
/-! One pass: the walk of shifted: a match's window at a point. -/
namespace Go.Proofs.Ytaomehlhopiblaa
open Go.RowKit
attribute [local go_sem ↓] Go.wp_at_zero Go.wp_at_succ
def NoU (w : World) (g : Nat) : Prop := ∀ (i : Nat) (v : Value), w.cell? ⟨g, i, none⟩ = some v → ∀ x, v ≠ u x
theorem NoU.keep {w w' : World} {g : Nat} (h : NoU w g) (hb : w'.heap[g]? = w.heap[g]?) : NoU w' g := fun i v hc => h i v (by rw [← hc]; exact (World.cell?_of_block (a := ⟨g, i, none⟩) hb).symm)
theorem rd_out {w : World} {Gs : List Nat} {size n : Nat} {A : Option Addr} {xs : List Value} (h : Rd (heapF w) size A n xs) (hg : ∀ a, A = some a → a.block ∉ Gs) : Rd (hx w Gs) size A n xs := by
  refine ⟨h.1, fun h0 => ?_⟩
  obtain ⟨ad, e, hc⟩ := h.2 h0
  refine ⟨ad, e, fun j v hj => ?_⟩
  have := hc j v hj
  unfold Fz.cell at this ⊢
  rw [block_of_add] at this ⊢
  rw [hx_out (hg ad e)]
  exact this
/-- What reads as words lies in none of the blocks that hold none. -/
theorem wdf_avoids {m : Nat} {w : World} {v : Value} {p : Fn} (h : WdF m (heapF w) v p) : ∀ Hs : List Nat, (∀ g, g ∈ Hs → NoU w g) → WdF m (hx w Hs) v p
  | [], _ => by rw [hx_nil]; exact h
  | g :: Hs, hno => by
    obtain ⟨A, n, c, fs, e, hr, hl, hp⟩ := wdf_avoids h Hs fun b hb => hno b (List.mem_cons_of_mem _ hb)
    exact ⟨A, n, c, fs, e, rd_avoid (hno g List.mem_cons_self) hr, hl, hp⟩
theorem rwf_avoids {m n : Nat} {w : World} {A : Option Addr} {f : Nat → Fn} (h : RwF m (heapF w) A n f) {Hs : List Nat} (hno : ∀ g, g ∈ Hs → NoU w g) (hA : ∀ a, A = some a → a.block ∉ Hs) : RwF m (hx w Hs) A n f := fun q hq => by
  obtain ⟨ad, v, e, h1, h2⟩ := h q hq
  refine ⟨ad, v, e, ?_, wdf_avoids h2 Hs hno⟩
  unfold Fz.cell at h1 ⊢
  rw [block_of_add] at h1 ⊢
  rw [hx_out (hA ad e)]
  exact h1
theorem SH.set {F0 : Fz} {B m M : Nat} {Gs : List Nat} {w : World} {gout : Nat} {E : List EntW} {c g : Nat} {f : Nat → Fn} (h : SH F0 B m M Gs w gout (E ++ [(c, g, f)])) {k : Nat} {v : Value} {p : Fn} (hk : k < M + 1) (hv : WdF m (hx w Gs) v p) :
    SH F0 B m M Gs (w.setCell ⟨g, k, none⟩ v) gout (E ++ [(c, g, fun q => if q = k then p else f q)]) := by
  obtain ⟨vO, h1, h2, h3, h4, h5, h6, h7⟩ := h
  have hm : (c, g, f) ∈ E ++ [(c, g, f)] := by simp
  have hsub : ∀ e ∈ E ++ [(c, g, fun q => if q = k then p else f q)], ∃ e' ∈ E ++ [(c, g, f)], e'.2.1 = e.2.1 := fun e he => by
    rcases List.mem_append.1 he with he | he
    · exact ⟨e, List.mem_append_left _ he, rfl⟩
    · simp at he; subst he; exact ⟨_, hm, rfl⟩
  refine ⟨vO, h1.far (p := ⟨g, k, none⟩) (h6 _ hm).symm v, ?_, h3.set hk hv, h4, fun b hb => ⟨(h5 b hb).1, (h5 b hb).2.1, fun e he => ?_⟩, fun e he => ?_, fun b hb => ⟨(h7 b hb).1, by simpa using (h7 b hb).2⟩⟩
  · rw [← outP_last M E c g f, show (E ++ [(c, g, fun q => if q = k then p else f q)]).length = (E ++ [(c, g, f)]).length by simp]
    exact h2.setFar (a := ⟨g, k, none⟩) (fun e => (h5 _ e).2.2 _ hm rfl) v
  · obtain ⟨e', he', e2⟩ := hsub e he; rw [← e2]; exact (h5 b hb).2.2 e' he'
  · obtain ⟨e', he', e2⟩ := hsub e he; rw [← e2]; exact h6 e' he'
theorem SH.congr {F0 : Fz} {B m M : Nat} {Gs : List Nat} {w : World} {gout : Nat} {E : List EntW} {c g : Nat} {f f' : Nat → Fn} (h : SH F0 B m M Gs w gout (E ++ [(c, g, f)])) (e : ∀ q, q < M + 1 → f q = f' q) : SH F0 B m M Gs w gout (E ++ [(c, g, f')]) := by
  obtain ⟨vO, h1, h2, h3, h4, h5, h6, h7⟩ := h
  have hm : (c, g, f) ∈ E ++ [(c, g, f)] := by simp
  have hsub : ∀ e ∈ E ++ [(c, g, f')], ∃ e' ∈ E ++ [(c, g, f)], e'.2.1 = e.2.1 := fun e he => by
    rcases List.mem_append.1 he with he | he
    · exact ⟨e, List.mem_append_left _ he, rfl⟩
    · simp at he; subst he; exact ⟨_, hm, rfl⟩
  refine ⟨vO, h1, ?_, h3.congr e, h4, fun b hb => ⟨(h5 b hb).1, (h5 b hb).2.1, fun e he => ?_⟩, fun e he => ?_, h7⟩
  · rw [← outP_last M E c g f, show (E ++ [(c, g, f')]).length = (E ++ [(c, g, f)]).length by simp]
    exact h2
  · obtain ⟨e', he', e2⟩ := hsub e he; rw [← e2]; exact (h5 b hb).2.2 e' he'
  · obtain ⟨e', he', e2⟩ := hsub e he; rw [← e2]; exact h6 e' he'
theorem SH.first {F0 : Fz} {B m M : Nat} {Gs : List Nat} {w : World} {gout : Nat} {E : List EntW} {c g : Nat} {f : Nat → Fn} (h : SH F0 B m M Gs w gout ((c, g, f) :: E)) {k : Nat} {v : Value} {p : Fn} (hk : k < M + 1) (hv : WdF m (hx w Gs) v p) :
    SH F0 B m M Gs (w.setCell ⟨g, k, none⟩ v) gout ((c, g, fun q => if q = k then p else f q) :: E) := by
  obtain ⟨vO, h1, h2, h3, h4, h5, h6, h7⟩ := h
  have hm : (c, g, f) ∈ (c, g, f) :: E := by simp
  have hsub : ∀ e ∈ (c, g, fun q => if q = k then p else f q) :: E, ∃ e' ∈ (c, g, f) :: E, e'.2.1 = e.2.1 := fun e he => by
    rcases List.mem_cons.1 he with rfl | he
    · exact ⟨_, hm, rfl⟩
    · exact ⟨e, List.mem_cons_of_mem _ he, rfl⟩
  refine ⟨vO, h1.far (p := ⟨g, k, none⟩) (h6 _ hm).symm v, ?_, h3.first hk hv, h4, fun b hb => ⟨(h5 b hb).1, (h5 b hb).2.1, fun e he => ?_⟩, fun e he => ?_, fun b hb => ⟨(h7 b hb).1, by simpa using (h7 b hb).2⟩⟩
  · exact h2.setFar (a := ⟨g, k, none⟩) (fun e => (h5 _ e).2.2 _ hm rfl) v
  · obtain ⟨e', he', e2⟩ := hsub e he; rw [← e2]; exact (h5 b hb).2.2 e' he'
  · obtain ⟨e', he', e2⟩ := hsub e he; rw [← e2]; exact h6 e' he'
theorem SH.new {F0 : Fz} {w : World} (hF0 : Sat F0 w) (B m M : Nat) (hB : B ≤ w.heap.size) : SH F0 B m M [w.heap.size] (w.alloc (.cells #[.slice none 0 0] 57)) w.heap.size [] :=
  ⟨_, Blk.new _ _ _, Own.nil _ _ _ _ _, ⟨by simp, fun e he => (by cases he)⟩, by simp, fun g hg => (by cases hg), fun e he => (by cases he), fun g hg => (by simp at hg; subst hg; exact ⟨hB, by simp⟩)⟩
/-- What is written has been made since, or is the one variable. -/
theorem Wr.narrow {g : Nat} {Gs : List Nat} {a w w' : World} (h : Wr [g] a w) (k : Wr Gs w w') (hG : ∀ b, b ∈ Gs → b = g ∨ a.heap.size ≤ b) : Wr [g] a w' :=
  ⟨k.os.trans h.os, k.tape.trans h.tape, k.output.trans h.output, Nat.le_trans h.size k.size, fun b hb hg => (k.block b (Nat.lt_of_lt_of_le hb h.size) (fun e => by rcases hG b e with e | e; exact hg (by simp [e]); omega)).trans (h.block b hb hg)⟩
theorem retAt_nil {F0 : Fz} {B m M : Nat} {Gs : List Nat} {w w' : World} {gout c : Nat} {e : Ending} (h : RetAt F0 B m M Gs w gout [] c e w') :
    ∃ (g : Nat) (E : List EntW) (Gs' : List Nat), e = .returned (.slice (some ⟨g, 0, none⟩) (M + 1) (M + 1)) ∧ SH F0 B m M Gs' w' gout E ∧ outW E = [(c, fun _ => noFn)] ∧ Wr Gs w w' ∧ ∀ b, b ∈ Gs' → b ∈ Gs ∨ w.heap.size ≤ b := by
  obtain ⟨E', g, f, Gs', h1, h2, h3, _, _, h6, h7⟩ := h
  rcases h7 with h7 | ⟨h7, hf, _⟩
  · have := congrArg List.length h7
    simp at this
  · subst h7
    exact ⟨g, _, Gs', h1, h2, by rw [hf]; rfl, h3, h6⟩
theorem laterV_zero {h : Nd} {c d : Nat} : laterV h c d = 0 ↔ laterC h c d = some 0 := by
  unfold laterV
  cases laterC h c d with
  | none => simp
  | some x =>
    simp
theorem len_outW (E : List EntW) : (outW E).length = E.length := by simp [outW]
theorem len_start (h : Nd) (d : Nat) (W : Win) : (startW h d W).length ≤ 1 := by
  cases W with
  | nil => exact Nat.le_refl _
  | cons b r => show (if laterC h b.1 d = some 0 then [] else [(0, fun _ => noFn)] : Win).length ≤ 1; split <;> simp
theorem SH.lt {F0 : Fz} {B m M : Nat} {Gs : List Nat} {w : World} {gout : Nat} {E : List EntW} (h : SH F0 B m M Gs w gout E) : ∀ g, g ∈ Gs → g < w.heap.size := let ⟨_, _, _, _, _, _, _, h7⟩ := h; fun g hg => (h7 g hg).2
theorem SH.row {F0 : Fz} {B m M : Nat} {Gs : List Nat} {w : World} {gout : Nat} {E : List EntW} (h : SH F0 B m M Gs w gout E) {e : EntW} (he : e ∈ E) : e.2.1 ∈ Gs ∧ e.2.1 ≠ gout ∧ RowA m (M + 1) Gs 49 w e.2.1 e.2.2 := let ⟨_, _, _, h3, _, _, h6, _⟩ := h; ⟨(h3.2 e he).1, h6 e he, (h3.2 e he).2⟩
/-- What `at` gives, and what is then laid over it. -/
theorem retAt_add {E E' : List EntW} {c g : Nat} {f : Nat → Fn} (h : E = E' ++ [(c, g, f)] ∨ (E = E' ∧ (f = fun _ => noFn) ∧ ∀ e, E.getLast? = some e → e.1 ≠ c)) (k : Nat → Fn) : outW (E' ++ [(c, g, fun q x => f q x || k q x)]) = addW (outW E) c k := by
  rcases h with h | ⟨h, hf, hl⟩
  · rw [h]; exact at_last k
  · subst h
    exact at_add hl g k _ fun q x => by rw [hf]; show (false || k q x) = _; rw [Bool.false_or]
/-- A window in the making is made. -/
theorem SH.done {F0 : Fz} {B m M : Nat} {Gs : List Nat} {w : World} {gout : Nat} {E : List EntW} (h : SH F0 B m M Gs w gout E) : ∃ A c, w.cell? ⟨gout, 0, none⟩ = some (.slice A E.length c) ∧ E.length ≤ c ∧ ∀ Xs : List Nat, (∀ g, g ∈ Xs → NoU w g ∧ g < B) → BkF m (hx w Xs) M A E.length (outW E) := by
  obtain ⟨vO, h1, h2, h3, _, h5, _, h7⟩ := h
  obtain ⟨A, c, rfl, hc, hr⟩ := h2.rdH
  refine ⟨A, c, (blk1 h1).1, hc, fun Xs hX => ⟨len_outW E, outP M E, rd_out hr fun a ha hb => ?_, ?_⟩⟩
  · subst ha
    have h8 := (h7 _ (h5 a.block rfl).1).1
    have h9 := (hX _ hb).2
    omega
  · refine ⟨by simp [outP, outW], fun j b hj => ?_⟩
    unfold outW at hj
    rw [List.getElem?_map] at hj
    obtain ⟨e, he, rfl⟩ := Option.map_eq_some_iff.1 hj
    have hm := List.mem_of_getElem? he
    refine ⟨_, by unfold outP; rw [List.getElem?_map, he]; rfl, e.2.1, M + 1, rfl, rwf_avoids (h3.2 e hm).2.rwf (fun g hg => (hX g hg).1) fun a ha hb => ?_⟩
    injection ha with ha
    subst ha
    have h8 := (h7 _ (h3.2 e hm).1).1
    have h9 : e.2.1 < B := (hX _ hb).2
    omega
/-- What shifted leaves. -/
def RetSf (m M : Nat) (w : World) (V : Win) (e : Ending) (w' : World) : Prop := ∃ A n c, e = .returned (.slice A n c) ∧ n ≤ c ∧ Below w.heap.size w w' ∧ ∀ Xs : List Nat, (∀ g, g ∈ Xs → NoU w' g ∧ g < w.heap.size) → BkF m (hx w' Xs) M A n V
set_option maxRecDepth 100000 in
set_option maxHeartbeats 4000000 in
theorem oshift_w {F : Fz} {w : World} (hF : Sat F w) (m : Nat) (hm : m ≤ 10) (N gt go gx gw ga gr : Nat) (Al : Option Addr) (cl d : Nat) (hN : N ≤ 1000) (hd : d < 18446744073709551616) (hT : TuF F m N gt go gx gw ga gr Al cl d)
    {t : Tr} (hX : RxF F t gx) (i : Nat) (hi : i < t.size) (hiN : i < N) {h : Nd} {a : Tr} (hxs : t.sub i = .un h a) (h16 : h.kind = 16) (hs : spanS h.lo h.hi = true) (has : a.size ≤ 1000)
    (W0 : Win) (Aw : Option Addr) (nw cw : Nat) (hwc : F.cell ⟨gw, i, none⟩ = some (.slice Aw nw cw)) (hW : BkF m F (stepsN a) Aw nw W0) (hWl : W0.length ≤ 90000) (hWc : ∀ b ∈ W0, b.1 ≤ 10000)
    (ah : List Fn) (hah : ah.length ≤ m) (hA : RwF m F (some ⟨ga, 0, none⟩) m fun q => ah.getD q noFn) :
    Calls Try.prog 40 #[.pointer (some ⟨gt, 0, none⟩), .int .i64 (i : Nat), .agg #[.int .i64 h.lo, .int .i64 h.hi]] w (RetSf m (stepsN a) w (shiftW h d ah W0)) := by
  obtain ⟨Ar, cr, Ap, np, cp, x0, x1, x2, x3, x4, x5, x6, x7⟩ := hX i h a hi hxs (.inl h16)
  have hsN := stepsN_le a
  obtain ⟨W, hWe⟩ : ∃ W, W = w.alloc (.cells #[.int .i64 h.lo, .int .i64 h.hi] 46) := ⟨_, rfl⟩
  have HB0 := Lib.hid (show Blk W w.heap.size 46 #[.int .i64 h.lo, .int .i64 h.hi] by rw [hWe]; exact Blk.new _ _ _)
  have hbW : Below w.heap.size w W := by rw [hWe]; exact balloc _ _
  have HF1 := Lib.hid (hF.below hbW)
  have HWe := Lib.hid hWe
  obtain ⟨R, hR⟩ : ∃ R, a.size = R := ⟨_, rfl⟩
  rw [hR] at x0 x1 has hsN
  obtain ⟨M, hM⟩ : ∃ M, stepsN a = M := ⟨_, rfl⟩
  rw [hM] at x3 hW hsN ⊢
  have hlW : w.heap.size < W.heap.size := HB0.out.lt
  have y0 := HF1.out.cell hT.o
  have y1 := HF1.out.cell hT.n
  have y2 := HF1.out.cell hT.rx
  have y3 := HF1.out.cell x0
  have y4 := HF1.out.cell x3
  have y5 := HF1.out.cell x4
  have lt_ : gt < W.heap.size := HF1.out.clt hT.o
  have lo_ : go < W.heap.size := HF1.out.clt hT.n
  have lx_ : gx < W.heap.size := HF1.out.clt x0
  have hiI : (i : Int) < (N : Int) := by omega
  have HTT := Lib.hid (show F.cell ⟨gt, 0, none⟩ = some (.pointer (some ⟨go, 0, none⟩)) ∧ F.cell ⟨gt, 1, none⟩ = some (.int .u64 (d : Nat)) ∧ F.cell ⟨gt, 4, none⟩ = some (.slice (some ⟨ga, 0, none⟩) m m) ∧ F.cell ⟨go, 3, none⟩ = some (.slice (some ⟨gw, 0, none⟩) N N) from ⟨hT.o, hT.d, hT.ahead, hT.wn⟩)
  have HWC := Lib.hid hwc
  have HWB := Lib.hid hW
  have HAH := Lib.hid hA
  have HBW := Lib.hid hbW
  have hWn : W0.length = nw := hW.1
  have HWL := Lib.hid hWn
  rw [hWn] at hWl
  have HWM := Lib.hid hWc
  have HFF := Lib.hid hF
  obtain ⟨VZ, hVZ⟩ : ∃ VZ, shiftW h d ah W0 = VZ := ⟨_, rfl⟩
  have HVZ := Lib.hid hVZ
  rw [hVZ]
  clear hT x0 x1 x2 x3 x4 x5 x6 x7 hX hwc hW hA hF hWe hbW hWn hWc hVZ hR hM hxs
  go_enter Try.func40, Try.ntmps40
  go_wp2_with fail
  rw [← HWe.out]
  go_cut [7, 8] from 18 to 34 (fun v7 v8 wx => ∃ g8 : Nat, v7 = .int .i64 (m : Nat) ∧ v8 = .pointer (some ⟨g8, 0, none⟩) ∧ W.heap.size ≤ g8 ∧ Below W.heap.size W wx ∧ Blk wx g8 80 #[.slice Ar R cr, .int .i64 (M : Nat), .slice Ap np cp])
  case first =>
    have hb0 : Below W.heap.size W W.drew := bel_eqv (Below.refl _ W) rfl rfl rfl rfl
    refine wp_region_noPanic ?_
    refine wp_region_held_drew (S := (fun w' => w'.cell? ⟨gt, 0, none⟩ = some (.pointer (some ⟨go, 0, none⟩)) ∧ w'.cell? ⟨go, 1, none⟩ = some (.int .i64 (m : Nat)) ∧ w'.cell? ⟨go, 2, none⟩ = some (.slice (some ⟨gx, 0, none⟩) N N) ∧ w'.cell? ⟨gx, i * 3, none⟩ = some (.slice Ar R cr) ∧ w'.cell? ⟨gx, i * 3 + 1, none⟩ = some (.int .i64 (M : Nat)) ∧ w'.cell? ⟨gx, i * 3 + 2, none⟩ = some (.slice Ap np cp))) (by kernel_rfl) ?hS0 (fun hHeld => ?hR0)
    case hS0 => (try dsimp only); exact ⟨(Below.cell hb0 (p := ⟨gt, 0, none⟩) lt_).trans y0, (Below.cell hb0 (p := ⟨go, 1, none⟩) lo_).trans y1, (Below.cell hb0 (p := ⟨go, 2, none⟩) lo_).trans y2, (Below.cell hb0 (p := ⟨gx, i * 3, none⟩) lx_).trans y3, (Below.cell hb0 (p := ⟨gx, i * 3 + 1, none⟩) lx_).trans y4, (Below.cell hb0 (p := ⟨gx, i * 3 + 2, none⟩) lx_).trans y5⟩
    case hR0 =>
      refine tk 0 (h := ?_)
      try simp only [pn]
      refine tk 1 (h := ?_)
      try simp only [pn]
      refine tk 2 (h := ?_)
      try simp only [pn]
      refine tk 3 (h := ?_)
      try simp only [pn]
      refine tk 4 (h := ?_)
      try simp only [pn]
      refine tk 5 (h := ?_)
      try simp only [pn]
      refine tk 6 (h := ?_)
      try simp only [pn]
      refine tk 7 (h := ?_)
      try simp only [pn]
      refine tk 8 (h := ?_)
      try simp only [pn]
      refine tk 9 (h := ?_)
      try simp only [pn]
      refine tk 10 (h := ?_)
      try simp only [pn]
      refine tk 11 (h := ?_)
      try simp only [pn]
      refine tk 12 (h := ?_)
      try simp only [pn]
      refine tk 13 (h := ?_)
      try simp only [pn]
      refine tk 14 (h := ?_)
      try simp only [pn]
      refine tk 15 (h := ?_)
      try simp only [pn]
      refine tk 16 (h := ?_)
      try simp only [pn]
      refine wpAnyH_ready (rs := [17]) (by kernel_rfl) (by simp) ?_
      refine AllReadyH.cons (o := ?sO1) ?sA1 (fun K hK => ?sB1) ?sC1
      case sA1 => (first | (simp only [List.getElem?_toArray, List.getElem?_cons_succ, List.getElem?_cons_zero]; done) | (simp only [List.getElem?_toArray, List.getElem?_cons_succ, List.getElem?_cons_zero]; rfl))
      case sB1 =>
        go_simp
        have hbo2 : Below W.heap.size W (W.alloc (.cells #[.slice none 0 0, .int .i64 0, .slice none 0 0] 80)).drew := Below.alloc hb0 (hb0).size (.cells #[.slice none 0 0, .int .i64 0, .slice none 0 0] 80)
        have k8_2 : Blk (W.alloc (.cells #[.slice none 0 0, .int .i64 0, .slice none 0 0] 80)).drew (W.heap.size) 80 #[.slice none 0 0, .int .i64 0, .slice none 0 0] := blkNew (by simp)
        refine hK.out _ _ ?kS3 (fun hHeld => ?kR3)
        case kS3 => (try dsimp only); go_keep
        case kR3 =>
          clear hK K
          try simp only [Act.put, List.setIfInBounds_toArray, List.set_cons_zero, List.set_cons_succ]
          refine tk 18 (h := ?_)
          try simp only [pn]
          refine wpAnyH_ready (rs := [19]) (by kernel_rfl) (by simp) ?_
          refine AllReadyH.cons (o := ?sO4) ?sA4 (fun K hK => ?sB4) ?sC4
          case sA4 => (first | (simp only [List.getElem?_toArray, List.getElem?_cons_succ, List.getElem?_cons_zero]; done) | (simp only [List.getElem?_toArray, List.getElem?_cons_succ, List.getElem?_cons_zero]; rfl))
          case sB4 =>
            -- store 19
            have ng_5 : gt ≠ W.heap.size := by omega
            have no_5 : go ≠ W.heap.size := by omega
            have nx_5 : gx ≠ W.heap.size := by omega
            obtain ⟨e1_5, e2_5, e3_5, e4_5, e5_5, e6_5⟩ := blk3 k8_2
            go_simp
            refine hK.out _ _ ?kS6 (fun hHeld => ?kR6)
            case kS6 => (try dsimp only); first | go_keep
            case kR6 =>
              clear hK K
              try simp only [Act.put, List.setIfInBounds_toArray, List.set_cons_zero, List.set_cons_succ]
              refine wpAnyH_done (by kernel_rfl) ?_ _
              refine NoPanic.normal ?_
              go_wp2_with fail
              clear hHeld
              go_meet
              have hbf := Below.alloc hb0 (Below.size hb0) (.cells #[.slice Ar R cr, .int .i64 (M : Nat), .slice Ap np cp] 80)
              exact ⟨W.heap.size, rfl, rfl, Nat.le_refl _, hbf, Blk.new W _ _⟩
          case sC4 =>
            exact AllReadyH.nil
      case sC1 =>
        exact AllReadyH.nil
  case rest =>
    obtain ⟨g8, rfl, rfl, hg8, hbc, hB8⟩ := hcut
    have hFc := HF1.out.below hbc
    have hbwc : Below w.heap.size w wc := bthen HBW.out hbc
    obtain ⟨t0, t1, t4, t3⟩ := HTT.out
    have z0 := (hFc.alloc (.cells #[.slice none 0 0] 57)).cell t0
    have z3 := (hFc.alloc (.cells #[.slice none 0 0] 57)).cell t3
    have zw := (hFc.alloc (.cells #[.slice none 0 0] 57)).cell HWC.out
    obtain ⟨gout, hgo⟩ : ∃ gout, gout = wc.heap.size := ⟨_, rfl⟩
    obtain ⟨W1, hW1⟩ : ∃ W1, W1 = wc.alloc (.cells #[.slice none 0 0] 57) := ⟨_, rfl⟩
    have HW1 := Lib.hid hW1
    have HGO := Lib.hid hgo
    have hS0 : SH F w.heap.size m M [gout] W1 gout [] := by rw [hW1, hgo]; exact SH.new hFc w.heap.size m M hbwc.size
    have hFW : Sat F W1 := by rw [hW1]; exact hFc.alloc _
    have hgF : F gout = none := by rw [hgo]; exact hFc.none_ (Nat.le_refl _)
    have hb1 : Below w.heap.size w W1 := by rw [hW1]; exact bthen hbwc (balloc _ _)
    have hB81 : Blk W1 g8 80 #[.slice Ar R cr, .int .i64 (M : Nat), .slice Ap np cp] := by rw [hW1]; exact hB8.alloc _
    have hBb1 : Blk W1 w.heap.size 46 #[.int .i64 h.lo, .int .i64 h.hi] := by rw [hW1]; exact (HB0.out.call hbc).alloc _
    have hgl : gout < W1.heap.size := by rw [hW1, hgo]; simp
    have hg8n : g8 ≠ gout := by rw [hgo]; exact Nat.ne_of_lt hB8.lt
    have hgbn : w.heap.size ≠ gout := by have := hbc.size; omega
    have hgob : w.heap.size ≤ gout := by rw [hgo]; exact hbwc.size
    have HB1 := Lib.hid hb1
    have HSF : Hid (∀ X, Wr [gout] W1 X → Sat F X) := Lib.hid (fun X hX => hX.sat hFW (fun g hg => by simp at hg; rw [hg]; exact hgF))
    have HAT : Hid (∀ (X : World) (Gs : List Nat) (E : List EntW) (c : Nat), Wr [gout] W1 X → SH F w.heap.size m M Gs X gout E → (∀ b, b ∈ Gs → b = gout ∨ W1.heap.size ≤ b) → E.length ≤ 100000 → Calls Try.prog 59 #[.int .i64 (c : Nat), .pointer (some ⟨gout, 0, none⟩), .pointer (some ⟨g8, 0, none⟩)] X (RetAt F w.heap.size m M Gs X gout E c)) := Lib.hid (fun X Gs E c hX hS hG hE => by
      have hBx := hX.blk hB81 (by simp; exact hg8n)
      obtain ⟨_, k1, _, _, _, _⟩ := blk3 hBx
      exact oat_w (HSF.out X hX) w.heap.size m M Gs gout g8 E hS k1 (fun e => by rcases hG _ e with e | e; exact hg8n e; have := hB81.lt; omega) (by omega) hE c)
    have HAT0 : Hid (∀ (X : World) (Gs : List Nat) (E : List EntW), Wr [gout] W1 X → SH F w.heap.size m M Gs X gout E → (∀ b, b ∈ Gs → b = gout ∨ W1.heap.size ≤ b) → E.length ≤ 100000 → Calls Try.prog 59 #[.int .i64 0, .pointer (some ⟨gout, 0, none⟩), .pointer (some ⟨g8, 0, none⟩)] X (RetAt F w.heap.size m M Gs X gout E 0)) := Lib.hid (fun X Gs E hX hS hG hE => HAT.out X Gs E 0 hX hS hG hE)
    have HLA : Hid (∀ c : Nat, c ≤ 10000 → ∀ X, Calls Try.prog 45 #[.agg #[.int .i64 h.lo, .int .i64 h.hi], .int .i64 (c : Nat), .int .u64 (d : Nat)] X fun e w' => e = .returned (.int .i64 (laterV h c d)) ∧ Below X.heap.size X w') := Lib.hid (fun c hc X => later_w h hs c d hd (by omega) X)
    have hmf : ∀ (fn : Go.Fn) (first cap : Array Value) (w : World), (Instr.makeFunc fn first cap).run Try.prog w = .ok (.func fn first cap) w := fun _ _ _ _ => rfl
    have HS0 := Lib.hid hS0
    clear hS0 hFW hgF hW1 hgo hb1 hFc hbwc hbc
    go_wp2_with fail
    rw [← HGO.out, ← HW1.out]
    have hbd : Below W1.heap.size W1 W1.drew := bel_eqv (Below.refl _ W1) rfl rfl rfl rfl
    obtain ⟨bb, hbb⟩ : ∃ bb : Bool, (!(startW h d W0).isEmpty) = bb := ⟨_, rfl⟩
    have HBB := Lib.hid hbb
    go_cut [61] from 46 to 61 (fun v61 wx => v61 = .bool bb ∧ Below W1.heap.size W1 wx)
    case first =>
      obtain ⟨r2, r3, _, _⟩ := blkA hBb1
      have lr2 : w.heap.size < W1.heap.size := hBb1.lt
      rcases W0 with _ | ⟨b, W0'⟩
      · have hn0 : nw = 0 := HWL.out.symm
        subst hn0
        obtain rfl : true = bb := hbb
        refine wp_region_noPanic ?_
        refine wp_region_held_drew (S := (fun w' => w'.cell? ⟨w.heap.size, 0, none⟩ = some (.int .i64 h.lo))) (by kernel_rfl) ?hS0 (fun hHeld => ?hR0)
        case hS0 => (try dsimp only); go_keep
        case hR0 =>
          refine tk 0 (h := ?_)
          try simp only [pn]
          refine tk 1 (h := ?_)
          try simp only [pn]
          refine tk 2 (h := ?_)
          try simp only [pn]
          refine tk 3 (h := ?_)
          try simp only [pn]
          refine sk 4 (h := ?_)
          try simp only [pn]
          refine sk 5 (h := ?_)
          try simp only [pn]
          refine sk 6 (h := ?_)
          try simp only [pn]
          refine sk 7 (h := ?_)
          try simp only [pn]
          refine sk 8 (h := ?_)
          try simp only [pn]
          refine sk 9 (h := ?_)
          try simp only [pn]
          refine sk 10 (h := ?_)
          try simp only [pn]
          refine sk 11 (h := ?_)
          try simp only [pn]
          refine sk 12 (h := ?_)
          try simp only [pn]
          refine sk 13 (h := ?_)
          try simp only [pn]
          refine sk 14 (h := ?_)
          try simp only [pn]
          refine tk 15 (h := ?_)
          try simp only [pn]
          refine wpAnyH_done (by kernel_rfl) ?_ _
          refine NoPanic.normal ?_
          go_wp2_with fail
          go_meet
          exact ⟨rfl, hbd⟩
      · have hnw : (0 : Int) < (nw : Int) := by have := HWL.out; simp at this; omega
        have hnwN : 0 < nw := by omega
        have hnw0 : ((nw : Int) == 0) = false := by rw [beq_eq_false_iff_ne]; omega
        obtain ⟨aw, vw, rfl, hw0, _, _⟩ := HWB.out.at_ (j := 0) (b := b) rfl
        rw [show aw.add (0 * 2) = aw by unfold Addr.add; simp] at hw0
        have HLC := Lib.hid (HLA.out b.1 (HWM.out b List.mem_cons_self))
        have hFW := HSF.out W1 (Wr.refl _ _)
        have r0 := hFW.cell hw0
        have r1 := hFW.cell t1
        have lr0 : aw.block < W1.heap.size := hFW.clt hw0
        have lr1 : gt < W1.heap.size := hFW.clt t1
        obtain ⟨V, hV⟩ : ∃ V, laterV h b.1 d = V := ⟨_, rfl⟩
        rw [hV] at HLC
        have hVn : (V != 0) = bb := by
          rw [← hbb, ← hV]
          show _ = !(if laterC h b.1 d = some 0 then ([] : Win) else [(0, fun _ => noFn)]).isEmpty
          by_cases hl : laterC h b.1 d = some 0
          · rw [if_pos hl, laterV_zero.2 hl]; rfl
          · rw [if_neg hl, bne_iff_ne.2 (fun e => hl (laterV_zero.1 e))]; rfl
        have HVN := Lib.hid hVn
        clear hV hw0 hbb hVn
        refine wp_region_noPanic ?_
        refine wp_region_held_drew (S := (fun w' => w'.cell? ⟨w.heap.size, 0, none⟩ = some (.int .i64 h.lo) ∧ w'.cell? ⟨w.heap.size, 1, none⟩ = some (.int .i64 h.hi) ∧ w'.cell? ⟨gt, 1, none⟩ = some (.int .u64 (d : Nat)) ∧ w'.cell? aw = some (.int .i64 (b.1 : Nat)))) (by kernel_rfl) ?hS0 (fun hHeld => ?hR0)
        case hS0 => (try dsimp only); go_keep
        case hR0 =>
          refine tk 0 (h := ?_)
          try simp only [pn]
          refine tk 1 (h := ?_)
          try simp only [pn]
          refine tk 2 (h := ?_)
          try simp only [pn]
          refine tk 3 (h := ?_)
          try simp only [pn]
          refine tk 4 (h := ?_)
          try simp only [pn]
          refine tk 5 (h := ?_)
          try simp only [pn]
          refine tk 6 (h := ?_)
          try simp only [pn]
          refine tk 7 (h := ?_)
          try simp only [pn]
          refine tk 8 (h := ?_)
          try simp only [pn]
          refine tk 9 (h := ?_)
          try simp only [pn]
          refine tk 10 (h := ?_)
          try simp only [pn]
          refine tk 11 (h := ?_)
          try simp only [pn]
          refine tk 12 (h := ?_)
          try simp only [pn]
          refine wpAnyH_ready (rs := [13]) (by kernel_rfl) (by simp) ?_
          refine AllReadyH.cons (o := ?sO201) ?sA201 (fun K hK => ?sB201) ?sC201
          case sA201 => simp only [List.getElem?_toArray, List.getElem?_cons_succ, List.getElem?_cons_zero]; rfl
          case sB201 =>
            go_simp
            go_at_call 45; refine (HLC.out _).mono ?_; rintro e w5 ⟨rfl, hb5'⟩; have hb5 : Below W1.heap.size W1 w5 := (by refine bel_trans ?_ hb5'; exact bel_eqv (Below.refl _ W1) rfl rfl rfl rfl); have s0 := (hb5.cell (p := ⟨w.heap.size, 0, none⟩) lr2).trans r2; have s1 := (hb5.cell (p := ⟨w.heap.size, 1, none⟩) lr2).trans r3; have s2 := (hb5.cell (p := ⟨gt, 1, none⟩) lr1).trans r1; have s3 := (hb5.cell (p := aw) lr0).trans r0
            try go_wp2_with fail
            refine hK.out _ _ ?kS201 (fun hHeld => ?kR201)
            case kS201 => (try dsimp only); go_keep
            case kR201 =>
              clear hK K
              try simp only [pn]
              refine tk 14 (h := ?_)
              try simp only [pn]
              refine tk 15 (h := ?_)
              try simp only [pn]
              refine wpAnyH_done (by kernel_rfl) ?_ _
              refine NoPanic.normal ?_
              go_wp2_with fail
              go_meet
              exact ⟨by rw [HVN.out], hb5⟩
          case sC201 =>
            exact AllReadyH.nil
    case rest =>
      obtain ⟨rfl, hbR⟩ := hcut
      have hsw : startW h d W0 = [] ∨ startW h d W0 = [(0, fun _ => noFn)] := by
        cases W0 with
        | nil => exact .inr rfl
        | cons b W0' =>
          show (if laterC h b.1 d = some 0 then ([] : Win) else [(0, fun _ => noFn)]) = [] ∨ (if laterC h b.1 d = some 0 then ([] : Win) else [(0, fun _ => noFn)]) = _
          split
          · exact .inl rfl
          · exact .inr rfl
      obtain ⟨w5, hw5⟩ : ∃ w5, w5 = wc := ⟨_, rfl⟩
      subst hw5
      go_upto_if 61 with (fail)
      go_cut [11] from 62 to 63 (fun v11 wx => v11 = .slice Aw nw cw ∧ ∃ (E : List EntW) (Gs : List Nat), SH F w.heap.size m M Gs wx gout E ∧ outW E = startW h d W0 ∧ Wr [gout] W1 wx ∧ ∀ b, b ∈ Gs → b = gout ∨ W1.heap.size ≤ b)
      case first =>
        rcases hsw with e | e
        · have hbf : bb = false := by rw [← HBB.out, e]; rfl
          subst hbf
          have HST := Lib.hid e
          clear e hbb
          go_wp2_with fail
          go_meet
          exact ⟨rfl, [], [gout], HS0.out.call hbR, HST.out.symm, (Wr.refl [gout] W1).call hbR, fun b hb => .inl (by simpa using hb)⟩
        · have hbf : bb = true := by rw [← HBB.out, e]; rfl
          subst hbf
          have HST := Lib.hid e
          clear e hbb
          go_wp2_with (go_at_call 59; refine (HAT0.out _ [gout] [] ((Wr.refl [gout] W1).call hbR) (HS0.out.call hbR) (fun b hb => .inl (by simpa using hb)) (by simp)).mono ?_; intro e w7 hr7; obtain ⟨g7, E7, Gs7, rfl, hS7, ho7, hw7, hG7⟩ := retAt_nil hr7)
          go_meet
          exact ⟨rfl, E7, Gs7, hS7, ho7.trans HST.out.symm, ((Wr.refl [gout] W1).call hbR).narrow hw7 (fun b hb => .inl (by simpa using hb)), fun b hb => by rcases hG7 b hb with e | e; exact .inl (by simpa using e); exact .inr (Nat.le_trans hbR.size e)⟩
      case rest =>
        obtain ⟨rfl, E, Gs, hS, hE, hw, hG⟩ := hcut
        have HPU : Hid (∀ (X : World) (v : Value) (p : Fn), Sat F X → Wd m X v p → Calls Try.prog 11 #[.int .i64 (m : Nat), v, .slice (some ⟨ga, 0, none⟩) m m] X (RetQ m X fun x => p (asg ah x))) := Lib.hid (fun X v p hX hv => by
          have h1 := q_put hm hv (rw_of_rwf (n := m) (c := m) (HAH.out.cle hX.cle))
          have h2 : (fun x => p (yP m ((List.range m).map fun q => ah.getD q noFn) x)) = fun x => p (asg ah x) := by funext x; rw [yP_asg hm hah]
          rw [h2] at h1
          exact h1)
        have HOR := Lib.hid (fun (X : World) (v v' : Value) (p q : Nat → Bool) (h : Wd m X v p) (h' : Wd m X v' q) => ql_or hm h h')
        have HYE := Lib.hid (fun (X : World) => ql_yes hm (w := X))
        have HE := Lib.hid hE
        have hgl1 : gout < W1.heap.size := hgl
        have hFw := HSF.out wc hw
        have z0 := hFw.cell t0
        have z3 := hFw.cell t3
        have zw := hFw.cell HWC.out
        have HWX := Lib.hid hw
        clear hw HS0 HBB hsw hbR hmf hE hbb
        go_wp2_with fail
        go_loopw [13, 14, 15, 16, 17, 75] (fun _ _ _ _ _ v75 wr => ∃ (j : Nat) (E : List EntW) (Gs : List Nat), j ≤ nw ∧ v75 = .int .i64 (j : Nat) ∧ SH F w.heap.size m M Gs wr gout E ∧ outW E = goW h d ah (W0.take j) (startW h d W0) ∧ Wr [gout] W1 wr ∧ ∀ b, b ∈ Gs → b = gout ∨ W1.heap.size ≤ b) (fun _ _ _ _ _ v75 _ => nw - (intOf v75).toNat)
        case atStart => exact ⟨0, E, Gs, Nat.zero_le _, rfl, hS, by rw [HE.out]; rfl, HWX.out, hG⟩
        case round =>
          clear HE HWX hS hG hFw z0 z3 zw E Gs
          obtain ⟨j, E, Gs, hj, rfl, hS, hE, hw, hG⟩ := hrel
          have hFx := HSF.out _ hw
          have HEl : Hid (E.length ≤ 90001) := Lib.hid (by
            rw [← len_outW E, hE]
            have h1 := len_go h d ah (W0.take j) (startW h d W0)
            have h2 := len_start h d W0
            have h3 := List.length_take_le j W0
            omega)
          have HE := Lib.hid hE
          clear hE
          by_cases hjl : j < nw
          · have hjI : (j : Int) < (nw : Int) := by omega
            have hjW : j < W0.length := by rw [HWL.out]; exact hjl
            obtain ⟨b, hb⟩ : ∃ b, W0[j]? = some b := ⟨_, List.getElem?_eq_getElem hjW⟩
            obtain ⟨ad, v, hAw, c0, c1, gs, cs, hv, hRw⟩ := HWB.out.at_ hb
            subst hAw
            subst hv
            have HTK : Hid (W0.take (j + 1) = W0.take j ++ [b]) := Lib.hid (by rw [List.take_add_one, hb]; rfl)
            have hb4 := HWM.out b (List.mem_of_getElem? hb)
            have z1 := hFx.cell c0
            have z2 : wr.cell? ⟨(ad.add (j * 2)).block, (ad.add (j * 2)).off + 1, none⟩ = some (.slice (some ⟨gs, 0, none⟩) (M + 1) cs) := hFx.cell c1
            have HRW := Lib.hid hRw
            have HLC := HLA.out b.1 hb4
            have hBbx := hw.blk hBb1 (by simp; exact hgbn)
            obtain ⟨wA, hwA⟩ : ∃ wA, wA = wr.alloc (.cells #[.int .i64 (b.1 : Nat), .slice (some ⟨gs, 0, none⟩) (M + 1) cs] 59) := ⟨_, rfl⟩
            have hbA : Below wr.heap.size wr wA := by rw [hwA]; exact balloc _ _
            have hBA : Blk wA wr.heap.size 59 #[.int .i64 (b.1 : Nat), .slice (some ⟨gs, 0, none⟩) (M + 1) cs] := by rw [hwA]; exact Blk.new _ _ _
            have hwA1 := hw.call hbA
            have hSA := hS.call hbA
            have HWA := Lib.hid hwA
            clear hb c0 c1 hRw hwA
            cases hlc : laterC h b.1 d with
            | none =>
              rw [show laterV h b.1 d = -1 by unfold laterV; rw [hlc]] at HLC
              have HLC' := Lib.hid HLC
              clear HLC
              obtain ⟨b0, b1, _, _⟩ := blkA (hBbx.call hbA)
              obtain ⟨a0, a1, _, _⟩ := blkA hBA
              have hFA := hFx.below hbA
              have s2 := hFA.cell t1
              have lA1 : gt < wA.heap.size := hFA.clt t1
              have lAb : w.heap.size < wA.heap.size := (hBbx.call hbA).lt
              have lAa : wr.heap.size < wA.heap.size := hBA.lt
              go_wp2_with fail
              rw [← HWA.out]
              go_region_held3 (fun w' => w'.cell? ⟨w.heap.size, 0, none⟩ = some (.int .i64 h.lo) ∧ w'.cell? ⟨w.heap.size, 1, none⟩ = some (.int .i64 h.hi) ∧ w'.cell? ⟨gt, 1, none⟩ = some (.int .u64 (d : Nat)) ∧ w'.cell? ⟨wr.heap.size, 0, none⟩ = some (.int .i64 (b.1 : Nat))) (go_keep)
                (first | (go_at_call 45; refine (HLC'.out _).mono ?_; rintro e w6 ⟨rfl, hb6'⟩; have hb6 : Below wA.heap.size wA w6 := (by refine bel_trans ?_ hb6'; exact bel_eqv (Below.refl _ wA) rfl rfl rfl rfl); have r0 := (hb6.cell (p := ⟨w.heap.size, 0, none⟩) lAb).trans b0; have r1 := (hb6.cell (p := ⟨w.heap.size, 1, none⟩) lAb).trans b1; have r2 := (hb6.cell (p := ⟨gt, 1, none⟩) lA1).trans s2; have r3 := (hb6.cell (p := ⟨wr.heap.size, 0, none⟩) lAa).trans a0))
              all_goals
                have hw6 := hwA1.call hb6
                have hS6 := hSA.call hb6
                clear r0 r1 r2 r3 b0 b1 a0 a1 s2
                go_wp2_with fail
                go_roundw
                case rel => exact ⟨j + 1, E, Gs, by omega, by go_num, hS6, by rw [HTK.out, go_append, hlc]; exact HE.out, hw6, hG⟩
                case measure => simp [intOf]; omega
            | some c' =>
              rw [show laterV h b.1 d = ((c' : Nat) : Int) by unfold laterV; rw [hlc]] at HLC
              have HLC' := Lib.hid HLC
              clear HLC
              have hc0 : (0 : Int) ≤ (c' : Int) := by omega
              obtain ⟨b0, b1, _, _⟩ := blkA (hBbx.call hbA)
              obtain ⟨a0, a1, _, _⟩ := blkA hBA
              have hFA := hFx.below hbA
              have s2 := hFA.cell t1
              have lA1 : gt < wA.heap.size := hFA.clt t1
              have lAb : w.heap.size < wA.heap.size := (hBbx.call hbA).lt
              have lAa : wr.heap.size < wA.heap.size := hBA.lt
              go_wp2_with fail
              rw [← HWA.out]
              go_region_held3 (fun w' => w'.cell? ⟨w.heap.size, 0, none⟩ = some (.int .i64 h.lo) ∧ w'.cell? ⟨w.heap.size, 1, none⟩ = some (.int .i64 h.hi) ∧ w'.cell? ⟨gt, 1, none⟩ = some (.int .u64 (d : Nat)) ∧ w'.cell? ⟨wr.heap.size, 0, none⟩ = some (.int .i64 (b.1 : Nat))) (go_keep)
                (first | (go_at_call 45; refine (HLC'.out _).mono ?_; rintro e w6 ⟨rfl, hb6'⟩; have hb6 : Below wA.heap.size wA w6 := (by refine bel_trans ?_ hb6'; exact bel_eqv (Below.refl _ wA) rfl rfl rfl rfl); have r0 := (hb6.cell (p := ⟨w.heap.size, 0, none⟩) lAb).trans b0; have r1 := (hb6.cell (p := ⟨w.heap.size, 1, none⟩) lAb).trans b1; have r2 := (hb6.cell (p := ⟨gt, 1, none⟩) lA1).trans s2; have r3 := (hb6.cell (p := ⟨wr.heap.size, 0, none⟩) lAa).trans a0))
              all_goals
                have hw6 := hwA1.call hb6
                have hS6 := hSA.call hb6
                have hBA6 := hBA.call hb6
                clear r0 r1 r2 r3 b0 b1 a0 a1 s2
                go_wp2_with (go_at_call 59; refine (HAT.out _ Gs E c' hw6 hS6 hG (by have := HEl.out; omega)).mono ?_; rintro e w7 ⟨E', g, f, Gs', rfl, hS7, hw7', hcl7, hsub7, hG7, halt7⟩; have hgA7 : wr.heap.size ∉ Gs := (fun e => absurd (hS.lt _ e) (by omega)); have hB7 := hw7'.blk hBA6 hgA7; obtain ⟨a0, a1, _, _⟩ := blkA hB7)
                have hw7 := hw6.narrow hw7' hG
                have hGs7 : ∀ b, b ∈ Gs' → b = gout ∨ W1.heap.size ≤ b := fun b hb => by
                  rcases hG7 b hb with e | e
                  · exact hG b e
                  · exact .inr (Nat.le_trans hw6.size e)
                obtain ⟨wK, hwK⟩ : ∃ wK, wK = w7 := ⟨_, rfl⟩
                subst hwK
                go_loopw [16, 17, 95] (fun _ _ v95 wr => ∃ k : Nat, k ≤ M + 1 ∧ v95 = .int .i64 (k : Nat) ∧ SH F w.heap.size m M Gs' wr gout (E' ++ [(c', g, fun q => if q < k then (fun x => f q x || b.2 q (asg ah x)) else f q)]) ∧ Wr [gout] W1 wr) (fun _ _ v95 _ => M + 1 - (intOf v95).toNat)
                case atStart => exact ⟨0, Nat.zero_le _, rfl, hS7.congr fun q _ => by rw [if_neg (by omega)], hw7⟩
                case round =>
                  obtain ⟨k, hk, rfl, hSk, hwk⟩ := hrel
                  have hFk := HSF.out _ hwk
                  by_cases hkl : k < M + 1
                  · have hkI : (k : Int) < (M : Int) + 1 := by omega
                    have hkI2 : (k : Int) < ((M + 1 : Nat) : Int) := by omega
                    obtain ⟨ad2, v2, e2, c2, hv2⟩ := HRW.out k hkl
                    injection e2 with e2
                    subst e2
                    rw [add_lit0] at c2
                    obtain ⟨A2, n2, c2', f2, rfl, hr2⟩ := hv2
                    have HV2 : Hid (WdF m F (.slice A2 n2 c2') (b.2 k)) := Lib.hid ⟨A2, n2, c2', f2, rfl, hr2⟩
                    obtain ⟨hgG, hgo2, hRA⟩ := hSk.row (e := (c', g, fun q => if q < k then (fun x => f q x || b.2 q (asg ah x)) else f q)) (by simp)
                    have hgG : g ∈ Gs' := hgG
                    have hgo2 : g ≠ gout := hgo2
                    obtain ⟨old, hold, hWo⟩ := hRA.at_ hkl
                    obtain ⟨Ao, no, co, fo, rfl, hro⟩ := id hWo
                    have hold : wr.cell? ⟨g, k, none⟩ = some (.slice Ao no co) := hold
                    have HWo := Lib.hid hWo
                    have fz : wr.frozen? ⟨g, k, none⟩ = false := hRA.soft k
                    have z2 := hFk.cell c2
                    have z4 := hFk.cell t4
                    have l4 : gt < wr.heap.size := hFk.clt t4
                    have lg : g < wr.heap.size := hRA.lt
                    have lt1 : gt < W1.heap.size := (HSF.out W1 (Wr.refl _ _)).clt t1
                    have q0 : (⟨g, k, none⟩ : Addr) ≠ ⟨gt, 4, none⟩ := fun e => by
                      have e := congrArg Addr.block e
                      dsimp only at e
                      rcases hGs7 g hgG with e2 | e2
                      · exact hgo2 e2
                      · omega
                    have HSK := Lib.hid hSk
                    clear hr2 hWo hro hRA hSk c2
                    go_wp2_with fail
                    refine wp_region_noPanic ?_
                    refine wp_region_held_drew (S := (fun w' => w'.cell? ⟨gt, 4, none⟩ = some (.slice (some ⟨ga, 0, none⟩) m m))) (by kernel_rfl) ?hS0 (fun hHeld => ?hR0)
                    case hS0 => (try dsimp only); go_keep
                    case hR0 =>
                      refine tk 0 (h := ?_)
                      try simp only [pn]
                      refine tk 1 (h := ?_)
                      try simp only [pn]
                      refine tk 2 (h := ?_)
                      try simp only [pn]
                      refine tk 3 (h := ?_)
                      try simp only [pn]
                      refine tk 4 (h := ?_)
                      try simp only [pn]
                      refine tk 5 (h := ?_)
                      try simp only [pn]
                      refine tk 7 (h := ?_)
                      try simp only [pn]
                      refine tk 8 (h := ?_)
                      try simp only [pn]
                      refine tk 9 (h := ?_)
                      try simp only [pn]
                      refine tk 10 (h := ?_)
                      try simp only [pn]
                      refine tk 11 (h := ?_)
                      try simp only [pn]
                      refine tk 12 (h := ?_)
                      try simp only [pn]
                      refine wpAnyH_ready (rs := [6, 13]) (by kernel_rfl) (by simp) ?_
                      refine AllReadyH.cons (o := ?sO401) ?sA401 (fun K hK => ?sB401) ?sC401
                      case sA401 => simp only [List.getElem?_toArray, List.getElem?_cons_succ, List.getElem?_cons_zero]; rfl
                      case sB401 =>
                        go_simp
                        refine hK.out _ _ ?kS402 (fun hHeld => ?kR402)
                        case kS402 => (try dsimp only); go_keep
                        case kR402 =>
                          clear hK K
                          try simp only [Act.put, List.setIfInBounds_toArray, List.set_cons_zero, List.set_cons_succ]
                          refine wpAnyH_ready (rs := [13]) (by kernel_rfl) (by simp) ?_
                          refine AllReadyH.cons (o := ?sO403) ?sA403 (fun K hK => ?sB403) ?sC403
                          case sA403 => simp only [List.getElem?_toArray, List.getElem?_cons_succ, List.getElem?_cons_zero]; rfl
                          case sB403 =>
                            go_simp
                            go_at_call 11; refine (HPU.out _ _ (b.2 k) (by first | exact hFk | exact hFk.drew | exact hFk.drewN _) (by first | exact HV2.out.heap hFk | exact HV2.out.heap hFk.drew)).mono ?_; intro e w8 hr8; obtain ⟨v8, rfl, hb8', hW8⟩ := retQ_ret hr8; obtain ⟨A8, n8, c8, f8, rfl, _⟩ := id hW8; have hb8 : Below wr.heap.size wr w8 := (by refine bel_trans ?_ hb8'; exact bel_eqv (Below.refl _ wr) rfl rfl rfl rfl); have s8 := (hb8.cell (p := ⟨gt, 4, none⟩) l4).trans z4; have o8 := (hb8.cell (p := ⟨g, k, none⟩) lg).trans hold; have hS8 := HSK.out.call hb8; have l48 : gt < w8.heap.size := Nat.lt_of_lt_of_le l4 hb8.size; have lg8 : g < w8.heap.size := Nat.lt_of_lt_of_le lg hb8.size
                            try go_wp2_with fail
                            refine hK.out _ _ ?kS404 (fun hHeld => ?kR404)
                            case kS404 => (try dsimp only); go_keep
                            case kR404 =>
                              clear hK K
                              try simp only [Act.put, List.setIfInBounds_toArray, List.set_cons_zero, List.set_cons_succ]
                              refine wpAnyH_ready (rs := [14]) (by kernel_rfl) (by simp) ?_
                              refine AllReadyH.cons (o := ?sO405) ?sA405 (fun K hK => ?sB405) ?sC405
                              case sA405 => simp only [List.getElem?_toArray, List.getElem?_cons_succ, List.getElem?_cons_zero]; rfl
                              case sB405 =>
                                go_simp
                                go_at_call 22; refine (HOR.out _ _ _ _ _ ((HWo.out.cle (Wr.of_below (Gs := Gs') hb8).cle).cle (sat_hx w8 Gs').cle) hW8).mono ?_; intro e w9 hr9; obtain ⟨v9, rfl, hb9', hW9⟩ := hr9.hx (Gs := Gs') hS8.lt; obtain ⟨_, A9, c9, rfl, _⟩ := id hW9; have hb9 : Below w8.heap.size w8 w9 := (by refine bel_trans ?_ hb9'; exact bel_eqv (Below.refl _ w8) rfl rfl rfl rfl); have s9 := (hb9.cell (p := ⟨gt, 4, none⟩) l48).trans s8; have o9 := (hb9.cell (p := ⟨g, k, none⟩) lg8).trans o8; have hS9 := hS8.call hb9; have f9 : w9.frozen? ⟨g, k, none⟩ = false := (hS9.row (e := (c', g, fun q => if q < k then (fun x => f q x || b.2 q (asg ah x)) else f q)) (by simp)).2.2.soft k
                                try go_wp2_with fail
                                refine hK.out _ _ ?kS406 (fun hHeld => ?kR406)
                                case kS406 => (try dsimp only); go_keep
                                case kR406 =>
                                  clear hK K
                                  try simp only [Act.put, List.setIfInBounds_toArray, List.set_cons_zero, List.set_cons_succ]
                                  refine tk 15 (h := ?_)
                                  try simp only [pn]
                                  refine wpAnyH_ready (rs := [16]) (by kernel_rfl) (by simp) ?_
                                  refine AllReadyH.cons (o := ?sO407) ?sA407 (fun K hK => ?sB407) ?sC407
                                  case sA407 => simp only [List.getElem?_toArray, List.getElem?_cons_succ, List.getElem?_cons_zero]; rfl
                                  case sB407 =>
                                    go_simp
                                    refine hK.out _ _ ?kS408 (fun hHeld => ?kR408)
                                    case kS408 => (try dsimp only); (first | go_keep | exact cellNe q0 s9)
                                    case kR408 =>
                                      clear hK K
                                      try simp only [Act.put, List.setIfInBounds_toArray, List.set_cons_zero, List.set_cons_succ]
                                      refine wpAnyH_done (by kernel_rfl) ?_ _
                                      refine NoPanic.normal ?_
                                      have hset := hS9.set hkl (p := fun x => f k x || b.2 k (asg ah x)) (wdf_same hW9.wd (fun x _ => by show or ((if k < k then (fun x => f k x || b.2 k (asg ah x)) else f k) x) _ = _; rw [if_neg (Nat.lt_irrefl k)]))
                                      have hcg := hset.congr (f' := fun q => if q < k + 1 then (fun x => f q x || b.2 q (asg ah x)) else f q) (fun q hq => by
                                        show (if q = k then _ else (if q < k then _ else _)) = if q < k + 1 then _ else _
                                        by_cases e : q = k
                                        · subst e
                                          rw [if_pos rfl, if_pos (Nat.lt_succ_self q)]
                                        · rw [if_neg e]
                                          by_cases e2 : q < k
                                          · rw [if_pos e2, if_pos (by omega)]
                                          · rw [if_neg e2, if_neg (by omega)])
                                      have hw9 := (hwk.call (bthen hb8 hb9)).narrow (wr_set (w := w9) hgG k (.slice A9 (wordsN m) c9)) hGs7
                                      clear hW9 hW8 hset s8 s9 o8 o9 f9 hS8 hS9 hb8 hb9 hb8' hb9' hr8 hr9
                                      go_wp2_with fail
                                      go_roundw
                                      case rel => exact ⟨k + 1, by omega, by go_num, hcg, hw9⟩
                                      case measure => simp [intOf]; omega
                                  case sC407 =>
                                    exact AllReadyH.nil
                              case sC405 =>
                                exact AllReadyH.nil
                          case sC403 =>
                            exact AllReadyH.nil
                      case sC401 =>
                        refine AllReadyH.cons (o := ?sO409) ?sA409 (fun K hK => ?sB409) ?sC409
                        case sA409 => simp only [List.getElem?_toArray, List.getElem?_cons_succ, List.getElem?_cons_zero]; rfl
                        case sB409 =>
                          go_simp
                          go_at_call 11; refine (HPU.out _ _ (b.2 k) (by first | exact hFk | exact hFk.drew | exact hFk.drewN _) (by first | exact HV2.out.heap hFk | exact HV2.out.heap hFk.drew)).mono ?_; intro e w8 hr8; obtain ⟨v8, rfl, hb8', hW8⟩ := retQ_ret hr8; obtain ⟨A8, n8, c8, f8, rfl, _⟩ := id hW8; have hb8 : Below wr.heap.size wr w8 := (by refine bel_trans ?_ hb8'; exact bel_eqv (Below.refl _ wr) rfl rfl rfl rfl); have s8 := (hb8.cell (p := ⟨gt, 4, none⟩) l4).trans z4; have o8 := (hb8.cell (p := ⟨g, k, none⟩) lg).trans hold; have hS8 := HSK.out.call hb8; have l48 : gt < w8.heap.size := Nat.lt_of_lt_of_le l4 hb8.size; have lg8 : g < w8.heap.size := Nat.lt_of_lt_of_le lg hb8.size
                          try go_wp2_with fail
                          refine hK.out _ _ ?kS410 (fun hHeld => ?kR410)
                          case kS410 => (try dsimp only); go_keep
                          case kR410 =>
                            clear hK K
                            try simp only [Act.put, List.setIfInBounds_toArray, List.set_cons_zero, List.set_cons_succ]
                            refine wpAnyH_ready (rs := [6]) (by kernel_rfl) (by simp) ?_
                            refine AllReadyH.cons (o := ?sO411) ?sA411 (fun K hK => ?sB411) ?sC411
                            case sA411 => simp only [List.getElem?_toArray, List.getElem?_cons_succ, List.getElem?_cons_zero]; rfl
                            case sB411 =>
                              go_simp
                              refine hK.out _ _ ?kS412 (fun hHeld => ?kR412)
                              case kS412 => (try dsimp only); go_keep
                              case kR412 =>
                                clear hK K
                                try simp only [Act.put, List.setIfInBounds_toArray, List.set_cons_zero, List.set_cons_succ]
                                refine wpAnyH_ready (rs := [14]) (by kernel_rfl) (by simp) ?_
                                refine AllReadyH.cons (o := ?sO413) ?sA413 (fun K hK => ?sB413) ?sC413
                                case sA413 => simp only [List.getElem?_toArray, List.getElem?_cons_succ, List.getElem?_cons_zero]; rfl
                                case sB413 =>
                                  go_simp
                                  go_at_call 22; refine (HOR.out _ _ _ _ _ ((HWo.out.cle (Wr.of_below (Gs := Gs') hb8).cle).cle (sat_hx w8 Gs').cle) hW8).mono ?_; intro e w9 hr9; obtain ⟨v9, rfl, hb9', hW9⟩ := hr9.hx (Gs := Gs') hS8.lt; obtain ⟨_, A9, c9, rfl, _⟩ := id hW9; have hb9 : Below w8.heap.size w8 w9 := (by refine bel_trans ?_ hb9'; exact bel_eqv (Below.refl _ w8) rfl rfl rfl rfl); have s9 := (hb9.cell (p := ⟨gt, 4, none⟩) l48).trans s8; have o9 := (hb9.cell (p := ⟨g, k, none⟩) lg8).trans o8; have hS9 := hS8.call hb9; have f9 : w9.frozen? ⟨g, k, none⟩ = false := (hS9.row (e := (c', g, fun q => if q < k then (fun x => f q x || b.2 q (asg ah x)) else f q)) (by simp)).2.2.soft k
                                  try go_wp2_with fail
                                  refine hK.out _ _ ?kS414 (fun hHeld => ?kR414)
                                  case kS414 => (try dsimp only); go_keep
                                  case kR414 =>
                                    clear hK K
                                    try simp only [Act.put, List.setIfInBounds_toArray, List.set_cons_zero, List.set_cons_succ]
                                    refine tk 15 (h := ?_)
                                    try simp only [pn]
                                    refine wpAnyH_ready (rs := [16]) (by kernel_rfl) (by simp) ?_
                                    refine AllReadyH.cons (o := ?sO415) ?sA415 (fun K hK => ?sB415) ?sC415
                                    case sA415 => simp only [List.getElem?_toArray, List.getElem?_cons_succ, List.getElem?_cons_zero]; rfl
                                    case sB415 =>
                                      go_simp
                                      refine hK.out _ _ ?kS416 (fun hHeld => ?kR416)
                                      case kS416 => (try dsimp only); (first | go_keep | exact cellNe q0 s9)
                                      case kR416 =>
                                        clear hK K
                                        try simp only [Act.put, List.setIfInBounds_toArray, List.set_cons_zero, List.set_cons_succ]
                                        refine wpAnyH_done (by kernel_rfl) ?_ _
                                        refine NoPanic.normal ?_
                                        have hset := hS9.set hkl (p := fun x => f k x || b.2 k (asg ah x)) (wdf_same hW9.wd (fun x _ => by show or ((if k < k then (fun x => f k x || b.2 k (asg ah x)) else f k) x) _ = _; rw [if_neg (Nat.lt_irrefl k)]))
                                        have hcg := hset.congr (f' := fun q => if q < k + 1 then (fun x => f q x || b.2 q (asg ah x)) else f q) (fun q hq => by
                                          show (if q = k then _ else (if q < k then _ else _)) = if q < k + 1 then _ else _
                                          by_cases e : q = k
                                          · subst e
                                            rw [if_pos rfl, if_pos (Nat.lt_succ_self q)]
                                          · rw [if_neg e]
                                            by_cases e2 : q < k
                                            · rw [if_pos e2, if_pos (by omega)]
                                            · rw [if_neg e2, if_neg (by omega)])
                                        have hw9 := (hwk.call (bthen hb8 hb9)).narrow (wr_set (w := w9) hgG k (.slice A9 (wordsN m) c9)) hGs7
                                        clear hW9 hW8 hset s8 s9 o8 o9 f9 hS8 hS9 hb8 hb9 hb8' hb9' hr8 hr9
                                        go_wp2_with fail
                                        go_roundw
                                        case rel => exact ⟨k + 1, by omega, by go_num, hcg, hw9⟩
                                        case measure => simp [intOf]; omega
                                    case sC415 =>
                                      exact AllReadyH.nil
                                case sC413 =>
                                  exact AllReadyH.nil
                            case sC411 =>
                              exact AllReadyH.nil
                        case sC409 =>
                          exact AllReadyH.nil
                  · obtain rfl : k = M + 1 := by omega
                    have hcg := hSk.congr (f' := fun q x => f q x || b.2 q (asg ah x)) (fun q hq => by rw [if_pos hq])
                    have HCG := Lib.hid hcg
                    clear hSk hcg
                    go_wp2_with fail
                    go_roundw
                    case rel => exact ⟨j + 1, E' ++ [(c', g, fun q x => f q x || b.2 q (asg ah x))], Gs', by omega, by go_num, HCG.out, by rw [HTK.out, go_append, hlc]; show _ = addW (goW h d ah (W0.take j) (startW h d W0)) c' _; rw [← HE.out]; exact retAt_add halt7 (fun k x => b.2 k (asg ah x)), hwk, hGs7⟩
                    case measure => simp [intOf]; omega
          · obtain rfl : j = nw := by omega
            have hE : outW E = goW h d ah W0 (startW h d W0) := by
              have h1 := HE.out
              rw [List.take_of_length_le (by rw [HWL.out]; exact Nat.le_refl _)] at h1
              exact h1
            obtain ⟨f0, r0, hr0⟩ := shift_head h d ah W0
            have hVZ := HVZ.out
            unfold shiftW at hVZ
            rw [hr0] at hE hVZ
            rcases E with _ | ⟨⟨c0, g, f⟩, E1⟩
            · cases hE
            have hE2 : (c0, f) = (0, f0) ∧ outW E1 = r0 := by
              have h1 : ((c0, f) :: outW E1 : Win) = (0, f0) :: r0 := hE
              injection h1 with h2 h3
              exact ⟨h2, h3⟩
            obtain ⟨hE2, hE3⟩ := hE2
            injection hE2 with hE4 hE5
            subst hE4 hE5
            have HFIN : Hid (outW ((0, g, fun q => if q = 0 then (fun _ => true) else f q) :: E1) = VZ) := Lib.hid (by
              rw [← hVZ]
              show ((0, fun q => if q = 0 then (fun _ => true) else f q) :: outW E1 : Win) = (0, fun k x => k == 0 || f k x) :: r0
              rw [hE3]
              congr 1
              congr 1
              funext q x
              by_cases e : q = 0
              · subst e; rfl
              · rw [if_neg e, beq_eq_false_iff_ne.2 e, Bool.false_or])
            obtain ⟨hgG, hgo2, hRA⟩ := hS.row (e := (0, g, f)) (by simp)
            have hgG : g ∈ Gs := hgG
            have hgo2 : g ≠ gout := hgo2
            obtain ⟨old, hold, hWo⟩ := hRA.at_ (q := 0) (by omega)
            obtain ⟨Ao, no, co, fo, rfl, _⟩ := hWo
            have hold : wr.cell? ⟨g, 0, none⟩ = some (.slice Ao no co) := hold
            have lg : g < wr.heap.size := hRA.lt
            obtain ⟨n, hn⟩ : ∃ n, ((0, g, f) :: E1 : List EntW).length = n := ⟨_, rfl⟩
            have hn0 : 0 < n := by rw [← hn]; simp
            have hn0I : (0 : Int) < (n : Int) := by omega
            have HSS := Lib.hid hS
            obtain ⟨vO, h1, h2, _, _, h5, _, _⟩ := hS
            have HN := Lib.hid hn
            rw [hn] at h2
            rcases h2.blk with ⟨_, e0, _⟩ | ⟨gO, cO, rfl, hcO, _, _, hL⟩
            · omega
            have hgO : g ≠ gO := fun e => (h5 gO rfl).2.2 (0, g, f) (by simp) e
            have k0 := (blk1 h1).1
            have k1 : wr.cell? ⟨gO, 1, none⟩ = some (.slice (some ⟨g, 0, none⟩) (M + 1) (M + 1)) := hL.cell (j := 1) rfl
            have lgo : gout < wr.heap.size := h1.lt
            have lgO : gO < wr.heap.size := hL.lt
            have q0 : (⟨g, 0, none⟩ : Addr) ≠ ⟨gout, 0, none⟩ := fun e => hgo2 (congrArg Addr.block e)
            have q1 : (⟨g, 0, none⟩ : Addr) ≠ ⟨gO, 1, none⟩ := fun e => hgO (congrArg Addr.block e)
            have hM0 : (0 : Int) < (M : Int) + 1 := by omega
            have hM1 : (0 : Int) < ((M + 1 : Nat) : Int) := by omega
            clear hE hr0 hVZ hE3 hRA hn h1 h2 h5 hL
            go_wp2_with fail
            go_region_held3 (fun w' => w'.cell? ⟨gout, 0, none⟩ = some (.slice (some ⟨gO, 0, none⟩) n cO) ∧ w'.cell? ⟨gO, 1, none⟩ = some (.slice (some ⟨g, 0, none⟩) (M + 1) (M + 1))) (first | go_keep | exact ⟨cellNe q0 s0, cellNe q1 s1⟩)
              (first | (go_at_call 18; refine (HYE.out _).mono ?_; intro e w3 hr3; obtain ⟨v3, rfl, hb3', hW3⟩ := hr3.hx (Gs := Gs) HSS.out.lt; obtain ⟨_, A3, c3, rfl, _⟩ := id hW3; have hb3 : Below wr.heap.size wr w3 := (by refine bel_trans ?_ hb3'; exact bel_eqv (Below.refl _ wr) rfl rfl rfl rfl); have s0 := (hb3.cell (p := ⟨gout, 0, none⟩) lgo).trans k0; have s1 := (hb3.cell (p := ⟨gO, 1, none⟩) lgO).trans k1; have o3 := (hb3.cell (p := ⟨g, 0, none⟩) lg).trans hold; have f3 : w3.frozen? ⟨g, 0, none⟩ = false := ((HSS.out.call hb3).row (e := (0, g, f)) (by simp)).2.2.soft 0))
            all_goals
              have hS3 := (HSS.out.call hb3).first (k := 0) (by omega) hW3.wd
              have hw3 := (hw.call hb3).narrow (wr_set (w := w3) hgG 0 (.slice A3 (wordsN m) c3)) hG
              obtain ⟨A', c', hc1, hc2, hBk⟩ := hS3.done
              have hc3 := hc1.symm.trans (cellNe q0 s0)
              injection hc3 with hc3
              injection hc3 with hc4 hc5 hc6
              subst hc4 hc6
              have hbF : Below w.heap.size w (w3.setCell ⟨g, 0, none⟩ (.slice A3 (wordsN m) c3)) := HB1.out.trans (hw3.below (fun b hb => by simp at hb; rw [hb]; exact hgob) HB1.out.size)
              rw [HFIN.out] at hBk
              clear hc1 hS3
              go_wp2_with fail
              go_ret
              exact ⟨_, n, _, rfl, by rw [← HN.out]; exact hc2, hbF, by rw [← HN.out]; exact hBk⟩
end Go.Proofs.Ytaomehlhopiblaa
