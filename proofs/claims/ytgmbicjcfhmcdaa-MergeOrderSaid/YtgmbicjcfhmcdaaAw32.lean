/- The walk of law 32's awake. -/
import Derived.Test.YtgmbicjcfhmcdaaTrs32
import Derived.Test.YtgmbicjcfhmcdaaSame32
import Derived.Test.YtgmbicjcfhmcdaaMergeW
set_option linter.unusedVariables false
set_option linter.unusedSimpArgs false
/-! The walk of law 32's awake. -/
namespace Go.Proofs.Ytgmbicjcfhmcdaa
open Go.RowKit
/-- Events told by their headers, the rest frozen in F. -/
inductive EvsV (F : Fz) : List Evt → List Value → Prop
  | nil : EvsV F [] []
  | cons (e : Evt) (es : List Evt) (A : Option Addr) (c : Nat) (xs : List Value) (ht : e.time < 18446744073709551616) (hc : e.ids.length ≤ c) (hr : Rd F 1 A e.ids.length (e.ids.map (Value.int .i64))) (h : EvsV F es xs) : EvsV F (e :: es) (.int .u64 (e.time : Nat) :: .slice A e.ids.length c :: xs)
namespace EvsV
variable {F F' : Fz}
theorem len {es : List Evt} {xs : List Value} (h : EvsV F es xs) : xs.length = es.length * 2 := by
  induction h with
  | nil => rfl
  | cons e es A c xs ht hc hr h ih => simp [ih]; omega
theorem at_ {es : List Evt} {xs : List Value} (h : EvsV F es xs) : ∀ (q : Nat) (hq : q < es.length), es[q].time < 18446744073709551616 ∧ ∃ A c, es[q].ids.length ≤ c ∧ xs[q * 2]? = some (.int .u64 (es[q].time : Nat)) ∧ xs[q * 2 + 1]? = some (.slice A es[q].ids.length c) ∧ Rd F 1 A es[q].ids.length (es[q].ids.map (Value.int .i64)) := by
  induction h with
  | nil => intro q hq; simp at hq
  | cons e es A c xs ht hc hr h ih =>
    intro q hq
    cases q with
    | zero => exact ⟨ht, A, c, hc, rfl, rfl, hr⟩
    | succ q =>
      obtain ⟨k0, A', c', k1, k2, k3, k4⟩ := ih q (by simpa using hq)
      refine ⟨k0, A', c', k1, ?_, ?_, k4⟩
      · rw [show (q + 1) * 2 = q * 2 + 1 + 1 by omega]; exact k2
      · rw [show (q + 1) * 2 + 1 = q * 2 + 1 + 1 + 1 by omega]; exact k3
theorem toF {es : List Evt} {xs : List Value} {A : Option Addr} {n : Nat} (h : EvsV F es xs) (hr : Rd F 2 A n xs) : EvsF F A n es := by
  have hl := h.len
  have h1 := hr.1
  refine ⟨by omega, fun h0 => ?_⟩
  obtain ⟨ad, rfl, hc⟩ := hr.2 h0
  refine ⟨ad, rfl, fun q hq => ?_⟩
  obtain ⟨k0, A, c, k1, k2, k3, k4⟩ := h.at_ q hq
  exact ⟨k0, A, c, k1, k4, hc _ _ k2, by rw [add_of_add]; exact hc _ _ k3⟩
end EvsV
theorem evs_blk {w : World} {g : Nat} {es : List Evt} {xs : List Value} {n : Nat} (h : Blk w g 31 xs.toArray) (hv : EvsV (heapF w) es xs) (hn : es.length = n) : EvsF (heapF w) (some ⟨g, 0, none⟩) n es := by
  refine hv.toF ⟨by rw [hv.len, hn], fun _ => ⟨_, rfl, fun j u hu => ?_⟩⟩
  rw [add_lit0]
  unfold Fz.cell heapF
  rw [h]
  simpa using hu
theorem strs_blk {w : World} {g : Nat} {ss : List ByteArray} {n : Nat} (h : Blk w g 9 (ss.map Value.string).toArray) (hn : ss.length = n) : Rd (heapF w) 1 (some ⟨g, 0, none⟩) n (ss.map Value.string) := by
  refine ⟨by simp [hn], fun _ => ⟨_, rfl, fun j u hu => ?_⟩⟩
  rw [add_lit0]
  unfold Fz.cell heapF
  rw [h]
  simpa using hu
theorem ints_blk {w : World} {g : Nat} {ks : List Int} {n : Nat} (h : Blk w g 3 (ks.map (Value.int .i64)).toArray) (hn : ks.length = n) : Rd (heapF w) 1 (some ⟨g, 0, none⟩) n (ks.map (Value.int .i64)) := by
  refine ⟨by simp [hn], fun _ => ⟨_, rfl, fun j u hu => ?_⟩⟩
  rw [add_lit0]
  unfold Fz.cell heapF
  rw [h]
  simpa using hu
def ta32 : TrS := ([⟨#[112]⟩], [⟨1, [0]⟩, ⟨3, []⟩])
def tb32 : TrS := ([⟨#[113]⟩], [⟨2, [0]⟩, ⟨3, [0]⟩])
def tm32 : TrS := ([⟨#[112]⟩, ⟨#[113]⟩], [⟨1, [0]⟩, ⟨2, [1]⟩, ⟨3, []⟩, ⟨3, [1]⟩])
theorem merge32 : mergeM [ta32, tb32] = (tm32, 0) := by kernel_rfl
theorem fr_names32 {w : World} {g : Nat} {c : UInt8} (h : Blk w g 9 #[.string ⟨#[c]⟩]) : Rd (heapF w) 1 (some ⟨g, 0, none⟩) 1 ([(⟨#[c]⟩ : ByteArray)].map Value.string) := strs_blk (ss := [⟨#[c]⟩]) h rfl
theorem ts32 {w : World} {g0 g1 g2 g4 g5 g6 g7 g9 : Nat} (h0 : Blk w g0 9 #[.string ⟨#[112]⟩]) (h1 : Blk w g1 3 #[.int .i64 0]) (h2 : Blk w g2 31 #[.int .u64 1, .slice (some ⟨g1, 0, none⟩) 1 1, .int .u64 3, .slice none 0 0])
    (h4 : Blk w g4 9 #[.string ⟨#[113]⟩]) (h5 : Blk w g5 3 #[.int .i64 0]) (h6 : Blk w g6 3 #[.int .i64 0]) (h7 : Blk w g7 31 #[.int .u64 2, .slice (some ⟨g5, 0, none⟩) 1 1, .int .u64 3, .slice (some ⟨g6, 0, none⟩) 1 1])
    (h9 : Blk w g9 27 #[.slice (some ⟨g0, 0, none⟩) 1 1, .slice (some ⟨g2, 0, none⟩) 2 2, .slice (some ⟨g4, 0, none⟩) 1 1, .slice (some ⟨g7, 0, none⟩) 2 2]) : TrsF (heapF w) (some ⟨g9, 0, none⟩) 2 [ta32, tb32] := by
  have i1 := ints_blk (ks := [0]) h1 rfl
  have i5 := ints_blk (ks := [0]) h5 rfl
  have i6 := ints_blk (ks := [0]) h6 rfl
  have ea : EvsF (heapF w) (some ⟨g2, 0, none⟩) 2 ta32.2 := evs_blk (xs := [.int .u64 1, .slice (some ⟨g1, 0, none⟩) 1 1, .int .u64 3, .slice none 0 0]) h2 (.cons ⟨1, [0]⟩ _ (some ⟨g1, 0, none⟩) 1 _ (by decide) (by decide) i1 (.cons ⟨3, []⟩ _ none 0 _ (by decide) (by decide) Rd.nil .nil)) rfl
  have eb : EvsF (heapF w) (some ⟨g7, 0, none⟩) 2 tb32.2 := evs_blk (xs := [.int .u64 2, .slice (some ⟨g5, 0, none⟩) 1 1, .int .u64 3, .slice (some ⟨g6, 0, none⟩) 1 1]) h7 (.cons ⟨2, [0]⟩ _ (some ⟨g5, 0, none⟩) 1 _ (by decide) (by decide) i5 (.cons ⟨3, [0]⟩ _ (some ⟨g6, 0, none⟩) 1 _ (by decide) (by decide) i6 .nil)) rfl
  exact trs_blk (xs := [.slice (some ⟨g0, 0, none⟩) 1 1, .slice (some ⟨g2, 0, none⟩) 2 2, .slice (some ⟨g4, 0, none⟩) 1 1, .slice (some ⟨g7, 0, none⟩) 2 2]) h9 (.cons ta32 _ (some ⟨g0, 0, none⟩) 1 (some ⟨g2, 0, none⟩) 2 _ (by decide) (by decide) (fr_names32 h0) ea (.cons tb32 _ (some ⟨g4, 0, none⟩) 1 (some ⟨g7, 0, none⟩) 2 _ (by decide) (by decide) (fr_names32 h4) eb .nil)) rfl
theorem ret32 {w w' : World} {e : Ending} (h : RetMg w (tm32, 0) e w') : ∃ An cn ax ce Ai ci Aj cj, e = .returned (.tuple #[.agg #[.slice An 2 cn, .slice (some ax) 4 ce], .int .i64 0]) ∧ Below w.heap.size w w' ∧ ax.block < w'.heap.size ∧ 4 ≤ ce ∧
    w'.cell? ⟨ax.block, ax.off + 2, none⟩ = some (.int .u64 2) ∧ w'.cell? ⟨ax.block, ax.off + 5, none⟩ = some (.slice Ai 0 ci) ∧ w'.cell? ⟨ax.block, ax.off + 7, none⟩ = some (.slice Aj 1 cj) ∧ Rd (heapF w') 1 Aj 1 (([1] : List Int).map (Value.int .i64)) := by
  obtain ⟨An, cn, Ae, ce, h1, h2, h3, h4, h5, h6⟩ := h
  obtain ⟨ax, hA, hh⟩ := h6.2 (by decide)
  obtain ⟨_, A1, c1, _, _, k0, _⟩ := hh 1 (by decide)
  obtain ⟨_, A2, c2, _, _, _, k2⟩ := hh 2 (by decide)
  obtain ⟨_, A3, c3, _, r3, _, k3⟩ := hh 3 (by decide)
  have z0 := (sat_heapF w').cell k0
  have z2 := (sat_heapF w').cell k2
  have z3 := (sat_heapF w').cell k3
  have hl : ax.block < w'.heap.size := by have := (sat_heapF w').clt k0; rwa [block_of_add] at this
  subst hA
  exact ⟨An, cn, ax, ce, A2, c2, A3, c3, h1, h4, hl, h3, z0, z2, z3, r3⟩
set_option maxRecDepth 100000 in
set_option maxHeartbeats 2000000 in
theorem awake32_w (w : World) : Calls Try.prog 8 #[] w fun e w' => e = .returned (.bool true) ∧ Below w.heap.size w w' := by
  obtain ⟨z, hz⟩ : ∃ z, w.heap.size = z := ⟨_, rfl⟩
  obtain ⟨M, hM⟩ : ∃ M, (((w.alloc (.cells #[.string ⟨#[112]⟩] 9)).alloc (.cells #[.int .i64 0] 3)).alloc (.cells #[.int .u64 1, .slice (some ⟨w.heap.size + 1, 0, none⟩) 1 1, .int .u64 3, .slice none 0 0] 31)).alloc (.cells #[.slice (some ⟨w.heap.size, 0, none⟩) 1 1, .slice (some ⟨w.heap.size + 1 + 1, 0, none⟩) 2 2] 27) = M := ⟨_, rfl⟩
  have hM0 : Blk M z 9 #[.string ⟨#[112]⟩] := hz ▸ hM ▸ ((((Blk.new _ _ _).alloc _).alloc _).alloc _)
  have hM1 : Blk M (z + 1) 3 #[.int .i64 0] := hz ▸ hM ▸ (((Blk.new2 _ _ _ _).alloc _).alloc _)
  have hM2 : Blk M (z + 1 + 1) 31 #[.int .u64 1, .slice (some ⟨z + 1, 0, none⟩) 1 1, .int .u64 3, .slice none 0 0] := hz ▸ hM ▸ (blk3n _ _ _ _ _).alloc _
  have hM3 : Blk M (z + 1 + 1 + 1) 27 #[.slice (some ⟨z, 0, none⟩) 1 1, .slice (some ⟨z + 1 + 1, 0, none⟩) 2 2] := hz ▸ hM ▸ blk4n _ _ _ _ _ _
  have hbM : Below z w M := hz ▸ hM ▸ ((((balloc _ _).alloc (by simp) _).alloc (by simp; omega) _).alloc (by simp; omega) _)
  have hzM : M.heap.size = z + 1 + 1 + 1 + 1 := by rw [← hz, ← hM]; simp
  obtain ⟨y, hy⟩ : ∃ y, M.heap.size = y := ⟨_, rfl⟩
  obtain ⟨N, hN⟩ : ∃ N, (((M.alloc (.cells #[.string ⟨#[113]⟩] 9)).alloc (.cells #[.int .i64 0] 3)).alloc (.cells #[.int .i64 0] 3)).alloc (.cells #[.int .u64 2, .slice (some ⟨M.heap.size + 1, 0, none⟩) 1 1, .int .u64 3, .slice (some ⟨M.heap.size + 1 + 1, 0, none⟩) 1 1] 31) = N := ⟨_, rfl⟩
  have hN4 : Blk N y 9 #[.string ⟨#[113]⟩] := hy ▸ hN ▸ ((((Blk.new _ _ _).alloc _).alloc _).alloc _)
  have hN5 : Blk N (y + 1) 3 #[.int .i64 0] := hy ▸ hN ▸ (((Blk.new2 _ _ _ _).alloc _).alloc _)
  have hN6 : Blk N (y + 1 + 1) 3 #[.int .i64 0] := hy ▸ hN ▸ (blk3n _ _ _ _ _).alloc _
  have hN7 : Blk N (y + 1 + 1 + 1) 31 #[.int .u64 2, .slice (some ⟨y + 1, 0, none⟩) 1 1, .int .u64 3, .slice (some ⟨y + 1 + 1, 0, none⟩) 1 1] := hy ▸ hN ▸ blk4n _ _ _ _ _ _
  have hbN : Below M.heap.size M N := hN ▸ ((((balloc _ _).alloc (by simp) _).alloc (by simp; omega) _).alloc (by simp; omega) _)
  have hzN : N.heap.size = y + 1 + 1 + 1 + 1 := by rw [← hy, ← hN]; simp
  obtain ⟨x, hx⟩ : ∃ x, N.heap.size = x := ⟨_, rfl⟩
  obtain ⟨O, hO⟩ : ∃ O, (N.alloc (.cells #[.slice (some ⟨y, 0, none⟩) 1 1, .slice (some ⟨y + 1 + 1 + 1, 0, none⟩) 2 2] 27)).alloc (.cells #[.slice (some ⟨z, 0, none⟩) 1 1, .slice (some ⟨z + 1 + 1, 0, none⟩) 2 2, .slice (some ⟨y, 0, none⟩) 1 1, .slice (some ⟨y + 1 + 1 + 1, 0, none⟩) 2 2] 27) = O := ⟨_, rfl⟩
  have hbO : Below N.heap.size N O := hO ▸ ((balloc _ _).alloc (by simp) _)
  have hO9 : Blk O (x + 1) 27 #[.slice (some ⟨z, 0, none⟩) 1 1, .slice (some ⟨z + 1 + 1, 0, none⟩) 2 2, .slice (some ⟨y, 0, none⟩) 1 1, .slice (some ⟨y + 1 + 1 + 1, 0, none⟩) 2 2] := hx ▸ hO ▸ Blk.new2 _ _ _ _
  have hbMO : Below M.heap.size M O := bthen hbN hbO
  have hT := ts32 (hM0.call hbMO) (hM1.call hbMO) (hM2.call hbMO) (hN4.call hbO) (hN5.call hbO) (hN6.call hbO) (hN7.call hbO) hO9
  have hMW := merge_w (sat_heapF O) [ta32, tb32] (some ⟨x + 1, 0, none⟩) 2 2 hT (by omega) (by decide)
  rw [merge32] at hMW
  have HMW := Lib.hid hMW
  have HBO : Hid (Below w.heap.size w O) := Lib.hid (by rw [hz]; exact hbM.trans (hbMO.mono (by omega)))
  have hzM2 : y = w.heap.size + 1 + 1 + 1 + 1 := by omega
  have hzN2 : x = w.heap.size + 1 + 1 + 1 + 1 + 1 + 1 + 1 + 1 := by omega
  subst hz
  have HO := Lib.hid hO
  have HN := Lib.hid hN
  have HM := Lib.hid hM
  clear hMW hT hM0 hM1 hM2 hM3 hbM hN4 hN5 hN6 hN7 hbN hbO hO9 hbMO hzM hzN hO hN hM
  subst hzM2 hzN2
  have HY := Lib.hid hy
  have HX := Lib.hid hx
  clear hy hx
  go_enter Try.func8, Try.ntmps8
  go_wp2_with fail
  have hM' := HM.out
  have hN' := HN.out
  have hO' := HO.out
  rw [HY.out] at hN'
  rw [hM', hN', hO']
  go_at_call 9
  refine HMW.out.mono ?_
  intro e w1 hr
  obtain ⟨An, cn, ax, ce, Ai, ci, Aj, cj, rfl, hb1, hl, hce, c1, c2, c3, hr3⟩ := ret32 hr
  have HB1 := Lib.hid (bthen HBO.out hb1)
  have hb2 : Below w1.heap.size w1 ((w1.alloc (.cells #[.slice An 2 cn, .slice (some ax) 4 ce] 27)).alloc (.cells #[.int .i64 1] 3)) := (balloc _ _).alloc (by simp) _
  have HEQ := Lib.hid (equalInts_w (sat_heapF ((w1.alloc (.cells #[.slice An 2 cn, .slice (some ax) 4 ce] 27)).alloc (.cells #[.int .i64 1] 3))) [1] [1] Aj (some ⟨w1.heap.size + 1, 0, none⟩) 1 1 cj 1 (by decide) (rd_call hr3 hb2) (ints_blk (ks := [1]) (Blk.new2 _ _ _ _) rfl))
  have HB2 := Lib.hid hb2
  clear hr hb1 hr3 hM' hN' hO' hb2
  go_wp2_with (go_at_call 17; refine HEQ.out.mono ?_; rintro e w2 ⟨rfl, q, rfl⟩)
  go_ret
  exact ⟨rfl, below_drewN (bthen HB1.out HB2.out) q⟩
end Go.Proofs.Ytgmbicjcfhmcdaa
