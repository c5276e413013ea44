/- The walk of law 15's awake. -/
import Derived.Test.YtdbbooibkiicnaaGreatSatF
import Derived.Test.YtdbbooibkiicnaaGreatPlanB
set_option linter.unusedVariables false
set_option linter.unusedSimpArgs false
namespace Go.Proofs.YtdbbooibkiicnaaGreat
open Go.RowKit
def ss15 : List ByteArray := [⟨#[112]⟩]
def es15 : List Evt := [⟨3, [0]⟩, ⟨4, []⟩]
def l15 : List Nd := [⟨3, ⟨#[112]⟩, 0, 0, []⟩, ⟨10, ⟨#[]⟩, 1, 1, [0]⟩]
theorem ok15 : okA ss15 es15 l15 = true := by kernel_rfl
theorem ok15' : okA ss15 es15 (l15.take 1) = true := by kernel_rfl
theorem all15_0 : allA ss15 es15 l15 0 = false := by kernel_rfl
theorem all15_1 : allA ss15 es15 l15 1 = true := by kernel_rfl
theorem at15_0 : atA true 2 (allA ss15 es15 (l15.take 1)) 0 = true := by kernel_rfl
theorem at15_1 : atA true 2 (allA ss15 es15 (l15.take 1)) 1 = false := by kernel_rfl
def cells15 (g4 : Nat) : Array Value := #[.int .i64 3, .string ⟨#[112]⟩, .int .i64 0, .int .i64 0, .slice none 0 0, .int .i64 10, .string ⟨#[]⟩, .int .i64 1, .int .i64 1, .slice (some ⟨g4, 0, none⟩) 1 1]
theorem nodes15 {w : World} {g4 g5 : Nat} (h4 : Blk w g4 3 #[.int .i64 0]) (h5 : Blk w g5 62 (cells15 g4)) : NodesF (heapF w) (some ⟨g5, 0, none⟩) 2 l15 := by
  have hk : Rd (heapF w) 1 (some ⟨g4, 0, none⟩) 1 ([(0 : Int)].map (Value.int .i64)) := rd_intsL (ks := [0]) h4
  have hv : NodesV (heapF w) l15 (cells15 g4).toList := .cons _ _ none 0 _ (Nat.le_refl _) Rd.nil (.cons _ _ (some ⟨g4, 0, none⟩) 1 [] (Nat.le_refl _) hk .nil)
  refine hv.toF ⟨rfl, fun _ => ⟨_, rfl, fun j u hu => ?_⟩⟩
  rw [add_lit0]
  unfold Fz.cell heapF
  rw [h5]
  simpa using hu
theorem nodes15' {w : World} {g4 g5 : Nat} (h4 : Blk w g4 3 #[.int .i64 0]) (h5 : Blk w g5 62 (cells15 g4)) : NodesF (heapF w) (some ⟨g5, 0, none⟩) 1 (l15.take 1) := by
  have hv : NodesV (heapF w) (l15.take 1) [.int .i64 3, .string ⟨#[112]⟩, .int .i64 0, .int .i64 0, .slice none 0 0] := .cons _ _ none 0 [] (Nat.le_refl _) Rd.nil .nil
  refine hv.toF ⟨rfl, fun _ => ⟨_, rfl, fun j u hu => ?_⟩⟩
  rw [add_lit0]
  unfold Fz.cell heapF
  rw [h5]
  have hj : j < 5 := by have := (List.getElem?_eq_some_iff.1 hu).1; simpa using this
  rcases (show j = 0 ∨ j = 1 ∨ j = 2 ∨ j = 3 ∨ j = 4 by omega) with rfl | rfl | rfl | rfl | rfl <;> simpa [cells15] using hu
theorem evs15 {w : World} {g1 g2 : Nat} (h1 : Blk w g1 3 #[.int .i64 0]) (h2 : Blk w g2 46 #[.int .u64 3, .slice (some ⟨g1, 0, none⟩) 1 1, .int .u64 4, .slice none 0 0]) : EvsF (heapF w) (some ⟨g2, 0, none⟩) 2 es15 := by
  refine ⟨rfl, fun _ => ⟨_, rfl, fun i hi => ?_⟩⟩
  have hi : i < 2 := hi
  rcases (show i = 0 ∨ i = 1 by omega) with rfl | rfl
  · refine ⟨by show (3 : Nat) < 18446744073709551616; omega, some ⟨g1, 0, none⟩, 1, Nat.le_refl _, rd_intsL (ks := [0]) h1, ?_, ?_⟩
    · rw [add_lit0]; unfold Fz.cell heapF; rw [h2]; rfl
    · rw [add_lit0]; unfold Addr.add Fz.cell heapF; simp only [Nat.zero_mul]; rw [if_neg (by omega)]; simp only; rw [h2]; rfl
  · refine ⟨by show (4 : Nat) < 18446744073709551616; omega, none, 0, Nat.le_refl _, Rd.nil, ?_, ?_⟩
    · rw [add_lit0]; unfold Fz.cell heapF; rw [h2]; rfl
    · rw [add_lit0]; unfold Addr.add Fz.cell heapF; rw [if_neg (by omega)]; simp only; rw [h2]; rfl
theorem rd_name15 {w : World} {g : Nat} (h : Blk w g 9 #[.string ⟨#[112]⟩]) : Rd (heapF w) 1 (some ⟨g, 0, none⟩) 1 (ss15.map Value.string) := by
  refine ⟨rfl, fun _ => ⟨_, rfl, fun j u hu => ?_⟩⟩
  rw [add_lit0]
  unfold Fz.cell heapF
  rw [h]
  simpa [ss15] using hu
set_option maxRecDepth 100000 in
set_option maxHeartbeats 2000000 in
theorem awake15_w (w : World) : Calls Tryz.prog 21 #[] w fun e w' => e = .returned (.bool true) ∧ Below w.heap.size w w' := by
  obtain ⟨M, hM⟩ : ∃ M, M = (((w.alloc (.cells #[.string ⟨#[112]⟩] 9)).alloc (.cells #[.int .i64 0] 3)).alloc (.cells #[.int .u64 3, .slice (some ⟨w.heap.size + 1, 0, none⟩) 1 1, .int .u64 4, .slice none 0 0] 46)).alloc (.cells #[.slice (some ⟨w.heap.size, 0, none⟩) 1 1, .slice (some ⟨w.heap.size + 1 + 1, 0, none⟩) 2 2] 43) := ⟨_, rfl⟩
  have hM0 : Blk M w.heap.size 9 #[.string ⟨#[112]⟩] := hM ▸ ((((Blk.new _ _ _).alloc _).alloc _).alloc _)
  have hM1 : Blk M (w.heap.size + 1) 3 #[.int .i64 0] := hM ▸ (((Blk.new2 _ _ _ _).alloc _).alloc _)
  have hM2 : Blk M (w.heap.size + 1 + 1) 46 #[.int .u64 3, .slice (some ⟨w.heap.size + 1, 0, none⟩) 1 1, .int .u64 4, .slice none 0 0] := hM ▸ (blk3n _ _ _ _ _).alloc _
  have hM3 : Blk M (w.heap.size + 1 + 1 + 1) 43 #[.slice (some ⟨w.heap.size, 0, none⟩) 1 1, .slice (some ⟨w.heap.size + 1 + 1, 0, none⟩) 2 2] := hM ▸ blk4n _ _ _ _ _ _
  have hzM : M.heap.size = w.heap.size + 1 + 1 + 1 + 1 := by rw [hM]; simp
  have hbM : Below w.heap.size w M := hM ▸ ((((balloc _ _).alloc (by simp) _).alloc (by simp; omega) _).alloc (by simp; omega) _)
  obtain ⟨N, hN⟩ : ∃ N, N = (M.alloc (.cells #[.int .i64 0] 3)).alloc (.cells (cells15 (w.heap.size + 1 + 1 + 1 + 1)) 62) := ⟨_, rfl⟩
  have hN4 : Blk N (w.heap.size + 1 + 1 + 1 + 1) 3 #[.int .i64 0] := by rw [hN, ← hzM]; exact (Blk.new _ _ _).alloc _
  have hN5 : Blk N (w.heap.size + 1 + 1 + 1 + 1 + 1) 62 (cells15 (w.heap.size + 1 + 1 + 1 + 1)) := by rw [hN, ← hzM]; exact Blk.new2 _ _ _ _
  have hbN : Below M.heap.size M N := hN ▸ ((balloc _ _).alloc (by simp) _)
  have hE := evs15 (hM1.call hbN) (hM2.call hbN)
  have hNm := rd_name15 (hM0.call hbN)
  have hl := nodes15 hN4 hN5
  have hl' := nodes15' hN4 hN5
  have HA := Lib.hid (sAll_w (sat_heapF N) ss15 es15 (some ⟨w.heap.size, 0, none⟩) 1 1 (Nat.le_refl _) hNm (some ⟨w.heap.size + 1 + 1, 0, none⟩) 2 2 hE (by decide) (by omega) l15 (by decide) (some ⟨w.heap.size + 1 + 1 + 1 + 1 + 1, 0, none⟩) 2 2 (Nat.le_refl _) hl true ok15 _ rfl)
  have HP0 := Lib.hid (fun (X : World) (h : Sat (heapF N) X) => sAt_w h ss15 es15 (some ⟨w.heap.size, 0, none⟩) 1 1 (Nat.le_refl _) hNm (some ⟨w.heap.size + 1 + 1, 0, none⟩) 2 2 hE (by decide) (by omega) (l15.take 1) (by decide) (some ⟨w.heap.size + 1 + 1 + 1 + 1 + 1, 0, none⟩) 1 2 (by omega) hl' true ok15' _ rfl 0 true at15_0)
  have HP1 := Lib.hid (fun (X : World) (h : Sat (heapF N) X) => sAt_w h ss15 es15 (some ⟨w.heap.size, 0, none⟩) 1 1 (Nat.le_refl _) hNm (some ⟨w.heap.size + 1 + 1, 0, none⟩) 2 2 hE (by decide) (by omega) (l15.take 1) (by decide) (some ⟨w.heap.size + 1 + 1 + 1 + 1 + 1, 0, none⟩) 1 2 (by omega) hl' true ok15' _ rfl 1 false at15_1)
  have HBM := Lib.hid (bthen hbM hbN)
  obtain ⟨m0, m1, _, _⟩ := blkA hM3
  have HB3 := Lib.hid (hM3.call hbN)
  have HN := Lib.hid hN
  have HM := Lib.hid hM
  clear hE hNm hl hl' hN4 hN5 hbN hM0 hM1 hM2 hM3 hzM hN hM
  go_enter Tryz.func21, Tryz.ntmps21
  go_wp2_with fail
  unfold cells15 at HN
  rw [← HM.out, ← HN.out]
  go_at_call 24
  refine HA.out.mono ?_
  rintro e w1 (⟨h, _⟩ | ⟨_, g, rfl, hb1, hg, hk⟩)
  · cases h
  have v0 : w1.cell? ⟨g, 0, none⟩ = some (.bool false) := by rw [hk.cell, get_rowV (by omega), all15_0]
  have v1 : w1.cell? ⟨g, 1, none⟩ = some (.bool true) := by rw [hk.cell, get_rowV (by omega), all15_1]
  obtain ⟨m0, m1, _, _⟩ := blkA (HB3.out.call hb1)
  have hF1 : Sat (heapF N) w1 := (sat_heapF N).below hb1
  have hgl := hk.lt
  have hml := (HB3.out.call hb1).lt
  have HB1 := Lib.hid hb1
  clear hk hg hb1
  go_wp2_with fail
  go_region_held3 (fun w' => w'.cell? ⟨g, 0, none⟩ = some (.bool false) ∧ w'.cell? ⟨g, 1, none⟩ = some (.bool true) ∧ w'.cell? ⟨w.heap.size + 1 + 1 + 1, 0, none⟩ = some (.slice (some ⟨w.heap.size, 0, none⟩) 1 1) ∧ w'.cell? ⟨w.heap.size + 1 + 1 + 1, 1, none⟩ = some (.slice (some ⟨w.heap.size + 1 + 1, 0, none⟩) 2 2)) (first | go_keep | exact ⟨v0, v1, m0, m1⟩ | exact ⟨s0, s1, s2, s3⟩)
    (first
      | (go_at_call 25; refine (HP1.out _ (hF1.below hc2)).mono ?_; rintro e w3 ⟨rfl, hw3⟩; have hc3 := bthen hc2 hw3; have s0 := (hc3.cell (p := ⟨g, 0, none⟩) hgl).trans v0; have s1 := (hc3.cell (p := ⟨g, 1, none⟩) hgl).trans v1; have s2 := (hc3.cell (p := ⟨w.heap.size + 1 + 1 + 1, 0, none⟩) hml).trans m0; have s3 := (hc3.cell (p := ⟨w.heap.size + 1 + 1 + 1, 1, none⟩) hml).trans m1)
      | (go_at_call 25; refine (HP0.out _ (by first | exact hF1 | exact hF1.drew)).mono ?_; rintro e w2 ⟨rfl, hw2⟩; have hc2 : Below w1.heap.size w1 w2 := (by first | exact hw2 | exact bel_eqv0 hw2); have s0 := (hc2.cell (p := ⟨g, 0, none⟩) hgl).trans v0; have s1 := (hc2.cell (p := ⟨g, 1, none⟩) hgl).trans v1; have s2 := (hc2.cell (p := ⟨w.heap.size + 1 + 1 + 1, 0, none⟩) hml).trans m0; have s3 := (hc2.cell (p := ⟨w.heap.size + 1 + 1 + 1, 1, none⟩) hml).trans m1))
  all_goals
    go_wp2_with fail
    go_ret
    exact ⟨rfl, bthen HBM.out (bthen HB1.out hc3)⟩
end Go.Proofs.YtdbbooibkiicnaaGreat
