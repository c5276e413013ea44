/- The walks of law 32's Make and traces. -/
import Derived.Test.YtgmbicjcfhmcdaaTrs32
set_option linter.unusedVariables false
set_option linter.unusedSimpArgs false
/-! The walks of law 32's Make and traces. -/
namespace Go.Proofs.Ytgmbicjcfhmcdaa
open Go.RowKit
attribute [local go_sem ↓] Go.wp_at_zero Go.wp_at_succ
/-- What has been made since. -/
def frF (B : Nat) (w : World) : Fz := fun b => if B ≤ b then w.heap[b]? else none
theorem fr_hx {B : Nat} {w : World} {Gs : List Nat} (h : ∀ g, g ∈ Gs → g < B) : CLe (frF B w) (hx w Gs) := fun a v hc => by
  unfold Fz.cell frF at hc
  unfold Fz.cell
  by_cases hb : B ≤ a.block
  · rw [if_pos hb] at hc
    rw [hx_out (fun hg => by have := h _ hg; omega)]
    exact hc
  · rw [if_neg hb] at hc; cases hc
theorem fr_le {B B' : Nat} {w : World} (h : B' ≤ B) : CLe (frF B w) (frF B' w) := fun a v hc => by
  unfold Fz.cell frF at hc ⊢
  by_cases hb : B ≤ a.block
  · rw [if_pos hb] at hc; rw [if_pos (by omega)]; exact hc
  · rw [if_neg hb] at hc; cases hc
theorem rd_fr {w : World} {B size n : Nat} {A : Option Addr} {xs : List Value} (h : Rd (heapF w) size A n xs) (hb : 0 < n → ∀ a, A = some a → B ≤ a.block) : Rd (frF B w) size A n xs := by
  refine ⟨h.1, fun h0 => ?_⟩
  obtain ⟨ad, e, hc⟩ := h.2 h0
  refine ⟨ad, e, fun j u hu => ?_⟩
  have := hc j u hu
  unfold Fz.cell heapF at this
  unfold Fz.cell frF
  have hB := hb h0 ad e
  rw [block_of_add] at this ⊢
  rw [if_pos hB]
  exact this
theorem OwnE.doneF {w : World} {B : Nat} {v : Value} {es : List Evt} (h : OwnE w B v es) : ∃ A c, v = .slice A es.length c ∧ es.length ≤ c ∧ EvsF (frF B w) A es.length es := by
  have hl := h.lt
  obtain ⟨xs, h1, h2, h3⟩ := h
  obtain ⟨A, c, rfl, hc, hr⟩ := h1.rdH
  refine ⟨A, c, rfl, hc, ⟨rfl, fun h0 => ?_⟩⟩
  have hr := rd_fr (B := B) hr (fun _ a ha => by subst ha; exact (hl a.block rfl).1)
  obtain ⟨ad, e, hr2⟩ := hr.2 h0
  refine ⟨ad, e, fun i hi => ?_⟩
  obtain ⟨p, hp, ht, Ai, ci, e1, e2, e3, e4⟩ := h3 i es[i] (List.getElem?_eq_getElem hi)
  obtain ⟨g1, g2⟩ := get_evC xs i p hp
  rw [e1] at g1 g2
  exact ⟨ht, Ai, ci, e2, rd_fr e3 (fun h0 a ha => (e4 h0 a ha).1), hr2 _ _ g1, by rw [add_of_add]; exact hr2 _ _ g2⟩
/-- The names where i of them are told anew. -/
def curN (p i : Nat) : List ByteArray := (List.range 3).map fun k => if k < i then all6.getD (idx6 p k) default else all6.getD k default
theorem curN_three (p : Nat) : curN p 3 = nmsP p := rfl
theorem curN_set (p i : Nat) (hi : i < 3) : (curN p i).set i (all6.getD (idx6 p i) default) = curN p (i + 1) := by
  rcases (show i = 0 ∨ i = 1 ∨ i = 2 by omega) with rfl | rfl | rfl <;> rfl
def curC (p i : Nat) : Array Value := ((curN p i).map Value.string).toArray
/-- A trace comes back, all of it made since. -/
def RetT32 (w : World) (t : TrS) (e : Ending) (w' : World) : Prop :=
  ∃ An cn Ae ce, e = .returned (.agg #[.slice An t.1.length cn, .slice Ae t.2.length ce]) ∧ t.1.length ≤ cn ∧ t.2.length ≤ ce ∧ Rd (frF w.heap.size w') 1 An t.1.length (t.1.map Value.string) ∧ EvsF (frF w.heap.size w') Ae t.2.length t.2 ∧ Below w.heap.size w w'
set_option maxRecDepth 100000 in
set_option maxHeartbeats 4000000 in
theorem make32_w {F : Fz} {w : World} (hF : Sat F w) (s : PtS) (A : Option Addr) (c : Nat) (h1 : s.1 < 18446744073709551616) (h2 : s.2.2 < 256) (h3 : ∀ k ∈ s.2.1, k < 65536) (hr : Rd F 1 A s.2.1.length (s.2.1.map enc16)) :
    Calls Try.prog 16 #[.agg #[.int .u64 (s.1 : Nat), .slice A s.2.1.length c, .int .u8 (s.2.2 : Nat)]] w (RetT32 w (makeT s)) := by
  obtain ⟨s1, ns, p⟩ := s
  dsimp only at h1 h2 h3 hr ⊢
  have HM := Lib.hid (fun (X : World) (h : Sat F X) => mk8n_w h s1 h1 ns h3 A ns.length c hr)
  obtain ⟨n, hn⟩ : ∃ n, ns.length = n := ⟨_, rfl⟩
  rw [hn] at HM ⊢
  clear hn hr h3
  have HF := Lib.hid hF
  clear hF
  go_enter Try.func16, Try.ntmps16
  obtain ⟨X, hX⟩ : ∃ X, (w.alloc (.cells #[.int .u64 (s1 : Nat), .slice A n c, .int .u8 (p : Nat)] 46)).alloc (.cells #[.slice none 0 0, .slice none 0 0] 27) = X := ⟨_, rfl⟩
  have hbX : Below w.heap.size w X := hX ▸ (balloc _ _).alloc (by simp) _
  have hP : Blk X w.heap.size 46 #[.int .u64 (s1 : Nat), .slice A n c, .int .u8 (p : Nat)] := hX ▸ (Blk.new _ _ _).alloc _
  have hR : Blk X (w.heap.size + 1) 27 #[.slice none 0 0, .slice none 0 0] := hX ▸ Blk.new2 _ _ _ _
  have hzX : X.heap.size = w.heap.size + 2 := by rw [← hX]; simp
  have HM2 := Lib.hid (HM.out X (HF.out.below hbX))
  have HX := Lib.hid hX
  clear hX
  go_wp2_with (rw [HX.out]; go_at_call 33; refine HM2.out.mono ?_; rintro e w1 ⟨ve, B, rfl, hN, hO, hB, hb1⟩; obtain ⟨Av, cv, hv, hcv⟩ := hO.shape; subst hv)
  obtain ⟨L, hL⟩ : ∃ L, (evM (min s1 9223372036854775808) (ns.take 60)).length = L := ⟨_, rfl⟩
  obtain ⟨N, hN2⟩ : ∃ N, (w1.alloc (.cells #[.slice (some ⟨w.heap.size + 2 + 1, 0, none⟩) 3 3, .slice Av L cv] 27)).alloc (.cells #[.string ⟨#[112]⟩, .string ⟨#[113]⟩, .string ⟨#[114]⟩, .string ⟨#[115]⟩, .string ⟨#[116]⟩, .string ⟨#[117]⟩] 72) = N := ⟨_, rfl⟩
  have hbN : Below w1.heap.size w1 N := hN2 ▸ (balloc _ _).alloc (by simp) _
  rw [hzX] at hN hB
  have HN0 : Hid (Blk N (w.heap.size + 2 + 1) 9 (curC p 0)) := Lib.hid (hN.call hbN)
  have HT : Hid (Blk N w1.heap.size 27 #[.slice (some ⟨w.heap.size + 2 + 1, 0, none⟩) 3 3, .slice Av L cv]) := Lib.hid (hN2 ▸ (Blk.new _ _ _).alloc _)
  have HAR : Hid (Blk N (w1.heap.size + 1) 72 #[.string ⟨#[112]⟩, .string ⟨#[113]⟩, .string ⟨#[114]⟩, .string ⟨#[115]⟩, .string ⟨#[116]⟩, .string ⟨#[117]⟩]) := Lib.hid (hN2 ▸ Blk.new2 _ _ _ _)
  have HPN := Lib.hid ((hP.call hb1).call hbN)
  have HRN := Lib.hid ((hR.call hb1).call hbN)
  rw [hL] at hO
  have HON := Lib.hid (hO.call hbN)
  have HBN : Hid (Below w.heap.size w N) := Lib.hid (bthen hbX (bthen hb1 hbN))
  have hz1 : w.heap.size + 2 + 1 < w1.heap.size := hN.lt
  have HL := Lib.hid hL
  rw [hL, hN2]
  rw [hL] at hcv
  clear hN2 hN hO hb1 hbN hP hR hbX HX HM HM2 hL HF
  go_loopw [5, 15] (fun _ v15 wr => ∃ i : Nat, i ≤ 3 ∧ v15 = .int .i64 i ∧ Blk wr (w.heap.size + 2 + 1) 9 (curC p i) ∧ Wr [w.heap.size + 2 + 1] N wr) (fun _ v15 _ => 3 - (intOf v15).toNat)
  case atStart => exact ⟨0, by omega, rfl, HN0.out, Wr.refl _ _⟩
  case round =>
    obtain ⟨i, hi, rfl, hC, hWr⟩ := hrel
    have hT := hWr.blk HT.out (by simp; omega)
    have hz2 := hT.lt
    obtain ⟨q0, q1, f0, f1⟩ := blkA hT
    by_cases hlt : i < 3
    · have hiI : (i : Int) < 3 := by omega
      have hA := hWr.blk HAR.out (by simp; omega)
      have hP := hWr.blk HPN.out (by simp; omega)
      have p2 : wr.cell? ⟨w.heap.size, 2, none⟩ = some (.int .u8 (p : Nat)) := by rw [hP.cell]; rfl
      obtain ⟨a6, ha6⟩ : ∃ a6, p / 6 = a6 := ⟨_, rfl⟩
      obtain ⟨b2, hb2⟩ : ∃ b2, a6 % 2 = b2 := ⟨_, rfl⟩
      obtain ⟨c1, hc1⟩ : ∃ c1, p + i * (1 + b2) = c1 := ⟨_, rfl⟩
      obtain ⟨x6, hx6⟩ : ∃ x6, c1 % 6 = x6 := ⟨_, rfl⟩
      have hbb : b2 < 2 := by omega
      have hidx : idx6 p i = x6 := by unfold idx6; rw [ha6, hb2, hc1, hx6]
      have hx6b : x6 < 6 := by omega
      have hcell : wr.cell? ⟨w1.heap.size + 1, x6, none⟩ = some (.string (all6.getD x6 default)) := by
        rw [hA.cell]
        rcases (show x6 = 0 ∨ x6 = 1 ∨ x6 = 2 ∨ x6 = 3 ∨ x6 = 4 ∨ x6 = 5 by omega) with h | h | h | h | h | h <;> subst h <;> rfl
      have hC2 := hC.set_ i (.string (all6.getD x6 default))
      have hCE : (curC p i).setIfInBounds i (.string (all6.getD x6 default)) = curC p (i + 1) := by
        unfold curC
        rw [← curN_set p i hlt, hidx, List.map_set]
        simp
      rw [hCE] at hC2
      have hW2 := hWr.set (g := w.heap.size + 2 + 1) (by simp) i (.string (all6.getD x6 default))
      have hW3 := hWr.drew.set (g := w.heap.size + 2 + 1) (by simp) i (.string (all6.getD x6 default))
      obtain ⟨sx, hsx⟩ : ∃ sx, all6.getD x6 default = sx := ⟨_, rfl⟩
      rw [hsx] at hcell hC2 hW2 hW3
      have hm2 : i * (1 + b2) ≤ 4 := by
        have : i * (1 + b2) ≤ 2 * 2 := Nat.mul_le_mul (by omega) (by omega)
        omega
      obtain ⟨m1, hm1⟩ : ∃ m1, i * (1 + b2) = m1 := ⟨_, rfl⟩
      rw [hm1] at hc1 hm2
      have e1 : (p : Int) / 6 = (a6 : Int) := by omega
      have e2 : (a6 : Int) % 2 = (b2 : Int) := by omega
      have e3 : (i : Int) * (1 + (b2 : Int)) = (m1 : Int) := by rw [← hm1]; simp
      have e4 : (p : Int) + (m1 : Int) = (c1 : Int) := by omega
      have e5 : (c1 : Int) % 6 = (x6 : Int) := by omega
      have hc1b : c1 < 300 := by omega
      have ha6b : a6 < 300 := by omega
      have g0 := hC.frozen i
      have HC2 := Lib.hid hC2
      have HW2 := Lib.hid hW2
      have HW3 := Lib.hid hW3
      have c0 : wr.cell? ⟨w.heap.size + 2 + 1, i, none⟩ = some (.string ((curN p i).getD i default)) := by
        rw [hC.cell]
        unfold curC
        rw [List.getElem?_toArray, List.getElem?_map, List.getD]
        have : i < (curN p i).length := by simp [curN]; omega
        rw [List.getElem?_eq_getElem this]; rfl
      clear hA hP hC hWr hC2 hW2 hW3 hCE hsx hm1 hc1 hx6 ha6 hb2 hidx hT
      go_upto_region 6 with fail
      go_region
      all_goals
        go_wp2_with fail
        go_roundw
        case rel => exact ⟨i + 1, by omega, by go_num, HC2.out, by first | exact HW2.out | exact HW3.out | exact HW2.out.drew⟩
        case measure => simp [intOf]; omega
    · obtain rfl : i = 3 := by omega
      have hR := hWr.blk HRN.out (by simp)
      obtain ⟨r0, r1, g0, g1⟩ := blkA hR
      have hO : OwnE wr B (.slice Av L cv) (evM (min s1 9223372036854775808) (ns.take 60)) := HON.out.keep (fun q h1 h2 => hWr.block q h2 (by simp; omega))
      have hbl : Below w.heap.size w wr := HBN.out.trans (hWr.below (fun g hg => by simp at hg; omega) (by have := HBN.out.size; omega))
      have HFIN : Hid (∀ u1 u2 : Value, Below w.heap.size w ((wr.setCell ⟨w.heap.size + 1, 0, none⟩ u1).setCell ⟨w.heap.size + 1, 1, none⟩ u2) ∧ Rd (frF w.heap.size ((wr.setCell ⟨w.heap.size + 1, 0, none⟩ u1).setCell ⟨w.heap.size + 1, 1, none⟩ u2)) 1 (some ⟨w.heap.size + 2 + 1, 0, none⟩) 3 ((nmsP p).map Value.string) ∧ EvsF (frF w.heap.size ((wr.setCell ⟨w.heap.size + 1, 0, none⟩ u1).setCell ⟨w.heap.size + 1, 1, none⟩ u2)) Av L (evM (min s1 9223372036854775808) (ns.take 60))) := Lib.hid (fun u1 u2 => by
        refine ⟨(hbl.setCell (p := ⟨w.heap.size + 1, 0, none⟩) (Nat.le_succ _) u1).setCell (p := ⟨w.heap.size + 1, 1, none⟩) (Nat.le_succ _) u2, ?_, ?_⟩
        · have hC3 := (hC.far (p := ⟨w.heap.size + 1, 0, none⟩) (show w.heap.size + 2 + 1 ≠ w.heap.size + 1 by omega) u1).far (p := ⟨w.heap.size + 1, 1, none⟩) (show w.heap.size + 2 + 1 ≠ w.heap.size + 1 by omega) u2
          refine rd_fr ⟨rfl, fun _ => ⟨_, rfl, fun j u hu => ?_⟩⟩ (fun _ a ha => by injection ha with ha; subst ha; show w.heap.size ≤ w.heap.size + 2 + 1; omega)
          rw [add_lit0]
          unfold Fz.cell heapF
          rw [hC3]
          unfold curC
          rw [curN_three]
          simpa using hu
        · obtain ⟨A8, c8, e8, _, h8⟩ := ((hO.set (p := ⟨w.heap.size + 1, 0, none⟩) (show w.heap.size + 1 < B by omega) u1).set (p := ⟨w.heap.size + 1, 1, none⟩) (show w.heap.size + 1 < B by omega) u2).doneF
          injection e8 with e81
          rw [HL.out, ← e81] at h8
          exact h8.cle (fr_le (by omega)))
      clear hR hO hbl hC hWr hT
      go_wp2_with fail
      exact bodyPost_ret (v := .agg #[.slice (some ⟨w.heap.size + 2 + 1, 0, none⟩) 3 3, .slice Av L cv]) (by simp [results, Try.results16, go_sem, r0, r1, g0, g1]) rfl ⟨some ⟨w.heap.size + 2 + 1, 0, none⟩, 3, Av, cv, by
        show _ = Ending.returned (.agg #[.slice _ 3 3, .slice Av (evM (min s1 9223372036854775808) (ns.take 60)).length cv])
        rw [HL.out], Nat.le_refl _, by show (evM (min s1 9223372036854775808) (ns.take 60)).length ≤ cv; rw [HL.out]; exact hcv, (HFIN.out _ _).2.1, by show EvsF _ Av (evM (min s1 9223372036854775808) (ns.take 60)).length _; rw [HL.out]; exact (HFIN.out _ _).2.2, (HFIN.out _ _).1⟩
end Go.Proofs.Ytgmbicjcfhmcdaa
