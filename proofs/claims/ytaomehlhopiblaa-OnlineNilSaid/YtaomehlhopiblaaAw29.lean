/- One pass: the walks of Pending, Atoms, End. -/
import Derived.Test.YtaomehlhopiblaaOnlTl
import Derived.Test.YtaomehlhopiblaaOwn
import Derived.Test.YtaomehlhopiblaaPlanO
import Derived.Test.YtaomehlhopiblaaPlanG
import Derived.Test.YtaomehlhopiblaaPlanC
set_option linter.unusedVariables false
set_option linter.unusedSimpArgs false
/-! One pass: the walks of Pending, Atoms, End. -/
namespace Go.Proofs.Ytaomehlhopiblaa
open Go.RowKit
attribute [local go_sem ↓] Go.wp_at_zero Go.wp_at_succ
theorem at_wdL {m : Nat} (hm : m ≤ 10) {F : Fz} {w : World} (hF : Sat F w) {v : Value} {p : Nat → Bool} (h : WdF m F v p) :
    Calls Try.prog 13 #[.int .i64 m, v, .int .u64 0] w fun e w' => e = .returned (.bool (p 0)) ∧ w = w' := by
  obtain ⟨A, n, c, fs, rfl, hr, hl, hp⟩ := h
  have h0 : 0 < 2 ^ m := Nat.pow_pos (by omega)
  have h := at_any hF m hm fs hl A n c hr 0 (Int.le_refl 0)
  rw [show (0 : Int).toNat = 0 from rfl, decide_eq_true h0, Bool.true_and, hp 0 h0] at h
  exact h
set_option maxRecDepth 100000 in
set_option maxHeartbeats 2000000 in
theorem opendN_w (w : World) : Calls Try.prog 6 #[.pointer none] w fun e w' => e = .returned (.slice none 0 0) ∧ w' = w := by
  go_enter Try.func6, Try.ntmps6
  go_wp2_with fail
  go_ret
  exact ⟨rfl, rfl⟩
set_option maxRecDepth 100000 in
set_option maxHeartbeats 2000000 in
theorem oatomsN_w (w : World) : Calls Try.prog 7 #[.pointer none] w fun e w' => e = .returned (.int .i64 0) ∧ w' = w := by
  go_enter Try.func7, Try.ntmps7
  go_wp2_with fail
  go_ret
  exact ⟨rfl, rfl⟩
set_option maxRecDepth 100000 in
set_option maxHeartbeats 2000000 in
theorem oendN_w (w : World) : Calls Try.prog 5 #[.pointer none] w fun e w' => e = .returned (.slice none 0 0) ∧ w' = w := by
  go_enter Try.func5, Try.ntmps5
  go_wp2_with fail
  go_ret
  exact ⟨rfl, rfl⟩
theorem itC_end (pd : Pnd) (j : Nat) (p : Nat × Fn) (h : pd[j]? = some p) : itC (endS (pd.take (j + 1))) = itC (endS (pd.take j)) ++ [.int .i64 1, .int .i64 (p.1 : Nat), .bool (p.2 0), .int .i64 0] := by
  rw [List.take_add_one, h]
  unfold endS
  rw [List.map_append, itC_append]
  rfl
/-- What End leaves. -/
def RetEd (w : World) (go : Nat) (I : List Itm) (e : Ending) (w' : World) : Prop := ∃ (w1 : World) (A : Option Addr) (c : Nat), e = .returned (.slice A I.length c) ∧ Below w.heap.size w w1 ∧ w' = (w1.setCell ⟨go, 4, none⟩ (.slice none 0 0)).setCell ⟨go, 7, none⟩ (.bool true) ∧
  I.length ≤ c ∧ Rd (heapF w1) 4 A I.length (itC I) ∧ ∀ a, A = some a → w.heap.size ≤ a.block
set_option maxRecDepth 100000 in
set_option maxHeartbeats 4000000 in
theorem oend_w {F : Fz} {w : World} (hF : Sat F w) (m : Nat) (hm : m ≤ 10) (go : Nat) (hgo : go < w.heap.size) (h1 : w.cell? ⟨go, 1, none⟩ = some (.int .i64 (m : Nat))) (Ap : Option Addr) (np cp : Nat) (h4 : w.cell? ⟨go, 4, none⟩ = some (.slice Ap np cp)) (b : Bool) (h7 : w.cell? ⟨go, 7, none⟩ = some (.bool b)) (hf : ∀ i, w.frozen? ⟨go, i, none⟩ = false)
    (pd : Pnd) (hP : PlF m F Ap np pd) (hn : np ≤ 100000) :
    Calls Try.prog 5 #[.pointer (some ⟨go, 0, none⟩)] w (RetEd w go (endS pd)) := by
  have hPl : pd.length = np := hP.1
  have HP := Lib.hid hP
  have HPL := Lib.hid hPl
  have HF := Lib.hid hF
  have H1 := Lib.hid h1
  have H4 := Lib.hid h4
  have H7 := Lib.hid h7
  have HFZ := Lib.hid hf
  have HGO := Lib.hid hgo
  clear hP hPl hF h1 h7 hf hgo
  go_enter Try.func5, Try.ntmps5
  go_wp2_with fail
  clear h4
  go_loopw [3, 5, 13] (fun v3 _ v13 wr => ∃ (j : Nat) (A : Option Addr) (c : Nat), j ≤ np ∧ v13 = .int .i64 (j : Nat) ∧ v3 = .slice A j c ∧ Below w.heap.size w wr ∧ Own F wr w.heap.size 56 4 (.slice A j c) j (itC (endS (pd.take j)))) (fun _ _ v13 _ => np - (intOf v13).toNat)
  case atStart => exact ⟨0, none, 0, Nat.zero_le _, rfl, rfl, Below.refl _ _, Own.nil _ _ _ _ _⟩
  case round =>
    obtain ⟨j, A, c, hj, rfl, rfl, hbl, hO⟩ := hrel
    have hFr := HF.out.below hbl
    have hzl := hbl.size
    have y1 := (hbl.cell (p := ⟨go, 1, none⟩) HGO.out).trans H1.out
    have lgo : go < wr.heap.size := Nat.lt_of_lt_of_le HGO.out hzl
    by_cases hjl : j < np
    · have hjI : (j : Int) < (np : Int) := by omega
      have hjL : j < pd.length := by rw [HPL.out]; exact hjl
      obtain ⟨p, hp⟩ : ∃ p, pd[j]? = some p := ⟨_, List.getElem?_eq_getElem hjL⟩
      obtain ⟨ad, v, rfl, c0, c1, hv⟩ := HP.out.at_ hp
      obtain ⟨A2, n2, c2, f2, rfl, _⟩ := id hv
      have z0 := hFr.cell c0
      have z1 : wr.cell? ⟨(ad.add (j * 2)).block, (ad.add (j * 2)).off + 1, none⟩ = some (.slice A2 n2 c2) := hFr.cell c1
      have HTK := Lib.hid (itC_end pd j p hp)
      obtain ⟨P0, hP0⟩ : ∃ P0 : Bool, p.2 0 = P0 := ⟨_, rfl⟩
      rw [hP0] at HTK
      have HAT : Hid (∀ X, Sat F X → Calls Try.prog 13 #[.int .i64 m, .slice A2 n2 c2, .int .u64 0] X fun e w' => e = .returned (.bool P0) ∧ X = w') := Lib.hid (fun X hX => hP0 ▸ at_wdL hm hX hv)
      obtain ⟨wA, hwA⟩ : ∃ wA, wA = wr.alloc (.cells #[.int .i64 (p.1 : Nat), .slice A2 n2 c2] 52) := ⟨_, rfl⟩
      have hbA : Below wr.heap.size wr wA := by rw [hwA]; exact balloc _ _
      obtain ⟨gA, hgA⟩ : ∃ gA, gA = wr.heap.size := ⟨_, rfl⟩
      have hBA : Blk wA gA 52 #[.int .i64 (p.1 : Nat), .slice A2 n2 c2] := by rw [hwA, hgA]; exact Blk.new _ _ _
      obtain ⟨a0, a1, _, _⟩ := blkA hBA
      have hOA := hO.call hbA
      have hOw := Lib.hid (fun g (e : (Value.slice A j c).ownBlock = some g) => (hO.1.lt g e).2)
      have hFA := hFr.below hbA
      have hblA := hbl.trans (hbA.mono hzl)
      have y2 := (hbA.cell (p := ⟨go, 1, none⟩) lgo).trans y1
      have hzA := hblA.size
      have HWA := Lib.hid hwA
      have HGA := Lib.hid hgA
      have HFA := Lib.hid hFA
      clear hv hp c0 c1 hO hFr hP0 hwA hgA hbA hFA
      go_wp2_with fail
      rw [← HWA.out, ← HGA.out]
      have hown : some gA ≠ (Value.slice A j c).ownBlock := fun e => by have := (hOw.out _ e.symm); rw [HGA.out] at this; omega
      have lgA : gA < wA.heap.size := hBA.lt
      have lgoA : go < wA.heap.size := by have h := HGA.out; omega
      go_region_held3 (fun w' => w'.cell? ⟨gA, 0, none⟩ = some (.int .i64 (p.1 : Nat)) ∧ w'.cell? ⟨gA, 1, none⟩ = some (.slice A2 n2 c2) ∧ w'.cell? ⟨go, 1, none⟩ = some (.int .i64 (m : Nat))) (first | exact ⟨a0, a1, y2⟩ | exact ⟨s3, s4, s5⟩ | go_keep)
        (first
          | (go_at_call 13; refine (HAT.out _ (by first | exact HFA.out | exact HFA.out.drew)).mono ?_; rintro e w6 ⟨rfl, rfl⟩)
          | ((refine step_pushIt rfl (.tmp 17) (.tmp 28) (by rfl) (by first | exact hOA.drew.alloc _ | exact hOA.alloc _) (by first | exact HFA.out.drew.alloc _ | exact HFA.out.alloc _) (by rfl) wA.heap.size 1 (by rfl) (Blk.new _ _ _) (by omega) (by show w.heap.size ≤ (wA.alloc _).heap.size; simp; omega) ?_; intro v2 w2 hO2 hF2 hb2 hg2 hat2; have k8 := blkA ((hBA.drew.alloc _).grown hg2 hown); have s3 := k8.1; have s4 := k8.2.1; have s5 := (hb2.cell (p := ⟨go, 1, none⟩) HGO.out).trans (((balloc wA.drew (.cells #[.int .i64 1, .int .i64 (p.1 : Nat), .bool P0, .int .i64 0] 56)).cell (p := ⟨go, 1, none⟩) lgoA).trans y2))))
      all_goals
        rw [← HTK.out] at hO2
        obtain ⟨A3, c3, rfl, hc3⟩ := hO2.shape
        have hS2 := (hblA.drew.alloc (by exact hzA) (.cells #[.int .i64 1, .int .i64 (p.1 : Nat), .bool P0, .int .i64 0] 56)).trans hb2
        go_wp2_with fail
        go_roundw
        case rel => exact ⟨j + 1, A3, c3, by omega, by go_num, rfl, hS2, hO2⟩
        case measure => simp [intOf]; omega
    · obtain rfl : j = np := by omega
      have hdec : decide ((j : Int) < (j : Int)) = false := decide_eq_false (by omega)
      have HTK : Hid (pd.take j = pd) := Lib.hid (List.take_of_length_le (by rw [HPL.out]; exact Nat.le_refl _))
      rw [HTK.out] at hO
      have HO := Lib.hid hO
      have HL : Hid ((endS pd).length = j) := Lib.hid (by unfold endS; rw [List.length_map]; exact HPL.out)
      have y4 := (hbl.cell (p := ⟨go, 4, none⟩) HGO.out).trans H4.out
      have y7 := (hbl.cell (p := ⟨go, 7, none⟩) HGO.out).trans H7.out
      have f4 : wr.frozen? ⟨go, 4, none⟩ = false := (World.frozen?_of_block (a := ⟨go, 4, none⟩) (hbl.block go HGO.out)).trans (HFZ.out 4)
      have f7 : wr.frozen? ⟨go, 7, none⟩ = false := (World.frozen?_of_block (a := ⟨go, 7, none⟩) (hbl.block go HGO.out)).trans (HFZ.out 7)
      clear hO y1
      go_wp2_with fail
      go_ret
      obtain ⟨A3, c3, e3, hc3, hr3⟩ := HO.out.rdH
      injection e3 with e1 e2 e3
      subst e1 e3
      exact ⟨wr, A, c, by rw [HL.out]; rfl, hbl, rfl, by rw [HL.out]; exact hc3, by rw [HL.out]; exact hr3, fun a e => (HO.out.fresh a e)⟩
end Go.Proofs.Ytaomehlhopiblaa
namespace Go.Proofs.Ytaomehlhopiblaa
open Go.RowKit
theorem Blk.new3L (w : World) (o o' : Obj) (t : TypeId) (cs : Array Value) : Blk (((w.alloc o).alloc o').alloc (.cells cs t)) (w.heap.size + 2) t cs := by
  have := Blk.new ((w.alloc o).alloc o') t cs
  simpa using this
theorem Blk.new4L (w : World) (o o' o'' : Obj) (t : TypeId) (cs : Array Value) : Blk ((((w.alloc o).alloc o').alloc o'').alloc (.cells cs t)) (w.heap.size + 3) t cs := by
  have := Blk.new (((w.alloc o).alloc o').alloc o'') t cs
  simpa using this
end Go.Proofs.Ytaomehlhopiblaa
