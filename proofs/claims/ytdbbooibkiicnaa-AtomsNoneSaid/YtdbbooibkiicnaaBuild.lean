/- The pile's add: what each number adds. -/
import Derived.Test.YtdbbooibkiicnaaAddA
import Derived.Test.YtdbbooibkiicnaaAddB1
import Derived.Test.YtdbbooibkiicnaaAddB2
import Derived.Test.YtdbbooibkiicnaaAddB3
import Derived.Test.YtdbbooibkiicnaaAddC
import Derived.Test.YtdbbooibkiicnaaAddC16
import Derived.Test.YtdbbooibkiicnaaAddC17
set_option linter.unusedVariables false
set_option linter.unusedSimpArgs false
/-! The pile's add: what each number adds. -/
namespace Go.Proofs.Ytdbbooibkiicnaa
open Go.RowKit
set_option maxRecDepth 100000 in
set_option maxHeartbeats 4000000 in
theorem add_16_0 {F : Fz} {w0 w : World} (hF : Sat F w) (hw : w0.heap.size ≤ w.heap.size) (f : List Tr) (A A' : Option Addr) (c c' : Nat)
    (hf : OwnR F w w0.heap.size (.slice A (f.length) c) (memL f)) (hr : OwnR F w w0.heap.size (.slice A' (0) c') (memL [])) (hap : Apart (.slice A (f.length) c) (.slice A' (0) c')) (arg : Nat) (harg : arg ≤ 3000) :
    Calls Try.prog 71 #[.agg #[.slice A (f.length) c, .slice A' (0) c'], .int .i64 (16 : Int), .int .i64 (arg : Int)] w (RetA F w0 w (f, [])) := by
  go_enter Try.func71, Try.ntmps71
  go_wp2_with fail
  exact bodyPost_ret (v := .agg #[.slice A (f.length) c, .slice A' (0) c']) (by simp [results, Try.results71, go_sem]) rfl ⟨_, _, _, _, F, rfl, (hf.alloc _).alloc _, (hr.alloc _).alloc _, hap, ((Below.refl _ _).alloc hw _).alloc (by simp; omega) _, (hF.alloc _).alloc _, Fle.refl _ _⟩
set_option maxRecDepth 100000 in
set_option maxHeartbeats 4000000 in
theorem add_17_0 {F : Fz} {w0 w : World} (hF : Sat F w) (hw : w0.heap.size ≤ w.heap.size) (f : List Tr) (A A' : Option Addr) (c c' : Nat)
    (hf : OwnR F w w0.heap.size (.slice A (f.length) c) (memL f)) (hr : OwnR F w w0.heap.size (.slice A' (0) c') (memL [])) (hap : Apart (.slice A (f.length) c) (.slice A' (0) c')) (arg : Nat) (harg : arg ≤ 3000) :
    Calls Try.prog 71 #[.agg #[.slice A (f.length) c, .slice A' (0) c'], .int .i64 (17 : Int), .int .i64 (arg : Int)] w (RetA F w0 w (f, [])) := by
  go_enter Try.func71, Try.ntmps71
  go_wp2_with fail
  exact bodyPost_ret (v := .agg #[.slice A (f.length) c, .slice A' (0) c']) (by simp [results, Try.results71, go_sem]) rfl ⟨_, _, _, _, F, rfl, (hf.alloc _).alloc _, (hr.alloc _).alloc _, hap, ((Below.refl _ _).alloc hw _).alloc (by simp; omega) _, (hF.alloc _).alloc _, Fle.refl _ _⟩
set_option maxRecDepth 100000 in
set_option maxHeartbeats 4000000 in
theorem add_20_0 {F : Fz} {w0 w : World} (hF : Sat F w) (hw : w0.heap.size ≤ w.heap.size) (r : List Tr) (A A' : Option Addr) (c c' : Nat)
    (hf : OwnR F w w0.heap.size (.slice A (0) c) (memL [])) (hr : OwnR F w w0.heap.size (.slice A' (r.length) c') (memL r)) (hap : Apart (.slice A (0) c) (.slice A' (r.length) c')) (arg : Nat) (harg : arg ≤ 3000) :
    Calls Try.prog 71 #[.agg #[.slice A (0) c, .slice A' (r.length) c'], .int .i64 (20 : Int), .int .i64 (arg : Int)] w (RetA F w0 w ([], r)) := by
  go_enter Try.func71, Try.ntmps71
  go_wp2_with fail
  exact bodyPost_ret (v := .agg #[.slice A (0) c, .slice A' (r.length) c']) (by simp [results, Try.results71, go_sem]) rfl ⟨_, _, _, _, F, rfl, (hf.alloc _).alloc _, (hr.alloc _).alloc _, hap, ((Below.refl _ _).alloc hw _).alloc (by simp; omega) _, (hF.alloc _).alloc _, Fle.refl _ _⟩
theorem add_w {F : Fz} {w0 w : World} (hF : Sat F w) (hw : w0.heap.size ≤ w.heap.size) (f r : List Tr) (hs : totT f + totT r ≤ 900) (A A' : Option Addr) (c c' : Nat)
    (hf : OwnR F w w0.heap.size (.slice A f.length c) (memL f)) (hr : OwnR F w w0.heap.size (.slice A' r.length c') (memL r)) (hap : Apart (.slice A f.length c) (.slice A' r.length c')) (op arg : Nat) (hop : op < 24) (harg : arg ≤ 3000) :
    Calls Try.prog 71 #[.agg #[.slice A f.length c, .slice A' r.length c'], .int .i64 (op : Int), .int .i64 (arg : Int)] w (RetA F w0 w (addT (f, r) op arg)) := by
  have h : op = 0 ∨ op = 1 ∨ op = 2 ∨ op = 3 ∨ op = 4 ∨ op = 5 ∨ op = 6 ∨ op = 7 ∨ op = 8 ∨ op = 9 ∨ op = 10 ∨ op = 11 ∨ op = 12 ∨ op = 13 ∨ op = 14 ∨ op = 15 ∨ op = 16 ∨ op = 17 ∨ op = 18 ∨ op = 19 ∨ op = 20 ∨ op = 21 ∨ op = 22 ∨ op = 23 := by omega
  rcases h with rfl | rfl | rfl | rfl | rfl | rfl | rfl | rfl | rfl | rfl | rfl | rfl | rfl | rfl | rfl | rfl | rfl | rfl | rfl | rfl | rfl | rfl | rfl | rfl
  · have h : arg % 2 = 0 ∨ arg % 2 = 1 := by omega
    rcases h with h | h
    · have e : addT (f, r) 0 arg = (.leaf (ndK 1) :: f, r) := by simp [addT, h]
      rw [e]
      exact add_0_0 hF hw f r hs A A' c c' hf hr hap arg harg (by omega)
    · have e : addT (f, r) 0 arg = (.leaf (ndK 2) :: f, r) := by simp [addT, h]
      rw [e]
      exact add_0_1 hF hw f r hs A A' c c' hf hr hap arg harg (by omega)
  · have h : arg % 3 = 0 ∨ arg % 3 = 1 ∨ arg % 3 = 2 := by omega
    rcases h with h | h | h
    · have e : addT (f, r) 1 arg = (.leaf (ndP 0) :: f, r) := by simp [addT, h]
      rw [e]
      exact add_1_0 hF hw f r hs A A' c c' hf hr hap arg harg (by omega)
    · have e : addT (f, r) 1 arg = (.leaf (ndP 1) :: f, r) := by simp [addT, h]
      rw [e]
      exact add_1_1 hF hw f r hs A A' c c' hf hr hap arg harg (by omega)
    · have e : addT (f, r) 1 arg = (.leaf (ndP 2) :: f, r) := by simp [addT, h]
      rw [e]
      exact add_1_2 hF hw f r hs A A' c c' hf hr hap arg harg (by omega)
  · have h : arg % 3 = 0 ∨ arg % 3 = 1 ∨ arg % 3 = 2 := by omega
    rcases h with h | h | h
    · have e : addT (f, r) 2 arg = (.leaf (ndP 0) :: f, r) := by simp [addT, h]
      rw [e]
      exact add_2_0 hF hw f r hs A A' c c' hf hr hap arg harg (by omega)
    · have e : addT (f, r) 2 arg = (.leaf (ndP 1) :: f, r) := by simp [addT, h]
      rw [e]
      exact add_2_1 hF hw f r hs A A' c c' hf hr hap arg harg (by omega)
    · have e : addT (f, r) 2 arg = (.leaf (ndP 2) :: f, r) := by simp [addT, h]
      rw [e]
      exact add_2_2 hF hw f r hs A A' c c' hf hr hap arg harg (by omega)
  · have h : arg % 3 = 0 ∨ arg % 3 = 1 ∨ arg % 3 = 2 := by omega
    rcases h with h | h | h
    · have e : addT (f, r) 3 arg = (.leaf (ndP 0) :: f, r) := by simp [addT, h]
      rw [e]
      exact add_3_0 hF hw f r hs A A' c c' hf hr hap arg harg (by omega)
    · have e : addT (f, r) 3 arg = (.leaf (ndP 1) :: f, r) := by simp [addT, h]
      rw [e]
      exact add_3_1 hF hw f r hs A A' c c' hf hr hap arg harg (by omega)
    · have e : addT (f, r) 3 arg = (.leaf (ndP 2) :: f, r) := by simp [addT, h]
      rw [e]
      exact add_3_2 hF hw f r hs A A' c c' hf hr hap arg harg (by omega)
  · match f, hf, hap, hs with
    | [], hf, hap, hs => exact add_4_0 hF hw r hs A A' c c' hf hr hap arg harg
    | t :: f, hf, hap, hs => exact add_4 hF hw t f r hs A A' c c' hf hr hap arg harg
  · match f, hf, hap, hs with
    | [], hf, hap, hs => exact add_5_0 hF hw r hs A A' c c' hf hr hap arg harg
    | [t], hf, hap, hs => exact add_5_1 hF hw t r hs A A' c c' hf hr hap arg harg
    | b :: a :: f, hf, hap, hs => exact add_5 hF hw a b f r hs A A' c c' hf hr hap arg harg
  · match f, hf, hap, hs with
    | [], hf, hap, hs => exact add_6_0 hF hw r hs A A' c c' hf hr hap arg harg
    | [t], hf, hap, hs => exact add_6_1 hF hw t r hs A A' c c' hf hr hap arg harg
    | b :: a :: f, hf, hap, hs => exact add_6 hF hw a b f r hs A A' c c' hf hr hap arg harg
  · match f, hf, hap, hs with
    | [], hf, hap, hs => exact add_7_0 hF hw r hs A A' c c' hf hr hap arg harg
    | [t], hf, hap, hs => exact add_7_1 hF hw t r hs A A' c c' hf hr hap arg harg
    | b :: a :: f, hf, hap, hs => exact add_7 hF hw a b f r hs A A' c c' hf hr hap arg harg
  · match f, hf, hap, hs with
    | [], hf, hap, hs => exact add_8_0 hF hw r hs A A' c c' hf hr hap arg harg
    | t :: f, hf, hap, hs => exact add_8 hF hw t f r hs A A' c c' hf hr hap arg harg
  · match f, hf, hap, hs with
    | [], hf, hap, hs => exact add_9_0 hF hw r hs A A' c c' hf hr hap arg harg
    | t :: f, hf, hap, hs => exact add_9 hF hw t f r hs A A' c c' hf hr hap arg harg
  · match f, hf, hap, hs with
    | [], hf, hap, hs => exact add_10_0 hF hw r hs A A' c c' hf hr hap arg harg
    | t :: f, hf, hap, hs => exact add_10 hF hw t f r hs A A' c c' hf hr hap arg harg
  · match f, hf, hap, hs with
    | [], hf, hap, hs => exact add_11_0 hF hw r hs A A' c c' hf hr hap arg harg
    | t :: f, hf, hap, hs => exact add_11 hF hw t f r hs A A' c c' hf hr hap arg harg
  · match f, hf, hap, hs with
    | [], hf, hap, hs => exact add_12_0 hF hw r hs A A' c c' hf hr hap arg harg
    | t :: f, hf, hap, hs => exact add_12 hF hw t f r hs A A' c c' hf hr hap arg harg
  · match f, hf, hap, hs with
    | [], hf, hap, hs => exact add_13_0 hF hw r hs A A' c c' hf hr hap arg harg
    | t :: f, hf, hap, hs => exact add_13 hF hw t f r hs A A' c c' hf hr hap arg harg
  · match f, hf, hap, hs with
    | [], hf, hap, hs => exact add_14_0 hF hw r hs A A' c c' hf hr hap arg harg
    | [t], hf, hap, hs => exact add_14_1 hF hw t r hs A A' c c' hf hr hap arg harg
    | b :: a :: f, hf, hap, hs => exact add_14 hF hw a b f r hs A A' c c' hf hr hap arg harg
  · match f, hf, hap, hs with
    | [], hf, hap, hs => exact add_15_0 hF hw r hs A A' c c' hf hr hap arg harg
    | [t], hf, hap, hs => exact add_15_1 hF hw t r hs A A' c c' hf hr hap arg harg
    | b :: a :: f, hf, hap, hs => exact add_15 hF hw a b f r hs A A' c c' hf hr hap arg harg
  · match r, hr, hap, hs with
    | [], hr, hap, hs => exact add_16_0 hF hw f A A' c c' hf hr hap arg harg
    | t :: r, hr, hap, hs => exact add_16 hF hw t f r hs A A' c c' hf hr hap arg harg
  · match r, hr, hap, hs with
    | [], hr, hap, hs => exact add_17_0 hF hw f A A' c c' hf hr hap arg harg
    | t :: r, hr, hap, hs => exact add_17 hF hw t f r hs A A' c c' hf hr hap arg harg
  · exact add_18 hF hw f r hs A A' c c' hf hr hap arg harg
  · exact add_19 hF hw f r hs A A' c c' hf hr hap arg harg
  · match f, hf, hap, hs with
    | [], hf, hap, hs => exact add_20_0 hF hw r A A' c c' hf hr hap arg harg
    | t :: f, hf, hap, hs => exact add_20 hF hw t f r hs A A' c c' hf hr hap arg harg
  · match r, hr, hap, hs with
    | [], hr, hap, hs => exact add_21_0 hF hw f hs A A' c c' hf hr hap arg harg
    | [t], hr, hap, hs => exact add_21_1 hF hw t f hs A A' c c' hf hr hap arg harg
    | b :: a :: r, hr, hap, hs => exact add_21 hF hw a b f r hs A A' c c' hf hr hap arg harg
  · match r, hr, hap, hs with
    | [], hr, hap, hs => exact add_22_0 hF hw f hs A A' c c' hf hr hap arg harg
    | [t], hr, hap, hs => exact add_22_1 hF hw t f hs A A' c c' hf hr hap arg harg
    | b :: a :: r, hr, hap, hs => exact add_22 hF hw a b f r hs A A' c c' hf hr hap arg harg
  · match r, hr, hap, hs with
    | [], hr, hap, hs => exact add_23_0 hF hw f hs A A' c c' hf hr hap arg harg
    | t :: r, hr, hap, hs => exact add_23 hF hw t f r hs A A' c c' hf hr hap arg harg
end Go.Proofs.Ytdbbooibkiicnaa
/-! The walks of the law's build, Make, Reg. -/
/-! The walks of the law's build, Make, Reg. -/
namespace Go.Proofs.Ytdbbooibkiicnaa
open Go.RowKit
def opT (plain : Bool) (n : Nat) : Nat := if plain then (plainS2 ((n % 24 : Nat) : Int)).toNat else n % 24
def stepT (plain : Bool) (p : List Tr × List Tr) (n : Nat) : List Tr × List Tr := addT p (opT plain n) (n / 24)
def foldT (plain : Bool) (ns : List Nat) : List Tr × List Tr := ns.foldl (stepT plain) ([], [])
def buildT (plain : Bool) (ns : List Nat) : List Tr × List Tr := foldT plain (ns.take 100)
theorem fold_snoc (plain : Bool) (ns : List Nat) (k : Nat) (hk : k < ns.length) : foldT plain (ns.take (k + 1)) = stepT plain (foldT plain (ns.take k)) ns[k] := by
  unfold foldT
  rw [List.take_succ_eq_append_getElem hk, List.foldl_append]
  rfl
theorem plainS2_range {o : Nat} (ho : o < 24) : 0 ≤ plainS2 (o : Int) ∧ plainS2 (o : Int) < 24 := by
  unfold plainS2
  split
  · omega
  · split
    · omega
    · split
      · omega
      · split <;> omega
theorem opT_lt (plain : Bool) (n : Nat) : opT plain n < 24 := by
  unfold opT
  have h := plainS2_range (o := n % 24) (by omega)
  split <;> omega
abbrev encW (k : Nat) : Value := .int .u16 (k : Int)
/-- What build leaves. -/
def RetB (F : Fz) (w : World) (p : List Tr × List Tr) (e : Ending) (w' : World) : Prop :=
  ∃ A c A' c' F', e = .returned (.agg #[.slice A p.1.length c, .slice A' p.2.length c']) ∧ OwnR F' w' w.heap.size (.slice A p.1.length c) (memL p.1) ∧ OwnR F' w' w.heap.size (.slice A' p.2.length c') (memL p.2) ∧ Below w.heap.size w w' ∧ Sat F' w' ∧ Fle w F F'
set_option maxRecDepth 100000 in
set_option maxHeartbeats 4000000 in
theorem build_w {F : Fz} {w : World} (hF : Sat F w) (ns : List Nat) (hns : ∀ k ∈ ns, k < 65536) (A : Option Addr) (n c : Nat) (hr : Rd F 1 A n (ns.map encW)) (plain : Bool) :
    Calls Try.prog 40 #[.slice A n c, .bool plain] w (RetB F w (buildT plain ns)) := by
  have hnl : ns.length = n := by have := hr.1; simpa using this
  have HNL := Lib.hid hnl
  obtain ⟨N, hN⟩ : ∃ N, N = (w.alloc (.cells #[.slice none 0 0, .slice none 0 0] 77)).alloc (.cells #[.slice none 0 0, .slice none 0 0] 77) := ⟨_, rfl⟩
  have hbN : Below w.heap.size w N := hN ▸ ((balloc _ _).alloc (by simp) _)
  have hFN : Sat F N := hF.below hbN
  have hzN : N.heap.size = w.heap.size + 2 := by rw [hN]; simp
  have hRN : Blk N w.heap.size 77 #[.slice none 0 0, .slice none 0 0] := hN ▸ ((Blk.new _ _ _).alloc _)
  have hBN : Blk N (w.heap.size + 1) 77 #[.slice none 0 0, .slice none 0 0] := hN ▸ (Blk.new2 _ _ _ _)
  have HN := Lib.hid hN
  have HG0 := Lib.hid (hF.none_ (Nat.le_refl _) : F w.heap.size = none)
  have HG1 := Lib.hid (hF.none_ (Nat.le_succ _) : F (w.heap.size + 1) = none)
  clear hnl hN
  go_enter Try.func40, Try.ntmps40
  go_wp2_with fail
  rw [← HN.out]
  go_loopw [6, 7, 8, 12] (fun _ _ _ i wr => ∃ (k : Nat) (f r : List Tr) (Af Ar : Option Addr) (cf cr : Nat) (F' : Fz), k ≤ n ∧ k ≤ 100 ∧ i = .int .i64 k ∧ Hid (foldT plain (ns.take k) = (f, r)) ∧ totT f + totT r ≤ k ∧ Sat F' wr ∧ Fle N F F' ∧ Below w.heap.size w wr ∧ N.heap.size ≤ wr.heap.size ∧ OwnR F' wr N.heap.size (.slice Af f.length cf) (memL f) ∧ OwnR F' wr N.heap.size (.slice Ar r.length cr) (memL r) ∧ Apart (.slice Af f.length cf) (.slice Ar r.length cr) ∧ Blk wr w.heap.size 77 #[.slice none 0 0, .slice none 0 0] ∧ Blk wr (w.heap.size + 1) 77 #[.slice Af f.length cf, .slice Ar r.length cr]) (fun _ _ _ i _ => n - (intOf i).toNat)
  case atStart => exact ⟨0, [], [], none, none, 0, 0, F, Nat.zero_le _, by omega, rfl, Lib.hid rfl, Nat.le_refl _, hFN, Fle.refl _ _, hbN, Nat.le_refl _, OwnR.nil _ _ _, OwnR.nil _ _ _, apart_nil _, hRN, hBN⟩
  case round =>
    obtain ⟨k, f, r, Af, Ar, cf, cr, F', hk, hk2, rfl, HFO, htot, hF', hle, hbl, hsz, hf, hr', hap, hRB, hBB⟩ := hrel
    obtain ⟨k0, k1, k2, k3⟩ := blk2 hBB
    obtain ⟨q0, q1, q2, q3⟩ := blk2 hRB
    clear hRN hBN
    have hfin : ((k = n ∨ k = 100) → buildT plain ns = (f, r)) := fun h => by
      rw [← HFO.out, buildT]
      congr 1
      rcases h with h | h
      · rw [h, ← HNL.out, List.take_length, List.take_of_length_le (by rw [HNL.out]; omega)]
      · rw [h]
    by_cases hlt : k < n
    · have hml : k < ns.length := by rw [HNL.out]; exact hlt
      by_cases h100 : k = 100
      · have e100 : ((k : Int) == 100) = true := by rw [h100]; rfl
        have HFIN := Lib.hid (hfin (.inr h100))
        obtain ⟨ad, v, rfl, hv, hcell⟩ := hr.at1 hlt
        have hv2 : v = .int .u16 (ns[k] : Int) := by simpa [hml] using hv.symm
        subst hv2
        have hcz := (hF.below hbl).cell hcell
        have hltI : (k : Int) < (n : Int) := by omega
        clear hfin h100 hv hcell
        go_wp2_with fail
        rw [HFIN.out]
        have ho : ∀ v ls, OwnR F' wr N.heap.size v ls → OwnR F' ((wr.setCell ⟨w.heap.size, 0, none⟩ (.slice Af f.length cf)).setCell ⟨w.heap.size, 1, none⟩ (.slice Ar r.length cr)) w.heap.size v ls := fun v ls h =>
          ((h.setFar (a := ⟨w.heap.size, 0, none⟩) (fun e => absurd (h.lt _ e).1 (by show ¬ (N.heap.size ≤ w.heap.size); omega)) _).setFar (a := ⟨w.heap.size, 1, none⟩) (fun e => absurd (h.lt _ e).1 (by show ¬ (N.heap.size ≤ w.heap.size); omega)) _).base (by omega)
        have g0 : F' w.heap.size = none := (hle.2 _ (by omega)).trans HG0.out
        have hb3 := (hbl.setCell (p := ⟨w.heap.size, 0, none⟩) (Nat.le_refl _) (.slice Af f.length cf)).setCell (p := ⟨w.heap.size, 1, none⟩) (Nat.le_refl _) (.slice Ar r.length cr)
        have hS3 := (hF'.setCell (p := ⟨w.heap.size, 0, none⟩) g0 (.slice Af f.length cf)).setCell (p := ⟨w.heap.size, 1, none⟩) g0 (.slice Ar r.length cr)
        exact bodyPost_ret (v := .agg #[.slice Af f.length cf, .slice Ar r.length cr]) (by simp [results, Try.results40, go_sem, k0, k1, q0, q1]) rfl ⟨_, _, _, _, F', rfl, ho _ _ hf, ho _ _ hr', hb3, hS3, hle.old hbN.size⟩
      · have e100 : ((k : Int) == 100) = false := by rw [beq_eq_false_iff_ne]; omega
        have hk100 : k < 100 := by omega
        obtain ⟨ad, v, rfl, hv, hcell⟩ := hr.at1 hlt
        have hv2 : v = .int .u16 (ns[k] : Int) := by simpa [hml] using hv.symm
        subst hv2
        have hcz := (hF.below hbl).cell hcell
        have hltI : (k : Int) < (n : Int) := by omega
        have hx := hns _ (List.getElem_mem hml)
        have hsn := fold_snoc plain ns k hml
        rw [HFO.out] at hsn
        have hol := opT_lt plain ns[k]
        have hst : stepT plain (f, r) ns[k] = addT (f, r) (opT plain ns[k]) (ns[k] / 24) := rfl
        rw [hst] at hsn
        have hta := tot_add (f, r) (opT plain ns[k]) (ns[k] / 24)
        have HA := Lib.hid (add_w (w0 := N) hF' hsz f r (by omega) Af Ar cf cr hf hr' hap (opT plain ns[k]) (ns[k] / 24) hol (by omega))
        obtain ⟨o, ho⟩ : ∃ o, ns[k] % 24 = o := ⟨_, rfl⟩
        obtain ⟨a, ha⟩ : ∃ a, ns[k] / 24 = a := ⟨_, rfl⟩
        have hop : opT plain ns[k] = if plain then (plainS2 (o : Int)).toNat else o := by rw [← ho]; rfl
        have ho24 : o < 24 := by omega
        have hx1 : ((ns[k] : Nat) : Int) % 24 = (o : Int) := by omega
        have hx2 : ((ns[k] : Nat) : Int) / 24 = (a : Int) := by omega
        rw [ha] at hsn hta HA
        generalize hq : opT plain ns[k] = q at *
        have HSN := Lib.hid hsn
        have HTA := Lib.hid hta
        generalize hx0 : ns[k] = x at *
        have HX0 := Lib.hid hx0
        generalize hp : addT (f, r) q a = p at *
        have HP := Lib.hid hp
        clear hfin h100 hv hcell hst hsn hta hx0 hp ho ha
        cases plain
        · obtain rfl : q = o := by rw [hop]; rfl
          clear hop hq
          go_wp2_with (go_at_call 71; refine HA.out.mono ?_; rintro e w2 ⟨A2, c2, A3, c3, F2, rfl, hO2, hO3, hap2, hb2, hF2, hle2⟩; obtain ⟨k0, k1, k2, k3⟩ := blk2 (hBB.below hb2 (by omega)))
          go_roundw
          case rel =>
            have g1 : F2 (w.heap.size + 1) = none := ((hle2.2 _ (by omega)).trans (hle.2 _ (by omega))).trans HG1.out
            have ho : ∀ v ls, OwnR F2 w2 N.heap.size v ls → OwnR F2 ((w2.setCell ⟨w.heap.size + 1, 0, none⟩ (.slice A2 p.1.length c2)).setCell ⟨w.heap.size + 1, 1, none⟩ (.slice A3 p.2.length c3)) N.heap.size v ls := fun v ls h =>
              (h.setFar (a := ⟨w.heap.size + 1, 0, none⟩) (fun e => absurd (h.lt _ e).1 (by show ¬ (N.heap.size ≤ w.heap.size + 1); omega)) _).setFar (a := ⟨w.heap.size + 1, 1, none⟩) (fun e => absurd (h.lt _ e).1 (by show ¬ (N.heap.size ≤ w.heap.size + 1); omega)) _
            have hb3 := ((hbl.trans (hb2.mono hbN.size)).setCell (p := ⟨w.heap.size + 1, 0, none⟩) (Nat.le_succ _) (.slice A2 p.1.length c2)).setCell (p := ⟨w.heap.size + 1, 1, none⟩) (Nat.le_succ _) (.slice A3 p.2.length c3)
            have hS3 := (hF2.setCell (p := ⟨w.heap.size + 1, 0, none⟩) g1 (.slice A2 p.1.length c2)).setCell (p := ⟨w.heap.size + 1, 1, none⟩) g1 (.slice A3 p.2.length c3)
            have hR3 := ((hRB.below hb2 (by omega)).far (p := ⟨w.heap.size + 1, 0, none⟩) (by show w.heap.size ≠ w.heap.size + 1; omega) (.slice A2 p.1.length c2)).far (p := ⟨w.heap.size + 1, 1, none⟩) (by show w.heap.size ≠ w.heap.size + 1; omega) (.slice A3 p.2.length c3)
            have hB3 := ((hBB.below hb2 (by omega)).set_ 0 (.slice A2 p.1.length c2)).set_ 1 (.slice A3 p.2.length c3)
            exact ⟨k + 1, p.1, p.2, A2, A3, c2, c3, F2, by omega, by omega, by go_num, HSN, by have := HTA.out; omega, hS3, hle.trans hle2 (Nat.le_refl _), hb3, by rw [size_setCell, size_setCell]; have := hb2.size; omega, ho _ _ hO2, ho _ _ hO3, hap2, hR3, hB3⟩
          case measure => simp [intOf]; omega
        · have hpr := plainS2_range ho24
          have hpl : plainS2 (o : Int) = (q : Int) := by rw [hop]; simp; omega
          have HPL := Lib.hid (fun W => hpl ▸ plainer_w o ho24 W)
          clear hop hq hpl hpr
          go_wp2_with (first | (go_at_call 70; refine (HPL.out _).mono ?_; rintro e w' ⟨rfl, rfl⟩) | (go_at_call 71; refine HA.out.mono ?_; rintro e w2 ⟨A2, c2, A3, c3, F2, rfl, hO2, hO3, hap2, hb2, hF2, hle2⟩; obtain ⟨k0, k1, k2, k3⟩ := blk2 (hBB.below hb2 (by omega))))
          go_roundw
          case rel =>
            have g1 : F2 (w.heap.size + 1) = none := ((hle2.2 _ (by omega)).trans (hle.2 _ (by omega))).trans HG1.out
            have ho : ∀ v ls, OwnR F2 w2 N.heap.size v ls → OwnR F2 ((w2.setCell ⟨w.heap.size + 1, 0, none⟩ (.slice A2 p.1.length c2)).setCell ⟨w.heap.size + 1, 1, none⟩ (.slice A3 p.2.length c3)) N.heap.size v ls := fun v ls h =>
              (h.setFar (a := ⟨w.heap.size + 1, 0, none⟩) (fun e => absurd (h.lt _ e).1 (by show ¬ (N.heap.size ≤ w.heap.size + 1); omega)) _).setFar (a := ⟨w.heap.size + 1, 1, none⟩) (fun e => absurd (h.lt _ e).1 (by show ¬ (N.heap.size ≤ w.heap.size + 1); omega)) _
            have hb3 := ((hbl.trans (hb2.mono hbN.size)).setCell (p := ⟨w.heap.size + 1, 0, none⟩) (Nat.le_succ _) (.slice A2 p.1.length c2)).setCell (p := ⟨w.heap.size + 1, 1, none⟩) (Nat.le_succ _) (.slice A3 p.2.length c3)
            have hS3 := (hF2.setCell (p := ⟨w.heap.size + 1, 0, none⟩) g1 (.slice A2 p.1.length c2)).setCell (p := ⟨w.heap.size + 1, 1, none⟩) g1 (.slice A3 p.2.length c3)
            have hR3 := ((hRB.below hb2 (by omega)).far (p := ⟨w.heap.size + 1, 0, none⟩) (by show w.heap.size ≠ w.heap.size + 1; omega) (.slice A2 p.1.length c2)).far (p := ⟨w.heap.size + 1, 1, none⟩) (by show w.heap.size ≠ w.heap.size + 1; omega) (.slice A3 p.2.length c3)
            have hB3 := ((hBB.below hb2 (by omega)).set_ 0 (.slice A2 p.1.length c2)).set_ 1 (.slice A3 p.2.length c3)
            exact ⟨k + 1, p.1, p.2, A2, A3, c2, c3, F2, by omega, by omega, by go_num, HSN, by have := HTA.out; omega, hS3, hle.trans hle2 (Nat.le_refl _), hb3, by rw [size_setCell, size_setCell]; have := hb2.size; omega, ho _ _ hO2, ho _ _ hO3, hap2, hR3, hB3⟩
          case measure => simp [intOf]; omega
    · obtain rfl : k = n := by omega
      have hdec : decide ((k : Int) < (k : Int)) = false := decide_eq_false (by omega)
      have HFIN := Lib.hid (hfin (.inl rfl))
      clear hfin
      go_wp2_with fail
      rw [HFIN.out]
      have ho : ∀ v ls, OwnR F' wr N.heap.size v ls → OwnR F' ((wr.setCell ⟨w.heap.size, 0, none⟩ (.slice Af f.length cf)).setCell ⟨w.heap.size, 1, none⟩ (.slice Ar r.length cr)) w.heap.size v ls := fun v ls h =>
        ((h.setFar (a := ⟨w.heap.size, 0, none⟩) (fun e => absurd (h.lt _ e).1 (by show ¬ (N.heap.size ≤ w.heap.size); omega)) _).setFar (a := ⟨w.heap.size, 1, none⟩) (fun e => absurd (h.lt _ e).1 (by show ¬ (N.heap.size ≤ w.heap.size); omega)) _).base (by omega)
      have g0 : F' w.heap.size = none := (hle.2 _ (by omega)).trans HG0.out
      have hb3 := (hbl.setCell (p := ⟨w.heap.size, 0, none⟩) (Nat.le_refl _) (.slice Af f.length cf)).setCell (p := ⟨w.heap.size, 1, none⟩) (Nat.le_refl _) (.slice Ar r.length cr)
      have hS3 := (hF'.setCell (p := ⟨w.heap.size, 0, none⟩) g0 (.slice Af f.length cf)).setCell (p := ⟨w.heap.size, 1, none⟩) g0 (.slice Ar r.length cr)
      exact bodyPost_ret (v := .agg #[.slice Af f.length cf, .slice Ar r.length cr]) (by simp [results, Try.results40, go_sem, k0, k1, q0, q1]) rfl ⟨_, _, _, _, F', rfl, ho _ _ hf, ho _ _ hr', hb3, hS3, hle.old hbN.size⟩
/- The walks of the law's Make and Reg. -/
def makeT (plain : Bool) (ns : List Nat) : Tr := match (buildT plain ns).1 with | t :: _ => t | [] => .leaf (ndK 1)
def regT (plain : Bool) (ns : List Nat) : Tr := match (buildT plain ns).2 with | t :: _ => t | [] => .leaf (ndK 18)
theorem cell_alloc1 {w : World} {a : Addr} {v : Value} (h : w.cell? a = some v) (o : Obj) : (w.alloc o).cell? a = some v := ((sat_heapF w).alloc o).cell (by unfold Fz.cell heapF; exact h)
/-- The top of a row of trees, as its header is read. -/
theorem top_row {F : Fz} {w : World} {B : Nat} {A : Option Addr} {c : Nat} {t : Tr} {f : List Tr} (h : OwnR F w B (.slice A (t :: f).length c) (memL (t :: f))) :
    ∃ ad Ai ci, A = some ad ∧ w.cell? (ad.add f.length) = some (.slice Ai (t.flat 0).length ci) ∧ (t.flat 0).length ≤ ci ∧ NodesF F Ai (t.flat 0).length (t.flat 0) := by
  rw [memL_cons] at h
  obtain ⟨_, _, xs, hrd, hv⟩ := h.rd2
  obtain ⟨Ai, ci, hci, hNi, hxi⟩ := hv.at_ f.length (by rw [List.length_append, length_memL]; simp)
  have hgl : (memL f ++ [t.flat 0])[f.length]'(by rw [List.length_append, length_memL]; simp) = t.flat 0 := by
    rw [List.getElem_append_right (by rw [length_memL]; exact Nat.le_refl _)]
    simp [length_memL]
  rw [hgl] at hci hNi hxi
  obtain ⟨ad, u, had, hu, hcell⟩ := hrd.at1 (k := f.length) (by simp)
  rw [hxi] at hu
  injection hu with hu
  subst hu
  exact ⟨ad, Ai, ci, had, (sat_heapF w).cell hcell, hci, hNi⟩
theorem totB (plain : Bool) (ns : List Nat) : totT (foldT plain ns).1 + totT (foldT plain ns).2 ≤ ns.length := by
  suffices ∀ (ns : List Nat) (p : List Tr × List Tr), totT (ns.foldl (stepT plain) p).1 + totT (ns.foldl (stepT plain) p).2 ≤ totT p.1 + totT p.2 + ns.length by
    have h := this ns ([], [])
    simpa [foldT, totT] using h
  intro ns
  induction ns with
  | nil => intro p; simp
  | cons n ns ih =>
    intro p
    rw [List.foldl_cons]
    have h1 := ih (stepT plain p n)
    have h2 := tot_add p (opT plain n) (n / 24)
    have e : stepT plain p n = addT p (opT plain n) (n / 24) := rfl
    rw [e] at h1
    rw [e, List.length_cons]
    omega
theorem make_size (plain : Bool) (ns : List Nat) : (makeT plain ns).size ≤ 100 ∧ (regT plain ns).size ≤ 100 := by
  have h := totB plain (ns.take 100)
  have hl : (ns.take 100).length ≤ 100 := List.length_take_le _ _
  unfold makeT regT buildT
  constructor
  · split
    · rename_i t f e
      rw [e, totT_cons] at h
      omega
    · simp [Tr.size]
  · split
    · rename_i t f e
      rw [e, totT_cons] at h
      omega
    · simp [Tr.size]
set_option maxRecDepth 100000 in
set_option maxHeartbeats 4000000 in
theorem make_w {F : Fz} {w : World} (hF : Sat F w) (ns : List Nat) (hns : ∀ k ∈ ns, k < 65536) (A : Option Addr) (n c : Nat) (hr : Rd F 1 A n (ns.map encW)) (plain : Bool) (T : Tr) (hT : T = match (buildT plain ns).1 with | t :: _ => t | [] => .leaf (ndK 1)) :
    Calls Try.prog 9 #[.slice A n c, .bool plain] w (RetN F w (T.flat 0)) := by
  have hB := build_w hF ns hns A n c hr plain
  have hts := totB plain (ns.take 100)
  have hl : (ns.take 100).length ≤ 100 := List.length_take_le _ _
  rw [show foldT plain (ns.take 100) = buildT plain ns from rfl] at hts
  obtain ⟨⟨f, r⟩, hp⟩ : ∃ p : List Tr × List Tr, buildT plain ns = p := ⟨_, rfl⟩
  rw [hp] at hB hts hT
  dsimp only at hts hT
  have HB := Lib.hid hB
  have hls := totT_len f
  have hls2 : f.length ≤ 100 := by omega
  clear hB hts hl hns hr hp hls
  cases f with
  | nil =>
    dsimp only at hT
    subst hT
    go_enter Try.func9, Try.ntmps9
    go_wp2_with (go_at_call 40; refine HB.out.mono ?_; rintro e w1 ⟨A1, c1, A2, c2, F1, rfl, hO1, hO2, hb1, hF1, hle1⟩)
    go_ret
    have hBk := Blk.new2 w1 (.cells #[.slice A1 0 c1, .slice A2 r.length c2] 77) 29 #[.int .i64 1, .string ⟨#[]⟩, .int .i64 0, .int .i64 0, .slice none 0 0]
    obtain ⟨o, hS, hN⟩ := freeze_one ((hF1.alloc _).alloc _) hBk
    have hg : F1 (w1.heap.size + 1) = none := hF1.none_ (Nat.le_succ _)
    exact ⟨_, 1, F1.put (w1.heap.size + 1) o, rfl, Nat.le_refl _, hN, (hb1.alloc hb1.size _).alloc (by simp; have := hb1.size; omega) _, hS, hle1.trans (Fle.put o hg (by have := hb1.size; omega)) (Nat.le_refl _)⟩
  | cons t v =>
    dsimp only at hT
    subst hT
    have hv : v.length ≤ 99 := by simpa using hls2
    have hv0 : ((v.length : Int) + 1 == 0) = false := by rw [beq_eq_false_iff_ne]; omega
    clear hls2
    go_enter Try.func9, Try.ntmps9
    go_wp2_with (go_at_call 40; refine HB.out.mono ?_; rintro e w1 ⟨A1, c1, A2, c2, F1, rfl, hO1, hO2, hb1, hF1, hle1⟩; obtain ⟨ad, Ai, ci, rfl, hz, hci, hNi⟩ := top_row hO1; have hz2 := fun o => cell_alloc1 hz o)
    go_ret
    exact ⟨Ai, ci, F1, rfl, hci, hNi, hb1.alloc hb1.size _, hF1.alloc _, hle1⟩
set_option maxRecDepth 100000 in
set_option maxHeartbeats 4000000 in
theorem reg5_w {F : Fz} {w : World} (hF : Sat F w) (ns : List Nat) (hns : ∀ k ∈ ns, k < 65536) (A : Option Addr) (n c : Nat) (hr : Rd F 1 A n (ns.map encW)) (plain : Bool) (T : Tr) (hT : T = match (buildT plain ns).2 with | t :: _ => t | [] => .leaf (ndK 18)) :
    Calls Try.prog 26 #[.slice A n c, .bool plain] w (RetN F w (T.flat 0)) := by
  have hB := build_w hF ns hns A n c hr plain
  have hts := totB plain (ns.take 100)
  have hl : (ns.take 100).length ≤ 100 := List.length_take_le _ _
  rw [show foldT plain (ns.take 100) = buildT plain ns from rfl] at hts
  obtain ⟨⟨f, r⟩, hp⟩ : ∃ p : List Tr × List Tr, buildT plain ns = p := ⟨_, rfl⟩
  rw [hp] at hB hts hT
  dsimp only at hts hT
  have HB := Lib.hid hB
  have hls := totT_len r
  have hls2 : r.length ≤ 100 := by omega
  clear hB hts hl hns hr hp hls
  cases r with
  | nil =>
    dsimp only at hT
    subst hT
    go_enter Try.func26, Try.ntmps26
    go_wp2_with (go_at_call 40; refine HB.out.mono ?_; rintro e w1 ⟨A1, c1, A2, c2, F1, rfl, hO1, hO2, hb1, hF1, hle1⟩)
    go_ret
    have hBk := Blk.new2 w1 (.cells #[.slice A1 f.length c1, .slice A2 0 c2] 77) 29 #[.int .i64 18, .string ⟨#[]⟩, .int .i64 0, .int .i64 0, .slice none 0 0]
    obtain ⟨o, hS, hN⟩ := freeze_one ((hF1.alloc _).alloc _) hBk
    have hg : F1 (w1.heap.size + 1) = none := hF1.none_ (Nat.le_succ _)
    exact ⟨_, 1, F1.put (w1.heap.size + 1) o, rfl, Nat.le_refl _, hN, (hb1.alloc hb1.size _).alloc (by simp; have := hb1.size; omega) _, hS, hle1.trans (Fle.put o hg (by have := hb1.size; omega)) (Nat.le_refl _)⟩
  | cons t v =>
    dsimp only at hT
    subst hT
    have hv : v.length ≤ 99 := by simpa using hls2
    have hv0 : ((v.length : Int) + 1 == 0) = false := by rw [beq_eq_false_iff_ne]; omega
    clear hls2
    go_enter Try.func26, Try.ntmps26
    go_wp2_with (go_at_call 40; refine HB.out.mono ?_; rintro e w1 ⟨A1, c1, A2, c2, F1, rfl, hO1, hO2, hb1, hF1, hle1⟩; obtain ⟨ad, Ai, ci, rfl, hz, hci, hNi⟩ := top_row hO2; have hz2 := fun o => cell_alloc1 hz o)
    go_ret
    exact ⟨Ai, ci, F1, rfl, hci, hNi, hb1.alloc hb1.size _, hF1.alloc _, hle1⟩
end Go.Proofs.Ytdbbooibkiicnaa
/-! What is built may be. Plain lemmas. -/
namespace Go.Proofs.Ytdbbooibkiicnaa
def noSugar : Tr → Bool
  | .leaf h => !sugarS h.kind
  | .un h a => !sugarS h.kind && noSugar a
  | .bin h a b => !sugarS h.kind && noSugar a && noSugar b
def okF (p : Bool) (t : Tr) : Bool := validT t && !regS t.root.kind && (!p || noSugar t)
def okR (p : Bool) (t : Tr) : Bool := validT t && regS t.root.kind && (!p || noSugar t)
theorem span_ok {n : Int} (h0 : 0 ≤ n) (hn : n ≤ 3000) : spanS (spanLo n) (spanHi n) = true := by
  unfold spanS spanHi spanLo
  rw [decide_eq_true_eq]
  split <;> split <;> omega
theorem fS1 (k : Int) (hk : k = 8 ∨ k = 9 ∨ k = 10 ∨ k = 11 ∨ k = 12 ∨ k = 13 ∨ k = 16 ∨ k = 17) (lo hi : Int) (h : spanS lo hi = true) : fieldsS { ndS k lo hi with kids := [0] } = true := by
  rcases hk with rfl | rfl | rfl | rfl | rfl | rfl | rfl | rfl <;> simp [fieldsS, ndS, timedS, arityS, h]
theorem fS2 (k : Int) (hk : k = 14 ∨ k = 15) (lo hi : Int) (h : spanS lo hi = true) : fieldsS { ndS k lo hi with kids := [0, 0] } = true := by
  rcases hk with rfl | rfl <;> simp [fieldsS, ndS, timedS, arityS, h]
theorem fK1 (k : Int) (hk : k = 4 ∨ k = 19 ∨ k = 22) : fieldsS { ndK k with kids := [0] } = true := by
  rcases hk with rfl | rfl | rfl <;> simp [fieldsS, ndK, timedS, arityS]
theorem fK2 (k : Int) (hk : k = 5 ∨ k = 6 ∨ k = 7 ∨ k = 20 ∨ k = 21) : fieldsS { ndK k with kids := [0, 0] } = true := by
  rcases hk with rfl | rfl | rfl | rfl | rfl <;> simp [fieldsS, ndK, timedS, arityS]
theorem fK0 (k : Int) (hk : k = 1 ∨ k = 2 ∨ k = 18) : fieldsS { ndK k with kids := [] } = true := by
  rcases hk with rfl | rfl | rfl <;> simp [fieldsS, ndK, timedS, arityS]
theorem fP0 (i : Nat) (hi : i < 3) : fieldsS { ndP i with kids := [] } = true := by
  obtain rfl | rfl | rfl : i = 0 ∨ i = 1 ∨ i = 2 := by omega
  · kernel_rfl
  · kernel_rfl
  · kernel_rfl
def okP (b : Bool) (p : List Tr × List Tr) : Prop := (∀ t ∈ p.1, okF b t = true) ∧ ∀ t ∈ p.2, okR b t = true
theorem okF_iff {b : Bool} {t : Tr} : okF b t = true ↔ validT t = true ∧ regS t.root.kind = false ∧ (b = true → noSugar t = true) := by
  unfold okF
  cases b <;> simp [and_assoc]
theorem okR_iff {b : Bool} {t : Tr} : okR b t = true ↔ validT t = true ∧ regS t.root.kind = true ∧ (b = true → noSugar t = true) := by
  unfold okR
  cases b <;> simp [and_assoc]
/-- A root over what is right. -/
theorem ok_un {n : Nd} {t : Tr} (hf : fieldsS { n with kids := [0] } = true) (hv : validT t = true) (hr : regS t.root.kind = wantsS n.kind) : validT (.un n t) = true := by
  simp [validT, hf, hv, hr]
theorem ok_bin {n : Nd} {a b : Tr} (hf : fieldsS { n with kids := [0, 0] } = true) (ha : validT a = true) (hb : validT b = true) (hra : regS a.root.kind = wantsS n.kind) (hrb : regS b.root.kind = wantsS n.kind) : validT (.bin n a b) = true := by
  simp [validT, hf, ha, hb, hra, hrb]
theorem one_ok {G : Tr → Prop} {n : Nd} {ts : List Tr} (h : ∀ t ∈ ts, G t) (hn : ∀ t, G t → G (.un n t)) : ∀ t ∈ oneT n ts, G t := by
  cases ts with
  | nil => simp [oneT]
  | cons a ts =>
    intro t ht
    rcases List.mem_cons.1 ht with rfl | ht
    · exact hn a (h a (by simp))
    · exact h t (by simp [ht])
theorem two_ok {G : Tr → Prop} {n : Nd} {ts : List Tr} (h : ∀ t ∈ ts, G t) (hn : ∀ a b, G a → G b → G (.bin n a b)) : ∀ t ∈ twoT n ts, G t := by
  match ts with
  | [] => simp [twoT]
  | [a] => intro t ht; exact h t ht
  | b :: a :: ts =>
    intro t ht
    rcases List.mem_cons.1 ht with rfl | ht
    · exact hn a b (h a (by simp)) (h b (by simp))
    · exact h t (by simp [ht])
theorem push_ok {G : Tr → Prop} {a : Tr} {ts : List Tr} (h : ∀ t ∈ ts, G t) (ha : G a) : ∀ t ∈ a :: ts, G t := by
  intro t ht
  rcases List.mem_cons.1 ht with rfl | ht
  · exact ha
  · exact h t ht
theorem tl_ok {G : Tr → Prop} {a : Tr} {ts : List Tr} (h : ∀ t ∈ a :: ts, G t) : G a ∧ ∀ t ∈ ts, G t := ⟨h a (by simp), fun t ht => h t (by simp [ht])⟩
theorem unF {b : Bool} {n : Nd} (hf : fieldsS { n with kids := [0] } = true) (hw : wantsS n.kind = false) (hr : regS n.kind = false) (hs : b = true → sugarS n.kind = false) : ∀ t, okF b t = true → okF b (.un n t) = true := fun t ht => by
  obtain ⟨h1, h2, h3⟩ := okF_iff.1 ht
  exact okF_iff.2 ⟨ok_un hf h1 (by rw [h2, hw]), hr, fun hb => by simp [noSugar, hs hb, h3 hb]⟩
theorem binF {b : Bool} {n : Nd} (hf : fieldsS { n with kids := [0, 0] } = true) (hw : wantsS n.kind = false) (hr : regS n.kind = false) (hs : b = true → sugarS n.kind = false) : ∀ s t, okF b s = true → okF b t = true → okF b (.bin n s t) = true := fun s t hs' ht => by
  obtain ⟨h1, h2, h3⟩ := okF_iff.1 ht
  obtain ⟨g1, g2, g3⟩ := okF_iff.1 hs'
  exact okF_iff.2 ⟨ok_bin hf g1 h1 (by rw [g2, hw]) (by rw [h2, hw]), hr, fun hb => by simp [noSugar, hs hb, h3 hb, g3 hb]⟩
theorem unR {b : Bool} {n : Nd} (hf : fieldsS { n with kids := [0] } = true) (hw : wantsS n.kind = true) (hr : regS n.kind = true) (hs : sugarS n.kind = false) : ∀ t, okR b t = true → okR b (.un n t) = true := fun t ht => by
  obtain ⟨h1, h2, h3⟩ := okR_iff.1 ht
  exact okR_iff.2 ⟨ok_un hf h1 (by rw [h2, hw]), hr, fun hb => by simp [noSugar, hs, h3 hb]⟩
theorem binR {b : Bool} {n : Nd} (hf : fieldsS { n with kids := [0, 0] } = true) (hw : wantsS n.kind = true) (hr : regS n.kind = true) (hs : sugarS n.kind = false) : ∀ s t, okR b s = true → okR b t = true → okR b (.bin n s t) = true := fun s t hs' ht => by
  obtain ⟨h1, h2, h3⟩ := okR_iff.1 ht
  obtain ⟨g1, g2, g3⟩ := okR_iff.1 hs'
  exact okR_iff.2 ⟨ok_bin hf g1 h1 (by rw [g2, hw]) (by rw [h2, hw]), hr, fun hb => by simp [noSugar, hs, h3 hb, g3 hb]⟩
theorem sugar_no {k : Int} (h1 : k ≠ 7) (h2 : ¬ (8 ≤ k ∧ k ≤ 15)) : sugarS k = false := by
  unfold sugarS
  rw [decide_eq_false h1, decide_eq_false h2]
  rfl
theorem add_ok (b : Bool) (p : List Tr × List Tr) (hp : okP b p) (op arg : Nat) (hop : op < 24) (harg : arg ≤ 3000) (hb : b = true → op ≠ 7 ∧ ¬ (8 ≤ op ∧ op ≤ 15)) : okP b (addT p op arg) := by
  obtain ⟨f, r⟩ := p
  obtain ⟨hf, hr⟩ := hp
  have hsp := span_ok (n := (arg : Int)) (by omega) (by omega)
  unfold addT
  by_cases h0 : op = 0
  · rw [if_pos h0]
    refine ⟨push_ok hf (okF_iff.2 ⟨?_, ?_, ?_⟩), hr⟩
    · exact fK0 _ (by omega)
    · exact decide_eq_false (by show ¬ (18 ≤ (1 + ((arg % 2 : Nat) : Int))); omega)
    · intro _
      show (!sugarS (1 + ((arg % 2 : Nat) : Int))) = true
      rw [sugar_no (by omega) (by omega)]
      rfl
  rw [if_neg h0]
  by_cases h3 : op ≤ 3
  · rw [if_pos h3]
    exact ⟨push_ok hf (okF_iff.2 ⟨fP0 _ (by omega), rfl, fun _ => rfl⟩), hr⟩
  rw [if_neg h3]
  by_cases h4 : op = 4
  · rw [if_pos h4]
    exact ⟨one_ok hf (unF (fK1 4 (by omega)) rfl rfl (fun _ => rfl)), hr⟩
  rw [if_neg h4]
  by_cases h7 : op ≤ 7
  · rw [if_pos h7]
    obtain rfl | rfl | rfl : op = 5 ∨ op = 6 ∨ op = 7 := by omega
    · exact ⟨two_ok hf (binF (fK2 5 (by omega)) rfl rfl (fun _ => rfl)), hr⟩
    · exact ⟨two_ok hf (binF (fK2 6 (by omega)) rfl rfl (fun _ => rfl)), hr⟩
    · exact ⟨two_ok hf (binF (fK2 7 (by omega)) rfl rfl (fun h => absurd rfl (hb h).1)), hr⟩
  rw [if_neg h7]
  by_cases h13 : op ≤ 13
  · rw [if_pos h13]
    refine ⟨one_ok hf (unF (fS1 _ (by omega) _ _ hsp) ?_ ?_ (fun h => absurd (by omega) (hb h).2)), hr⟩
    · exact decide_eq_false (by show ¬ ((op : Int) = 16 ∨ (op : Int) = 17 ∨ (op : Int) = 20 ∨ (op : Int) = 21 ∨ (op : Int) = 22); omega)
    · exact decide_eq_false (by show ¬ (18 ≤ (op : Int)); omega)
  rw [if_neg h13]
  by_cases h15 : op ≤ 15
  · rw [if_pos h15]
    refine ⟨two_ok hf (binF (fS2 _ (by omega) _ _ hsp) ?_ ?_ (fun h => absurd (by omega) (hb h).2)), hr⟩
    · exact decide_eq_false (by show ¬ ((op : Int) = 16 ∨ (op : Int) = 17 ∨ (op : Int) = 20 ∨ (op : Int) = 21 ∨ (op : Int) = 22); omega)
    · exact decide_eq_false (by show ¬ (18 ≤ (op : Int)); omega)
  rw [if_neg h15]
  by_cases h17 : op ≤ 17
  · rw [if_pos h17]
    cases r with
    | nil => exact ⟨hf, hr⟩
    | cons t r =>
      obtain ⟨ht, hr'⟩ := tl_ok (G := fun t => okR b t = true) hr
      obtain ⟨g1, g2, g3⟩ := okR_iff.1 ht
      refine ⟨push_ok hf (okF_iff.2 ⟨ok_un (fS1 _ (by omega) _ _ hsp) g1 ?_, ?_, fun h => ?_⟩), hr'⟩
      · rw [g2]; exact (decide_eq_true (by show (op : Int) = 16 ∨ (op : Int) = 17 ∨ (op : Int) = 20 ∨ (op : Int) = 21 ∨ (op : Int) = 22; omega)).symm
      · exact decide_eq_false (by show ¬ (18 ≤ (op : Int)); omega)
      · show (!sugarS (op : Int) && noSugar t) = true
        rw [sugar_no (by omega) (by omega), g3 h]
        rfl
  rw [if_neg h17]
  by_cases h19 : op ≤ 19
  · rw [if_pos h19]
    exact ⟨hf, push_ok hr (okR_iff.2 ⟨fK0 18 (by omega), rfl, fun _ => rfl⟩)⟩
  rw [if_neg h19]
  by_cases h20 : op = 20
  · rw [if_pos h20]
    cases f with
    | nil => exact ⟨hf, hr⟩
    | cons t f =>
      obtain ⟨ht, hf'⟩ := tl_ok (G := fun t => okF b t = true) hf
      obtain ⟨g1, g2, g3⟩ := okF_iff.1 ht
      exact ⟨hf', push_ok hr (okR_iff.2 ⟨ok_un (fK1 19 (by omega)) g1 (by rw [g2]; rfl), rfl, fun h => by simp [noSugar, g3 h, ndK, sugarS]⟩)⟩
  rw [if_neg h20]
  by_cases h22 : op ≤ 22
  · rw [if_pos h22]
    obtain rfl | rfl : op = 21 ∨ op = 22 := by omega
    · exact ⟨hf, two_ok hr (binR (fK2 20 (by omega)) rfl rfl rfl)⟩
    · exact ⟨hf, two_ok hr (binR (fK2 21 (by omega)) rfl rfl rfl)⟩
  rw [if_neg h22]
  exact ⟨hf, one_ok hr (unR (fK1 22 (by omega)) rfl rfl rfl)⟩
theorem plain_ops {o : Nat} (ho : o < 24) : (plainS2 (o : Int)).toNat ≠ 7 ∧ ¬ (8 ≤ (plainS2 (o : Int)).toNat ∧ (plainS2 (o : Int)).toNat ≤ 15) := by
  unfold plainS2
  split
  · simp
  · split
    · simp
    · split
      · simp
      · split
        · simp
        · omega
theorem fold_ok (plain : Bool) (ns : List Nat) (hns : ∀ k ∈ ns, k < 65536) : okP plain (foldT plain ns) := by
  suffices ∀ (ns : List Nat) (p : List Tr × List Tr), (∀ k ∈ ns, k < 65536) → okP plain p → okP plain (ns.foldl (stepT plain) p) from this ns ([], []) hns ⟨by simp, by simp⟩
  intro ns
  induction ns with
  | nil => intro p _ hp; exact hp
  | cons n ns ih =>
    intro p hns hp
    rw [List.foldl_cons]
    refine ih _ (fun k hk => hns k (by simp [hk])) ?_
    have hn := hns n (by simp)
    refine add_ok plain p hp _ _ (opT_lt plain n) (by omega) (fun h => ?_)
    subst h
    exact plain_ops (o := n % 24) (by omega)
theorem make_ok (plain : Bool) (ns : List Nat) (hns : ∀ k ∈ ns, k < 65536) : okF plain (makeT plain ns) = true ∧ okR plain (regT plain ns) = true := by
  obtain ⟨h1, h2⟩ := fold_ok plain (ns.take 100) (fun k hk => hns k (List.mem_of_mem_take hk))
  unfold makeT regT buildT
  constructor
  · split
    · rename_i t f e
      exact h1 t (by rw [e]; simp)
    · exact okF_iff.2 ⟨fK0 1 (by omega), rfl, fun _ => rfl⟩
  · split
    · rename_i t f e
      exact h2 t (by rw [e]; simp)
    · exact okR_iff.2 ⟨fK0 18 (by omega), rfl, fun _ => rfl⟩
theorem any_flat : ∀ (t : Tr) (o : Nat), (t.flat o).any (fun n => sugarS n.kind) = !noSugar t
  | .leaf h, o => by simp [Tr.flat, noSugar]
  | .un h a, o => by simp [Tr.flat, noSugar, any_flat a]; cases sugarS h.kind <;> cases noSugar a <;> rfl
  | .bin h a b, o => by simp [Tr.flat, noSugar, any_flat a, any_flat b]; cases sugarS h.kind <;> cases noSugar a <;> cases noSugar b <;> rfl
theorem ok_form {b : Bool} {t : Tr} (h : okF b t = true) : formL (t.flat 0) = true ∧ regL (t.flat 0) = false ∧ (b = true → plainS (t.flat 0) = true) := by
  obtain ⟨h1, h2, h3⟩ := okF_iff.1 h
  obtain ⟨t', e1, _, e3⟩ := tree_of_valid h1
  refine ⟨by unfold formL; rw [e1]; simp only; rw [e3, h2]; rfl, by unfold regL; rw [e1]; simp only; rw [e3, h2], fun hb => ?_⟩
  unfold plainS mayS
  rw [e1, any_flat, h3 hb]
  rfl
end Go.Proofs.Ytdbbooibkiicnaa
