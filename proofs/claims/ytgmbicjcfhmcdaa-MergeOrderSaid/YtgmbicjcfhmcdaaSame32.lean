/- The walks of slices.Equal on strings, SameEvent, SameEvents, SameTrace. -/
import Derived.Test.YtgmbicjcfhmcdaaNames32
import Derived.Test.YtgmbicjcfhmcdaaEq
set_option linter.unusedVariables false
set_option linter.unusedSimpArgs false
/-! The walks of slices.Equal on strings, SameEvent, SameEvents, SameTrace. -/
namespace Go.Proofs.Ytgmbicjcfhmcdaa
open Go.RowKit
theorem take_sameB {xs ys : List ByteArray} {k : Nat} (h : xs.take k = ys.take k) (hx : k < xs.length) (hy : k < ys.length) (e : xs[k] = ys[k]) : xs.take (k + 1) = ys.take (k + 1) := by
  rw [List.take_succ_eq_append_getElem hx, List.take_succ_eq_append_getElem hy, h, e]
theorem equalStr_w {F : Fz} {w : World} (hF : Sat F w) (fs gs : List ByteArray) (A B : Option Addr) (n n' c d : Nat) (hn : fs.length ≤ 100000) (hf : Rd F 1 A n (fs.map Value.string)) (hg : Rd F 1 B n' (gs.map Value.string)) :
    Calls Try.prog 14 #[.slice A n c, .slice B n' d] w fun e w' => e = .returned (.bool (decide (fs = gs))) ∧ ∃ q, w' = w.drewN q := by
  obtain rfl := rdS_len hf
  obtain rfl := rdS_len hg
  by_cases hl : fs.length = gs.length
  · have hne : ((fs.length : Int) != (gs.length : Int)) = false := by rw [hl]; simp
    have HL := Lib.hid hl
    clear hl
    go_enter Try.func14, Try.ntmps14
    go_wp2
    go_loopw [13] (fun i wr => ∃ k : Nat, k ≤ fs.length ∧ i = .int .i64 k ∧ fs.take k = gs.take k ∧ ∃ q, wr = w.drewN q) (fun i _ => fs.length - (intOf i).toNat)
    case atStart => exact ⟨0, Nat.zero_le _, rfl, rfl, 0, rfl⟩
    case round =>
      obtain ⟨k, hk, rfl, hsame, q, rfl⟩ := hrel
      have HS := Lib.hid hsame
      clear hsame
      by_cases hlt : k < fs.length
      · have hlt' : k < gs.length := by have := HL.out; omega
        obtain ⟨ad, v, rfl, hv, hcell⟩ := hf.at1 hlt
        obtain ⟨bd, v', rfl, hv', hcell'⟩ := hg.at1 hlt'
        obtain rfl : Value.string fs[k] = v := by simpa [hlt] using hv
        obtain rfl : Value.string gs[k] = v' := by simpa [hlt'] using hv'
        have hc := hF.cell hcell
        have hc' := hF.cell hcell'
        clear hv hv' hcell hcell'
        have hI : (k : Int) < (gs.length : Int) := by omega
        by_cases he : fs[k] = gs[k]
        · have hee : (fs[k].toList == gs[k].toList) = true := by rw [he]; simp
          have HE := Lib.hid he
          clear he
          go_wp2
          go_quiet (fail)
          go_wp2
          go_roundw
          case rel => exact ⟨k + 1, by omega, by go_num, take_sameB HS.out hlt hlt' HE.out, _, rfl⟩
          case measure => simp [intOf]; omega
        · have hee : (fs[k].toList == gs[k].toList) = false := (Lib.bytes_beq_false_iff _ _).2 he
          have hfin : decide (fs = gs) = false := decide_eq_false (fun e => he (by subst e; rfl))
          have HFin := Lib.hid hfin
          clear he hfin
          go_wp2
          go_quiet (fail)
          go_wp2
          go_ret
          exact ⟨by rw [HFin.out]; rfl, _, World.drewN_drewN _ _ _⟩
      · have hfin : decide (fs = gs) = true := by
          have h1 := HS.out
          have h2 := HL.out
          rw [List.take_of_length_le (by omega), List.take_of_length_le (by omega)] at h1
          exact decide_eq_true h1
        have HFin := Lib.hid hfin
        clear hfin
        have hltI : decide ((k : Int) < (fs.length : Int)) = false := decide_eq_false (by omega)
        go_wp2
        go_ret
        exact ⟨by rw [HFin.out]; rfl, _, rfl⟩
  · have hne : ((fs.length : Int) != (gs.length : Int)) = true := by rw [bne_iff_ne]; omega
    have HFin := Lib.hid (show decide (fs = gs) = false from decide_eq_false (fun e => hl (by rw [e])))
    go_enter Try.func14, Try.ntmps14
    go_wp2
    go_ret
    exact ⟨by rw [HFin.out]; rfl, 0, rfl⟩
end Go.Proofs.Ytgmbicjcfhmcdaa
