/- The walk of the law's has. -/
import Derived.Test.YtkffofolhckjeaaLex2
set_option linter.unusedVariables false
set_option linter.unusedSimpArgs false
namespace Go.Proofs.Ytkffofolhckjeaa
open Go.RowKit
theorem has_w {F : Fz} {w : World} (hF : Sat F w) (ss : List ByteArray) (hn : ss.length ≤ 100000) (A : Option Addr) (n c : Nat) (hf : Rd F 1 A n (ss.map Value.string)) (s : ByteArray) :
    Calls Try.prog 52 #[.slice A n c, .string s] w fun e w' => e = .returned (.bool (hasS ss s)) ∧ w = w' := by
  obtain rfl := rdS_len hf
  go_enter Try.func52, Try.ntmps52
  go_wp2_with fail
  go_loop [6, 9] (fun _ i => ∃ k : Nat, k ≤ ss.length ∧ i = .int .i64 k ∧ Hid (s ∉ ss.take k)) (fun _ i => ss.length - (intOf i).toNat)
  case atStart => exact ⟨0, Nat.zero_le _, rfl, Lib.hid (by simp)⟩
  case round =>
    obtain ⟨k, hk, rfl, hr⟩ := hrel
    by_cases hlt : k < ss.length
    · obtain ⟨ad, v, rfl, hv, hcell⟩ := hf.at1 hlt
      obtain rfl : Value.string ss[k] = v := by simpa [hlt] using hv
      have hc := hF.cell hcell
      clear hv hcell
      by_cases he : s = ss[k]
      · have HE : Hid (hasS ss s = true) := Lib.hid ((hasS_iff _ _).2 (by rw [he]; exact List.getElem_mem hlt))
        have hee : (ss[k].toList == s.toList) = true := (eqS_iff _ _).2 he.symm
        clear he
        go_wp2_with fail
        go_ret
        exact ⟨by rw [HE.out] <;> rfl, rfl⟩
      · have HE : Hid (s ∉ ss.take (k + 1)) := Lib.hid (by
          rw [List.take_succ_eq_append_getElem hlt, List.mem_append]
          rintro (h | h)
          · exact hr.out h
          · exact he (by simpa using h))
        have hee : (ss[k].toList == s.toList) = false := (eqS_false _ _).2 (fun h => he h.symm)
        clear he
        go_wp2_with fail
        go_round
        case rel => exact ⟨k + 1, by omega, by go_num, HE⟩
        case measure => simp [intOf]; omega
    · have HE : Hid (hasS ss s = false) := Lib.hid ((hasS_false _ _).2 (by have := hr.out; rwa [List.take_of_length_le (by omega)] at this))
      have hltI : decide ((k : Int) < (ss.length : Int)) = false := decide_eq_false (by omega)
      go_wp2_with fail
      go_ret
      exact ⟨by rw [HE.out] <;> rfl, rfl⟩
end Go.Proofs.Ytkffofolhckjeaa
