/- The walks of lex.end, lex.Name and of the reference's Name. -/
import Derived.Test.YtkffofolhckjeaaLex
import Derived.Lib.SlicesS
namespace Go.Proofs.Ytkffofolhckjeaa
open Go.RowKit

theorem end_w (s : ByteArray) (hs : s.data.size ≤ 100000) (w : World) :
    Calls Try.prog 117 #[.string s, .int .i64 0, .func (.func 118) #[] #[]] w fun e w' => e = .returned (.int .i64 (runTo moreS s.data.toList 0 : Nat)) ∧ w = w' := by
  go_enter Try.func117, Try.ntmps117
  go_wp2_with fail
  go_loop [1] (fun i => ∃ k : Nat, k ≤ s.data.size ∧ i = .int .i64 k ∧ Hid (runTo moreS s.data.toList k = runTo moreS s.data.toList 0)) (fun i => s.data.size - (intOf i).toNat)
  case atStart => exact ⟨0, Nat.zero_le _, rfl, Lib.hid rfl⟩
  case round =>
    obtain ⟨k, hk, rfl, hr⟩ := hrel
    by_cases hlt : k < s.data.size
    · have hM := more_w s.data[k] w
      have hltI : (k : Int) < (s.data.size : Int) := by omega
      cases hb : moreS s.data[k]
      · rw [hb] at hM
        have HM := Lib.hid hM
        have HR : Hid (runTo moreS s.data.toList 0 = k) := Lib.hid (by rw [← hr.out]; exact runTo_stop (by simpa using hlt) (by simpa using hb))
        clear hM hb
        go_wp2_with (go_at_call 118; refine HM.out.mono ?_; rintro e w' ⟨rfl, rfl⟩)
        go_ret
        exact ⟨by rw [HR.out] <;> rfl, rfl⟩
      · rw [hb] at hM
        have HM := Lib.hid hM
        have HR : Hid (runTo moreS s.data.toList (k + 1) = runTo moreS s.data.toList 0) := Lib.hid (by rw [← hr.out]; exact (runTo_step (by simpa using hlt) (by simpa using hb)).symm)
        clear hM hb
        go_wp2_with (go_at_call 118; refine HM.out.mono ?_; rintro e w' ⟨rfl, rfl⟩)
        go_round
        case rel => exact ⟨k + 1, by omega, by go_num, HR⟩
        case measure => simp [intOf]; omega
    · have HR : Hid (runTo moreS s.data.toList 0 = k) := Lib.hid (by rw [← hr.out]; exact runTo_end (by rw [Array.length_toList]; omega))
      have hltI : decide ((k : Int) < (s.data.size : Int)) = false := decide_eq_false (by omega)
      go_wp2_with fail
      go_ret
      exact ⟨by rw [HR.out] <;> rfl, rfl⟩

/-- Two texts, byte by byte. -/
def eqS (a b : ByteArray) : Bool := a.toList == b.toList
theorem eqS_iff (a b : ByteArray) : eqS a b = true ↔ a = b := Lib.bytes_beq_iff a b
theorem eqS_false (a b : ByteArray) : eqS a b = false ↔ a ≠ b := Lib.bytes_beq_false_iff a b
theorem eqS_refl (a : ByteArray) : eqS a a = true := (eqS_iff a a).2 rfl
/-- Is a text in a list? -/
def hasS (ss : List ByteArray) (s : ByteArray) : Bool := ss.any (eqS s)
theorem hasS_iff (ss : List ByteArray) (s : ByteArray) : hasS ss s = true ↔ s ∈ ss := by
  unfold hasS
  rw [List.any_eq_true]
  constructor
  · rintro ⟨x, hx, h⟩; rw [(eqS_iff s x).1 h]; exact hx
  · intro h; exact ⟨s, h, eqS_refl s⟩
theorem hasS_false (ss : List ByteArray) (s : ByteArray) : hasS ss s = false ↔ s ∉ ss := by rw [← hasS_iff, Bool.not_eq_true]
theorem rdS_len {F : Fz} {α : Type} {enc : α → Value} {A : Option Addr} {n : Nat} {xs : List α} (h : Rd F 1 A n (xs.map enc)) : n = xs.length := by have := h.1; simpa using this.symm
theorem idx_w {F : Fz} {w : World} (hF : Sat F w) (ss : List ByteArray) (hn : ss.length ≤ 100000) (A : Option Addr) (n c : Nat) (hf : Rd F 1 A n (ss.map Value.string)) (s : ByteArray) :
    Calls Try.prog 96 #[.slice A n c, .string s] w fun e w' => (∃ i : Int, e = .returned (.int .i64 i) ∧ decide (0 ≤ i) = hasS ss s) ∧ w = w' := by
  obtain rfl := rdS_len hf
  go_enter Try.func96, Try.ntmps96
  go_wp2_with fail
  go_loop [5, 8] (fun _ i => ∃ k : Nat, k ≤ ss.length ∧ i = .int .i64 k ∧ Hid (s ∉ ss.take k)) (fun _ i => ss.length - (intOf i).toNat)
  case atStart => exact ⟨0, Nat.zero_le _, rfl, Lib.hid (by simp)⟩
  case round =>
    obtain ⟨k, hk, rfl, hr⟩ := hrel
    by_cases hlt : k < ss.length
    · obtain ⟨ad, v, rfl, hv, hcell⟩ := hf.at1 hlt
      obtain rfl : Value.string ss[k] = v := by simpa [hlt] using hv
      have hc := hF.cell hcell
      clear hv hcell
      by_cases he : s = ss[k]
      · have HE : Hid (hasS ss s = true) := Lib.hid ((hasS_iff _ _).2 (by rw [he]; exact List.getElem_mem hlt))
        have hee : (s.toList == ss[k].toList) = true := (eqS_iff _ _).2 he
        clear he
        go_wp2_with fail
        go_ret
        exact ⟨⟨(k : Int), rfl, by rw [HE.out]; simp⟩, rfl⟩
      · have HE : Hid (s ∉ ss.take (k + 1)) := Lib.hid (by
          rw [List.take_succ_eq_append_getElem hlt, List.mem_append]
          rintro (h | h)
          · exact hr.out h
          · exact he (by simpa using h))
        have hee : (s.toList == ss[k].toList) = false := (eqS_false _ _).2 he
        clear he
        go_wp2_with fail
        go_round
        case rel => exact ⟨k + 1, by omega, by go_num, HE⟩
        case measure => simp [intOf]; omega
    · have HE : Hid (hasS ss s = false) := Lib.hid ((hasS_false _ _).2 (by have := hr.out; rwa [List.take_of_length_le (by omega)] at this))
      have hltI : decide ((k : Int) < (ss.length : Int)) = false := decide_eq_false (by omega)
      go_wp2_with fail
      go_ret
      exact ⟨⟨-1, rfl, by rw [HE.out] <;> rfl⟩, rfl⟩
theorem contains_w {F : Fz} {w : World} (hF : Sat F w) (ss : List ByteArray) (hn : ss.length ≤ 100000) (A : Option Addr) (n c : Nat) (hf : Rd F 1 A n (ss.map Value.string)) (s : ByteArray) :
    Calls Try.prog 83 #[.slice A n c, .string s] w fun e w' => e = .returned (.bool (hasS ss s)) ∧ w = w' := by
  have HI := Lib.hid (idx_w hF ss hn A n c hf s)
  go_enter Try.func83, Try.ntmps83
  go_wp2_with (go_at_call 96; refine HI.out.mono ?_; rintro e w' ⟨⟨i, rfl, hi⟩, rfl⟩)
  go_ret
  exact ⟨by rw [← hi] <;> rfl, rfl⟩
end Go.Proofs.Ytkffofolhckjeaa
