/- The walks of the small functions on nodes: kinds, spans, names. -/
import Derived.Test.YtgmbicjcfhmcdaaTreeP
import Derived.Test.YtgmbicjcfhmcdaaMem
import Derived.Deep.QuietTactic
import Derived.BigQuiet
import Derived.Lib.SlicesS
set_option linter.unusedVariables false
set_option linter.unusedSimpArgs false
/-! The walks of the small functions on nodes: kinds, spans, names. -/
namespace Go.Proofs.Ytgmbicjcfhmcdaa
open Go.RowKit

/-! ### Bytes -/
def digitS (c : UInt8) : Bool := decide (48 ≤ c.toNat ∧ c.toNat ≤ 57)
theorem letter_w (c : UInt8) (w : World) : Calls Try.prog 47 #[.int .u8 (c.toNat : Int)] w fun e w' => e = .returned (.bool (smallS c)) ∧ w = w' := by
  by_cases h : (97 : Int) ≤ (c.toNat : Int)
  · have H : Hid (smallS c = decide ((c.toNat : Int) ≤ 122)) := Lib.hid (by unfold smallS; rw [decide_eq_decide]; omega)
    go_enter Try.func47, Try.ntmps47
    go_wp2
    go_ret
    exact ⟨by rw [H.out] <;> rfl, rfl⟩
  · have H : Hid (smallS c = false) := Lib.hid (by unfold smallS; rw [decide_eq_false_iff_not]; omega)
    have h' : decide ((97 : Int) ≤ (c.toNat : Int)) = false := decide_eq_false h
    clear h
    go_enter Try.func47, Try.ntmps47
    go_wp2
    go_ret
    exact ⟨by rw [H.out] <;> rfl, rfl⟩
theorem rsmall_w (c : UInt8) (w : World) : Calls Try.prog 70 #[.int .u8 (c.toNat : Int)] w fun e w' => e = .returned (.bool (smallS c)) ∧ w = w' := by
  by_cases h : (97 : Int) ≤ (c.toNat : Int)
  · have H : Hid (smallS c = decide ((c.toNat : Int) ≤ 122)) := Lib.hid (by unfold smallS; rw [decide_eq_decide]; omega)
    go_enter Try.func70, Try.ntmps70
    go_wp2
    go_ret
    exact ⟨by rw [H.out] <;> rfl, rfl⟩
  · have H : Hid (smallS c = false) := Lib.hid (by unfold smallS; rw [decide_eq_false_iff_not]; omega)
    have h' : decide ((97 : Int) ≤ (c.toNat : Int)) = false := decide_eq_false h
    clear h
    go_enter Try.func70, Try.ntmps70
    go_wp2
    go_ret
    exact ⟨by rw [H.out] <;> rfl, rfl⟩
theorem digit_w (c : UInt8) (w : World) : Calls Try.prog 73 #[.int .u8 (c.toNat : Int)] w fun e w' => e = .returned (.bool (digitS c)) ∧ w = w' := by
  by_cases h : (48 : Int) ≤ (c.toNat : Int)
  · have H : Hid (digitS c = decide ((c.toNat : Int) ≤ 57)) := Lib.hid (by unfold digitS; rw [decide_eq_decide]; omega)
    go_enter Try.func73, Try.ntmps73
    go_wp2
    go_ret
    exact ⟨by rw [H.out] <;> rfl, rfl⟩
  · have H : Hid (digitS c = false) := Lib.hid (by unfold digitS; rw [decide_eq_false_iff_not]; omega)
    have h' : decide ((48 : Int) ≤ (c.toNat : Int)) = false := decide_eq_false h
    clear h
    go_enter Try.func73, Try.ntmps73
    go_wp2
    go_ret
    exact ⟨by rw [H.out] <;> rfl, rfl⟩
theorem rdigit_w (c : UInt8) (w : World) : Calls Try.prog 84 #[.int .u8 (c.toNat : Int)] w fun e w' => e = .returned (.bool (digitS c)) ∧ w = w' := by
  by_cases h : (48 : Int) ≤ (c.toNat : Int)
  · have H : Hid (digitS c = decide ((c.toNat : Int) ≤ 57)) := Lib.hid (by unfold digitS; rw [decide_eq_decide]; omega)
    go_enter Try.func84, Try.ntmps84
    go_wp2
    go_ret
    exact ⟨by rw [H.out] <;> rfl, rfl⟩
  · have H : Hid (digitS c = false) := Lib.hid (by unfold digitS; rw [decide_eq_false_iff_not]; omega)
    have h' : decide ((48 : Int) ≤ (c.toNat : Int)) = false := decide_eq_false h
    clear h
    go_enter Try.func84, Try.ntmps84
    go_wp2
    go_ret
    exact ⟨by rw [H.out] <;> rfl, rfl⟩
theorem more_w (c : UInt8) (w : World) : Calls Try.prog 49 #[.int .u8 (c.toNat : Int)] w fun e w' => e = .returned (.bool (moreS c)) ∧ w = w' := by
  have hL := letter_w c w
  have hD := digit_w c w
  have H : Hid (moreS c = (smallS c || digitS c || (((c.toNat : Nat) : Int) == 95))) := Lib.hid (by
    unfold moreS digitS
    congr 1
    rw [Bool.eq_iff_iff]
    simp
    omega)
  cases h1 : smallS c <;> cases h2 : digitS c <;> rw [h1] at hL <;> rw [h2] at hD <;> rw [h1, h2] at H <;> clear h1 h2 <;>
  (have HL := Lib.hid hL
   have HD := Lib.hid hD
   clear hL hD
   go_enter Try.func49, Try.ntmps49
   go_wp2_with (first | (go_at_call 47; refine HL.out.mono ?_; rintro e w' ⟨rfl, rfl⟩) | (go_at_call 73; refine HD.out.mono ?_; rintro e w' ⟨rfl, rfl⟩))
   go_ret
   exact ⟨by rw [H.out] <;> rfl, rfl⟩)
/-- Where a run that begins at k ends. -/
def runTo (p : UInt8 → Bool) (xs : List UInt8) (k : Nat) : Nat := k + ((xs.drop k).takeWhile p).length
theorem runTo_step {p : UInt8 → Bool} {xs : List UInt8} {k : Nat} (h : k < xs.length) (hp : p xs[k] = true) : runTo p xs k = runTo p xs (k + 1) := by
  unfold runTo
  rw [List.drop_eq_getElem_cons h, List.takeWhile_cons_of_pos hp, List.length_cons]
  omega
theorem runTo_stop {p : UInt8 → Bool} {xs : List UInt8} {k : Nat} (h : k < xs.length) (hp : p xs[k] = false) : runTo p xs k = k := by
  unfold runTo
  rw [List.drop_eq_getElem_cons h, List.takeWhile_cons_of_neg (by simp [hp])]
  rfl
theorem runTo_end {p : UInt8 → Bool} {xs : List UInt8} {k : Nat} (h : xs.length ≤ k) : runTo p xs k = k := by
  unfold runTo
  rw [List.drop_of_length_le h]
  rfl
end Go.Proofs.Ytgmbicjcfhmcdaa
/-! The walks of lex.end, lex.Name and of the reference's Name. -/
/-! The walks of lex.end, lex.Name and of the reference's Name. -/
namespace Go.Proofs.Ytgmbicjcfhmcdaa
open Go.RowKit

theorem end_w (s : ByteArray) (hs : s.data.size ≤ 100000) (w : World) :
    Calls Try.prog 48 #[.string s, .int .i64 0, .func (.func 49) #[] #[]] w fun e w' => e = .returned (.int .i64 (runTo moreS s.data.toList 0 : Nat)) ∧ w = w' := by
  go_enter Try.func48, Try.ntmps48
  go_wp2_with fail
  go_loop [1] (fun i => ∃ k : Nat, k ≤ s.data.size ∧ i = .int .i64 k ∧ Hid (runTo moreS s.data.toList k = runTo moreS s.data.toList 0)) (fun i => s.data.size - (intOf i).toNat)
  case atStart => exact ⟨0, Nat.zero_le _, rfl, Lib.hid rfl⟩
  case round =>
    obtain ⟨k, hk, rfl, hr⟩ := hrel
    by_cases hlt : k < s.data.size
    · have hM := more_w s.data[k] w
      have hltI : (k : Int) < (s.data.size : Int) := by omega
      cases hb : moreS s.data[k]
      · rw [hb] at hM
        have HM := Lib.hid hM
        have HR : Hid (runTo moreS s.data.toList 0 = k) := Lib.hid (by rw [← hr.out]; exact runTo_stop (by simpa using hlt) (by simpa using hb))
        clear hM hb
        go_wp2_with (go_at_call 49; refine HM.out.mono ?_; rintro e w' ⟨rfl, rfl⟩)
        go_ret
        exact ⟨by rw [HR.out] <;> rfl, rfl⟩
      · rw [hb] at hM
        have HM := Lib.hid hM
        have HR : Hid (runTo moreS s.data.toList (k + 1) = runTo moreS s.data.toList 0) := Lib.hid (by rw [← hr.out]; exact (runTo_step (by simpa using hlt) (by simpa using hb)).symm)
        clear hM hb
        go_wp2_with (go_at_call 49; refine HM.out.mono ?_; rintro e w' ⟨rfl, rfl⟩)
        go_round
        case rel => exact ⟨k + 1, by omega, by go_num, HR⟩
        case measure => simp [intOf]; omega
    · have HR : Hid (runTo moreS s.data.toList 0 = k) := Lib.hid (by rw [← hr.out]; exact runTo_end (by rw [Array.length_toList]; omega))
      have hltI : decide ((k : Int) < (s.data.size : Int)) = false := decide_eq_false (by omega)
      go_wp2_with fail
      go_ret
      exact ⟨by rw [HR.out] <;> rfl, rfl⟩

/-- Two texts, byte by byte. -/
def eqS (a b : ByteArray) : Bool := a.toList == b.toList
theorem eqS_iff (a b : ByteArray) : eqS a b = true ↔ a = b := Lib.bytes_beq_iff a b
theorem eqS_false (a b : ByteArray) : eqS a b = false ↔ a ≠ b := Lib.bytes_beq_false_iff a b
theorem eqS_refl (a : ByteArray) : eqS a a = true := (eqS_iff a a).2 rfl
/-- Is a text in a list? -/
def hasS (ss : List ByteArray) (s : ByteArray) : Bool := ss.any (eqS s)
theorem hasS_iff (ss : List ByteArray) (s : ByteArray) : hasS ss s = true ↔ s ∈ ss := by
  unfold hasS
  rw [List.any_eq_true]
  constructor
  · rintro ⟨x, hx, h⟩; rw [(eqS_iff s x).1 h]; exact hx
  · intro h; exact ⟨s, h, eqS_refl s⟩
theorem hasS_false (ss : List ByteArray) (s : ByteArray) : hasS ss s = false ↔ s ∉ ss := by rw [← hasS_iff, Bool.not_eq_true]
theorem rdS_len {F : Fz} {α : Type} {enc : α → Value} {A : Option Addr} {n : Nat} {xs : List α} (h : Rd F 1 A n (xs.map enc)) : n = xs.length := by have := h.1; simpa using this.symm
theorem idx_w {F : Fz} {w : World} (hF : Sat F w) (ss : List ByteArray) (hn : ss.length ≤ 100000) (A : Option Addr) (n c : Nat) (hf : Rd F 1 A n (ss.map Value.string)) (s : ByteArray) :
    Calls Try.prog 26 #[.slice A n c, .string s] w fun e w' => (∃ i : Int, e = .returned (.int .i64 i) ∧ decide (0 ≤ i) = hasS ss s) ∧ w = w' := by
  obtain rfl := rdS_len hf
  go_enter Try.func26, Try.ntmps26
  go_wp2_with fail
  go_loop [5, 8] (fun _ i => ∃ k : Nat, k ≤ ss.length ∧ i = .int .i64 k ∧ Hid (s ∉ ss.take k)) (fun _ i => ss.length - (intOf i).toNat)
  case atStart => exact ⟨0, Nat.zero_le _, rfl, Lib.hid (by simp)⟩
  case round =>
    obtain ⟨k, hk, rfl, hr⟩ := hrel
    by_cases hlt : k < ss.length
    · obtain ⟨ad, v, rfl, hv, hcell⟩ := hf.at1 hlt
      obtain rfl : Value.string ss[k] = v := by simpa [hlt] using hv
      have hc := hF.cell hcell
      clear hv hcell
      by_cases he : s = ss[k]
      · have HE : Hid (hasS ss s = true) := Lib.hid ((hasS_iff _ _).2 (by rw [he]; exact List.getElem_mem hlt))
        have hee : (s.toList == ss[k].toList) = true := (eqS_iff _ _).2 he
        clear he
        go_wp2_with fail
        go_ret
        exact ⟨⟨(k : Int), rfl, by rw [HE.out]; simp⟩, rfl⟩
      · have HE : Hid (s ∉ ss.take (k + 1)) := Lib.hid (by
          rw [List.take_succ_eq_append_getElem hlt, List.mem_append]
          rintro (h | h)
          · exact hr.out h
          · exact he (by simpa using h))
        have hee : (s.toList == ss[k].toList) = false := (eqS_false _ _).2 he
        clear he
        go_wp2_with fail
        go_round
        case rel => exact ⟨k + 1, by omega, by go_num, HE⟩
        case measure => simp [intOf]; omega
    · have HE : Hid (hasS ss s = false) := Lib.hid ((hasS_false _ _).2 (by have := hr.out; rwa [List.take_of_length_le (by omega)] at this))
      have hltI : decide ((k : Int) < (ss.length : Int)) = false := decide_eq_false (by omega)
      go_wp2_with fail
      go_ret
      exact ⟨⟨-1, rfl, by rw [HE.out] <;> rfl⟩, rfl⟩
theorem contains_w {F : Fz} {w : World} (hF : Sat F w) (ss : List ByteArray) (hn : ss.length ≤ 100000) (A : Option Addr) (n c : Nat) (hf : Rd F 1 A n (ss.map Value.string)) (s : ByteArray) :
    Calls Try.prog 25 #[.slice A n c, .string s] w fun e w' => e = .returned (.bool (hasS ss s)) ∧ w = w' := by
  have HI := Lib.hid (idx_w hF ss hn A n c hf s)
  go_enter Try.func25, Try.ntmps25
  go_wp2_with (go_at_call 26; refine HI.out.mono ?_; rintro e w' ⟨⟨i, rfl, hi⟩, rfl⟩)
  go_ret
  exact ⟨by rw [← hi] <;> rfl, rfl⟩
end Go.Proofs.Ytgmbicjcfhmcdaa
/-! The walks of lex.Name and of the reference's Name. -/
namespace Go.Proofs.Ytgmbicjcfhmcdaa
open Go.RowKit

theorem runTo_zero (p : UInt8 → Bool) : ∀ xs : List UInt8, runTo p xs 0 ≤ xs.length ∧ (runTo p xs 0 = xs.length ↔ xs.all p = true)
  | [] => by simp [runTo]
  | x :: xs => by
    obtain ⟨h1, h2⟩ := runTo_zero p xs
    unfold runTo at h1 h2 ⊢
    rw [List.drop_zero] at h1 h2 ⊢
    by_cases h : p x = true
    · rw [List.takeWhile_cons_of_pos h, List.length_cons, List.all_cons, h, Bool.true_and, List.length_cons, ← h2]
      omega
    · rw [List.takeWhile_cons_of_neg (by simpa using h), List.all_cons]
      simp at h
      simp [h]
theorem nameS_pos {xs : List UInt8} (h : 0 < xs.length) : nameS xs = (decide (xs.length ≤ 16) && smallS xs[0] && xs.all moreS && !wordsS.contains xs) := by
  cases xs with
  | nil => simp at h
  | cons c xs => rfl
/-- The words that are no names, as texts. -/
def wordsB : List ByteArray := wordsS.map fun l => ⟨l.toArray⟩
theorem wordsB_has (s : ByteArray) : hasS wordsB s = wordsS.contains s.data.toList := by
  rw [Bool.eq_iff_iff, hasS_iff, List.contains_iff_mem]
  unfold wordsB
  rw [List.mem_map]
  constructor
  · rintro ⟨l, h, e⟩
    rw [← e]
    exact h
  · intro h
    exact ⟨_, h, ByteArray.ext (by simp)⟩
theorem toList_nil (s : ByteArray) : s.toList = [] ↔ s.size = 0 := by
  rw [ByteArray.toList_eq]
  constructor
  · intro h
    have : s.data.toList.length = 0 := by rw [h]; rfl
    rwa [Array.length_toList] at this
  · intro h
    exact List.eq_nil_of_length_eq_zero (by rw [Array.length_toList]; exact h)

theorem lexName_w (s : ByteArray) (w : World) :
    Calls Try.prog 41 #[.string s] w fun e w' => e = .returned (.bool (nameS s.data.toList)) ∧ Below w.heap.size w w' := by
  by_cases h0 : s.size = 0
  · have hE : s.toList = [] := (toList_nil s).2 h0
    have hE2 : s.toList.isEmpty = true := by rw [hE]; rfl
    have HN : Hid (nameS s.data.toList = false) := Lib.hid (by
      have : s.data.toList = [] := List.eq_nil_of_length_eq_zero (by rw [Array.length_toList]; exact h0)
      rw [this]; rfl)
    clear h0
    go_enter Try.func41, Try.ntmps41
    go_wp2_with fail
    go_ret
    exact ⟨by rw [HN.out] <;> rfl, Below.refl _ _⟩
  · have hE : ¬ s.toList = [] := fun e => h0 ((toList_nil s).1 e)
    have hE2 : s.toList.isEmpty = false := List.isEmpty_eq_false_iff.2 hE
    have hl : s.data.toList.length = s.size := Array.length_toList
    have hpos : 0 < s.data.toList.length := by rw [hl]; omega
    have hN := nameS_pos hpos
    by_cases h16 : s.size ≤ 16
    · have h16' : decide ((16 : Int) < (s.size : Int)) = false := decide_eq_false (by omega)
      have hpos' : 0 < s.size := by omega
      have hL := letter_w (s.data[0]'hpos') w
      have hget : s.data.toList[0] = s.data[0]'hpos' := by simp
      rw [hget, hl, decide_eq_true h16, Bool.true_and] at hN
      cases hb : smallS (s.data[0]'hpos')
      · rw [hb] at hL
        rw [hb, Bool.false_and, Bool.false_and] at hN
        have HL := Lib.hid hL
        have HN := Lib.hid hN
        clear hL hN hb hget
        go_enter Try.func41, Try.ntmps41
        go_wp2_with (go_at_call 47; refine HL.out.mono ?_; rintro e w' ⟨rfl, rfl⟩)
        go_ret
        exact ⟨by rw [HN.out] <;> rfl, Below.refl _ _⟩
      · rw [hb] at hL
        rw [hb, Bool.true_and] at hN
        have HL := Lib.hid hL
        obtain ⟨hr1, hr2⟩ := runTo_zero moreS s.data.toList
        rw [hl] at hr1 hr2
        have HE := Lib.hid (end_w s (by show s.size ≤ 100000; omega) w)
        clear hL hb hget
        cases ha : s.data.toList.all moreS
        · rw [ha, Bool.false_and] at hN
          rw [ha] at hr2
          have HN := Lib.hid hN
          have hne : (((runTo moreS s.data.toList 0 : Nat) : Int) != (s.size : Int)) = true := by
            rw [bne_iff_ne]; intro e; exact absurd (hr2.1 (by omega)) (by simp)
          clear hN ha hr1 hr2
          go_enter Try.func41, Try.ntmps41
          go_wp2_with (first | (go_at_call 47; refine HL.out.mono ?_; rintro e w' ⟨rfl, rfl⟩) | (go_at_call 48; refine HE.out.mono ?_; rintro e w' ⟨rfl, rfl⟩))
          go_ret
          exact ⟨by rw [HN.out] <;> rfl, Below.refl _ _⟩
        · rw [ha, Bool.true_and, ← wordsB_has] at hN
          have hne : (((runTo moreS s.data.toList 0 : Nat) : Int) != (s.size : Int)) = false := by
            rw [hr2.2 ha]; simp
          have HC := Lib.hid (contains_w (sat_heapF _) wordsB (by decide) _ _ 12 (Blk.rdH (xs := wordsB) (Blk.new w 9 (wordsB.map Value.string).toArray)) s)
          have HN := Lib.hid hN
          clear hN ha hr1 hr2
          go_enter Try.func41, Try.ntmps41
          go_wp2_with (first | (go_at_call 47; refine HL.out.mono ?_; rintro e w' ⟨rfl, rfl⟩) | (go_at_call 48; refine HE.out.mono ?_; rintro e w' ⟨rfl, rfl⟩) | (go_at_call 25; refine HC.out.mono ?_; rintro e w' ⟨rfl, rfl⟩))
          go_ret
          exact ⟨by rw [HN.out] <;> rfl, balloc _ _⟩
    · have h16' : (16 : Int) < (s.size : Int) := by omega
      rw [hl, decide_eq_false h16, Bool.false_and, Bool.false_and, Bool.false_and] at hN
      have HN := Lib.hid hN
      clear hN
      go_enter Try.func41, Try.ntmps41
      go_wp2_with fail
      go_ret
      exact ⟨by rw [HN.out] <;> rfl, Below.refl _ _⟩
theorem run_w (s : ByteArray) (hs : s.size ≤ 100000) (w : World) :
    Calls Try.prog 71 #[.string s, .int .i64 0, .bool true] w fun e w' => e = .returned (.int .i64 (runTo moreS s.data.toList 0 : Nat)) ∧ w = w' := by
  have hl : s.data.toList.length = s.size := Array.length_toList
  go_enter Try.func71, Try.ntmps71
  go_wp2_with fail
  go_loop [7] (fun i => ∃ k : Nat, k ≤ s.size ∧ i = .int .i64 k ∧ Hid (runTo moreS s.data.toList k = runTo moreS s.data.toList 0)) (fun i => s.size - (intOf i).toNat)
  case atStart => exact ⟨0, Nat.zero_le _, rfl, Lib.hid rfl⟩
  case round =>
    obtain ⟨k, hk, rfl, hr⟩ := hrel
    by_cases hlt : k < s.size
    · have hltI : (k : Int) < (s.size : Int) := by omega
      have hM : moreS (s[k]'hlt) = (digitS (s[k]'hlt) || (smallS (s[k]'hlt) || ((((s[k]'hlt).toNat : Nat) : Int) == 95))) := by
        unfold moreS digitS smallS
        rw [Bool.eq_iff_iff]
        simp
        omega
      have hg : s.data.toList[k]'(by omega) = s[k]'hlt := by rw [Array.getElem_toList]; rfl
      have hS := rsmall_w (s[k]'hlt) w
      have hD := rdigit_w (s[k]'hlt) w
      have hyes : moreS (s[k]'hlt) = true → runTo moreS s.data.toList (k + 1) = runTo moreS s.data.toList 0 := fun hb => by rw [← hr.out]; exact (runTo_step (by omega) (by rw [hg]; exact hb)).symm
      have hno : moreS (s[k]'hlt) = false → runTo moreS s.data.toList 0 = k := fun hb => by rw [← hr.out]; exact runTo_stop (by omega) (by rw [hg]; exact hb)
      clear hg
      cases h1 : digitS (s[k]'hlt)
      · cases h2 : smallS (s[k]'hlt)
        · cases h3 : ((((s[k]'hlt).toNat : Nat) : Int) == 95)
          · rw [h1, h2, h3] at hM
            rw [h1] at hD
            rw [h2] at hS
            have HR := Lib.hid (hno hM)
            have HD := Lib.hid hD
            have HS := Lib.hid hS
            clear hM hD hS hyes hno h1 h2
            go_wp2_with (first | (go_at_call 84; refine HD.out.mono ?_; rintro e w' ⟨rfl, rfl⟩) | (go_at_call 70; refine HS.out.mono ?_; rintro e w' ⟨rfl, rfl⟩))
            go_ret
            exact ⟨by rw [HR.out] <;> rfl, rfl⟩
          · rw [h1, h2, h3] at hM
            rw [h1] at hD
            rw [h2] at hS
            have HR := Lib.hid (hyes hM)
            have HD := Lib.hid hD
            have HS := Lib.hid hS
            clear hM hD hS hyes hno h1 h2
            go_wp2_with (first | (go_at_call 84; refine HD.out.mono ?_; rintro e w' ⟨rfl, rfl⟩) | (go_at_call 70; refine HS.out.mono ?_; rintro e w' ⟨rfl, rfl⟩))
            go_round
            case rel => exact ⟨k + 1, by omega, by go_num, HR⟩
            case measure => simp [intOf]; omega
        · rw [h1, h2] at hM
          rw [h1] at hD
          rw [h2] at hS
          have HR := Lib.hid (hyes hM)
          have HD := Lib.hid hD
          have HS := Lib.hid hS
          clear hM hD hS hyes hno h1 h2
          go_wp2_with (first | (go_at_call 84; refine HD.out.mono ?_; rintro e w' ⟨rfl, rfl⟩) | (go_at_call 70; refine HS.out.mono ?_; rintro e w' ⟨rfl, rfl⟩))
          go_round
          case rel => exact ⟨k + 1, by omega, by go_num, HR⟩
          case measure => simp [intOf]; omega
      · rw [h1] at hM
        rw [h1] at hD
        have HR := Lib.hid (hyes hM)
        have HD := Lib.hid hD
        clear hM hD hS hyes hno h1
        go_wp2_with (first | (go_at_call 84; refine HD.out.mono ?_; rintro e w' ⟨rfl, rfl⟩))
        go_round
        case rel => exact ⟨k + 1, by omega, by go_num, HR⟩
        case measure => simp [intOf]; omega
    · have HR : Hid (runTo moreS s.data.toList 0 = k) := Lib.hid (by rw [← hr.out]; exact runTo_end (by omega))
      have hltI : decide ((k : Int) < (s.size : Int)) = false := decide_eq_false (by omega)
      go_wp2_with fail
      go_ret
      exact ⟨by rw [HR.out] <;> rfl, rfl⟩
/-- The words that are no names, the empty one last. -/
def wordsR : List ByteArray := wordsB ++ [⟨#[]⟩]
theorem idx_words (w : World) (k : Nat) (hk : k < wordsR.length) :
    (Instr.index 118 (.agg #[.string ⟨#[116, 114, 117, 101]⟩, .string ⟨#[102, 97, 108, 115, 101]⟩, .string ⟨#[112, 114, 101, 118]⟩, .string ⟨#[110, 101, 120, 116]⟩, .string ⟨#[111, 110, 99, 101]⟩, .string ⟨#[104, 105, 115, 116]⟩, .string ⟨#[115, 111, 109, 101]⟩, .string ⟨#[97, 108, 108]⟩, .string ⟨#[115, 105, 110, 99, 101]⟩, .string ⟨#[117, 110, 116, 105, 108]⟩, .string ⟨#[98, 97, 99, 107]⟩, .string ⟨#[102, 111, 114, 101]⟩, .string ⟨#[]⟩]) (.int .i64 (k : Int))).run Try.prog w = .ok (.string wordsR[k]) w := by
  have h13 : k < 13 := hk
  show (Instr.index _ (.agg (wordsR.map Value.string).toArray) _).run _ _ = _
  simp [Instr.index, run_underlying Try.underlying118, asIntOf, go_sem, part]
  rw [if_pos h13, List.getElem?_eq_getElem hk]
  rfl
theorem wordsR_has (s : ByteArray) (h0 : s.size ≠ 0) : hasS wordsR s = hasS wordsB s := by
  rw [Bool.eq_iff_iff, hasS_iff, hasS_iff]
  unfold wordsR
  rw [List.mem_append, List.mem_singleton]
  refine ⟨fun h => h.resolve_right ?_, .inl⟩
  rintro rfl
  exact h0 rfl
set_option maxRecDepth 100000 in
theorem reserved_w (s : ByteArray) (h0 : s.size ≠ 0) (w : World) :
    Calls Try.prog 72 #[.string s] w fun e w' => e = .returned (.bool (hasS wordsB s)) ∧ w = w' := by
  rw [← wordsR_has s h0]
  have hl : wordsR.length = 13 := rfl
  go_enter Try.func72, Try.ntmps72
  go_wp2_with fail
  go_loop [4, 6] (fun _ i => ∃ k : Nat, k ≤ 13 ∧ i = .int .i64 k ∧ Hid (s ∉ wordsR.take k)) (fun _ i => 13 - (intOf i).toNat)
  case atStart => exact ⟨0, Nat.zero_le _, rfl, Lib.hid (by simp)⟩
  case round =>
    obtain ⟨k, hk, rfl, hr⟩ := hrel
    by_cases hlt : k < 13
    · have hlt' : k < wordsR.length := hlt
      have hltI : (k : Int) < 13 := by omega
      have hix := idx_words w k hlt'
      by_cases he : s = wordsR[k]
      · have HE : Hid (hasS wordsR s = true) := Lib.hid ((hasS_iff _ _).2 (by rw [he]; exact List.getElem_mem hlt'))
        have hee : (s.toList == wordsR[k].toList) = true := (eqS_iff _ _).2 he
        clear he hl
        generalize wordsR[k] = wk at *
        go_wp2_with fail
        go_ret
        exact ⟨by rw [HE.out] <;> rfl, rfl⟩
      · have HE : Hid (s ∉ wordsR.take (k + 1)) := Lib.hid (by
          rw [List.take_succ_eq_append_getElem hlt', List.mem_append]
          rintro (h | h)
          · exact hr.out h
          · exact he (by simpa using h))
        have hee : (s.toList == wordsR[k].toList) = false := (eqS_false _ _).2 he
        clear he hl
        generalize wordsR[k] = wk at *
        go_wp2_with fail
        go_round
        case rel => exact ⟨k + 1, by omega, by go_num, HE⟩
        case measure => simp [intOf]; omega
    · have HE : Hid (hasS wordsR s = false) := Lib.hid ((hasS_false _ _).2 (by have := hr.out; rwa [List.take_of_length_le (by omega)] at this))
      have hltI : decide ((k : Int) < 13) = false := decide_eq_false (by omega)
      go_wp2_with fail
      go_ret
      exact ⟨by rw [HE.out] <;> rfl, rfl⟩
theorem rName_w (s : ByteArray) (w : World) :
    Calls Try.prog 46 #[.string s] w fun e w' => e = .returned (.bool (nameS s.data.toList)) ∧ w = w' := by
  by_cases h0 : s.size = 0
  · have h0' : decide ((0 : Int) < (s.size : Int)) = false := decide_eq_false (by omega)
    have HN : Hid (nameS s.data.toList = false) := Lib.hid (by
      have : s.data.toList = [] := List.eq_nil_of_length_eq_zero (by rw [Array.length_toList]; exact h0)
      rw [this]; rfl)
    go_enter Try.func46, Try.ntmps46
    go_wp2_with fail
    go_ret
    exact ⟨by rw [HN.out] <;> rfl, rfl⟩
  · have hl : s.data.toList.length = s.size := Array.length_toList
    have hpos : 0 < s.data.toList.length := by rw [hl]; omega
    have hpI : (0 : Int) < (s.size : Int) := by omega
    have hN := nameS_pos hpos
    by_cases h16 : s.size ≤ 16
    · have h16' : (s.size : Int) ≤ 16 := by omega
      have hpos' : 0 < s.size := by omega
      have hL := rsmall_w (s[0]'hpos') w
      have hget : s.data.toList[0] = s[0]'hpos' := by rw [Array.getElem_toList]; rfl
      rw [hget, hl, decide_eq_true h16, Bool.true_and] at hN
      cases hb : smallS (s[0]'hpos')
      · rw [hb] at hL
        rw [hb, Bool.false_and, Bool.false_and] at hN
        have HL := Lib.hid hL
        have HN := Lib.hid hN
        clear hL hN hb hget
        go_enter Try.func46, Try.ntmps46
        go_wp2_with (go_at_call 70; refine HL.out.mono ?_; rintro e w' ⟨rfl, rfl⟩)
        go_ret
        exact ⟨by rw [HN.out] <;> rfl, rfl⟩
      · rw [hb] at hL
        rw [hb, Bool.true_and] at hN
        have HL := Lib.hid hL
        obtain ⟨hr1, hr2⟩ := runTo_zero moreS s.data.toList
        rw [hl] at hr1 hr2
        have HE := Lib.hid (run_w s (by omega) w)
        clear hL hb hget
        cases ha : s.data.toList.all moreS
        · rw [ha, Bool.false_and] at hN
          rw [ha] at hr2
          have HN := Lib.hid hN
          have hne : (((runTo moreS s.data.toList 0 : Nat) : Int) == (s.size : Int)) = false := by
            rw [beq_eq_false_iff_ne]; intro e; exact absurd (hr2.1 (by omega)) (by simp)
          clear hN ha hr1 hr2
          go_enter Try.func46, Try.ntmps46
          go_wp2_with (first | (go_at_call 70; refine HL.out.mono ?_; rintro e w' ⟨rfl, rfl⟩) | (go_at_call 71; refine HE.out.mono ?_; rintro e w' ⟨rfl, rfl⟩))
          go_ret
          exact ⟨by rw [HN.out] <;> rfl, rfl⟩
        · rw [ha, Bool.true_and, ← wordsB_has] at hN
          have hne : (((runTo moreS s.data.toList 0 : Nat) : Int) == (s.size : Int)) = true := by
            rw [hr2.2 ha]; simp
          have HC := Lib.hid (reserved_w s h0 w)
          have HN := Lib.hid hN
          clear hN ha hr1 hr2
          go_enter Try.func46, Try.ntmps46
          go_wp2_with (first | (go_at_call 70; refine HL.out.mono ?_; rintro e w' ⟨rfl, rfl⟩) | (go_at_call 71; refine HE.out.mono ?_; rintro e w' ⟨rfl, rfl⟩) | (go_at_call 72; refine HC.out.mono ?_; rintro e w' ⟨rfl, rfl⟩))
          go_ret
          exact ⟨by rw [HN.out] <;> rfl, rfl⟩
    · have h16' : decide ((s.size : Int) ≤ 16) = false := decide_eq_false (by omega)
      rw [hl, decide_eq_false h16, Bool.false_and, Bool.false_and, Bool.false_and] at hN
      have HN := Lib.hid hN
      clear hN
      go_enter Try.func46, Try.ntmps46
      go_wp2_with fail
      go_ret
      exact ⟨by rw [HN.out] <;> rfl, rfl⟩
end Go.Proofs.Ytgmbicjcfhmcdaa
