/- The walks of the small functions on nodes: kinds, spans, names. -/
import Derived.Test.YtaomehlhopiblaaTreeP
import Derived.Test.YtaomehlhopiblaaMem
import Derived.Deep.QuietTactic
import Derived.BigQuiet
import Derived.Lib.SlicesS
set_option linter.unusedVariables false
set_option linter.unusedSimpArgs false
/-! The walks of the small functions on nodes: kinds, spans, names. -/
namespace Go.Proofs.Ytaomehlhopiblaa
open Go.RowKit

theorem arity_w (k : Int) (w : World) : Calls Try.prog 75 #[.int .i64 k] w fun e w' => e = .returned (.int .i64 (arityS k)) ∧ w = w' := by
  by_cases h1 : k = 1 ∨ k = 2 ∨ k = 3 ∨ k = 18 ∨ k = 5 ∨ k = 6 ∨ k = 7 ∨ k = 14 ∨ k = 15 ∨ k = 20 ∨ k = 21
  · rcases h1 with h | h | h | h | h | h | h | h | h | h | h <;> subst h <;> (go_enter Try.func75, Try.ntmps75; go_wp2; go_ret; exact ⟨rfl, rfl⟩)
  · have e1 : (k == 1) = false := by rw [beq_eq_false_iff_ne]; omega
    have e2 : (k == 2) = false := by rw [beq_eq_false_iff_ne]; omega
    have e3 : (k == 3) = false := by rw [beq_eq_false_iff_ne]; omega
    have e4 : (k == 18) = false := by rw [beq_eq_false_iff_ne]; omega
    have e5 : (k == 5) = false := by rw [beq_eq_false_iff_ne]; omega
    have e6 : (k == 6) = false := by rw [beq_eq_false_iff_ne]; omega
    have e7 : (k == 7) = false := by rw [beq_eq_false_iff_ne]; omega
    have e8 : (k == 14) = false := by rw [beq_eq_false_iff_ne]; omega
    have e9 : (k == 15) = false := by rw [beq_eq_false_iff_ne]; omega
    have e10 : (k == 20) = false := by rw [beq_eq_false_iff_ne]; omega
    have e11 : (k == 21) = false := by rw [beq_eq_false_iff_ne]; omega
    have n1 : ¬ (k = 1 ∨ k = 2 ∨ k = 3 ∨ k = 18) := by omega
    have n2 : ¬ (k = 5 ∨ k = 6 ∨ k = 7 ∨ k = 14 ∨ k = 15 ∨ k = 20 ∨ k = 21) := by omega
    by_cases h2 : k < 1
    · have H : Hid (arityS k = -1) := Lib.hid (by unfold arityS; rw [if_neg n1, if_neg n2, if_pos (.inl h2)])
      clear n1 n2 h1
      go_enter Try.func75, Try.ntmps75
      go_wp2
      go_ret
      exact ⟨by rw [H.out] <;> rfl, rfl⟩
    · by_cases h3 : 22 < k
      · have H : Hid (arityS k = -1) := Lib.hid (by unfold arityS; rw [if_neg n1, if_neg n2, if_pos (.inr h3)])
        have h2' : decide (k < 1) = false := decide_eq_false h2
        clear n1 n2 h1 h2
        go_enter Try.func75, Try.ntmps75
        go_wp2
        go_ret
        exact ⟨by rw [H.out] <;> rfl, rfl⟩
      · have H : Hid (arityS k = 1) := Lib.hid (by unfold arityS; rw [if_neg n1, if_neg n2, if_neg (by omega)])
        have h2' : decide (k < 1) = false := decide_eq_false h2
        have h3' : decide (22 < k) = false := decide_eq_false h3
        clear n1 n2 h1 h2 h3
        go_enter Try.func75, Try.ntmps75
        go_wp2
        go_ret
        exact ⟨by rw [H.out] <;> rfl, rfl⟩
theorem reg_w (k : Int) (w : World) : Calls Try.prog 50 #[.int .i64 k] w fun e w' => e = .returned (.bool (regS k)) ∧ w = w' := by
  go_enter Try.func50, Try.ntmps50
  go_wp2
  go_ret
  exact ⟨rfl, rfl⟩
theorem wants_w (k : Int) (w : World) : Calls Try.prog 67 #[.int .i64 k] w fun e w' => e = .returned (.bool (wantsS k)) ∧ w = w' := by
  by_cases h1 : k = 16 ∨ k = 17 ∨ k = 20 ∨ k = 21 ∨ k = 22
  · rcases h1 with h | h | h | h | h <;> subst h <;> (go_enter Try.func67, Try.ntmps67; go_wp2; go_ret; exact ⟨rfl, rfl⟩)
  · have e1 : (k == 16) = false := by rw [beq_eq_false_iff_ne]; omega
    have e2 : (k == 17) = false := by rw [beq_eq_false_iff_ne]; omega
    have e3 : (k == 20) = false := by rw [beq_eq_false_iff_ne]; omega
    have e4 : (k == 21) = false := by rw [beq_eq_false_iff_ne]; omega
    have e5 : (k == 22) = false := by rw [beq_eq_false_iff_ne]; omega
    have H : Hid (wantsS k = false) := Lib.hid (decide_eq_false h1)
    clear h1
    go_enter Try.func67, Try.ntmps67
    go_wp2
    go_ret
    exact ⟨by rw [H.out] <;> rfl, rfl⟩
theorem timed_w (k : Int) (w : World) : Calls Try.prog 74 #[.int .i64 k] w fun e w' => e = .returned (.bool (timedS k)) ∧ w = w' := by
  by_cases h : 8 ≤ k
  · have H : Hid (timedS k = decide (k ≤ 17)) := Lib.hid (by unfold timedS; simp [h])
    go_enter Try.func74, Try.ntmps74
    go_wp2
    go_ret
    exact ⟨by rw [H.out] <;> rfl, rfl⟩
  · have H : Hid (timedS k = false) := Lib.hid (by unfold timedS; simp [h])
    have h' : decide (8 ≤ k) = false := decide_eq_false h
    go_enter Try.func74, Try.ntmps74
    go_wp2
    go_ret
    exact ⟨by rw [H.out] <;> rfl, rfl⟩
theorem ivalMay_w (lo hi : Int) (w : World) : Calls Try.prog 62 #[.agg #[.int .i64 lo, .int .i64 hi]] w fun e w' => e = .returned (.bool (spanS lo hi)) ∧ Below w.heap.size w w' := by
  by_cases h1 : 0 ≤ lo
  · by_cases h2 : lo ≤ 9999
    · by_cases h3 : hi = -1
      · have H : Hid (spanS lo hi = true) := Lib.hid (by unfold spanS; simp [h1, h2, h3])
        have e3 : (hi == -1) = true := by rw [h3]; rfl
        go_enter Try.func62, Try.ntmps62
        go_wp2
        go_ret
        exact ⟨by rw [H.out] <;> rfl, balloc _ _⟩
      · have e3 : (hi == -1) = false := by rw [beq_eq_false_iff_ne]; exact h3
        by_cases h4 : lo ≤ hi
        · have H : Hid (spanS lo hi = decide (hi ≤ 9999)) := Lib.hid (by unfold spanS; simp [h1, h2, h3, h4])
          clear h3
          go_enter Try.func62, Try.ntmps62
          go_wp2
          go_ret
          exact ⟨by rw [H.out] <;> rfl, balloc _ _⟩
        · have H : Hid (spanS lo hi = false) := Lib.hid (by unfold spanS; simp [h1, h2, h3, h4])
          have h4' : decide (lo ≤ hi) = false := decide_eq_false h4
          clear h3 h4
          go_enter Try.func62, Try.ntmps62
          go_wp2
          go_ret
          exact ⟨by rw [H.out] <;> rfl, balloc _ _⟩
    · have H : Hid (spanS lo hi = false) := Lib.hid (by unfold spanS; simp [h1, h2])
      have h' : decide (lo ≤ 9999) = false := decide_eq_false h2
      clear h2
      go_enter Try.func62, Try.ntmps62
      go_wp2
      go_ret
      exact ⟨by rw [H.out] <;> rfl, balloc _ _⟩
  · have H : Hid (spanS lo hi = false) := Lib.hid (by unfold spanS; simp [h1])
    have h' : decide (0 ≤ lo) = false := decide_eq_false h1
    clear h1
    go_enter Try.func62, Try.ntmps62
    go_wp2
    go_ret
    exact ⟨by rw [H.out] <;> rfl, balloc _ _⟩
/-! ### Bytes -/
def digitS (c : UInt8) : Bool := decide (48 ≤ c.toNat ∧ c.toNat ≤ 57)
theorem letter_w (c : UInt8) (w : World) : Calls Try.prog 78 #[.int .u8 (c.toNat : Int)] w fun e w' => e = .returned (.bool (smallS c)) ∧ w = w' := by
  by_cases h : (97 : Int) ≤ (c.toNat : Int)
  · have H : Hid (smallS c = decide ((c.toNat : Int) ≤ 122)) := Lib.hid (by unfold smallS; rw [decide_eq_decide]; omega)
    go_enter Try.func78, Try.ntmps78
    go_wp2
    go_ret
    exact ⟨by rw [H.out] <;> rfl, rfl⟩
  · have H : Hid (smallS c = false) := Lib.hid (by unfold smallS; rw [decide_eq_false_iff_not]; omega)
    have h' : decide ((97 : Int) ≤ (c.toNat : Int)) = false := decide_eq_false h
    clear h
    go_enter Try.func78, Try.ntmps78
    go_wp2
    go_ret
    exact ⟨by rw [H.out] <;> rfl, rfl⟩
theorem digit_w (c : UInt8) (w : World) : Calls Try.prog 83 #[.int .u8 (c.toNat : Int)] w fun e w' => e = .returned (.bool (digitS c)) ∧ w = w' := by
  by_cases h : (48 : Int) ≤ (c.toNat : Int)
  · have H : Hid (digitS c = decide ((c.toNat : Int) ≤ 57)) := Lib.hid (by unfold digitS; rw [decide_eq_decide]; omega)
    go_enter Try.func83, Try.ntmps83
    go_wp2
    go_ret
    exact ⟨by rw [H.out] <;> rfl, rfl⟩
  · have H : Hid (digitS c = false) := Lib.hid (by unfold digitS; rw [decide_eq_false_iff_not]; omega)
    have h' : decide ((48 : Int) ≤ (c.toNat : Int)) = false := decide_eq_false h
    clear h
    go_enter Try.func83, Try.ntmps83
    go_wp2
    go_ret
    exact ⟨by rw [H.out] <;> rfl, rfl⟩
theorem more_w (c : UInt8) (w : World) : Calls Try.prog 80 #[.int .u8 (c.toNat : Int)] w fun e w' => e = .returned (.bool (moreS c)) ∧ w = w' := by
  have hL := letter_w c w
  have hD := digit_w c w
  have H : Hid (moreS c = (smallS c || digitS c || (((c.toNat : Nat) : Int) == 95))) := Lib.hid (by
    unfold moreS digitS
    congr 1
    rw [Bool.eq_iff_iff]
    simp
    omega)
  cases h1 : smallS c <;> cases h2 : digitS c <;> rw [h1] at hL <;> rw [h2] at hD <;> rw [h1, h2] at H <;> clear h1 h2 <;>
  (have HL := Lib.hid hL
   have HD := Lib.hid hD
   clear hL hD
   go_enter Try.func80, Try.ntmps80
   go_wp2_with (first | (go_at_call 78; refine HL.out.mono ?_; rintro e w' ⟨rfl, rfl⟩) | (go_at_call 83; refine HD.out.mono ?_; rintro e w' ⟨rfl, rfl⟩))
   go_ret
   exact ⟨by rw [H.out] <;> rfl, rfl⟩)
/-- Where a run that begins at k ends. -/
def runTo (p : UInt8 → Bool) (xs : List UInt8) (k : Nat) : Nat := k + ((xs.drop k).takeWhile p).length
theorem runTo_step {p : UInt8 → Bool} {xs : List UInt8} {k : Nat} (h : k < xs.length) (hp : p xs[k] = true) : runTo p xs k = runTo p xs (k + 1) := by
  unfold runTo
  rw [List.drop_eq_getElem_cons h, List.takeWhile_cons_of_pos hp, List.length_cons]
  omega
theorem runTo_stop {p : UInt8 → Bool} {xs : List UInt8} {k : Nat} (h : k < xs.length) (hp : p xs[k] = false) : runTo p xs k = k := by
  unfold runTo
  rw [List.drop_eq_getElem_cons h, List.takeWhile_cons_of_neg (by simp [hp])]
  rfl
theorem runTo_end {p : UInt8 → Bool} {xs : List UInt8} {k : Nat} (h : xs.length ≤ k) : runTo p xs k = k := by
  unfold runTo
  rw [List.drop_of_length_le h]
  rfl
end Go.Proofs.Ytaomehlhopiblaa
/-! The walks of lex.end, lex.Name and of the reference's Name. -/
/-! The walks of lex.end, lex.Name and of the reference's Name. -/
namespace Go.Proofs.Ytaomehlhopiblaa
open Go.RowKit

theorem end_w (s : ByteArray) (hs : s.data.size ≤ 100000) (w : World) :
    Calls Try.prog 79 #[.string s, .int .i64 0, .func (.func 80) #[] #[]] w fun e w' => e = .returned (.int .i64 (runTo moreS s.data.toList 0 : Nat)) ∧ w = w' := by
  go_enter Try.func79, Try.ntmps79
  go_wp2_with fail
  go_loop [1] (fun i => ∃ k : Nat, k ≤ s.data.size ∧ i = .int .i64 k ∧ Hid (runTo moreS s.data.toList k = runTo moreS s.data.toList 0)) (fun i => s.data.size - (intOf i).toNat)
  case atStart => exact ⟨0, Nat.zero_le _, rfl, Lib.hid rfl⟩
  case round =>
    obtain ⟨k, hk, rfl, hr⟩ := hrel
    by_cases hlt : k < s.data.size
    · have hM := more_w s.data[k] w
      have hltI : (k : Int) < (s.data.size : Int) := by omega
      cases hb : moreS s.data[k]
      · rw [hb] at hM
        have HM := Lib.hid hM
        have HR : Hid (runTo moreS s.data.toList 0 = k) := Lib.hid (by rw [← hr.out]; exact runTo_stop (by simpa using hlt) (by simpa using hb))
        clear hM hb
        go_wp2_with (go_at_call 80; refine HM.out.mono ?_; rintro e w' ⟨rfl, rfl⟩)
        go_ret
        exact ⟨by rw [HR.out] <;> rfl, rfl⟩
      · rw [hb] at hM
        have HM := Lib.hid hM
        have HR : Hid (runTo moreS s.data.toList (k + 1) = runTo moreS s.data.toList 0) := Lib.hid (by rw [← hr.out]; exact (runTo_step (by simpa using hlt) (by simpa using hb)).symm)
        clear hM hb
        go_wp2_with (go_at_call 80; refine HM.out.mono ?_; rintro e w' ⟨rfl, rfl⟩)
        go_round
        case rel => exact ⟨k + 1, by omega, by go_num, HR⟩
        case measure => simp [intOf]; omega
    · have HR : Hid (runTo moreS s.data.toList 0 = k) := Lib.hid (by rw [← hr.out]; exact runTo_end (by rw [Array.length_toList]; omega))
      have hltI : decide ((k : Int) < (s.data.size : Int)) = false := decide_eq_false (by omega)
      go_wp2_with fail
      go_ret
      exact ⟨by rw [HR.out] <;> rfl, rfl⟩

/-- Two texts, byte by byte. -/
def eqS (a b : ByteArray) : Bool := a.toList == b.toList
theorem eqS_iff (a b : ByteArray) : eqS a b = true ↔ a = b := Lib.bytes_beq_iff a b
theorem eqS_false (a b : ByteArray) : eqS a b = false ↔ a ≠ b := Lib.bytes_beq_false_iff a b
theorem eqS_refl (a : ByteArray) : eqS a a = true := (eqS_iff a a).2 rfl
/-- Is a text in a list? -/
def hasS (ss : List ByteArray) (s : ByteArray) : Bool := ss.any (eqS s)
theorem hasS_iff (ss : List ByteArray) (s : ByteArray) : hasS ss s = true ↔ s ∈ ss := by
  unfold hasS
  rw [List.any_eq_true]
  constructor
  · rintro ⟨x, hx, h⟩; rw [(eqS_iff s x).1 h]; exact hx
  · intro h; exact ⟨s, h, eqS_refl s⟩
theorem hasS_false (ss : List ByteArray) (s : ByteArray) : hasS ss s = false ↔ s ∉ ss := by rw [← hasS_iff, Bool.not_eq_true]
theorem rdS_len {F : Fz} {α : Type} {enc : α → Value} {A : Option Addr} {n : Nat} {xs : List α} (h : Rd F 1 A n (xs.map enc)) : n = xs.length := by have := h.1; simpa using this.symm
theorem idx_w {F : Fz} {w : World} (hF : Sat F w) (ss : List ByteArray) (hn : ss.length ≤ 100000) (A : Option Addr) (n c : Nat) (hf : Rd F 1 A n (ss.map Value.string)) (s : ByteArray) :
    Calls Try.prog 38 #[.slice A n c, .string s] w fun e w' => (∃ i : Int, e = .returned (.int .i64 i) ∧ decide (0 ≤ i) = hasS ss s) ∧ w = w' := by
  obtain rfl := rdS_len hf
  go_enter Try.func38, Try.ntmps38
  go_wp2_with fail
  go_loop [5, 8] (fun _ i => ∃ k : Nat, k ≤ ss.length ∧ i = .int .i64 k ∧ Hid (s ∉ ss.take k)) (fun _ i => ss.length - (intOf i).toNat)
  case atStart => exact ⟨0, Nat.zero_le _, rfl, Lib.hid (by simp)⟩
  case round =>
    obtain ⟨k, hk, rfl, hr⟩ := hrel
    by_cases hlt : k < ss.length
    · obtain ⟨ad, v, rfl, hv, hcell⟩ := hf.at1 hlt
      obtain rfl : Value.string ss[k] = v := by simpa [hlt] using hv
      have hc := hF.cell hcell
      clear hv hcell
      by_cases he : s = ss[k]
      · have HE : Hid (hasS ss s = true) := Lib.hid ((hasS_iff _ _).2 (by rw [he]; exact List.getElem_mem hlt))
        have hee : (s.toList == ss[k].toList) = true := (eqS_iff _ _).2 he
        clear he
        go_wp2_with fail
        go_ret
        exact ⟨⟨(k : Int), rfl, by rw [HE.out]; simp⟩, rfl⟩
      · have HE : Hid (s ∉ ss.take (k + 1)) := Lib.hid (by
          rw [List.take_succ_eq_append_getElem hlt, List.mem_append]
          rintro (h | h)
          · exact hr.out h
          · exact he (by simpa using h))
        have hee : (s.toList == ss[k].toList) = false := (eqS_false _ _).2 he
        clear he
        go_wp2_with fail
        go_round
        case rel => exact ⟨k + 1, by omega, by go_num, HE⟩
        case measure => simp [intOf]; omega
    · have HE : Hid (hasS ss s = false) := Lib.hid ((hasS_false _ _).2 (by have := hr.out; rwa [List.take_of_length_le (by omega)] at this))
      have hltI : decide ((k : Int) < (ss.length : Int)) = false := decide_eq_false (by omega)
      go_wp2_with fail
      go_ret
      exact ⟨⟨-1, rfl, by rw [HE.out] <;> rfl⟩, rfl⟩
theorem contains_w {F : Fz} {w : World} (hF : Sat F w) (ss : List ByteArray) (hn : ss.length ≤ 100000) (A : Option Addr) (n c : Nat) (hf : Rd F 1 A n (ss.map Value.string)) (s : ByteArray) :
    Calls Try.prog 19 #[.slice A n c, .string s] w fun e w' => e = .returned (.bool (hasS ss s)) ∧ w = w' := by
  have HI := Lib.hid (idx_w hF ss hn A n c hf s)
  go_enter Try.func19, Try.ntmps19
  go_wp2_with (go_at_call 38; refine HI.out.mono ?_; rintro e w' ⟨⟨i, rfl, hi⟩, rfl⟩)
  go_ret
  exact ⟨by rw [← hi] <;> rfl, rfl⟩
end Go.Proofs.Ytaomehlhopiblaa
/-! The walks of lex.Name and of the reference's Name. -/
namespace Go.Proofs.Ytaomehlhopiblaa
open Go.RowKit

theorem runTo_zero (p : UInt8 → Bool) : ∀ xs : List UInt8, runTo p xs 0 ≤ xs.length ∧ (runTo p xs 0 = xs.length ↔ xs.all p = true)
  | [] => by simp [runTo]
  | x :: xs => by
    obtain ⟨h1, h2⟩ := runTo_zero p xs
    unfold runTo at h1 h2 ⊢
    rw [List.drop_zero] at h1 h2 ⊢
    by_cases h : p x = true
    · rw [List.takeWhile_cons_of_pos h, List.length_cons, List.all_cons, h, Bool.true_and, List.length_cons, ← h2]
      omega
    · rw [List.takeWhile_cons_of_neg (by simpa using h), List.all_cons]
      simp at h
      simp [h]
theorem nameS_pos {xs : List UInt8} (h : 0 < xs.length) : nameS xs = (decide (xs.length ≤ 16) && smallS xs[0] && xs.all moreS && !wordsS.contains xs) := by
  cases xs with
  | nil => simp at h
  | cons c xs => rfl
/-- The words that are no names, as texts. -/
def wordsB : List ByteArray := wordsS.map fun l => ⟨l.toArray⟩
theorem wordsB_has (s : ByteArray) : hasS wordsB s = wordsS.contains s.data.toList := by
  rw [Bool.eq_iff_iff, hasS_iff, List.contains_iff_mem]
  unfold wordsB
  rw [List.mem_map]
  constructor
  · rintro ⟨l, h, e⟩
    rw [← e]
    exact h
  · intro h
    exact ⟨_, h, ByteArray.ext (by simp)⟩
theorem toList_nil (s : ByteArray) : s.toList = [] ↔ s.size = 0 := by
  rw [ByteArray.toList_eq]
  constructor
  · intro h
    have : s.data.toList.length = 0 := by rw [h]; rfl
    rwa [Array.length_toList] at this
  · intro h
    exact List.eq_nil_of_length_eq_zero (by rw [Array.length_toList]; exact h)

theorem lexName_w (s : ByteArray) (w : World) :
    Calls Try.prog 73 #[.string s] w fun e w' => e = .returned (.bool (nameS s.data.toList)) ∧ Below w.heap.size w w' := by
  by_cases h0 : s.size = 0
  · have hE : s.toList = [] := (toList_nil s).2 h0
    have hE2 : s.toList.isEmpty = true := by rw [hE]; rfl
    have HN : Hid (nameS s.data.toList = false) := Lib.hid (by
      have : s.data.toList = [] := List.eq_nil_of_length_eq_zero (by rw [Array.length_toList]; exact h0)
      rw [this]; rfl)
    clear h0
    go_enter Try.func73, Try.ntmps73
    go_wp2_with fail
    go_ret
    exact ⟨by rw [HN.out] <;> rfl, Below.refl _ _⟩
  · have hE : ¬ s.toList = [] := fun e => h0 ((toList_nil s).1 e)
    have hE2 : s.toList.isEmpty = false := List.isEmpty_eq_false_iff.2 hE
    have hl : s.data.toList.length = s.size := Array.length_toList
    have hpos : 0 < s.data.toList.length := by rw [hl]; omega
    have hN := nameS_pos hpos
    by_cases h16 : s.size ≤ 16
    · have h16' : decide ((16 : Int) < (s.size : Int)) = false := decide_eq_false (by omega)
      have hpos' : 0 < s.size := by omega
      have hL := letter_w (s.data[0]'hpos') w
      have hget : s.data.toList[0] = s.data[0]'hpos' := by simp
      rw [hget, hl, decide_eq_true h16, Bool.true_and] at hN
      cases hb : smallS (s.data[0]'hpos')
      · rw [hb] at hL
        rw [hb, Bool.false_and, Bool.false_and] at hN
        have HL := Lib.hid hL
        have HN := Lib.hid hN
        clear hL hN hb hget
        go_enter Try.func73, Try.ntmps73
        go_wp2_with (go_at_call 78; refine HL.out.mono ?_; rintro e w' ⟨rfl, rfl⟩)
        go_ret
        exact ⟨by rw [HN.out] <;> rfl, Below.refl _ _⟩
      · rw [hb] at hL
        rw [hb, Bool.true_and] at hN
        have HL := Lib.hid hL
        obtain ⟨hr1, hr2⟩ := runTo_zero moreS s.data.toList
        rw [hl] at hr1 hr2
        have HE := Lib.hid (end_w s (by show s.size ≤ 100000; omega) w)
        clear hL hb hget
        cases ha : s.data.toList.all moreS
        · rw [ha, Bool.false_and] at hN
          rw [ha] at hr2
          have HN := Lib.hid hN
          have hne : (((runTo moreS s.data.toList 0 : Nat) : Int) != (s.size : Int)) = true := by
            rw [bne_iff_ne]; intro e; exact absurd (hr2.1 (by omega)) (by simp)
          clear hN ha hr1 hr2
          go_enter Try.func73, Try.ntmps73
          go_wp2_with (first | (go_at_call 78; refine HL.out.mono ?_; rintro e w' ⟨rfl, rfl⟩) | (go_at_call 79; refine HE.out.mono ?_; rintro e w' ⟨rfl, rfl⟩))
          go_ret
          exact ⟨by rw [HN.out] <;> rfl, Below.refl _ _⟩
        · rw [ha, Bool.true_and, ← wordsB_has] at hN
          have hne : (((runTo moreS s.data.toList 0 : Nat) : Int) != (s.size : Int)) = false := by
            rw [hr2.2 ha]; simp
          have HC := Lib.hid (contains_w (sat_heapF _) wordsB (by decide) _ _ 12 (Blk.rdH (xs := wordsB) (Blk.new w 9 (wordsB.map Value.string).toArray)) s)
          have HN := Lib.hid hN
          clear hN ha hr1 hr2
          go_enter Try.func73, Try.ntmps73
          go_wp2_with (first | (go_at_call 78; refine HL.out.mono ?_; rintro e w' ⟨rfl, rfl⟩) | (go_at_call 79; refine HE.out.mono ?_; rintro e w' ⟨rfl, rfl⟩) | (go_at_call 19; refine HC.out.mono ?_; rintro e w' ⟨rfl, rfl⟩))
          go_ret
          exact ⟨by rw [HN.out] <;> rfl, balloc _ _⟩
    · have h16' : (16 : Int) < (s.size : Int) := by omega
      rw [hl, decide_eq_false h16, Bool.false_and, Bool.false_and, Bool.false_and] at hN
      have HN := Lib.hid hN
      clear hN
      go_enter Try.func73, Try.ntmps73
      go_wp2_with fail
      go_ret
      exact ⟨by rw [HN.out] <;> rfl, Below.refl _ _⟩
end Go.Proofs.Ytaomehlhopiblaa
