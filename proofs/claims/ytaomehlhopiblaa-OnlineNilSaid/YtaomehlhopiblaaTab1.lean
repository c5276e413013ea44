/- 64-bit words behind one name, and the operations on them as rules of the walk. -/
import Derived.Test.YtaomehlhopiblaaMem
import Derived.Deep.QuietTactic
import Derived.BigQuiet
set_option linter.unusedVariables false
set_option linter.unusedSimpArgs false
/-! 64-bit words behind one name, and the operations on them as rules of the walk. -/
namespace Go.Proofs.Ytaomehlhopiblaa
open Go.RowKit

/-- The number of a uint64 (or uint). -/
def uz (x : BitVec 64) : Int := (x.toNat : Int)
/-- A uint64 (or uint). -/
abbrev u (x : BitVec 64) : Value := .int .u64 (uz x)
/-- An int that is a power of two, behind a name. -/
def pw (m : Nat) : Int := ((2 ^ m : Nat) : Int)
def sh64 (x y : BitVec 64) : BitVec 64 := x <<< y.toNat
def shr64 (x y : BitVec 64) : BitVec 64 := x >>> y.toNat

theorem uz_toNat (x : BitVec 64) : (uz x).toNat = x.toNat := rfl
theorem uz_nonneg (x : BitVec 64) : 0 ≤ uz x := Int.natCast_nonneg _
theorem uz_inj {x y : BitVec 64} (h : uz x = uz y) : x = y := by
  unfold uz at h
  exact BitVec.eq_of_toNat_eq (by exact_mod_cast h)
theorem uz_eq (x y : BitVec 64) : uz x = uz y ↔ x = y := ⟨uz_inj, fun h => by rw [h]⟩
theorem ofInt_uz (x : BitVec 64) : BitVec.ofInt 64 (uz x) = x := by
  unfold uz
  apply BitVec.eq_of_toNat_eq
  rw [BitVec.ofInt_natCast, BitVec.toNat_ofNat]
  exact Nat.mod_eq_of_lt x.isLt
theorem wrap_nat (x : BitVec 64) : IntKind.u64.wrap (x.toNat : Int) = uz x := by
  have := x.isLt
  unfold uz
  simp [IntKind.wrap, IntKind.bits, IntKind.signed]
  omega
theorem bits_and (x y : BitVec 64) : Op.intBits .and .u64 (uz x) (uz y) = pure (u (x &&& y)) := by
  show (pure (Value.int .u64 (IntKind.u64.wrap ((BitVec.ofInt 64 (uz x) &&& BitVec.ofInt 64 (uz y)).toNat : Int))) : Sem Value) = _
  rw [ofInt_uz, ofInt_uz, wrap_nat]
theorem bits_or (x y : BitVec 64) : Op.intBits .or .u64 (uz x) (uz y) = pure (u (x ||| y)) := by
  show (pure (Value.int .u64 (IntKind.u64.wrap ((BitVec.ofInt 64 (uz x) ||| BitVec.ofInt 64 (uz y)).toNat : Int))) : Sem Value) = _
  rw [ofInt_uz, ofInt_uz, wrap_nat]
theorem un_not (x : BitVec 64) : Op.unary .xor (.int .u64 (uz x)) = pure (u (~~~x)) := by
  have h : BitVec.ofInt 64 IntKind.u64.max = BitVec.allOnes 64 := by decide +kernel
  show (pure (Value.int .u64 (IntKind.u64.wrap ((BitVec.ofInt 64 IntKind.u64.max ^^^ BitVec.ofInt 64 (uz x)).toNat : Int))) : Sem Value) = _
  rw [ofInt_uz, h, wrap_nat, BitVec.allOnes_xor]
theorem not_bits (x : BitVec 64) : Op.intBits .xor .u64 (if IntKind.u64.signed = true then -1 else IntKind.u64.max) (uz x) = pure (u (~~~x)) := un_not x
theorem rd_len {F : Fz} {α : Type} {enc : α → Value} {A : Option Addr} {n : Nat} {xs : List α} (h : Rd F 1 A n (xs.map enc)) : n = xs.length := by have := h.1; simpa using this.symm
theorem arith_add (x y : BitVec 64) : Op.intArith .add .u64 (uz x) (uz y) = pure (u (x + y)) := by
  show (pure (Value.int .u64 (IntKind.u64.wrap (uz x + uz y))) : Sem Value) = _
  have : IntKind.u64.wrap (uz x + uz y) = uz (x + y) := by
    unfold uz
    rw [BitVec.toNat_add]
    simp [IntKind.wrap, IntKind.bits, IntKind.signed]
  rw [this]
theorem arith_sub (x y : BitVec 64) : Op.intArith .sub .u64 (uz x) (uz y) = pure (u (x - y)) := by
  show (pure (Value.int .u64 (IntKind.u64.wrap (uz x - uz y))) : Sem Value) = _
  have : IntKind.u64.wrap (uz x - uz y) = uz (x - y) := by
    unfold uz
    have := y.isLt
    have := x.isLt
    rw [BitVec.toNat_sub]
    simp [IntKind.wrap, IntKind.bits, IntKind.signed]
    omega
  rw [this]
theorem shl_n (x : BitVec 64) (n : Nat) : IntKind.u64.wrap (uz x * 2 ^ min n 64) = uz (x <<< n) := by
  unfold uz
  rw [BitVec.toNat_shiftLeft, Nat.shiftLeft_eq]
  simp only [IntKind.wrap, IntKind.bits, IntKind.signed]
  rcases Nat.le_total n 64 with h | h
  · rw [Nat.min_eq_left h]
    simp
  · rw [Nat.min_eq_right h]
    have e : x.toNat * 2 ^ n % 2 ^ 64 = 0 := by
      obtain ⟨k, rfl⟩ := Nat.exists_eq_add_of_le h
      rw [Nat.pow_add, show x.toNat * (2 ^ 64 * 2 ^ k) = 2 ^ 64 * (x.toNat * 2 ^ k) from Nat.mul_left_comm _ _ _]
      exact Nat.mul_mod_right _ _
    rw [e]
    simp
theorem shr_n (x : BitVec 64) (n : Nat) : (uz x).fdiv (2 ^ min n 64) = uz (x >>> n) := by
  unfold uz
  rw [BitVec.toNat_ushiftRight, Nat.shiftRight_eq_div_pow]
  rcases Nat.le_total n 64 with h | h
  · rw [Nat.min_eq_left h]
    rw [Int.fdiv_eq_ediv_of_nonneg _ (by exact_mod_cast Nat.zero_le _)]
    push_cast
    rfl
  · rw [Nat.min_eq_right h]
    have hx := x.isLt
    have e : x.toNat / 2 ^ n = 0 := Nat.div_eq_of_lt (Nat.lt_of_lt_of_le hx (Nat.pow_le_pow_right (by omega) h))
    rw [e, Int.fdiv_eq_ediv_of_nonneg _ (by decide)]
    have : x.toNat / 2 ^ 64 = 0 := Nat.div_eq_of_lt hx
    exact_mod_cast this
theorem shift_l (x : BitVec 64) (k : IntKind) (n : Int) (h : 0 ≤ n) : Op.shift .shl .u64 (uz x) k n = pure (u (x <<< n.toNat)) := by
  unfold Op.shift
  rw [if_neg (by omega)]
  show (pure (Value.int .u64 (IntKind.u64.wrap (uz x * 2 ^ min n.toNat 64))) : Sem Value) = _
  rw [shl_n]
theorem shift_r (x : BitVec 64) (k : IntKind) (n : Int) (h : 0 ≤ n) : Op.shift .shr .u64 (uz x) k n = pure (u (x >>> n.toNat)) := by
  unfold Op.shift
  rw [if_neg (by omega)]
  show (pure (Value.int .u64 ((uz x).fdiv (2 ^ min n.toNat 64))) : Sem Value) = _
  rw [shr_n]
theorem shift_lu (x y : BitVec 64) : Op.shift .shl .u64 (uz x) .u64 (uz y) = pure (u (sh64 x y)) := shift_l x .u64 (uz y) (uz_nonneg y)
theorem shift_ru (x y : BitVec 64) : Op.shift .shr .u64 (uz x) .u64 (uz y) = pure (u (shr64 x y)) := shift_r x .u64 (uz y) (uz_nonneg y)
theorem shift_l1 (k : IntKind) (n : Int) (h : 0 ≤ n) : Op.shift .shl .u64 1 k n = pure (u (1#64 <<< n.toNat)) := shift_l 1#64 k n h
theorem shift_l1u (y : BitVec 64) : Op.shift .shl .u64 1 .u64 (uz y) = pure (u (sh64 1#64 y)) := shift_lu 1#64 y
theorem bits_and1 (x : BitVec 64) : Op.intBits .and .u64 (uz x) 1 = pure (u (x &&& 1#64)) := bits_and x 1#64
theorem arith_sub1 (x : BitVec 64) : Op.intArith .sub .u64 (uz x) 1 = pure (u (x - 1#64)) := arith_sub x 1#64
/-- 1 << m, an int. -/
theorem shift_int (k : IntKind) (m : Nat) (hm : m ≤ 62) : Op.shift .shl .i64 1 k (m : Int) = pure (.int .i64 (pw m)) := by
  unfold Op.shift
  rw [if_neg (by omega)]
  show (pure (Value.int .i64 (IntKind.i64.wrap (1 * 2 ^ min m 64))) : Sem Value) = _
  rw [Nat.min_eq_left (by omega), Int.one_mul]
  have h : (2 : Nat) ^ m ≤ 2 ^ 62 := Nat.pow_le_pow_right (by omega) hm
  have e : ((2 : Int) ^ m) = ((2 ^ m : Nat) : Int) := by push_cast; rfl
  unfold pw
  rw [e]
  generalize 2 ^ m = k at h
  have : IntKind.i64.wrap (k : Int) = (k : Int) := by
    simp [IntKind.wrap, IntKind.bits, IntKind.signed]
    omega
  rw [this]
theorem conv_uu (x : BitVec 64) : Conv.intToInt .u64 (uz x) = pure (u x) := by
  unfold Conv.intToInt
  rw [show IntKind.u64.wrap (uz x) = uz x from wrap_nat x]
/-- The bit i of a number. -/
def bitN (k i : Nat) : Nat := k / 2 ^ i % 2
def shrN (k i : Nat) : Nat := k / 2 ^ i
theorem shift_rn (kk : IntKind) (k i : Nat) (hi : i < 64) : Op.shift .shr .i64 (k : Int) kk (i : Int) = pure (.int .i64 (shrN k i : Nat)) := by
  unfold Op.shift
  rw [if_neg (by omega)]
  show (pure (Value.int .i64 ((k : Int).fdiv (2 ^ min i 64))) : Sem Value) = _
  rw [Nat.min_eq_left (by omega), Int.fdiv_eq_ediv_of_nonneg _ (by exact_mod_cast Nat.zero_le _)]
  unfold shrN
  push_cast
  rfl
theorem and_one_n (k i : Nat) (hk : k ≤ 1000000) : Op.intBits .and .i64 (shrN k i : Nat) 1 = pure (.int .i64 (bitN k i : Nat)) := by
  have h1 : shrN k i ≤ k := Nat.div_le_self _ _
  show (pure (Value.int .i64 (IntKind.i64.wrap ((BitVec.ofInt 64 ((shrN k i : Nat) : Int) &&& BitVec.ofInt 64 1).toNat : Int))) : Sem Value) = _
  have h2 : (BitVec.ofInt 64 ((shrN k i : Nat) : Int) &&& BitVec.ofInt 64 1).toNat = bitN k i := by
    rw [BitVec.toNat_and, BitVec.ofInt_natCast, BitVec.toNat_ofNat, Nat.mod_eq_of_lt (by omega)]
    show shrN k i &&& 1 = _
    rw [Nat.and_one_is_mod]; rfl
  rw [h2]
  have h3 : bitN k i < 2 := Nat.mod_lt _ (by omega)
  have : IntKind.i64.wrap (bitN k i : Nat) = ((bitN k i : Nat) : Int) := by
    simp [IntKind.wrap, IntKind.bits, IntKind.signed]
    omega
  rw [this]
theorem wrap_ofNat (k : Nat) : IntKind.u64.wrap (k : Int) = uz (BitVec.ofNat 64 k) := by
  unfold uz
  rw [BitVec.toNat_ofNat]
  simp [IntKind.wrap, IntKind.bits, IntKind.signed]
theorem wrap_bit (k i : Nat) : IntKind.u64.wrap (bitN k i : Nat) = uz (BitVec.ofNat 64 (bitN k i)) := wrap_ofNat _
theorem ones_u (xs : List (BitVec 64)) : ∀ v ∈ xs.map u, v.oneCell' = true := by
  intro v hv
  obtain ⟨x, _, rfl⟩ := List.mem_map.1 hv
  rfl
end Go.Proofs.Ytaomehlhopiblaa
/-! Functions of atoms as tables of their values: plain definitions and lemmas. -/
/-! Functions of atoms as tables of their values: plain definitions and lemmas. -/
namespace Go.Proofs.Ytaomehlhopiblaa

/-- The bit x of a list of words. -/
def bitAt (f : List (BitVec 64)) (x : Nat) : Bool := (f.getD (x / 64) 0#64).getLsbD (x % 64)
/-- How many words a function of n atoms has. -/
def wordsN (n : Nat) : Nat := if 6 < n then 2 ^ (n - 6) else 1
/-- The word whose bits are p. -/
def wordTo (p : Nat → Bool) : Nat → BitVec 64
  | 0 => 0#64
  | k + 1 => wordTo p k ||| (if p k then 1#64 <<< k else 0#64)
def wordOf (p : Nat → Bool) : BitVec 64 := wordTo p 64
theorem get_shl_one (k b : Nat) (hb : b < 64) : (1#64 <<< k).getLsbD b = decide (b = k) := by
  rw [BitVec.getLsbD_shiftLeft]
  by_cases h : b = k
  · subst h; simp [hb]
  · simp [h, hb]
    intro h1
    omega
theorem get_wordTo (p : Nat → Bool) (b : Nat) (hb : b < 64) : ∀ k, (wordTo p k).getLsbD b = (decide (b < k) && p b) := by
  intro k
  induction k with
  | zero => simp [wordTo]
  | succ k ih =>
    rw [wordTo, BitVec.getLsbD_or, ih]
    by_cases hk : b = k
    · subst hk
      cases hp : p b
      · simp
      · simp [hb]
    · have e : (if p k = true then 1#64 <<< k else 0#64).getLsbD b = false := by
        split
        · rw [get_shl_one _ _ hb]; simpa using hk
        · simp
      rw [e]
      have : (b < k + 1) ↔ (b < k) := by omega
      simp [this]
/-- The function of n atoms whose values are p, as it is told. -/
def tab (n : Nat) (p : Nat → Bool) : List (BitVec 64) := (List.range (wordsN n)).map fun i => wordOf fun b => decide (64 * i + b < 2 ^ n) && p (64 * i + b)

theorem get_wordOf (p : Nat → Bool) (b : Nat) (hb : b < 64) : (wordOf p).getLsbD b = p b := by
  unfold wordOf
  rw [get_wordTo _ _ hb]
  simp [hb]
theorem length_tab (n : Nat) (p : Nat → Bool) : (tab n p).length = wordsN n := by simp [tab]
theorem words_pos (n : Nat) : 0 < wordsN n := by
  unfold wordsN; split
  · exact Nat.pow_pos (by omega)
  · omega
theorem words_cover (n : Nat) : 2 ^ n ≤ 64 * wordsN n := by
  unfold wordsN; split
  · rename_i h
    have : 2 ^ n = 2 ^ 6 * 2 ^ (n - 6) := by rw [← Nat.pow_add]; congr 1; omega
    omega
  · rename_i h
    have : 2 ^ n ≤ 2 ^ 6 := Nat.pow_le_pow_right (by omega) (by omega)
    omega
theorem words_le (n : Nat) (h : n ≤ 10) : wordsN n ≤ 16 := by
  unfold wordsN; split
  · have : 2 ^ (n - 6) ≤ 2 ^ 4 := Nat.pow_le_pow_right (by omega) (by omega)
    omega
  · omega
theorem bit_tab (n : Nat) (p : Nat → Bool) (x : Nat) : bitAt (tab n p) x = (decide (x < 2 ^ n) && p x) := by
  unfold bitAt
  by_cases h : x / 64 < wordsN n
  · have e : (tab n p).getD (x / 64) 0#64 = wordOf fun b => decide (64 * (x / 64) + b < 2 ^ n) && p (64 * (x / 64) + b) := by
      simp [tab, List.getD, h]
    rw [e, get_wordOf _ _ (Nat.mod_lt _ (by omega)), Nat.div_add_mod]
  · have e : (tab n p).getD (x / 64) 0#64 = 0#64 := by
      simp [tab, List.getD, List.getElem?_eq_none (l := List.range (wordsN n)) (i := x / 64) (by simp; omega)]
    rw [e]
    have hc := words_cover n
    have : ¬ x < 2 ^ n := by omega
    simp [this]
/-- Two lists of words of one length are one if their bits are. -/
theorem words_ext {f g : List (BitVec 64)} (hl : f.length = g.length) (h : ∀ x, x < 64 * f.length → bitAt f x = bitAt g x) : f = g := by
  apply List.ext_getElem hl
  intro i hi hj
  apply BitVec.eq_of_getLsbD_eq
  intro b hb
  have := h (64 * i + b) (by omega)
  unfold bitAt at this
  have e1 : (64 * i + b) / 64 = i := by omega
  have e2 : (64 * i + b) % 64 = b := by omega
  rw [e1, e2] at this
  simpa [List.getD, hi, hj] using this
theorem tab_congr {n : Nat} {p q : Nat → Bool} (h : ∀ x, x < 2 ^ n → p x = q x) : tab n p = tab n q := by
  apply words_ext (by simp [length_tab])
  intro x _
  rw [bit_tab, bit_tab]
  by_cases hx : x < 2 ^ n
  · simp [h x hx]
  · simp [hx]
theorem tab_inj {n : Nat} {p q : Nat → Bool} : tab n p = tab n q ↔ ∀ x, x < 2 ^ n → p x = q x := by
  refine ⟨fun h x hx => ?_, tab_congr⟩
  have := bit_tab n p x
  rw [h, bit_tab] at this
  simpa [hx] using this.symm
theorem bit_nil (x : Nat) : bitAt [] x = false := by simp [bitAt]
theorem bit_out (f : List (BitVec 64)) (x : Nat) (h : f.length ≤ x / 64) : bitAt f x = false := by
  unfold bitAt
  have : f.getD (x / 64) 0#64 = 0#64 := by simp [List.getD, h]
  rw [this]; simp
theorem test_bit (y : BitVec 64) (k : Nat) : (uz (y >>> k &&& 1#64) == 1) = y.getLsbD k := by
  show (uz (y >>> k &&& 1#64) == uz 1#64) = _
  have h : ∀ a b : BitVec 64, (uz a == uz b) = (a == b) := fun a b => by
    rw [Bool.eq_iff_iff, beq_iff_eq, beq_iff_eq, uz_eq]
  rw [h]
  rw [BitVec.and_one_eq_setWidth_ofBool_getLsbD]
  have : (y >>> k).getLsbD 0 = y.getLsbD k := by rw [BitVec.getLsbD_ushiftRight]; simp
  rw [this]
  cases y.getLsbD k <;> decide
theorem shl_one_toNat (m : Nat) (h : m < 64) : (1#64 <<< m).toNat = 2 ^ m := by
  rw [BitVec.toNat_shiftLeft, Nat.shiftLeft_eq]
  have : 2 ^ m < 2 ^ 64 := Nat.pow_lt_pow_right (by omega) h
  rw [show (1#64).toNat = 1 from rfl, Nat.one_mul]
  exact Nat.mod_eq_of_lt this
theorem pow_le_1024 (m : Nat) (h : m ≤ 10) : 2 ^ m ≤ 1024 := by
  have : 2 ^ m ≤ 2 ^ 10 := Nat.pow_le_pow_right (by omega) h
  omega
/-- As many words as are wanted. -/
def pad (W : Nat) (f : List (BitVec 64)) : List (BitVec 64) := (List.range W).map fun i => f.getD i 0#64
theorem bit_pad (W : Nat) (f : List (BitVec 64)) (x : Nat) (h : x / 64 < W) : bitAt (pad W f) x = bitAt f x := by
  unfold bitAt pad
  simp [List.getD, h]
theorem pad_tab (m : Nat) (h : 6 ≤ m) (f : List (BitVec 64)) : pad (wordsN m) f = tab m (bitAt f) := by
  apply words_ext (by simp [pad, length_tab])
  intro x hx
  have hx : x < 64 * wordsN m := by simpa [pad] using hx
  rw [bit_pad _ _ _ (by omega), bit_tab]
  have : 2 ^ m = 64 * wordsN m := by
    unfold wordsN; split
    · have : 2 ^ m = 2 ^ 6 * 2 ^ (m - 6) := by rw [← Nat.pow_add]; congr 1; omega
      omega
    · obtain rfl : m = 6 := by omega
      rfl
  have : x < 2 ^ m := by omega
  simp [this]
theorem padV_u (W : Nat) (f : List (BitVec 64)) : padV (u 0#64) W (f.map u) = ((pad W f).map u).toArray := by
  unfold padV pad
  congr 1
  rw [List.map_map]
  apply List.map_congr_left
  intro i _
  simp only [List.getD, List.getElem?_map, Function.comp]
  cases f[i]? <;> rfl
theorem pad_one (W : Nat) (h : W = 1) (f : List (BitVec 64)) : pad W f = [f.getD 0 0#64] := by
  subst h; rfl
theorem mask_bit (k b : Nat) (hk : k < 64) : (1#64 <<< k - 1#64).getLsbD b = decide (b < k) := by
  have h1 : (1#64 <<< k - 1#64).toNat = 2 ^ k - 1 := by
    rw [BitVec.toNat_sub, shl_one_toNat k hk]
    have h2 : 2 ^ k < 2 ^ 64 := Nat.pow_lt_pow_right (by omega) hk
    have h3 : 0 < 2 ^ k := Nat.pow_pos (by omega)
    rw [show (1#64).toNat = 1 from rfl]
    omega
  rw [BitVec.getLsbD, h1, Nat.testBit_two_pow_sub_one]
theorem mask_tab (m : Nat) (h : m < 6) (f : List (BitVec 64)) : [f.getD 0 0#64 &&& (sh64 1#64 (1#64 <<< m) - 1#64)] = tab m (bitAt f) := by
  have hp : 2 ^ m < 64 := by
    have : 2 ^ m < 2 ^ 6 := Nat.pow_lt_pow_right (by omega) h
    omega
  have hw : wordsN m = 1 := by unfold wordsN; rw [if_neg (by omega)]
  apply words_ext (by rw [length_tab, hw]; rfl)
  intro x hx
  have hx : x < 64 := by simpa using hx
  have e : bitAt [f.getD 0 0#64 &&& (sh64 1#64 (1#64 <<< m) - 1#64)] x = ((f.getD 0 0#64).getLsbD x && decide (x < 2 ^ m)) := by
    unfold bitAt sh64
    rw [show x / 64 = 0 by omega, show x % 64 = x by omega, shl_one_toNat m (by omega)]
    show (f.getD 0 0#64 &&& (1#64 <<< 2 ^ m - 1#64)).getLsbD x = _
    rw [BitVec.getLsbD_and, mask_bit _ _ hp]
  rw [e, bit_tab]
  unfold bitAt
  rw [show x / 64 = 0 by omega, show x % 64 = x by omega, Bool.and_comm]
theorem bit_shl_bit (k i b : Nat) (s : Nat) (hb : b < 64) : (BitVec.ofNat 64 (bitN k i) <<< s).getLsbD b = (decide (b = s) && k.testBit i) := by
  have h : BitVec.ofNat 64 (bitN k i) = if k.testBit i then 1#64 else 0#64 := by
    unfold bitN
    rw [Nat.testBit_eq_decide_div_mod_eq]
    have := Nat.mod_lt (k / 2 ^ i) (show 2 > 0 by omega)
    by_cases h1 : k / 2 ^ i % 2 = 1
    · simp [h1]
    · have : k / 2 ^ i % 2 = 0 := by omega
      simp [this]
  rw [h]
  split
  · rename_i ht; rw [get_shl_one _ _ hb, ht]; simp
  · rename_i ht; simp [ht]
/-- A function of which the values below k are told. -/
def tabTo (m : Nat) (p : Nat → Bool) (k : Nat) : List (BitVec 64) := tab m fun y => decide (y < k) && p y
theorem length_tabTo (m : Nat) (p : Nat → Bool) (k : Nat) : (tabTo m p k).length = wordsN m := length_tab _ _
theorem tabTo_zero (m : Nat) (p : Nat → Bool) : tabTo m p 0 = tab m fun _ => false := tab_congr fun x _ => by simp
theorem tabTo_all (m : Nat) (p : Nat → Bool) (k : Nat) (h : 2 ^ m ≤ k) : tabTo m p k = tab m p := tab_congr fun x hx => by
  have : x < k := by omega
  simp [this]
theorem tabTo_keep (m : Nat) (p : Nat → Bool) (k : Nat) (h : p k = false) : tabTo m p k = tabTo m p (k + 1) := tab_congr fun x _ => by
  by_cases hx : x = k
  · subst hx; simp [h]
  · have : x < k ↔ x < k + 1 := by omega
    simp [this]
theorem bitAt_set (f : List (BitVec 64)) (i : Nat) (hi : i < f.length) (v : BitVec 64) (x : Nat) : bitAt (f.set i v) x = if x / 64 = i then v.getLsbD (x % 64) else bitAt f x := by
  unfold bitAt
  rw [List.getD, List.getElem?_set]
  by_cases h : i = x / 64
  · subst h; simp [hi]
  · rw [if_neg h, if_neg (fun e => h e.symm)]; rfl
theorem tabTo_step (m : Nat) (p : Nat → Bool) (k : Nat) (hk : k < 2 ^ m) (v : BitVec 64) (hv : ∀ b, b < 64 → v.getLsbD b = (decide (b = k % 64) && p k)) :
    (tabTo m p k).set (k / 64) ((tabTo m p k).getD (k / 64) 0#64 ||| v) = tabTo m p (k + 1) := by
  have hc := words_cover m
  have hl : k / 64 < (tabTo m p k).length := by rw [length_tabTo]; omega
  apply words_ext (by simp [length_tabTo])
  intro x hx
  rw [List.length_set, length_tabTo] at hx
  rw [bitAt_set _ _ hl]
  have hR : bitAt (tabTo m p (k + 1)) x = (decide (x < 2 ^ m) && (decide (x < k + 1) && p x)) := bit_tab _ _ _
  have hL : bitAt (tabTo m p k) x = (decide (x < 2 ^ m) && (decide (x < k) && p x)) := bit_tab _ _ _
  rw [hR]
  by_cases hi : x / 64 = k / 64
  · rw [if_pos hi, BitVec.getLsbD_or, hv _ (Nat.mod_lt _ (by omega))]
    have e : ((tabTo m p k).getD (k / 64) 0#64).getLsbD (x % 64) = bitAt (tabTo m p k) x := by unfold bitAt; rw [hi]
    rw [e, hL]
    by_cases hxk : x = k
    · subst hxk; simp [hk]
    · have h1 : ¬ x % 64 = k % 64 := by omega
      have h2 : x < k ↔ x < k + 1 := by omega
      simp [h1, h2]
  · rw [if_neg hi, hL]
    have h2 : x < k ↔ x < k + 1 := by
      have : x ≠ k := fun e => hi (by rw [e])
      omega
    simp [h2]
theorem zip_tab (m : Nat) (p q : Nat → Bool) (op : BitVec 64 → BitVec 64 → BitVec 64) (o : Bool → Bool → Bool) (ho : ∀ a b i, (op a b).getLsbD i = o (a.getLsbD i) (b.getLsbD i)) (h00 : o false false = false) :
    ((tab m p).mapIdx fun i x => op x ((tab m q).getD i 0#64)) = tab m fun x => o (p x) (q x) := by
  apply words_ext (by simp [length_tab])
  intro x hx
  have hx : x < 64 * wordsN m := by simpa [length_tab] using hx
  have hlp : x / 64 < (tab m p).length := by rw [length_tab]; omega
  have hp := bit_tab m p x
  have hq := bit_tab m q x
  rw [bit_tab]
  unfold bitAt at hp hq ⊢
  rw [List.getD, List.getElem?_eq_getElem hlp, Option.getD_some] at hp
  rw [List.getD, List.getElem?_mapIdx, List.getElem?_eq_getElem hlp]
  simp only [Option.map_some, Option.getD_some]
  rw [ho, hp, hq]
  by_cases h : x < 2 ^ m
  · simp [h]
  · simp [h, h00]
theorem tab_len (m : Nat) (hm : m ≤ 10) (p : Nat → Bool) : (tab m p).length ≤ 1000 := by rw [length_tab]; have := words_le m hm; omega
/-! Functions in the places of atoms. -/
def putP (gs : List (List (BitVec 64))) (x : Nat) (i : Nat) : Bool := bitAt (gs.getD i []) x
def putY (m : Nat) (gs : List (List (BitVec 64))) (x : Nat) : Nat := (wordTo (putP gs x) m).toNat
theorem wordTo_stop (p : Nat → Bool) (k : Nat) (h : ∀ i, k ≤ i → p i = false) : ∀ m, k ≤ m → wordTo p m = wordTo p k := by
  intro m hm
  obtain ⟨d, rfl⟩ := Nat.exists_eq_add_of_le hm
  induction d with
  | zero => rfl
  | succ d ih =>
    rw [← Nat.add_assoc, wordTo, h _ (by omega), ih (by omega)]
    simp
theorem putP_out (gs : List (List (BitVec 64))) (x i : Nat) (h : gs.length ≤ i) : putP gs x i = false := by
  unfold putP
  have : gs.getD i [] = [] := by simp [List.getD, h]
  rw [this, bit_nil]
theorem wordTo_lt (p : Nat → Bool) (m : Nat) (hm : m ≤ 10) : (wordTo p m).toNat < 2 ^ m := by
  apply Nat.lt_pow_two_of_testBit
  intro i hi
  have : (wordTo p m).toNat.testBit i = (wordTo p m).getLsbD i := rfl
  rw [this]
  by_cases h : i < 64
  · rw [get_wordTo p i h]
    simp [show ¬ i < m by omega]
  · exact BitVec.getLsbD_of_ge _ _ (by omega)
theorem testBit_wordTo (p : Nat → Bool) (m i : Nat) (hm : m ≤ 10) : (wordTo p m).toNat.testBit i = (decide (i < m) && p i) := by
  have : (wordTo p m).toNat.testBit i = (wordTo p m).getLsbD i := rfl
  rw [this]
  by_cases h : i < 64
  · exact get_wordTo p i h m
  · rw [BitVec.getLsbD_of_ge _ _ (by omega)]
    simp [show ¬ i < m by omega]
theorem putY_lt (m : Nat) (hm : m ≤ 10) (gs : List (List (BitVec 64))) (x : Nat) : putY m gs x < 2 ^ m := wordTo_lt _ _ hm
theorem step_one (k : Nat) (p : Nat → Bool) (hp : p k = true) (b : Nat) (hb : b < 64) : (1#64 <<< (k % 64)).getLsbD b = (decide (b = k % 64) && p k) := by
  rw [get_shl_one _ _ hb, hp]; simp
/-- A slice of slices of words. -/
def RdR (F : Fz) (A : Option Addr) (n : Nat) (gs : List (List (BitVec 64))) : Prop :=
  n = gs.length ∧ ∀ i, i < gs.length → ∃ ad Ai ni ci, A = some ad ∧ F.cell (ad.add i) = some (.slice Ai ni ci) ∧ Rd F 1 Ai ni ((gs.getD i []).map u)
end Go.Proofs.Ytaomehlhopiblaa
/-! The walks of table's and the references' small functions. -/
namespace Go.Proofs.Ytaomehlhopiblaa
open Go.RowKit
attribute [local go_sem ↓] bits_and bits_or not_bits arith_add arith_sub shift_l shift_r shift_lu shift_ru shift_int conv_uu shift_l1 shift_l1u bits_and1 arith_sub1
attribute [local go_sem] uz_toNat uz_nonneg

theorem may_yes (m : Nat) (hm : m ≤ 10) (w : World) :
    Calls Try.prog 26 #[.int .i64 m] w fun e w' => e = .returned (.bool true) ∧ w = w' := by
  have h1 : (m : Int) ≤ 10 := by omega
  go_enter Try.func26, Try.ntmps26
  go_wp2
  go_ret
  exact ⟨rfl, rfl⟩
theorem words_yes (m : Nat) (hm : m ≤ 10) (w : World) :
    Calls Try.prog 15 #[.int .i64 m] w fun e w' => e = .returned (.int .i64 (wordsN m : Nat)) ∧ w = w' := by
  by_cases h6 : 6 < m
  · have h7 : (6 : Int) < (m : Int) := by omega
    obtain ⟨j, rfl⟩ : ∃ j, m = j + 6 := ⟨m - 6, by omega⟩
    have hj : j ≤ 62 := by omega
    have hsub : ((j + 6 : Nat) : Int) - 6 = (j : Int) := by omega
    go_enter Try.func15, Try.ntmps15
    go_wp2_with (go_at_call 26; refine (may_yes (j + 6) hm _).mono ?_; rintro e w' ⟨rfl, rfl⟩)
    go_ret
    refine ⟨?_, rfl⟩
    show Ending.returned (.int .i64 (pw j)) = _
    unfold pw wordsN
    rw [if_pos h6, Nat.add_sub_cancel]
  · have h7 : decide ((6 : Int) < (m : Int)) = false := by simp; omega
    go_enter Try.func15, Try.ntmps15
    go_wp2_with (go_at_call 26; refine (may_yes m hm _).mono ?_; rintro e w' ⟨rfl, rfl⟩)
    go_ret
    refine ⟨?_, rfl⟩
    unfold wordsN
    rw [if_neg h6]
    rfl
theorem bit_of_get {fs : List (BitVec 64)} {k : Nat} (h : k / 64 < fs.length) : bitAt fs k = fs[k / 64].getLsbD (k % 64) := by
  unfold bitAt
  simp [List.getD, h]

theorem at_any {F : Fz} {w : World} (hF : Sat F w) (m : Nat) (hm : m ≤ 10) (fs : List (BitVec 64)) (hn : fs.length ≤ 1000) (A : Option Addr) (n c : Nat) (hf : Rd F 1 A n (fs.map u)) (X : Int) (hX : 0 ≤ X) :
    Calls Try.prog 13 #[.int .i64 m, .slice A n c, .int .u64 X] w fun e w' => e = .returned (.bool (decide (X.toNat < 2 ^ m) && bitAt fs X.toNat)) ∧ w = w' := by
  obtain rfl := rd_len hf
  have hs : uz (1#64 <<< m) = ((2 ^ m : Nat) : Int) := by unfold uz; rw [shl_one_toNat m (by omega)]
  have hp := pow_le_1024 m hm
  obtain ⟨x, rfl⟩ := Int.eq_ofNat_of_zero_le hX
  rw [Int.toNat_natCast]
  by_cases hx : x < 2 ^ m
  · have hc1 : decide (uz (1#64 <<< m) ≤ (x : Int)) = false := decide_eq_false (by rw [hs]; omega)
    have hxb : (x : Int) ≤ 1024 := by omega
    by_cases hk : x / 64 < fs.length
    · have hc2 : decide ((fs.length : Int) ≤ (x : Int) / 64) = false := by simp; omega
      have hkI : (x : Int) / 64 < (fs.length : Int) := by omega
      have h0 : 0 ≤ (x : Int) % 64 := by omega
      obtain ⟨ad, v, rfl, hv, hcell⟩ := hf.at1 hk
      have hc := hF.cell hcell
      have hb := bit_of_get hk
      rw [List.getElem?_map, List.getElem?_eq_getElem hk] at hv
      injection hv with hv
      subst hv
      have H : Hid (Value.bool (uz (fs[x / 64] >>> (x % 64) &&& 1#64) == 1) = .bool (decide (x < 2 ^ m) && bitAt fs x)) := by
        show _ = _
        rw [test_bit, hb]; simp [hx]
      clear hs hb hcell hx hp
      go_enter Try.func13, Try.ntmps13
      go_wp2_with (go_at_call 26; refine (may_yes m hm _).mono ?_; rintro e w' ⟨rfl, rfl⟩)
      go_ret
      exact ⟨congrArg Ending.returned H.out, rfl⟩
    · have hc2 : decide ((fs.length : Int) ≤ (x : Int) / 64) = true := by simp; omega
      have H : Hid (Value.bool false = .bool (decide (x < 2 ^ m) && bitAt fs x)) := by
        show _ = _
        rw [bit_out _ _ (by omega)]; simp
      clear hs hx hp
      go_enter Try.func13, Try.ntmps13
      go_wp2_with (go_at_call 26; refine (may_yes m hm _).mono ?_; rintro e w' ⟨rfl, rfl⟩)
      go_ret
      exact ⟨congrArg Ending.returned H.out, rfl⟩
  · have hc1 : decide (uz (1#64 <<< m) ≤ (x : Int)) = true := decide_eq_true (by rw [hs]; omega)
    have H : Hid (Value.bool false = .bool (decide (x < 2 ^ m) && bitAt fs x)) := by
      show _ = _
      simp [hx]
    clear hs hx hp
    go_enter Try.func13, Try.ntmps13
    go_wp2_with (go_at_call 26; refine (may_yes m hm _).mono ?_; rintro e w' ⟨rfl, rfl⟩)
    go_ret
    exact ⟨congrArg Ending.returned H.out, rfl⟩
/-! Word by word. -/
theorem take_same {α : Type} {xs ys : List α} {k : Nat} (h : xs.take k = ys.take k) (hx : k < xs.length) (hy : k < ys.length) (e : xs[k] = ys[k]) : xs.take (k + 1) = ys.take (k + 1) := by
  rw [List.take_succ_eq_append_getElem hx, List.take_succ_eq_append_getElem hy, h, e]
theorem take_ne {α : Type} {xs ys : List α} {k : Nat} (hx : k < xs.length) (hy : k < ys.length) (e : xs[k] ≠ ys[k]) : xs ≠ ys := by
  rintro rfl
  exact e rfl
theorem map_get {α : Type} {g : α → Value} {xs : List α} {k : Nat} {v : Value} (hk : k < xs.length) (hv : (xs.map g)[k]? = some v) : v = g xs[k] := by
  rw [List.getElem?_map, List.getElem?_eq_getElem hk] at hv
  injection hv with hv
  exact hv.symm
theorem equalWords_any {F : Fz} {w : World} (hF : Sat F w) (fs gs : List (BitVec 64)) (A B : Option Addr) (n n' c d : Nat) (hn : fs.length ≤ 100000) (hf : Rd F 1 A n (fs.map u)) (hg : Rd F 1 B n' (gs.map u)) :
    Calls Try.prog 30 #[.slice A n c, .slice B n' d] w fun e w' => e = .returned (.bool (decide (fs = gs))) ∧ ∃ q, w' = w.drewN q := by
  obtain rfl := rd_len hf
  obtain rfl := rd_len hg
  by_cases hl : fs.length = gs.length
  · have hne : ((fs.length : Int) != (gs.length : Int)) = false := by rw [hl]; simp
    have HL := Lib.hid hl
    clear hl
    go_enter Try.func30, Try.ntmps30
    go_wp2
    go_loopw [13] (fun i wr => ∃ k : Nat, k ≤ fs.length ∧ i = .int .i64 k ∧ fs.take k = gs.take k ∧ ∃ q, wr = w.drewN q) (fun i _ => fs.length - (intOf i).toNat)
    case atStart => exact ⟨0, Nat.zero_le _, rfl, rfl, 0, rfl⟩
    case round =>
      obtain ⟨k, hk, rfl, hsame, q, rfl⟩ := hrel
      have HS := Lib.hid hsame
      clear hsame
      by_cases hlt : k < fs.length
      · have hlt' : k < gs.length := by have := HL.out; omega
        obtain ⟨ad, v, rfl, hv, hcell⟩ := hf.at1 hlt
        obtain ⟨bd, v', rfl, hv', hcell'⟩ := hg.at1 hlt'
        obtain rfl := map_get hlt hv
        obtain rfl := map_get hlt' hv'
        have hc := hF.cell hcell
        have hc' := hF.cell hcell'
        clear hv hv' hcell hcell'
        have hI : (k : Int) < (gs.length : Int) := by omega
        by_cases he : fs[k] = gs[k]
        · have hee : (uz fs[k] != uz gs[k]) = false := by rw [he]; simp
          have HE := Lib.hid he
          clear he
          go_wp2
          go_quiet (fail)
          go_wp2
          go_roundw
          case rel => exact ⟨k + 1, by omega, by go_num, take_same HS.out hlt hlt' HE.out, _, rfl⟩
          case measure => simp [intOf]; omega
        · have hee : (uz fs[k] != uz gs[k]) = true := by rw [bne_iff_ne]; exact fun e => he (uz_inj e)
          have hfin : decide (fs = gs) = false := decide_eq_false (take_ne hlt hlt' he)
          have HFin := Lib.hid hfin
          clear he hfin
          go_wp2
          go_quiet (fail)
          go_wp2
          go_ret
          exact ⟨by rw [HFin.out]; rfl, _, World.drewN_drewN _ _ _⟩
      · have hfin : decide (fs = gs) = true := by
          have h1 := HS.out
          have h2 := HL.out
          rw [List.take_of_length_le (by omega), List.take_of_length_le (by omega)] at h1
          exact decide_eq_true h1
        have HFin := Lib.hid hfin
        clear hfin
        go_wp2
        go_ret
        exact ⟨by rw [HFin.out]; rfl, _, rfl⟩
  · have hne : ((fs.length : Int) != (gs.length : Int)) = true := by rw [bne_iff_ne]; omega
    have hfin : decide (fs = gs) = false := decide_eq_false (fun e => hl (by rw [e]))
    have HFin := Lib.hid hfin
    clear hl hfin
    go_enter Try.func30, Try.ntmps30
    go_wp2
    go_ret
    exact ⟨by rw [HFin.out]; rfl, 0, rfl⟩

end Go.Proofs.Ytaomehlhopiblaa
/-! The walks of bits.Has and bits.at; sets by words. -/
namespace Go.Proofs.Ytaomehlhopiblaa
open Go.RowKit
attribute [local go_sem ↓] bits_and bits_or not_bits arith_add arith_sub shift_l shift_r shift_lu shift_ru shift_int conv_uu shift_l1 shift_l1u bits_and1 arith_sub1
attribute [local go_sem] uz_toNat uz_nonneg
end Go.Proofs.Ytaomehlhopiblaa
