/- 64-bit words behind one name, and the operations on them as rules of the walk. -/
import Derived.Test.YtgmbicjcfhmcdaaMem
import Derived.Deep.QuietTactic
import Derived.BigQuiet
set_option linter.unusedVariables false
set_option linter.unusedSimpArgs false
/-! 64-bit words behind one name, and the operations on them as rules of the walk. -/
namespace Go.Proofs.Ytgmbicjcfhmcdaa
open Go.RowKit

/-- The number of a uint64 (or uint). -/
def uz (x : BitVec 64) : Int := (x.toNat : Int)
/-- A uint64 (or uint). -/
abbrev u (x : BitVec 64) : Value := .int .u64 (uz x)
/-- An int that is a power of two, behind a name. -/
def pw (m : Nat) : Int := ((2 ^ m : Nat) : Int)
def sh64 (x y : BitVec 64) : BitVec 64 := x <<< y.toNat
def shr64 (x y : BitVec 64) : BitVec 64 := x >>> y.toNat

theorem uz_toNat (x : BitVec 64) : (uz x).toNat = x.toNat := rfl
theorem uz_nonneg (x : BitVec 64) : 0 ≤ uz x := Int.natCast_nonneg _
theorem ofInt_uz (x : BitVec 64) : BitVec.ofInt 64 (uz x) = x := by
  unfold uz
  apply BitVec.eq_of_toNat_eq
  rw [BitVec.ofInt_natCast, BitVec.toNat_ofNat]
  exact Nat.mod_eq_of_lt x.isLt
theorem wrap_nat (x : BitVec 64) : IntKind.u64.wrap (x.toNat : Int) = uz x := by
  have := x.isLt
  unfold uz
  simp [IntKind.wrap, IntKind.bits, IntKind.signed]
  omega
theorem bits_and (x y : BitVec 64) : Op.intBits .and .u64 (uz x) (uz y) = pure (u (x &&& y)) := by
  show (pure (Value.int .u64 (IntKind.u64.wrap ((BitVec.ofInt 64 (uz x) &&& BitVec.ofInt 64 (uz y)).toNat : Int))) : Sem Value) = _
  rw [ofInt_uz, ofInt_uz, wrap_nat]
theorem bits_or (x y : BitVec 64) : Op.intBits .or .u64 (uz x) (uz y) = pure (u (x ||| y)) := by
  show (pure (Value.int .u64 (IntKind.u64.wrap ((BitVec.ofInt 64 (uz x) ||| BitVec.ofInt 64 (uz y)).toNat : Int))) : Sem Value) = _
  rw [ofInt_uz, ofInt_uz, wrap_nat]
theorem un_not (x : BitVec 64) : Op.unary .xor (.int .u64 (uz x)) = pure (u (~~~x)) := by
  have h : BitVec.ofInt 64 IntKind.u64.max = BitVec.allOnes 64 := by decide +kernel
  show (pure (Value.int .u64 (IntKind.u64.wrap ((BitVec.ofInt 64 IntKind.u64.max ^^^ BitVec.ofInt 64 (uz x)).toNat : Int))) : Sem Value) = _
  rw [ofInt_uz, h, wrap_nat, BitVec.allOnes_xor]
theorem not_bits (x : BitVec 64) : Op.intBits .xor .u64 (if IntKind.u64.signed = true then -1 else IntKind.u64.max) (uz x) = pure (u (~~~x)) := un_not x
theorem arith_add (x y : BitVec 64) : Op.intArith .add .u64 (uz x) (uz y) = pure (u (x + y)) := by
  show (pure (Value.int .u64 (IntKind.u64.wrap (uz x + uz y))) : Sem Value) = _
  have : IntKind.u64.wrap (uz x + uz y) = uz (x + y) := by
    unfold uz
    rw [BitVec.toNat_add]
    simp [IntKind.wrap, IntKind.bits, IntKind.signed]
  rw [this]
theorem arith_sub (x y : BitVec 64) : Op.intArith .sub .u64 (uz x) (uz y) = pure (u (x - y)) := by
  show (pure (Value.int .u64 (IntKind.u64.wrap (uz x - uz y))) : Sem Value) = _
  have : IntKind.u64.wrap (uz x - uz y) = uz (x - y) := by
    unfold uz
    have := y.isLt
    have := x.isLt
    rw [BitVec.toNat_sub]
    simp [IntKind.wrap, IntKind.bits, IntKind.signed]
    omega
  rw [this]
theorem shl_n (x : BitVec 64) (n : Nat) : IntKind.u64.wrap (uz x * 2 ^ min n 64) = uz (x <<< n) := by
  unfold uz
  rw [BitVec.toNat_shiftLeft, Nat.shiftLeft_eq]
  simp only [IntKind.wrap, IntKind.bits, IntKind.signed]
  rcases Nat.le_total n 64 with h | h
  · rw [Nat.min_eq_left h]
    simp
  · rw [Nat.min_eq_right h]
    have e : x.toNat * 2 ^ n % 2 ^ 64 = 0 := by
      obtain ⟨k, rfl⟩ := Nat.exists_eq_add_of_le h
      rw [Nat.pow_add, show x.toNat * (2 ^ 64 * 2 ^ k) = 2 ^ 64 * (x.toNat * 2 ^ k) from Nat.mul_left_comm _ _ _]
      exact Nat.mul_mod_right _ _
    rw [e]
    simp
theorem shr_n (x : BitVec 64) (n : Nat) : (uz x).fdiv (2 ^ min n 64) = uz (x >>> n) := by
  unfold uz
  rw [BitVec.toNat_ushiftRight, Nat.shiftRight_eq_div_pow]
  rcases Nat.le_total n 64 with h | h
  · rw [Nat.min_eq_left h]
    rw [Int.fdiv_eq_ediv_of_nonneg _ (by exact_mod_cast Nat.zero_le _)]
    push_cast
    rfl
  · rw [Nat.min_eq_right h]
    have hx := x.isLt
    have e : x.toNat / 2 ^ n = 0 := Nat.div_eq_of_lt (Nat.lt_of_lt_of_le hx (Nat.pow_le_pow_right (by omega) h))
    rw [e, Int.fdiv_eq_ediv_of_nonneg _ (by decide)]
    have : x.toNat / 2 ^ 64 = 0 := Nat.div_eq_of_lt hx
    exact_mod_cast this
theorem shift_l (x : BitVec 64) (k : IntKind) (n : Int) (h : 0 ≤ n) : Op.shift .shl .u64 (uz x) k n = pure (u (x <<< n.toNat)) := by
  unfold Op.shift
  rw [if_neg (by omega)]
  show (pure (Value.int .u64 (IntKind.u64.wrap (uz x * 2 ^ min n.toNat 64))) : Sem Value) = _
  rw [shl_n]
theorem shift_r (x : BitVec 64) (k : IntKind) (n : Int) (h : 0 ≤ n) : Op.shift .shr .u64 (uz x) k n = pure (u (x >>> n.toNat)) := by
  unfold Op.shift
  rw [if_neg (by omega)]
  show (pure (Value.int .u64 ((uz x).fdiv (2 ^ min n.toNat 64))) : Sem Value) = _
  rw [shr_n]
theorem shift_lu (x y : BitVec 64) : Op.shift .shl .u64 (uz x) .u64 (uz y) = pure (u (sh64 x y)) := shift_l x .u64 (uz y) (uz_nonneg y)
theorem shift_ru (x y : BitVec 64) : Op.shift .shr .u64 (uz x) .u64 (uz y) = pure (u (shr64 x y)) := shift_r x .u64 (uz y) (uz_nonneg y)
theorem shift_l1 (k : IntKind) (n : Int) (h : 0 ≤ n) : Op.shift .shl .u64 1 k n = pure (u (1#64 <<< n.toNat)) := shift_l 1#64 k n h
theorem shift_l1u (y : BitVec 64) : Op.shift .shl .u64 1 .u64 (uz y) = pure (u (sh64 1#64 y)) := shift_lu 1#64 y
theorem bits_and1 (x : BitVec 64) : Op.intBits .and .u64 (uz x) 1 = pure (u (x &&& 1#64)) := bits_and x 1#64
theorem arith_sub1 (x : BitVec 64) : Op.intArith .sub .u64 (uz x) 1 = pure (u (x - 1#64)) := arith_sub x 1#64
/-- 1 << m, an int. -/
theorem shift_int (k : IntKind) (m : Nat) (hm : m ≤ 62) : Op.shift .shl .i64 1 k (m : Int) = pure (.int .i64 (pw m)) := by
  unfold Op.shift
  rw [if_neg (by omega)]
  show (pure (Value.int .i64 (IntKind.i64.wrap (1 * 2 ^ min m 64))) : Sem Value) = _
  rw [Nat.min_eq_left (by omega), Int.one_mul]
  have h : (2 : Nat) ^ m ≤ 2 ^ 62 := Nat.pow_le_pow_right (by omega) hm
  have e : ((2 : Int) ^ m) = ((2 ^ m : Nat) : Int) := by push_cast; rfl
  unfold pw
  rw [e]
  generalize 2 ^ m = k at h
  have : IntKind.i64.wrap (k : Int) = (k : Int) := by
    simp [IntKind.wrap, IntKind.bits, IntKind.signed]
    omega
  rw [this]
theorem conv_uu (x : BitVec 64) : Conv.intToInt .u64 (uz x) = pure (u x) := by
  unfold Conv.intToInt
  rw [show IntKind.u64.wrap (uz x) = uz x from wrap_nat x]
/-- The bit i of a number. -/
def bitN (k i : Nat) : Nat := k / 2 ^ i % 2
def shrN (k i : Nat) : Nat := k / 2 ^ i
theorem shift_rn (kk : IntKind) (k i : Nat) (hi : i < 64) : Op.shift .shr .i64 (k : Int) kk (i : Int) = pure (.int .i64 (shrN k i : Nat)) := by
  unfold Op.shift
  rw [if_neg (by omega)]
  show (pure (Value.int .i64 ((k : Int).fdiv (2 ^ min i 64))) : Sem Value) = _
  rw [Nat.min_eq_left (by omega), Int.fdiv_eq_ediv_of_nonneg _ (by exact_mod_cast Nat.zero_le _)]
  unfold shrN
  push_cast
  rfl
theorem and_one_n (k i : Nat) (hk : k ≤ 1000000) : Op.intBits .and .i64 (shrN k i : Nat) 1 = pure (.int .i64 (bitN k i : Nat)) := by
  have h1 : shrN k i ≤ k := Nat.div_le_self _ _
  show (pure (Value.int .i64 (IntKind.i64.wrap ((BitVec.ofInt 64 ((shrN k i : Nat) : Int) &&& BitVec.ofInt 64 1).toNat : Int))) : Sem Value) = _
  have h2 : (BitVec.ofInt 64 ((shrN k i : Nat) : Int) &&& BitVec.ofInt 64 1).toNat = bitN k i := by
    rw [BitVec.toNat_and, BitVec.ofInt_natCast, BitVec.toNat_ofNat, Nat.mod_eq_of_lt (by omega)]
    show shrN k i &&& 1 = _
    rw [Nat.and_one_is_mod]; rfl
  rw [h2]
  have h3 : bitN k i < 2 := Nat.mod_lt _ (by omega)
  have : IntKind.i64.wrap (bitN k i : Nat) = ((bitN k i : Nat) : Int) := by
    simp [IntKind.wrap, IntKind.bits, IntKind.signed]
    omega
  rw [this]
theorem wrap_ofNat (k : Nat) : IntKind.u64.wrap (k : Int) = uz (BitVec.ofNat 64 k) := by
  unfold uz
  rw [BitVec.toNat_ofNat]
  simp [IntKind.wrap, IntKind.bits, IntKind.signed]
theorem wrap_bit (k i : Nat) : IntKind.u64.wrap (bitN k i : Nat) = uz (BitVec.ofNat 64 (bitN k i)) := wrap_ofNat _
end Go.Proofs.Ytgmbicjcfhmcdaa
/-! Functions of atoms as tables of their values: plain definitions and lemmas. -/
/-! Functions of atoms as tables of their values: plain definitions and lemmas. -/
namespace Go.Proofs.Ytgmbicjcfhmcdaa

/-- The bit x of a list of words. -/
def bitAt (f : List (BitVec 64)) (x : Nat) : Bool := (f.getD (x / 64) 0#64).getLsbD (x % 64)
/-- How many words a function of n atoms has. -/
def wordsN (n : Nat) : Nat := if 6 < n then 2 ^ (n - 6) else 1
/-- The word whose bits are p. -/
def wordTo (p : Nat → Bool) : Nat → BitVec 64
  | 0 => 0#64
  | k + 1 => wordTo p k ||| (if p k then 1#64 <<< k else 0#64)
def wordOf (p : Nat → Bool) : BitVec 64 := wordTo p 64
theorem get_shl_one (k b : Nat) (hb : b < 64) : (1#64 <<< k).getLsbD b = decide (b = k) := by
  rw [BitVec.getLsbD_shiftLeft]
  by_cases h : b = k
  · subst h; simp [hb]
  · simp [h, hb]
    intro h1
    omega
theorem get_wordTo (p : Nat → Bool) (b : Nat) (hb : b < 64) : ∀ k, (wordTo p k).getLsbD b = (decide (b < k) && p b) := by
  intro k
  induction k with
  | zero => simp [wordTo]
  | succ k ih =>
    rw [wordTo, BitVec.getLsbD_or, ih]
    by_cases hk : b = k
    · subst hk
      cases hp : p b
      · simp
      · simp [hb]
    · have e : (if p k = true then 1#64 <<< k else 0#64).getLsbD b = false := by
        split
        · rw [get_shl_one _ _ hb]; simpa using hk
        · simp
      rw [e]
      have : (b < k + 1) ↔ (b < k) := by omega
      simp [this]
/-- The function of n atoms whose values are p, as it is told. -/
def tab (n : Nat) (p : Nat → Bool) : List (BitVec 64) := (List.range (wordsN n)).map fun i => wordOf fun b => decide (64 * i + b < 2 ^ n) && p (64 * i + b)

theorem get_wordOf (p : Nat → Bool) (b : Nat) (hb : b < 64) : (wordOf p).getLsbD b = p b := by
  unfold wordOf
  rw [get_wordTo _ _ hb]
  simp [hb]
theorem length_tab (n : Nat) (p : Nat → Bool) : (tab n p).length = wordsN n := by simp [tab]
theorem words_cover (n : Nat) : 2 ^ n ≤ 64 * wordsN n := by
  unfold wordsN; split
  · rename_i h
    have : 2 ^ n = 2 ^ 6 * 2 ^ (n - 6) := by rw [← Nat.pow_add]; congr 1; omega
    omega
  · rename_i h
    have : 2 ^ n ≤ 2 ^ 6 := Nat.pow_le_pow_right (by omega) (by omega)
    omega
theorem bit_tab (n : Nat) (p : Nat → Bool) (x : Nat) : bitAt (tab n p) x = (decide (x < 2 ^ n) && p x) := by
  unfold bitAt
  by_cases h : x / 64 < wordsN n
  · have e : (tab n p).getD (x / 64) 0#64 = wordOf fun b => decide (64 * (x / 64) + b < 2 ^ n) && p (64 * (x / 64) + b) := by
      simp [tab, List.getD, h]
    rw [e, get_wordOf _ _ (Nat.mod_lt _ (by omega)), Nat.div_add_mod]
  · have e : (tab n p).getD (x / 64) 0#64 = 0#64 := by
      simp [tab, List.getD, List.getElem?_eq_none (l := List.range (wordsN n)) (i := x / 64) (by simp; omega)]
    rw [e]
    have hc := words_cover n
    have : ¬ x < 2 ^ n := by omega
    simp [this]
/-- Two lists of words of one length are one if their bits are. -/
theorem words_ext {f g : List (BitVec 64)} (hl : f.length = g.length) (h : ∀ x, x < 64 * f.length → bitAt f x = bitAt g x) : f = g := by
  apply List.ext_getElem hl
  intro i hi hj
  apply BitVec.eq_of_getLsbD_eq
  intro b hb
  have := h (64 * i + b) (by omega)
  unfold bitAt at this
  have e1 : (64 * i + b) / 64 = i := by omega
  have e2 : (64 * i + b) % 64 = b := by omega
  rw [e1, e2] at this
  simpa [List.getD, hi, hj] using this
theorem tab_congr {n : Nat} {p q : Nat → Bool} (h : ∀ x, x < 2 ^ n → p x = q x) : tab n p = tab n q := by
  apply words_ext (by simp [length_tab])
  intro x _
  rw [bit_tab, bit_tab]
  by_cases hx : x < 2 ^ n
  · simp [h x hx]
  · simp [hx]
theorem bit_nil (x : Nat) : bitAt [] x = false := by simp [bitAt]
/-! Functions in the places of atoms. -/
/-- A slice of slices of words. -/
def RdR (F : Fz) (A : Option Addr) (n : Nat) (gs : List (List (BitVec 64))) : Prop :=
  n = gs.length ∧ ∀ i, i < gs.length → ∃ ad Ai ni ci, A = some ad ∧ F.cell (ad.add i) = some (.slice Ai ni ci) ∧ Rd F 1 Ai ni ((gs.getD i []).map u)
end Go.Proofs.Ytgmbicjcfhmcdaa
/-! The walks of table's and the references' small functions. -/
namespace Go.Proofs.Ytgmbicjcfhmcdaa
open Go.RowKit
attribute [local go_sem ↓] bits_and bits_or not_bits arith_add arith_sub shift_l shift_r shift_lu shift_ru shift_int conv_uu shift_l1 shift_l1u bits_and1 arith_sub1
attribute [local go_sem] uz_toNat uz_nonneg

/-! Word by word. -/
end Go.Proofs.Ytgmbicjcfhmcdaa
/-! The walks of bits.Has and bits.at; sets by words. -/
namespace Go.Proofs.Ytgmbicjcfhmcdaa
open Go.RowKit
attribute [local go_sem ↓] bits_and bits_or not_bits arith_add arith_sub shift_l shift_r shift_lu shift_ru shift_int conv_uu shift_l1 shift_l1u bits_and1 arith_sub1
attribute [local go_sem] uz_toNat uz_nonneg
end Go.Proofs.Ytgmbicjcfhmcdaa
