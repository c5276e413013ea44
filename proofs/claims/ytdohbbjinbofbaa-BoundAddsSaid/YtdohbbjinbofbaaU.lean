/- 64-bit words behind one name, and the operations on them as rules of the walk. -/
import Derived.Test.YtdohbbjinbofbaaMem
set_option linter.unusedVariables false
set_option linter.unusedSimpArgs false
namespace Go.Proofs.Ytdohbbjinbofbaa
open Go.RowKit

/-- The number of a uint64 (or uint). -/
def uz (x : BitVec 64) : Int := (x.toNat : Int)
/-- A uint64 (or uint). -/
abbrev u (x : BitVec 64) : Value := .int .u64 (uz x)
/-- An int that is a power of two, behind a name. -/
def pw (m : Nat) : Int := ((2 ^ m : Nat) : Int)
def sh64 (x y : BitVec 64) : BitVec 64 := x <<< y.toNat
def shr64 (x y : BitVec 64) : BitVec 64 := x >>> y.toNat

theorem u_zero : Value.int .u64 0 = u 0#64 := rfl
theorem u_one : Value.int .u64 1 = u 1#64 := rfl
theorem u_64 : Value.int .u64 64 = u 64#64 := rfl
theorem uz_toNat (x : BitVec 64) : (uz x).toNat = x.toNat := rfl
theorem uz_nonneg (x : BitVec 64) : 0 ≤ uz x := Int.natCast_nonneg _
theorem uz_lt (x y : BitVec 64) : uz x < uz y ↔ x.toNat < y.toNat := by unfold uz; omega
theorem uz_le (x y : BitVec 64) : uz x ≤ uz y ↔ x.toNat ≤ y.toNat := by unfold uz; omega
theorem dec_lt (x y : BitVec 64) : decide (uz x < uz y) = decide (x.toNat < y.toNat) := decide_eq_decide.2 (uz_lt x y)
theorem dec_le (x y : BitVec 64) : decide (uz x ≤ uz y) = decide (x.toNat ≤ y.toNat) := decide_eq_decide.2 (uz_le x y)
theorem uz_inj {x y : BitVec 64} (h : uz x = uz y) : x = y := by
  unfold uz at h
  exact BitVec.eq_of_toNat_eq (by exact_mod_cast h)
theorem uz_eq (x y : BitVec 64) : uz x = uz y ↔ x = y := ⟨uz_inj, fun h => by rw [h]⟩
theorem uz_ofNat (n : Nat) (h : n < 18446744073709551616) : uz (BitVec.ofNat 64 n) = (n : Int) := by
  unfold uz
  rw [BitVec.toNat_ofNat, Nat.mod_eq_of_lt (by omega)]
theorem u_inj {x y : BitVec 64} (h : u x = u y) : x = y := by
  injection h with _ h
  exact uz_inj h

theorem ofInt_uz (x : BitVec 64) : BitVec.ofInt 64 (uz x) = x := by
  unfold uz
  apply BitVec.eq_of_toNat_eq
  rw [BitVec.ofInt_natCast, BitVec.toNat_ofNat]
  exact Nat.mod_eq_of_lt x.isLt
theorem wrap_nat (x : BitVec 64) : IntKind.u64.wrap (x.toNat : Int) = uz x := by
  have := x.isLt
  unfold uz
  simp [IntKind.wrap, IntKind.bits, IntKind.signed]
  omega
theorem bits_and (x y : BitVec 64) : Op.intBits .and .u64 (uz x) (uz y) = pure (u (x &&& y)) := by
  show (pure (Value.int .u64 (IntKind.u64.wrap ((BitVec.ofInt 64 (uz x) &&& BitVec.ofInt 64 (uz y)).toNat : Int))) : Sem Value) = _
  rw [ofInt_uz, ofInt_uz, wrap_nat]
theorem bits_or (x y : BitVec 64) : Op.intBits .or .u64 (uz x) (uz y) = pure (u (x ||| y)) := by
  show (pure (Value.int .u64 (IntKind.u64.wrap ((BitVec.ofInt 64 (uz x) ||| BitVec.ofInt 64 (uz y)).toNat : Int))) : Sem Value) = _
  rw [ofInt_uz, ofInt_uz, wrap_nat]
theorem bits_andNot (x y : BitVec 64) : Op.intBits .andNot .u64 (uz x) (uz y) = pure (u (x &&& ~~~y)) := by
  show (pure (Value.int .u64 (IntKind.u64.wrap ((BitVec.ofInt 64 (uz x) &&& ~~~BitVec.ofInt 64 (uz y)).toNat : Int))) : Sem Value) = _
  rw [ofInt_uz, ofInt_uz, wrap_nat]
theorem un_not (x : BitVec 64) : Op.unary .xor (.int .u64 (uz x)) = pure (u (~~~x)) := by
  have h : BitVec.ofInt 64 IntKind.u64.max = BitVec.allOnes 64 := by decide +kernel
  show (pure (Value.int .u64 (IntKind.u64.wrap ((BitVec.ofInt 64 IntKind.u64.max ^^^ BitVec.ofInt 64 (uz x)).toNat : Int))) : Sem Value) = _
  rw [ofInt_uz, h, wrap_nat, BitVec.allOnes_xor]
theorem not_bits (x : BitVec 64) : Op.intBits .xor .u64 (if IntKind.u64.signed = true then -1 else IntKind.u64.max) (uz x) = pure (u (~~~x)) := un_not x
theorem rd_len {F : Fz} {α : Type} {enc : α → Value} {A : Option Addr} {n : Nat} {xs : List α} (h : Rd F 1 A n (xs.map enc)) : n = xs.length := by have := h.1; simpa using this.symm
theorem arith_add (x y : BitVec 64) : Op.intArith .add .u64 (uz x) (uz y) = pure (u (x + y)) := by
  show (pure (Value.int .u64 (IntKind.u64.wrap (uz x + uz y))) : Sem Value) = _
  have : IntKind.u64.wrap (uz x + uz y) = uz (x + y) := by
    unfold uz
    rw [BitVec.toNat_add]
    simp [IntKind.wrap, IntKind.bits, IntKind.signed]
  rw [this]
theorem arith_sub (x y : BitVec 64) : Op.intArith .sub .u64 (uz x) (uz y) = pure (u (x - y)) := by
  show (pure (Value.int .u64 (IntKind.u64.wrap (uz x - uz y))) : Sem Value) = _
  have : IntKind.u64.wrap (uz x - uz y) = uz (x - y) := by
    unfold uz
    have := y.isLt
    have := x.isLt
    rw [BitVec.toNat_sub]
    simp [IntKind.wrap, IntKind.bits, IntKind.signed]
    omega
  rw [this]
theorem shl_n (x : BitVec 64) (n : Nat) : IntKind.u64.wrap (uz x * 2 ^ min n 64) = uz (x <<< n) := by
  unfold uz
  rw [BitVec.toNat_shiftLeft, Nat.shiftLeft_eq]
  simp only [IntKind.wrap, IntKind.bits, IntKind.signed]
  rcases Nat.le_total n 64 with h | h
  · rw [Nat.min_eq_left h]
    simp
  · rw [Nat.min_eq_right h]
    have e : x.toNat * 2 ^ n % 2 ^ 64 = 0 := by
      obtain ⟨k, rfl⟩ := Nat.exists_eq_add_of_le h
      rw [Nat.pow_add, show x.toNat * (2 ^ 64 * 2 ^ k) = 2 ^ 64 * (x.toNat * 2 ^ k) from Nat.mul_left_comm _ _ _]
      exact Nat.mul_mod_right _ _
    rw [e]
    simp
theorem shr_n (x : BitVec 64) (n : Nat) : (uz x).fdiv (2 ^ min n 64) = uz (x >>> n) := by
  unfold uz
  rw [BitVec.toNat_ushiftRight, Nat.shiftRight_eq_div_pow]
  rcases Nat.le_total n 64 with h | h
  · rw [Nat.min_eq_left h]
    rw [Int.fdiv_eq_ediv_of_nonneg _ (by exact_mod_cast Nat.zero_le _)]
    push_cast
    rfl
  · rw [Nat.min_eq_right h]
    have hx := x.isLt
    have e : x.toNat / 2 ^ n = 0 := Nat.div_eq_of_lt (Nat.lt_of_lt_of_le hx (Nat.pow_le_pow_right (by omega) h))
    rw [e, Int.fdiv_eq_ediv_of_nonneg _ (by decide)]
    have : x.toNat / 2 ^ 64 = 0 := Nat.div_eq_of_lt hx
    exact_mod_cast this
theorem shift_l (x : BitVec 64) (k : IntKind) (n : Int) (h : 0 ≤ n) : Op.shift .shl .u64 (uz x) k n = pure (u (x <<< n.toNat)) := by
  unfold Op.shift
  rw [if_neg (by omega)]
  show (pure (Value.int .u64 (IntKind.u64.wrap (uz x * 2 ^ min n.toNat 64))) : Sem Value) = _
  rw [shl_n]
theorem shift_r (x : BitVec 64) (k : IntKind) (n : Int) (h : 0 ≤ n) : Op.shift .shr .u64 (uz x) k n = pure (u (x >>> n.toNat)) := by
  unfold Op.shift
  rw [if_neg (by omega)]
  show (pure (Value.int .u64 ((uz x).fdiv (2 ^ min n.toNat 64))) : Sem Value) = _
  rw [shr_n]
theorem shift_lu (x y : BitVec 64) : Op.shift .shl .u64 (uz x) .u64 (uz y) = pure (u (sh64 x y)) := shift_l x .u64 (uz y) (uz_nonneg y)
theorem shift_ru (x y : BitVec 64) : Op.shift .shr .u64 (uz x) .u64 (uz y) = pure (u (shr64 x y)) := shift_r x .u64 (uz y) (uz_nonneg y)
theorem shift_l1 (k : IntKind) (n : Int) (h : 0 ≤ n) : Op.shift .shl .u64 1 k n = pure (u (1#64 <<< n.toNat)) := shift_l 1#64 k n h
theorem shift_l1u (y : BitVec 64) : Op.shift .shl .u64 1 .u64 (uz y) = pure (u (sh64 1#64 y)) := shift_lu 1#64 y
theorem bits_and1 (x : BitVec 64) : Op.intBits .and .u64 (uz x) 1 = pure (u (x &&& 1#64)) := bits_and x 1#64
theorem arith_sub1 (x : BitVec 64) : Op.intArith .sub .u64 (uz x) 1 = pure (u (x - 1#64)) := arith_sub x 1#64
theorem div_quo (x y : BitVec 64) (hy : y ≠ 0#64) : Op.intDiv .quo .u64 (uz x) (uz y) = pure (u (x / y)) := by
  have h0 : uz y ≠ 0 := fun e => hy (uz_inj e)
  unfold Op.intDiv
  rw [if_neg h0]
  show (pure (Value.int .u64 (IntKind.u64.wrap ((uz x).tdiv (uz y)))) : Sem Value) = _
  have e : (uz x).tdiv (uz y) = ((x / y).toNat : Int) := by
    rw [BitVec.toNat_udiv]; rfl
  rw [e, wrap_nat]
theorem div_rem (x y : BitVec 64) (hy : y ≠ 0#64) : Op.intDiv .rem .u64 (uz x) (uz y) = pure (u (x % y)) := by
  have h0 : uz y ≠ 0 := fun e => hy (uz_inj e)
  unfold Op.intDiv
  rw [if_neg h0]
  show (pure (Value.int .u64 ((uz x).tmod (uz y))) : Sem Value) = _
  have e : (uz x).tmod (uz y) = uz (x % y) := by
    unfold uz
    rw [BitVec.toNat_umod]; rfl
  rw [e]
/-- 1 << m, an int. -/
theorem shift_int (k : IntKind) (m : Nat) (hm : m ≤ 62) : Op.shift .shl .i64 1 k (m : Int) = pure (.int .i64 (pw m)) := by
  unfold Op.shift
  rw [if_neg (by omega)]
  show (pure (Value.int .i64 (IntKind.i64.wrap (1 * 2 ^ min m 64))) : Sem Value) = _
  rw [Nat.min_eq_left (by omega), Int.one_mul]
  have h : (2 : Nat) ^ m ≤ 2 ^ 62 := Nat.pow_le_pow_right (by omega) hm
  have e : ((2 : Int) ^ m) = ((2 ^ m : Nat) : Int) := by push_cast; rfl
  unfold pw
  rw [e]
  generalize 2 ^ m = k at h
  have : IntKind.i64.wrap (k : Int) = (k : Int) := by
    simp [IntKind.wrap, IntKind.bits, IntKind.signed]
    omega
  rw [this]
theorem conv_to_u (k : Nat) : Conv.intToInt .u64 (k : Int) = pure (u (BitVec.ofNat 64 k)) := by
  unfold Conv.intToInt
  have : IntKind.u64.wrap (k : Int) = uz (BitVec.ofNat 64 k) := by
    unfold uz
    rw [BitVec.toNat_ofNat]
    simp [IntKind.wrap, IntKind.bits, IntKind.signed]
  rw [this]
theorem conv_small (k : Nat) (hk : k < 64) : Conv.intToInt .u64 (k : Int) = pure (.int .u64 (k : Int)) := by
  rw [conv_to_u]
  show (pure (Value.int .u64 (uz (BitVec.ofNat 64 k))) : Sem Value) = _
  rw [uz_ofNat k (by omega)]
theorem conv_smallI (k : Int) (h0 : 0 ≤ k) (hk : k < 64) : Conv.intToInt .u64 k = pure (.int .u64 k) := by
  obtain ⟨n, rfl⟩ := Int.eq_ofNat_of_zero_le h0
  exact conv_small n (by omega)
theorem conv_from_u (x : BitVec 64) (hx : x.toNat < 9223372036854775808) : Conv.intToInt .i64 (uz x) = pure (.int .i64 (x.toNat : Int)) := by
  unfold Conv.intToInt
  have : IntKind.i64.wrap (uz x) = (x.toNat : Int) := by
    unfold uz
    simp [IntKind.wrap, IntKind.bits, IntKind.signed]
    omega
  rw [this]
theorem conv_uu (x : BitVec 64) : Conv.intToInt .u64 (uz x) = pure (u x) := by
  unfold Conv.intToInt
  rw [show IntKind.u64.wrap (uz x) = uz x from wrap_nat x]
/-- The bit i of a number. -/
def bitN (k i : Nat) : Nat := k / 2 ^ i % 2
def shrN (k i : Nat) : Nat := k / 2 ^ i
theorem shift_rn (kk : IntKind) (k i : Nat) (hi : i < 64) : Op.shift .shr .i64 (k : Int) kk (i : Int) = pure (.int .i64 (shrN k i : Nat)) := by
  unfold Op.shift
  rw [if_neg (by omega)]
  show (pure (Value.int .i64 ((k : Int).fdiv (2 ^ min i 64))) : Sem Value) = _
  rw [Nat.min_eq_left (by omega), Int.fdiv_eq_ediv_of_nonneg _ (by exact_mod_cast Nat.zero_le _)]
  unfold shrN
  push_cast
  rfl
theorem and_one_n (k i : Nat) (hk : k ≤ 1000000) : Op.intBits .and .i64 (shrN k i : Nat) 1 = pure (.int .i64 (bitN k i : Nat)) := by
  have h1 : shrN k i ≤ k := Nat.div_le_self _ _
  show (pure (Value.int .i64 (IntKind.i64.wrap ((BitVec.ofInt 64 ((shrN k i : Nat) : Int) &&& BitVec.ofInt 64 1).toNat : Int))) : Sem Value) = _
  have h2 : (BitVec.ofInt 64 ((shrN k i : Nat) : Int) &&& BitVec.ofInt 64 1).toNat = bitN k i := by
    rw [BitVec.toNat_and, BitVec.ofInt_natCast, BitVec.toNat_ofNat, Nat.mod_eq_of_lt (by omega)]
    show shrN k i &&& 1 = _
    rw [Nat.and_one_is_mod]; rfl
  rw [h2]
  have h3 : bitN k i < 2 := Nat.mod_lt _ (by omega)
  have : IntKind.i64.wrap (bitN k i : Nat) = ((bitN k i : Nat) : Int) := by
    simp [IntKind.wrap, IntKind.bits, IntKind.signed]
    omega
  rw [this]
theorem conv_bit (k i : Nat) : Conv.intToInt .u64 (bitN k i : Nat) = pure (u (BitVec.ofNat 64 (bitN k i))) := conv_to_u _
theorem wrap_ofNat (k : Nat) : IntKind.u64.wrap (k : Int) = uz (BitVec.ofNat 64 k) := by
  unfold uz
  rw [BitVec.toNat_ofNat]
  simp [IntKind.wrap, IntKind.bits, IntKind.signed]
theorem wrap_bit (k i : Nat) : IntKind.u64.wrap (bitN k i : Nat) = uz (BitVec.ofNat 64 (bitN k i)) := wrap_ofNat _
theorem ones_u (xs : List (BitVec 64)) : ∀ v ∈ xs.map u, v.oneCell' = true := by
  intro v hv
  obtain ⟨x, _, rfl⟩ := List.mem_map.1 hv
  rfl
end Go.Proofs.Ytdohbbjinbofbaa
