/- Plain lemmas on whole numbers and their bits: no program in sight. No condition. -/
import Derived.Laws.BitsAllLaws
import Derived.Laws.Wrap64
import Derived.WalkKit
namespace Go.Proofs.YtnljnccfpkpgfaaDoor.Aid
open Go.RowKit

theorem u32_nat {a : Int} (h : (Lit.int .u32 a).wf = true) : ∃ n : Nat, a = (n : Int) ∧ n < 4294967296 := by
  simp [Lit.wf, IntKind.min, IntKind.max, IntKind.bits, IntKind.signed] at h
  exact ⟨a.toNat, by omega, by omega⟩

theorem u64_nat {a : Int} (h : (Lit.int .u64 a).wf = true) : ∃ n : Nat, a = (n : Int) ∧ n < 18446744073709551616 := by
  simp [Lit.wf, IntKind.min, IntKind.max, IntKind.bits, IntKind.signed] at h
  exact ⟨a.toNat, by omega, by omega⟩

theorem u8_nat {a : Int} (h : (Lit.int .u8 a).wf = true) : ∃ n : Nat, a = (n : Int) ∧ n < 256 := by
  simp [Lit.wf, IntKind.min, IntKind.max, IntKind.bits, IntKind.signed] at h
  exact ⟨a.toNat, by omega, by omega⟩

theorem i64_bounds {a : Int} (h : (Lit.int .i64 a).wf = true) : -9223372036854775808 ≤ a ∧ a ≤ 9223372036854775807 := by
  simp [Lit.wf, IntKind.min, IntKind.max, IntKind.bits, IntKind.signed] at h
  omega

theorem tmod_nat (a b : Nat) : Int.tmod (a : Int) (b : Int) = ((a % b : Nat) : Int) := by
  rw [Int.tmod_eq_emod_of_nonneg (Int.natCast_nonneg _), Int.natCast_emod]

theorem wrap64_in {n : Int} (h1 : -9223372036854775808 ≤ n) (h2 : n ≤ 9223372036854775807) : wrap64 n = n := by
  unfold wrap64; omega

/-- A mask of one bit, as a number. -/
theorem nat_and_bit (i x : Nat) : x &&& 2 ^ i = if x.testBit i then 2 ^ i else 0 := by
  rw [nat_bit, Nat.testBit_eq_decide_div_mod_eq]
  have h : x / 2 ^ i % 2 = 0 ∨ x / 2 ^ i % 2 = 1 := by omega
  rcases h with h | h <;> simp [h]

theorem nat_and_ne (i x : Nat) : ((x &&& 2 ^ i : Nat) != 0) = x.testBit i := by
  rw [nat_and_bit]
  have := Nat.two_pow_pos i
  cases x.testBit i <;> simp

/-- '(x & 2^i) != 0' of a uint32. -/
theorem u32_bit (i x : Nat) (hi : i < 32) (h : x < 4294967296) : (Go.bits .and .u32 (x : Int) ((2 ^ i : Nat) : Int) != 0) = x.testBit i := by
  have h2 : 2 ^ i < 4294967296 := Nat.lt_of_lt_of_le (Nat.pow_lt_pow_right (by decide) hi) (by decide)
  rw [u32_and_nat x _ h h2, ← nat_and_ne i x]
  rw [Bool.eq_iff_iff]; simp

/-- Two numbers with the same bits below 2^n. -/
theorem eq_of_bits (n x y : Nat) (hx : x < 2 ^ n) (hy : y < 2 ^ n) (h : ∀ i, i < n → x.testBit i = y.testBit i) : x = y := by
  refine Nat.eq_of_testBit_eq fun i => ?_
  by_cases hi : i < n
  · exact h i hi
  · rw [Nat.testBit_lt_two_pow (Nat.lt_of_lt_of_le hx (Nat.pow_le_pow_right (by decide) (by omega))),
      Nat.testBit_lt_two_pow (Nat.lt_of_lt_of_le hy (Nat.pow_le_pow_right (by decide) (by omega)))]

theorem tdiv_nat (a b : Nat) : Int.tdiv (a : Int) (b : Int) = ((a / b : Nat) : Int) := by
  rw [Int.tdiv_eq_ediv_of_nonneg (Int.natCast_nonneg _), Int.natCast_ediv]

/-- '(x & c) != 0' of a uint32, c a power of two. -/
theorem u32_flag (i x : Nat) (c : Int) (hc : c = ((2 ^ i : Nat) : Int)) (hi : i < 32) (h : x < 4294967296) : (Go.bits .and .u32 (x : Int) c != 0) = x.testBit i := by
  rw [hc, u32_bit i x hi h]

/-- 'x & (2^j - 1)' of an int, whatever its sign. -/
theorem i64_mask (j : Nat) (hj : j ≤ 62) (x : Int) (c : Int) (hc : c = ((2 ^ j - 1 : Nat) : Int)) : Go.bits .and .i64 x c = x % ((2 ^ j : Nat) : Int) := by
  have hp : 2 ^ j ≤ 2 ^ 62 := Nat.pow_le_pow_right (by decide) hj
  have hpos := Nat.two_pow_pos j
  have e2 : (BitVec.ofInt 64 ((2 ^ j - 1 : Nat) : Int)).toNat = 2 ^ j - 1 := by
    rw [BitVec.ofInt_natCast, BitVec.toNat_ofNat]; exact Nat.mod_eq_of_lt (by omega)
  have e1 : (BitVec.ofInt 64 x).toNat = (x % 18446744073709551616).toNat := by
    rw [BitVec.toNat_ofInt]; rfl
  show IntKind.i64.wrap ((BitVec.ofInt 64 x &&& BitVec.ofInt 64 c).toNat : Int) = _
  rw [hc, BitVec.toNat_and, e1, e2, Nat.and_two_pow_sub_one_eq_mod]
  have h0 : (0 : Int) ≤ x % 18446744073709551616 := Int.emod_nonneg _ (by decide)
  have hm : (((x % 18446744073709551616).toNat % 2 ^ j : Nat) : Int) = x % ((2 ^ j : Nat) : Int) := by
    rw [Int.natCast_emod, Int.toNat_of_nonneg h0]
    refine Int.emod_emod_of_dvd x ?_
    refine ⟨((2 ^ (64 - j) : Nat) : Int), ?_⟩
    rw [← Int.natCast_mul, ← Nat.pow_add, show j + (64 - j) = 64 by omega]; rfl
  have hl := Nat.mod_lt (x % 18446744073709551616).toNat hpos
  rw [IntKind.wrap_i64, hm] at *
  omega

theorem andNot_one (n : Nat) (h : n < 18446744073709551616) : n &&& 18446744073709551614 = n / 2 * 2 := by
  refine eq_of_bits 64 _ _ (Nat.lt_of_le_of_lt Nat.and_le_left h) (by omega) fun i hi => ?_
  have hm : ∀ j, j < 64 → Nat.testBit 18446744073709551614 j = decide (1 ≤ j) := by decide +kernel
  rw [Nat.testBit_and, hm i hi, show n / 2 * 2 = n / 2 ^ 1 * 2 ^ 1 from rfl, Nat.testBit_mul_two_pow, Nat.testBit_div_two_pow]
  by_cases h1 : 1 ≤ i
  · rw [show i - 1 + 1 = i from by omega, Bool.and_comm]
  · simp [h1]

/-- 'x &^ 1' of an int. -/
theorem i64_even (x : Int) (h1 : -9223372036854775808 ≤ x) (h2 : x ≤ 9223372036854775807) : Go.bits .andNot .i64 x 1 = x - x % 2 := by
  have e1 : (BitVec.ofInt 64 x).toNat = (x % 18446744073709551616).toNat := by rw [BitVec.toNat_ofInt]; rfl
  have e2 : (~~~(BitVec.ofInt 64 1)).toNat = 18446744073709551614 := by decide +kernel
  show IntKind.i64.wrap ((BitVec.ofInt 64 x &&& ~~~(BitVec.ofInt 64 1)).toNat : Int) = _
  have h0 : (0 : Int) ≤ x % 18446744073709551616 := Int.emod_nonneg _ (by decide)
  rw [BitVec.toNat_and, e1, e2, andNot_one _ (by omega), IntKind.wrap_i64]
  omega

end Go.Proofs.YtnljnccfpkpgfaaDoor.Aid
