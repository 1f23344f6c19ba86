/- Plain lemmas on whole numbers and their bits: no program in sight. No condition. -/
import Derived.Laws.BitsAllLaws
import Derived.Laws.Wrap64
import Derived.WalkKit
namespace Go.Proofs.Ytiogbgjeimdgmaa.Aid
open Go.RowKit

theorem u32_nat {a : Int} (h : (Lit.int .u32 a).wf = true) : ∃ n : Nat, a = (n : Int) ∧ n < 4294967296 := by
  simp [Lit.wf, IntKind.min, IntKind.max, IntKind.bits, IntKind.signed] at h
  exact ⟨a.toNat, by omega, by omega⟩

theorem u8_nat {a : Int} (h : (Lit.int .u8 a).wf = true) : ∃ n : Nat, a = (n : Int) ∧ n < 256 := by
  simp [Lit.wf, IntKind.min, IntKind.max, IntKind.bits, IntKind.signed] at h
  exact ⟨a.toNat, by omega, by omega⟩

theorem wrap64_in {n : Int} (h1 : -9223372036854775808 ≤ n) (h2 : n ≤ 9223372036854775807) : wrap64 n = n := by
  unfold wrap64; omega

/-- A mask of one bit, as a number. -/
theorem nat_and_bit (i x : Nat) : x &&& 2 ^ i = if x.testBit i then 2 ^ i else 0 := by
  rw [nat_bit, Nat.testBit_eq_decide_div_mod_eq]
  have h : x / 2 ^ i % 2 = 0 ∨ x / 2 ^ i % 2 = 1 := by omega
  rcases h with h | h <;> simp [h]

theorem nat_and_ne (i x : Nat) : ((x &&& 2 ^ i : Nat) != 0) = x.testBit i := by
  rw [nat_and_bit]
  have := Nat.two_pow_pos i
  cases x.testBit i <;> simp

/-- '(x & 2^i) != 0' of a uint32. -/
theorem u32_bit (i x : Nat) (hi : i < 32) (h : x < 4294967296) : (Go.bits .and .u32 (x : Int) ((2 ^ i : Nat) : Int) != 0) = x.testBit i := by
  have h2 : 2 ^ i < 4294967296 := Nat.lt_of_lt_of_le (Nat.pow_lt_pow_right (by decide) hi) (by decide)
  rw [u32_and_nat x _ h h2, ← nat_and_ne i x]
  rw [Bool.eq_iff_iff]; simp

/-- '(x & c) != 0' of a uint32, c a power of two. -/
theorem u32_flag (i x : Nat) (c : Int) (hc : c = ((2 ^ i : Nat) : Int)) (hi : i < 32) (h : x < 4294967296) : (Go.bits .and .u32 (x : Int) c != 0) = x.testBit i := by
  rw [hc, u32_bit i x hi h]

end Go.Proofs.Ytiogbgjeimdgmaa.Aid
