/- SpecBack: numbers of one, two and four bytes, their signs; plain. -/
import Derived.Test.YtbgcbnlpjjhmhaaAid
import Derived.Laws.BitsAllLaws
import Derived.RowKit
namespace Go.Proofs.Ytbgcbnlpjjhmhaa.SpecWalk
open Go.RowKit Go.Proofs.Ytbgcbnlpjjhmhaa.Aid
set_option linter.unusedVariables false
set_option linter.unusedSimpArgs false
/-- A number's lowest n bytes, with their sign, in four bytes. -/
def extD (x n : Nat) : Nat := if 256 ^ n ≤ 2 * (x % 256 ^ n) then x % 256 ^ n + (4294967296 - 256 ^ n) else x % 256 ^ n
def Sz (n : Nat) : Prop := n = 1 ∨ n = 2 ∨ n = 4
theorem extD_lt (x n : Nat) (hn : Sz n) : extD x n < 4294967296 := by
  unfold extD
  rcases hn with rfl | rfl | rfl
  · simp only [show (256 : Nat) ^ 1 = 256 from rfl]; split <;> omega
  · simp only [show (256 : Nat) ^ 2 = 65536 from rfl]; split <;> omega
  · simp only [show (256 : Nat) ^ 4 = 4294967296 from rfl]; split <;> omega
theorem extD_mod (x n : Nat) (hn : Sz n) : extD (x % 256 ^ n) n = extD x n := by
  unfold extD
  rw [Nat.mod_mod]
theorem extD_idem (x n : Nat) (hn : Sz n) : extD (extD x n) n = extD x n := by
  unfold extD
  rcases hn with rfl | rfl | rfl
  · simp only [show (256 : Nat) ^ 1 = 256 from rfl]
    by_cases h : 256 ≤ 2 * (x % 256)
    · simp only [if_pos h]
      rw [show (x % 256 + (4294967296 - 256)) % 256 = x % 256 from by omega, if_pos h]
    · simp only [if_neg h]
      rw [show x % 256 % 256 = x % 256 from by omega, if_neg h]
  · simp only [show (256 : Nat) ^ 2 = 65536 from rfl]
    by_cases h : 65536 ≤ 2 * (x % 65536)
    · simp only [if_pos h]
      rw [show (x % 65536 + (4294967296 - 65536)) % 65536 = x % 65536 from by omega, if_pos h]
    · simp only [if_neg h]
      rw [show x % 65536 % 65536 = x % 65536 from by omega, if_neg h]
  · simp only [show (256 : Nat) ^ 4 = 4294967296 from rfl]
    by_cases h : 4294967296 ≤ 2 * (x % 4294967296)
    · simp only [if_pos h]
      rw [show (x % 4294967296 + (4294967296 - 4294967296)) % 4294967296 = x % 4294967296 from by omega, if_pos h]
    · simp only [if_neg h]
      rw [show x % 4294967296 % 4294967296 = x % 4294967296 from by omega, if_neg h]
theorem extD_four (x : Nat) (h : x < 4294967296) : extD x 4 = x := by
  unfold extD
  simp only [show (256 : Nat) ^ 4 = 4294967296 from rfl]
  split <;> omega
theorem and_low (x j : Nat) : x &&& (2 ^ j - 1) = x % 2 ^ j := Nat.and_two_pow_sub_one_eq_mod x j
/-- The walk's spelling of the sign. -/
theorem ext_bits (x n : Nat) (hx : x < 4294967296) (hn : Sz n) (mask top inv : Int) (hm : mask = ((256 ^ n - 1 : Nat) : Int)) (ht : top = ((256 ^ n / 2 : Nat) : Int)) (hi : inv = ((4294967296 - 256 ^ n : Nat) : Int)) :
    (if (Go.bits .and .u32 (Go.bits .and .u32 (x : Int) mask) top != 0) = true then Go.bits .or .u32 (Go.bits .and .u32 (x : Int) mask) inv else Go.bits .and .u32 (x : Int) mask) = ((extD x n : Nat) : Int) := by
  subst hm ht hi
  rcases hn with rfl | rfl | rfl
  · simp only [show (256 : Nat) ^ 1 - 1 = 2 ^ 8 - 1 from rfl, show (256 : Nat) ^ 1 / 2 = 2 ^ 7 from rfl, show 4294967296 - (256 : Nat) ^ 1 = 4294967040 from rfl]
    rw [u32_and_nat x (2 ^ 8 - 1) hx (by decide), and_low, u32_bit 7 (x % 2 ^ 8) (by decide) (by omega), u32_or_nat (x % 2 ^ 8) 4294967040 (by omega) (by decide)]
    have ho : x % 2 ^ 8 ||| 4294967040 = x % 2 ^ 8 + 4294967040 := by
      rw [show (4294967040 : Nat) = 16777215 <<< 8 from rfl, Nat.or_comm, ← Nat.shiftLeft_add_eq_or_of_lt (by omega : x % 2 ^ 8 < 2 ^ 8) 16777215, Nat.add_comm]
    have hb : (x % 2 ^ 8).testBit 7 = decide (256 ≤ 2 * (x % 256)) := by
      rw [Nat.testBit_eq_decide_div_mod_eq]
      apply decide_eq_decide.2
      omega
    rw [ho, hb]
    unfold extD
    simp only [show (256 : Nat) ^ 1 = 256 from rfl, show (2 : Nat) ^ 8 = 256 from rfl]
    by_cases h : 256 ≤ 2 * (x % 256)
    · rw [if_pos (decide_eq_true h), if_pos h]
    · rw [if_neg (by rw [decide_eq_false h]; decide), if_neg h]
  · simp only [show (256 : Nat) ^ 2 - 1 = 2 ^ 16 - 1 from rfl, show (256 : Nat) ^ 2 / 2 = 2 ^ 15 from rfl, show 4294967296 - (256 : Nat) ^ 2 = 4294901760 from rfl]
    rw [u32_and_nat x (2 ^ 16 - 1) hx (by decide), and_low, u32_bit 15 (x % 2 ^ 16) (by decide) (by omega), u32_or_nat (x % 2 ^ 16) 4294901760 (by omega) (by decide)]
    have ho : x % 2 ^ 16 ||| 4294901760 = x % 2 ^ 16 + 4294901760 := by
      rw [show (4294901760 : Nat) = 65535 <<< 16 from rfl, Nat.or_comm, ← Nat.shiftLeft_add_eq_or_of_lt (by omega : x % 2 ^ 16 < 2 ^ 16) 65535, Nat.add_comm]
    have hb : (x % 2 ^ 16).testBit 15 = decide (65536 ≤ 2 * (x % 65536)) := by
      rw [Nat.testBit_eq_decide_div_mod_eq]
      apply decide_eq_decide.2
      omega
    rw [ho, hb]
    unfold extD
    simp only [show (256 : Nat) ^ 2 = 65536 from rfl, show (2 : Nat) ^ 16 = 65536 from rfl]
    by_cases h : 65536 ≤ 2 * (x % 65536)
    · rw [if_pos (decide_eq_true h), if_pos h]
    · rw [if_neg (by rw [decide_eq_false h]; decide), if_neg h]
  · simp only [show (256 : Nat) ^ 4 - 1 = 2 ^ 32 - 1 from rfl, show (256 : Nat) ^ 4 / 2 = 2 ^ 31 from rfl, show 4294967296 - (256 : Nat) ^ 4 = 0 from rfl]
    rw [u32_and_nat x (2 ^ 32 - 1) hx (by decide), and_low, u32_bit 31 (x % 2 ^ 32) (by decide) (by omega), u32_or_nat (x % 2 ^ 32) 0 (by omega) (by decide), Nat.or_zero]
    rw [ite_self, extD_four x hx]
    congr 1
    omega
/-- Four bytes at most, as a number. -/
def leD : List Int → Int
  | [] => 0
  | x :: t => x + 256 * leD t
/-- A number's bytes, the lowest first. -/
def putS (x : Int) : Nat → List Int
  | 0 => []
  | n + 1 => (x % 256) :: putS (x / 256) n
theorem putS_length (x : Int) : ∀ n, (putS x n).length = n := by
  intro n
  induction n generalizing x with
  | zero => rfl
  | succ n ih => simp [putS, ih]
theorem putS_byte (x : Int) : ∀ n, ∀ y ∈ putS x n, 0 ≤ y ∧ y < 256 := by
  intro n
  induction n generalizing x with
  | zero => intro y hy; cases hy
  | succ n ih =>
    intro y hy
    rcases List.mem_cons.1 hy with rfl | hy
    · exact ⟨Int.emod_nonneg _ (by decide), Int.emod_lt_of_pos _ (by decide)⟩
    · exact ih _ y hy
theorem leD_put1 (x : Int) : leD (putS x 1) = x % 256 := by
  show x % 256 + 256 * 0 = x % 256
  omega
theorem leD_put2 (x : Int) (h : 0 ≤ x) : leD (putS x 2) = x % 65536 := by
  show x % 256 + 256 * (x / 256 % 256 + 256 * 0) = x % 65536
  omega
theorem leD_put4 (x : Int) (h : 0 ≤ x) : leD (putS x 4) = x % 4294967296 := by
  show x % 256 + 256 * (x / 256 % 256 + 256 * (x / 256 / 256 % 256 + 256 * (x / 256 / 256 / 256 % 256 + 256 * 0))) = x % 4294967296
  omega
theorem leD_put (x : Int) (h : 0 ≤ x) (n : Nat) (hn : Sz n) : leD (putS x n) = x % ((256 ^ n : Nat) : Int) := by
  rcases hn with rfl | rfl | rfl
  · exact leD_put1 x
  · exact leD_put2 x h
  · exact leD_put4 x h
end Go.Proofs.Ytbgcbnlpjjhmhaa.SpecWalk
