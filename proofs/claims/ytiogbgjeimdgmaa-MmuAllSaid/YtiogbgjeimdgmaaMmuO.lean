/- The MMU's Get: bytes put together. -/
import Derived.Test.YtiogbgjeimdgmaaMmuN
namespace Go.Proofs.Ytiogbgjeimdgmaa.MmuWalk
open Go.RowKit Go.Proofs.Ytiogbgjeimdgmaa.Aid Go.Proofs.YtiogbgjeimdgmaaW.PrintWords Go.Proofs.YtiogbgjeimdgmaaW.PrintLast Go.Proofs.YtiogbgjeimdgmaaW.PrintMore
open Go.Proofs.Ytiogbgjeimdgmaa.RamWalk (RamAt Bytes leN info5 bytes_n leN_bounds)
set_option linter.unusedVariables false
set_option linter.unusedSimpArgs false
theorem leN_snoc : ∀ (a : List Int) (b : Int), leN (a ++ [b]) = leN a + 256 ^ a.length * b
  | [], b => by show b + 256 * 0 = 0 + 256 ^ 0 * b; omega
  | x :: a, b => by
    show x + 256 * leN (a ++ [b]) = x + 256 * leN a + 256 ^ (a.length + 1) * b
    rw [leN_snoc a b, Int.pow_succ, Int.mul_add]
    generalize (256 : Int) ^ a.length = q
    rw [Int.mul_comm q 256, Int.mul_assoc]; omega
theorem shl_at (m k : Nat) (hk : k ≤ 3) (hm : m < 256) : shl .u32 (m : Int) (8 * (k : Int)) = ((m * 2 ^ (8 * k) : Nat) : Int) := by
  have h0 : (8 * (k : Int)) = ((8 * k : Nat) : Int) := by omega
  have e1 : shl .u32 (m : Int) ((8 * k : Nat) : Int) = ((m * 2 ^ (8 * k) % 4294967296 : Nat) : Int) := by
    unfold shl
    rw [Int.toNat_natCast, show min (8 * k) (IntKind.bits .u32) = 8 * k from Nat.min_eq_left (by show 8 * k ≤ 32; omega), IntKind.wrap_u32, Int.natCast_emod, Int.natCast_mul, Int.natCast_pow]
    rfl
  rw [h0, e1]
  have : k = 0 ∨ k = 1 ∨ k = 2 ∨ k = 3 := by omega
  rcases this with rfl | rfl | rfl | rfl <;> congr 1 <;> omega
theorem or_at (x m k : Nat) (hk : k ≤ 3) (hx : x < 256 ^ k) (hm : m < 256) : Go.bits .or .u32 (x : Int) ((m * 2 ^ (8 * k) : Nat) : Int) = ((x + 256 ^ k * m : Nat) : Int) := by
  have hp : 256 ^ k = 2 ^ (8 * k) := by rw [Nat.pow_mul]
  have hb : m * 2 ^ (8 * k) < 4294967296 ∧ x < 4294967296 := by
    have : k = 0 ∨ k = 1 ∨ k = 2 ∨ k = 3 := by omega
    rcases this with rfl | rfl | rfl | rfl <;> omega
  rw [u32_or_nat _ _ hb.2 hb.1, hp]
  rw [hp] at hx
  have := Nat.shiftLeft_add_eq_or_of_lt hx m
  rw [Nat.shiftLeft_eq] at this
  rw [Nat.or_comm, ← this, Nat.mul_comm (2 ^ (8 * k)) m, Nat.add_comm]
/-- One byte more. -/
theorem get_step (bs : List Int) (hb : Bytes bs) (j : Nat) (hj : j < bs.length) (h4 : bs.length ≤ 4) : Go.bits .or .u32 (leN (bs.take j)) (shl .u32 (bs.getD j 0) (8 * (j : Int))) = leN (bs.take (j + 1)) := by
  have e : bs.take (j + 1) = bs.take j ++ [bs.getD j 0] := by
    rw [List.take_add_one, List.getElem?_eq_getElem hj, List.getD_eq_getElem?_getD, List.getElem?_eq_getElem hj]; rfl
  have hg := hb.get j
  have hl := leN_bounds (bs.take j) (hb.take j)
  have hlen : (bs.take j).length = j := by rw [List.length_take]; omega
  rw [e, leN_snoc, hlen]
  rw [hlen] at hl
  generalize bs.getD j 0 = y at *
  obtain ⟨m, rfl⟩ : ∃ m : Nat, y = m := ⟨y.toNat, by omega⟩
  generalize leN (bs.take j) = x at *
  obtain ⟨x, rfl⟩ : ∃ n : Nat, x = n := ⟨x.toNat, by omega⟩
  have hx : x < 256 ^ j := Int.ofNat_lt.1 (by rw [Int.natCast_pow]; exact hl.2)
  rw [shl_at m j (by omega) (by omega), or_at x m j (by omega) hx (by omega), Int.natCast_add, Int.natCast_mul, Int.natCast_pow]
  rfl
theorem loadL_bytes {l : List Int} (h : Bytes l) (xs : List Pc) : Bytes (loadL l xs) := by
  intro x hx
  unfold loadL at hx
  obtain ⟨p, _, hp⟩ := List.mem_flatMap.1 hx
  exact (h.drop _).take _ x hp
/-- How many bytes are meant. -/
def szI (n : Int) : Int := if 4 < (if n < 0 then 0 else n) then 4 else if n < 0 then 0 else n
theorem szI_le (n : Int) : 0 ≤ szI n ∧ szI n ≤ 4 := by unfold szI; split <;> split <;> omega
end Go.Proofs.Ytiogbgjeimdgmaa.MmuWalk
