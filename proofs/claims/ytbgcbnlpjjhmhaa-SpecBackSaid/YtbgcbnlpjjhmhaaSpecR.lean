/- SpecBack: bytes as the program lays them together. -/
import Derived.Test.YtbgcbnlpjjhmhaaSpecQ
import Derived.Test.YtbgcbnlpjjhmhaaWMore
namespace Go.Proofs.Ytbgcbnlpjjhmhaa.SpecWalk
open Go.RowKit Go.Proofs.Ytbgcbnlpjjhmhaa.Aid Go.Proofs.YtbgcbnlpjjhmhaaW.PrintWords Go.Proofs.YtbgcbnlpjjhmhaaW.PrintMore
set_option linter.unusedVariables false
set_option linter.unusedSimpArgs false
theorem wrapU (n : Int) : IntKind.u32.wrap n = n % 4294967296 := by
  simp [IntKind.wrap, IntKind.bits, IntKind.signed]
/-- A byte more, above what is there. -/
theorem or_at (x b s : Nat) (hs : s ≤ 24) (hx : x < 2 ^ s) (hb : b < 256) (c : Int) (hc : c = (s : Int)) :
    Go.bits .or .u32 (x : Int) (shl .u32 ((b : Int) % 4294967296) c) = ((x + b * 2 ^ s : Nat) : Int) := by
  subst hc
  have hp : 2 ^ s ≤ 2 ^ 24 := Nat.pow_le_pow_right (by decide) hs
  have hbs : b * 2 ^ s ≤ 255 * 2 ^ s := Nat.mul_le_mul_right _ (by omega)
  have e1 : shl .u32 ((b : Int) % 4294967296) (s : Int) = ((b * 2 ^ s : Nat) : Int) := by
    unfold shl
    rw [Int.toNat_natCast, show IntKind.u32.bits = 32 from rfl, Nat.min_eq_left (by omega), wrapU, show ((b : Int) % 4294967296) = (b : Int) from by omega]
    rw [show ((b : Int) * 2 ^ s) = ((b * 2 ^ s : Nat) : Int) from by rw [Int.natCast_mul, Int.natCast_pow]; rfl]
    omega
  rw [e1, u32_or_nat x (b * 2 ^ s) (by omega) (by omega)]
  rw [Nat.or_comm, ← Nat.shiftLeft_eq, ← Nat.shiftLeft_add_eq_or_of_lt hx b, Nat.shiftLeft_eq, Nat.add_comm]
end Go.Proofs.Ytbgcbnlpjjhmhaa.SpecWalk
