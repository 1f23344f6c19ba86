/- Prot, Frame, Is, Written, May and Place answer what the document says: the pure statement behind PteReads. No condition. -/
import Derived.Test.YtjflepoifdcadaaPPteReadsx1
import Derived.Test.YtjflepoifdcadaaAid
namespace Go.Proofs.Ytjflepoifdcadaa.Pure
open Go.RowKit Go.Proofs.Ytjflepoifdcadaa.Aid Go.Proofs.Ytjflepoifdcadaa.PPteReads Go.Proofs.YtjflepoifdcadaaW.PrintWords Go.Proofs.YtjflepoifdcadaaW.PrintLast

theorem and_frames (x : Nat) (h : x < 4294967296) : Go.bits .and .u32 (x : Int) 2097151 = ((x % 2097152 : Nat) : Int) := by
  rw [show (2097151 : Int) = ((2097151 : Nat) : Int) from rfl, u32_and_nat x 2097151 h (by decide), nat_mask21]

theorem and_511 (x : Nat) (h : x < 4294967296) : Go.bits .and .u32 (x : Int) 511 = ((x % 512 : Nat) : Int) := by
  rw [show (511 : Int) = ((511 : Nat) : Int) from rfl, u32_and_nat x 511 h (by decide), nat_mask9]

theorem frame_is (x : Nat) (h : x < 4294967296) : pte_Frame.f (x : Int) = some ((x % 2097152 : Nat) : Int) := by
  unfold pte_Frame.f; rw [and_frames x h]

theorem place_is (x v : Nat) (h : x < 4294967296) (hv : v < 4294967296) : pte_Place.f (x : Int) (v : Int) = some ((x % 2097152 * 512 + v % 512 : Nat) : Int) := by
  unfold pte_Place.f
  rw [frame_is x h, and_511 v hv]
  simp only [Option.bind_some]
  have e : (((x % 2097152 : Nat) : Int) * 512) % 4294967296 = ((x % 2097152 * 512 : Nat) : Int) := by omega
  rw [e, u32_or_nat _ _ (by omega) (by omega), nat_join 9 _ _ (by omega) (by omega)]

theorem alive_is : camshaftlaw03_alive.f = some true := by decide +kernel

theorem is_is (x : Nat) (h : x < 4294967296) : pte_Is.f (x : Int) = some (x.testBit 31) := by
  unfold pte_Is.f; rw [u32_flag 31 x 2147483648 rfl (by decide) h]

theorem written_is (x : Nat) (h : x < 4294967296) : pte_Written.f (x : Int) = some (x.testBit 26) := by
  unfold pte_Written.f; rw [u32_flag 26 x 67108864 rfl (by decide) h]

theorem prot_is (x : Nat) (h : x < 4294967296) : pte_Prot.f (x : Int) = some ((x / 134217728 % 4 : Nat) : Int) := by
  unfold pte_Prot.f
  rw [show (x : Int) / 134217728 = ((x / 134217728 : Nat) : Int) from by omega, show (3 : Int) = ((3 : Nat) : Int) from rfl,
    u32_and_nat _ 3 (by omega) (by decide), nat_mask2, wrap64_in (by omega) (by omega)]

theorem bit_l0 (n : Nat) (hn : n ≤ 64) (d : Nat) : ∀ (k i x : Nat), i + d = n → x < 4294967296 → d < k →
    camshaftref03_Bit.l0 k (x : Int) (n : Int) (i : Int) = some (x.testBit d) := by
  induction d with
  | zero =>
    intro k i x hi hx hk
    obtain ⟨k, rfl⟩ : ∃ m, k = m + 1 := ⟨k - 1, by omega⟩
    simp only [camshaftref03_Bit.l0]
    rw [if_neg (by omega), show (2 : Int) = ((2 : Nat) : Int) from rfl, tmod_nat, Nat.testBit_eq_decide_div_mod_eq]
    have h : x % 2 = 0 ∨ x % 2 = 1 := by omega
    rcases h with h | h <;> simp [h]
  | succ d ih =>
    intro k i x hi hx hk
    obtain ⟨k, rfl⟩ : ∃ m, k = m + 1 := ⟨k - 1, by omega⟩
    simp only [camshaftref03_Bit.l0]
    rw [if_pos (by omega), show (2 : Int) = ((2 : Nat) : Int) from rfl, tdiv_nat, wrap64_in (by omega) (by omega),
      show (((x / 2 : Nat) : Int) % 4294967296) = ((x / 2 : Nat) : Int) from by omega, show ((i : Int) + 1) = ((i + 1 : Nat) : Int) from by omega,
      ih k (i + 1) (x / 2) (by omega) (by omega) (by omega), Nat.testBit_succ]

theorem bit_is (k n x : Nat) (hn : n ≤ 64) (hk : 64 < k) (hx : x < 4294967296) : camshaftref03_Bit.f k (x : Int) (n : Int) = some (x.testBit n) := by
  unfold camshaftref03_Bit.f
  exact bit_l0 n hn n k 0 x (by omega) hx (by omega)

theorem prot_bits (x : Nat) : x / 134217728 % 4 = (x.testBit 27).toNat + 2 * (x.testBit 28).toNat := by
  rw [Nat.testBit_eq_decide_div_mod_eq, Nat.testBit_eq_decide_div_mod_eq]
  have h1 : x / 2 ^ 27 % 2 = 0 ∨ x / 2 ^ 27 % 2 = 1 := by omega
  have h2 : x / 2 ^ 28 % 2 = 0 ∨ x / 2 ^ 28 % 2 = 1 := by omega
  rcases h1 with h1 | h1 <;> rcases h2 with h2 | h2 <;> simp [h1, h2] <;> omega

theorem refProt_is (k x : Nat) (hk : 64 < k) (h : x < 4294967296) : camshaftref03_Prot.f k (x : Int) = some ((x / 134217728 % 4 : Nat) : Int) := by
  unfold camshaftref03_Prot.f
  rw [show (27 : Int) = ((27 : Nat) : Int) from rfl, show (28 : Int) = ((28 : Nat) : Int) from rfl, bit_is k 27 x (by decide) hk h, bit_is k 28 x (by decide) hk h, prot_bits]
  cases x.testBit 27 <;> cases x.testBit 28 <;> simp

theorem refMay_is (k x : Nat) (u w : Bool) (hk : 64 < k) (h : x < 4294967296) : camshaftref03_May.f k (x : Int) u w = pte_May.f (x : Int) u w := by
  unfold camshaftref03_May.f pte_May.f
  rw [refProt_is k x hk h, prot_is x h]
  have hl : x / 134217728 % 4 < 4 := by omega
  generalize x / 134217728 % 4 = p at *
  have : p = 0 ∨ p = 1 ∨ p = 2 ∨ p = 3 := by omega
  rcases this with rfl | rfl | rfl | rfl <;> cases u <;> cases w <;> rfl

theorem may_some (x : Nat) (u w : Bool) (h : x < 4294967296) : ∃ b, pte_May.f (x : Int) u w = some b := by
  unfold pte_May.f
  rw [prot_is x h]
  simp only [Option.bind_some]
  cases u <;> cases w <;> exact ⟨_, rfl⟩

theorem refPlace_is (x v : Nat) : camshaftref03_Place.f (x : Int) (v : Int) = some ((x % 2097152 * 512 + v % 512 : Nat) : Int) := by
  unfold camshaftref03_Place.f
  rw [show (2097152 : Int) = ((2097152 : Nat) : Int) from rfl, tmod_nat, show (512 : Int) = ((512 : Nat) : Int) from rfl, tmod_nat]
  congr 1
  omega

theorem PteReads : camshaftlaw03_PteReads.Pure := by
  intro a0 a1 a2 a3 w0 w1
  obtain ⟨x, rfl, hx⟩ := u32_nat w0
  obtain ⟨v, rfl, hv⟩ := u32_nat w1
  refine ⟨65, ?_⟩
  obtain ⟨b, hb⟩ := may_some x a2 a3 hx
  unfold camshaftlaw03_PteReads.f
  rw [alive_is, refMay_is 65 x a2 a3 (by decide) hx, hb, prot_is x hx, refProt_is 65 x (by decide) hx, frame_is x hx, is_is x hx, written_is x hx,
    show (31 : Int) = ((31 : Nat) : Int) from rfl, show (26 : Int) = ((26 : Nat) : Int) from rfl, bit_is 65 31 x (by decide) (by decide) hx, bit_is 65 26 x (by decide) (by decide) hx,
    place_is x v hx hv, refPlace_is, show (2097152 : Int) = ((2097152 : Nat) : Int) from rfl, tmod_nat]
  simp

end Go.Proofs.Ytjflepoifdcadaa.Pure
