/- A shift by one more is a shift of the shifted, as long as it fits, up and down: the pure statement behind ShiftSteps. No condition. -/
import Derived.Test.YtpjgklpppiongaaGShiftStepsx3
import Derived.Test.YtpjgklpppiongaaAid
namespace Go.Proofs.Ytpjgklpppiongaa.Pure
open Go.RowKit Go.Proofs.Ytpjgklpppiongaa.Aid Go.Proofs.Ytpjgklpppiongaa.GShiftSteps Go.Proofs.YtpjgklpppiongaaW.PrintWords Go.Proofs.YtpjgklpppiongaaW.PrintLast

theorem wrap_i8 (n : Int) : IntKind.i8.wrap n = (n + 128) % 256 - 128 := by
  simp [IntKind.wrap, IntKind.bits, IntKind.signed]
  split <;> omega

/-- The count that a byte is. -/
theorem count_low (c : Nat) (h : c < 128) : wrap64 (IntKind.i8.wrap (c : Int)) = (c : Int) := by
  rw [wrap_i8]; unfold wrap64; omega
theorem count_high (c : Nat) (h : 128 ≤ c) (h2 : c < 256) : wrap64 (IntKind.i8.wrap (c : Int)) = (c : Int) - 256 := by
  rw [wrap_i8]; unfold wrap64; omega

theorem wrap32_range (x : Int) : -2147483648 ≤ wrap32 x ∧ wrap32 x ≤ 2147483647 := by unfold wrap32; omega
theorem wrap64_32 (x : Int) : wrap64 (wrap32 x) = wrap32 x := by have := wrap32_range x; exact wrap64_in (by omega) (by omega)

theorem pow_le31 (c : Nat) (h : c < 32) : 1 ≤ (2 : Int) ^ c ∧ (2 : Int) ^ c ≤ 2147483648 := by
  have h1 := Nat.two_pow_pos c
  have h2 : 2 ^ c ≤ 2 ^ 31 := Nat.pow_le_pow_right (by decide) (by omega)
  have e : (2 : Int) ^ c = ((2 ^ c : Nat) : Int) := by rw [Int.natCast_pow]; rfl
  rw [e]; omega

theorem mul_range (a p : Int) (ha : -2147483648 ≤ a) (hb : a ≤ 2147483647) (h1 : 1 ≤ p) (h2 : p ≤ 2147483648) : -4611686018427387904 ≤ a * p ∧ a * p ≤ 4611686018427387904 := by
  have e1 := Int.mul_le_mul_of_nonneg_right hb (show 0 ≤ p by omega)
  have e2 := Int.mul_le_mul_of_nonneg_right ha (show 0 ≤ p by omega)
  omega

/-- What a shift up comes to, out of the number that fits or not. -/
def upR (t : Int) : Int × Bool × Bool × Bool × Bool := (t % 4294967296, (t % 4294967296 / 2147483648) == 1, t % 4294967296 == 0, !(t == wrap32 (t % 4294967296)), false)
/-- What a shift down comes to. -/
def downR (q : Int) : Int × Bool × Bool × Bool × Bool := (q % 4294967296, (q % 4294967296 / 2147483648) == 1, q % 4294967296 == 0, false, false)
/-- What a shift up by 32 and more comes to. -/
def farR (x : Int) : Int × Bool × Bool × Bool × Bool := (0, false, true, x != 0, false)

theorem ash_up (c : Nat) (hc : c < 32) (x : Int) : shift_Ash.f (c : Int) x = some (upR (wrap32 x * 2 ^ c)) := by
  have hp := pow_le31 c hc
  have hx := wrap32_range x
  have hm := mul_range _ _ hx.1 hx.2 hp.1 hp.2
  have hs : shl .i64 (wrap32 x) (c : Int) = wrap32 x * 2 ^ c := by
    unfold shl
    rw [show min (c : Int).toNat (IntKind.bits .i64) = c from by rw [Int.toNat_natCast]; exact Nat.min_eq_left (by show c ≤ 64; omega), IntKind.wrap_i64]
    omega
  unfold shift_Ash.f shift_signs.f upR
  rw [count_low c (by omega), if_neg (by omega), if_pos (by omega), if_pos (by omega), wrap64_32, hs, wrap64_32]
  simp only [Option.bind_some]
  by_cases h : wrap32 x * 2 ^ c = wrap32 (wrap32 x * 2 ^ c % 4294967296)
  · rw [if_pos h, if_neg (by omega)]
    rw [← h]
    simp
  · rw [if_neg h]
    have : (wrap32 x * 2 ^ c == wrap32 (wrap32 x * 2 ^ c % 4294967296)) = false := beq_eq_false_iff_ne.mpr h
    rw [this]; rfl

theorem ash_far (c : Nat) (hc : 32 ≤ c) (hd : c < 128) (x : Int) : shift_Ash.f (c : Int) x = some (farR x) := by
  unfold shift_Ash.f shift_signs.f farR
  rw [count_low c hd, if_neg (by omega), if_neg (by omega)]
  simp only [Option.bind_some]
  rw [if_pos (by omega)]
  rfl

theorem ash_down (c : Nat) (hc : 128 ≤ c) (hd : c < 256) (x : Int) : shift_Ash.f (c : Int) x = some (downR (wrap32 x / 2 ^ (min (256 - c) 31))) := by
  have hm : (mn (wrap64 (-((c : Int) - 256))) 31).toNat = min (256 - c) 31 ∧ 0 ≤ mn (wrap64 (-((c : Int) - 256))) 31 := by
    rw [wrap64_in (by omega) (by omega)]; unfold mn; split <;> omega
  unfold shift_Ash.f shift_signs.f downR
  rw [count_high c hc hd, if_pos (by omega), if_pos hm.2, hm.1]
  rfl

theorem alive_is : camshaftlaw09_alive.f = some true := by
  unfold camshaftlaw09_alive.f
  have h := ash_up 1 (by decide) 1073741824
  rw [show ((1 : Nat) : Int) = 1 from rfl] at h
  rw [h]
  decide +kernel


/-- What the law asks of three shifts, one behind the other, and both at once. -/
def agree (a b c : Int × Bool × Bool × Bool × Bool) : Bool :=
  (b.1 == c.1) && (c.2.2.2.1 == (a.2.2.2.1 || b.2.2.2.1)) && (c.2.1 == b.2.1) && (c.2.2.1 == b.2.2.1) && !c.2.2.2.2

theorem agree_up (t : Int) : agree (upR t) (upR (wrap32 (t % 4294967296) * 2)) (upR (2 * t)) = true := by
  have e : wrap32 (t % 4294967296) * 2 % 4294967296 = 2 * t % 4294967296 := by unfold wrap32; omega
  unfold agree upR
  rw [e]
  have hv : (!(2 * t == wrap32 (2 * t % 4294967296))) = (!(t == wrap32 (t % 4294967296)) || !(wrap32 (t % 4294967296) * 2 == wrap32 (2 * t % 4294967296))) := by
    by_cases h : t = wrap32 (t % 4294967296)
    · have h2 : wrap32 (t % 4294967296) * 2 = 2 * t := by omega
      rw [h2]
      have : (t == wrap32 (t % 4294967296)) = true := beq_iff_eq.mpr h
      rw [this]; rfl
    · have h1 : (t == wrap32 (t % 4294967296)) = false := beq_eq_false_iff_ne.mpr h
      have h2 : ¬ 2 * t = wrap32 (2 * t % 4294967296) := by unfold wrap32 at *; omega
      have h3 : (2 * t == wrap32 (2 * t % 4294967296)) = false := beq_eq_false_iff_ne.mpr h2
      rw [h1, h3]; rfl
  simp only [hv, beq_self_eq_true, Bool.and_self, Bool.not_false]

theorem agree_edge (x : Nat) (hx : x < 4294967296) (t : Int) (ht : t = wrap32 (x : Int) * 2147483648) : agree (upR t) (upR (wrap32 (t % 4294967296) * 2)) (farR (x : Int)) = true := by
  have e : wrap32 (t % 4294967296) * 2 % 4294967296 = 0 := by unfold wrap32 at *; omega
  unfold agree upR farR
  rw [e]
  have hv : ((x : Int) != 0) = (!(t == wrap32 (t % 4294967296)) || !(wrap32 (t % 4294967296) * 2 == wrap32 0)) := by
    by_cases h : t = wrap32 (t % 4294967296)
    · have h1 : (t == wrap32 (t % 4294967296)) = true := beq_iff_eq.mpr h
      rw [h1]
      by_cases h0 : x = 0
      · subst h0
        have h2 : wrap32 (t % 4294967296) * 2 = wrap32 0 := by unfold wrap32 at *; omega
        have h3 : (wrap32 (t % 4294967296) * 2 == wrap32 0) = true := beq_iff_eq.mpr h2
        rw [h3]; rfl
      · have h2 : ¬ wrap32 (t % 4294967296) * 2 = wrap32 0 := by unfold wrap32 at *; omega
        have h3 : (wrap32 (t % 4294967296) * 2 == wrap32 0) = false := beq_eq_false_iff_ne.mpr h2
        have h4 : ((x : Int) != 0) = true := bne_iff_ne.mpr (by omega)
        rw [h3, h4]; rfl
    · have h1 : (t == wrap32 (t % 4294967296)) = false := beq_eq_false_iff_ne.mpr h
      have h4 : ((x : Int) != 0) = true := bne_iff_ne.mpr (by intro h0; apply h; rw [ht, h0]; decide +kernel)
      rw [h1, h4]; rfl
  simp only [hv, beq_self_eq_true, Bool.and_self, Bool.not_false]
  rfl

theorem agree_far (x : Int) : agree (farR x) (upR (wrap32 0 * 2)) (farR x) = true := by
  unfold agree farR
  have h : (upR (wrap32 0 * 2)) = (0, false, true, false, false) := by decide +kernel
  rw [h]
  simp

theorem agree_down (q : Int) (h1 : -2147483648 ≤ q) (h2 : q ≤ 2147483647) : agree (downR q) (downR (wrap32 (q % 4294967296) / 2)) (downR (q / 2)) = true := by
  have e : wrap32 (q % 4294967296) = q := by unfold wrap32; omega
  rw [e]
  unfold agree downR
  simp

theorem half (s : Int) (h1 : -2147483648 ≤ s) (h2 : s ≤ 2147483647) (m : Nat) : s / 2 ^ (min m 31) / 2 = s / 2 ^ (min (m + 1) 31) := by
  by_cases h : m < 31
  · rw [Nat.min_eq_left (by omega), Nat.min_eq_left (by omega), Int.pow_succ, Int.ediv_ediv_of_nonneg (by have := pow_le31 m (by omega); omega)]
  · rw [Nat.min_eq_right (by omega), Nat.min_eq_right (by omega)]
    omega

theorem div_range (s : Int) (h1 : -2147483648 ≤ s) (h2 : s ≤ 2147483647) (m : Nat) (hm : m < 32) : -2147483648 ≤ s / 2 ^ m ∧ s / 2 ^ m ≤ 2147483647 := by
  have hp := pow_le31 m hm
  constructor
  · refine Int.le_ediv_of_mul_le (by omega) ?_
    have := Int.mul_le_mul_of_nonpos_left (a := -2147483648) (by decide) hp.1
    omega
  · refine Int.le_of_lt_add_one (Int.ediv_lt_of_lt_mul (by omega) ?_)
    have := Int.mul_le_mul_of_nonneg_left (c := 2147483648) hp.1 (by decide)
    omega

theorem steps_true (c x : Nat) (hc : c < 256) (hx : x < 4294967296) (h7 : c ≠ 127) (h8 : c ≠ 128) : ∃ a b d, shift_Ash.f (c : Int) (x : Int) = some a ∧
    shift_Ash.f (if c > 127 then 255 else 1) a.1 = some b ∧ shift_Ash.f (if c > 127 then ((c : Int) + 255) % 256 else ((c : Int) + 1) % 256) (x : Int) = some d ∧ agree a b d = true := by
  have hs := wrap32_range (x : Int)
  by_cases h : c > 127
  · have hq := div_range _ hs.1 hs.2 (min (256 - c) 31) (by omega)
    refine ⟨_, _, _, ash_down c (by omega) hc _, ?_, ?_, agree_down _ hq.1 hq.2⟩
    · rw [if_pos h, show (255 : Int) = ((255 : Nat) : Int) from rfl, ash_down 255 (by decide) (by decide)]
      rfl
    · rw [if_pos h, show ((c : Int) + 255) % 256 = ((c - 1 : Nat) : Int) from by omega, ash_down (c - 1) (by omega) (by omega), half _ hs.1 hs.2,
        show 256 - (c - 1) = 256 - c + 1 from by omega]
  · rw [if_neg h, if_neg h, show ((c : Int) + 1) % 256 = ((c + 1 : Nat) : Int) from by omega, show (1 : Int) = ((1 : Nat) : Int) from rfl]
    by_cases h31 : c < 31
    · refine ⟨_, _, _, ash_up c (by omega) _, ash_up 1 (by decide) _, ash_up (c + 1) (by omega) _, ?_⟩
      have := agree_up (wrap32 (x : Int) * 2 ^ c)
      rw [show wrap32 (x : Int) * 2 ^ (c + 1) = 2 * (wrap32 (x : Int) * 2 ^ c) from by rw [Int.pow_succ, ← Int.mul_assoc, Int.mul_comm]]
      exact this
    · by_cases e : c = 31
      · subst e
        refine ⟨_, _, _, ash_up 31 (by omega) _, ash_up 1 (by decide) _, ash_far 32 (by decide) (by decide) _, ?_⟩
        exact agree_edge x hx _ (by rw [show (2 : Int) ^ 31 = 2147483648 from by decide])
      · refine ⟨_, _, _, ash_far c (by omega) (by omega) _, ash_up 1 (by decide) _, ash_far (c + 1) (by omega) (by omega) _, ?_⟩
        exact agree_far _

theorem ShiftSteps : camshaftlaw09_ShiftSteps.Pure := by
  intro a0 a1 w0 w1
  obtain ⟨c, rfl, hc⟩ := u8_nat w0
  obtain ⟨x, rfl, hx⟩ := u32_nat w1
  refine ⟨1, ?_⟩
  unfold camshaftlaw09_ShiftSteps.f
  rw [alive_is, Option.bind_some, if_pos rfl]
  by_cases h7 : c = 127
  · rw [if_pos (by omega)]; rfl
  · rw [if_neg (by omega)]
    by_cases h8 : c = 128
    · subst h8; rfl
    · have hb : ((c : Int) == 128) = false := beq_eq_false_iff_ne.mpr (by omega)
      rw [hb]
      obtain ⟨a, b, d, h1, h2, h3, h4⟩ := steps_true c x hc hx h7 h8
      obtain ⟨b1, b2, b3, b4, b5⟩ := b
      obtain ⟨d1, d2, d3, d4, d5⟩ := d
      unfold agree at h4
      simp only [Bool.and_eq_true, beq_iff_eq, Bool.not_eq_true'] at h4
      obtain ⟨⟨⟨⟨e1, e2⟩, e3⟩, e4⟩, e5⟩ := h4
      subst e1 e2 e3 e4 e5
      simp only [camshaftlaw09_ShiftSteps.j0]
      rw [if_neg (by decide)]
      by_cases h : c > 127
      · rw [if_pos h] at h2 h3
        rw [if_pos (by omega), h1, Option.bind_some, h2, Option.bind_some, h3, Option.bind_some]
        cases a.2.2.2.1 <;> simp
      · rw [if_neg h] at h2 h3
        rw [if_neg (by omega), h1, Option.bind_some, h2, Option.bind_some, h3, Option.bind_some]
        cases a.2.2.2.1 <;> simp

end Go.Proofs.Ytpjgklpppiongaa.Pure
