/- A field is its two parts, side by side; the bytes that it takes are enough, and one fewer isn't: the pure statement behind ShiftJoins. No condition. -/
import Derived.Test.YtpjgklpppiongaaGShiftJoinsx3
import Derived.Test.YtpjgklpppiongaaAid
namespace Go.Proofs.Ytpjgklpppiongaa.Pure
open Go.RowKit Go.Proofs.Ytpjgklpppiongaa.Aid Go.Proofs.Ytpjgklpppiongaa.GShiftJoins Go.Proofs.YtpjgklpppiongaaW.PrintWords Go.Proofs.YtpjgklpppiongaaW.PrintLast

theorem wrap_i8 (n : Int) : IntKind.i8.wrap n = (n + 128) % 256 - 128 := by
  simp [IntKind.wrap, IntKind.bits, IntKind.signed]
  split <;> omega

/-- The count that a byte is. -/
theorem count_low (c : Nat) (h : c < 128) : wrap64 (IntKind.i8.wrap (c : Int)) = (c : Int) := by
  rw [wrap_i8]; unfold wrap64; omega
theorem count_high (c : Nat) (h : 128 ≤ c) (h2 : c < 256) : wrap64 (IntKind.i8.wrap (c : Int)) = (c : Int) - 256 := by
  rw [wrap_i8]; unfold wrap64; omega

theorem wrap32_range (x : Int) : -2147483648 ≤ wrap32 x ∧ wrap32 x ≤ 2147483647 := by unfold wrap32; omega
theorem wrap64_32 (x : Int) : wrap64 (wrap32 x) = wrap32 x := by have := wrap32_range x; exact wrap64_in (by omega) (by omega)

theorem pow_le31 (c : Nat) (h : c < 32) : 1 ≤ (2 : Int) ^ c ∧ (2 : Int) ^ c ≤ 2147483648 := by
  have h1 := Nat.two_pow_pos c
  have h2 : 2 ^ c ≤ 2 ^ 31 := Nat.pow_le_pow_right (by decide) (by omega)
  have e : (2 : Int) ^ c = ((2 ^ c : Nat) : Int) := by rw [Int.natCast_pow]; rfl
  rw [e]; omega

theorem mul_range (a p : Int) (ha : -2147483648 ≤ a) (hb : a ≤ 2147483647) (h1 : 1 ≤ p) (h2 : p ≤ 2147483648) : -4611686018427387904 ≤ a * p ∧ a * p ≤ 4611686018427387904 := by
  have e1 := Int.mul_le_mul_of_nonneg_right hb (show 0 ≤ p by omega)
  have e2 := Int.mul_le_mul_of_nonneg_right ha (show 0 ≤ p by omega)
  omega

/-- What a shift up comes to, out of the number that fits or not. -/
def upR (t : Int) : Int × Bool × Bool × Bool × Bool := (t % 4294967296, (t % 4294967296 / 2147483648) == 1, t % 4294967296 == 0, !(t == wrap32 (t % 4294967296)), false)
/-- What a shift down comes to. -/
def downR (q : Int) : Int × Bool × Bool × Bool × Bool := (q % 4294967296, (q % 4294967296 / 2147483648) == 1, q % 4294967296 == 0, false, false)
/-- What a shift up by 32 and more comes to. -/
def farR (x : Int) : Int × Bool × Bool × Bool × Bool := (0, false, true, x != 0, false)

theorem ash_up (c : Nat) (hc : c < 32) (x : Int) : shift_Ash.f (c : Int) x = some (upR (wrap32 x * 2 ^ c)) := by
  have hp := pow_le31 c hc
  have hx := wrap32_range x
  have hm := mul_range _ _ hx.1 hx.2 hp.1 hp.2
  have hs : shl .i64 (wrap32 x) (c : Int) = wrap32 x * 2 ^ c := by
    unfold shl
    rw [show min (c : Int).toNat (IntKind.bits .i64) = c from by rw [Int.toNat_natCast]; exact Nat.min_eq_left (by show c ≤ 64; omega), IntKind.wrap_i64]
    omega
  unfold shift_Ash.f shift_signs.f upR
  rw [count_low c (by omega), if_neg (by omega), if_pos (by omega), if_pos (by omega), wrap64_32, hs, wrap64_32]
  simp only [Option.bind_some]
  by_cases h : wrap32 x * 2 ^ c = wrap32 (wrap32 x * 2 ^ c % 4294967296)
  · rw [if_pos h, if_neg (by omega)]
    rw [← h]
    simp
  · rw [if_neg h]
    have : (wrap32 x * 2 ^ c == wrap32 (wrap32 x * 2 ^ c % 4294967296)) = false := beq_eq_false_iff_ne.mpr h
    rw [this]; rfl

theorem ash_far (c : Nat) (hc : 32 ≤ c) (hd : c < 128) (x : Int) : shift_Ash.f (c : Int) x = some (farR x) := by
  unfold shift_Ash.f shift_signs.f farR
  rw [count_low c hd, if_neg (by omega), if_neg (by omega)]
  simp only [Option.bind_some]
  rw [if_pos (by omega)]
  rfl

theorem ash_down (c : Nat) (hc : 128 ≤ c) (hd : c < 256) (x : Int) : shift_Ash.f (c : Int) x = some (downR (wrap32 x / 2 ^ (min (256 - c) 31))) := by
  have hm : (mn (wrap64 (-((c : Int) - 256))) 31).toNat = min (256 - c) 31 ∧ 0 ≤ mn (wrap64 (-((c : Int) - 256))) 31 := by
    rw [wrap64_in (by omega) (by omega)]; unfold mn; split <;> omega
  unfold shift_Ash.f shift_signs.f downR
  rw [count_high c hc hd, if_pos (by omega), if_pos hm.2, hm.1]
  rfl

theorem alive_is : camshaftlaw09_alive.f = some true := by
  unfold camshaftlaw09_alive.f
  have h := ash_up 1 (by decide) 1073741824
  rw [show ((1 : Nat) : Int) = 1 from rfl] at h
  rw [h]
  decide +kernel


theorem low_is (n : Nat) (hn : n ≤ 32) : shift_low.f (n : Int) = some ((2 ^ n - 1 : Nat) : Int) := by
  have hp := Nat.two_pow_pos n
  have h2 : 2 ^ n ≤ 2 ^ 32 := Nat.pow_le_pow_right (by decide) hn
  have e : (mn (mx (n : Int) 0) 32).toNat = n := by unfold mn mx; split <;> split <;> omega
  unfold shift_low.f
  rw [e, show (2 : Int) ^ n = ((2 ^ n : Nat) : Int) from by rw [Int.natCast_pow]; rfl]
  generalize 2 ^ n = p at *
  rw [IntKind.wrap_u64, IntKind.wrap_u64]
  congr 1
  omega

theorem at_mask (a : Nat) (ha : a < 32) : Go.bits .and .i64 (a : Int) 31 = (a : Int) := by
  rw [i64_mask 5 (by decide) (a : Int) 31 rfl]; omega

theorem shr64 (row a : Nat) (_ha : a < 64) : shr .u64 (row : Int) (a : Int) = ((row / 2 ^ a : Nat) : Int) := by
  unfold shr
  rw [Int.toNat_natCast, show min a (IntKind.bits .u64) = a from Nat.min_eq_left (by show a ≤ 64; omega), Int.natCast_ediv, Int.natCast_pow]
  rfl

theorem field_is (row a n : Nat) (hr : row < 18446744073709551616) (ha : a < 32) (hn : n ≤ 32) :
    Go.bits .and .u64 (shr .u64 (row : Int) (a : Int)) ((2 ^ n - 1 : Nat) : Int) = ((row / 2 ^ a % 2 ^ n : Nat) : Int) := by
  have h1 : row / 2 ^ a ≤ row := Nat.div_le_self _ _
  have h2 : 2 ^ n ≤ 2 ^ 32 := Nat.pow_le_pow_right (by decide) hn
  rw [shr64 row a (by omega), u64_and_nat _ _ (by omega) (by omega), Nat.and_two_pow_sub_one_eq_mod]

theorem extract_is (row a n : Nat) (hr : row < 18446744073709551616) (ha : a < 32) (hn : n ≤ 32) :
    shift_Extract.f (row : Int) (a : Int) (n : Int) false = some ((row / 2 ^ a % 2 ^ n : Nat) : Int) := by
  have h2 : 2 ^ n ≤ 2 ^ 32 := Nat.pow_le_pow_right (by decide) hn
  have hl := Nat.mod_lt (row / 2 ^ a) (Nat.two_pow_pos n)
  unfold shift_Extract.f
  rw [at_mask a ha, if_pos (by omega), low_is n hn, Option.bind_some, if_neg (by decide), field_is row a n hr ha hn]
  congr 1
  omega

theorem span_is (a n : Nat) (ha : a < 32) (hn : n ≤ 32) : shift_Span.f (a : Int) (n : Int) = some (if n < 1 then 0 else (((a % 8 + n + 7) / 8 : Nat) : Int)) := by
  unfold shift_Span.f
  have e : Go.bits .and .i64 (a : Int) 7 = ((a % 8 : Nat) : Int) := by
    rw [i64_mask 3 (by decide) (a : Int) 7 rfl]; omega
  by_cases h : n < 1
  · rw [if_pos (by omega), if_pos h]
  · rw [if_neg (by omega), if_neg h, e, wrap64_in (n := ((a % 8 : Nat) : Int) + n) (by omega) (by omega), wrap64_in (n := ((a % 8 : Nat) : Int) + n + 7) (by omega) (by omega),
      show ((a % 8 : Nat) : Int) + n + 7 = ((a % 8 + n + 7 : Nat) : Int) from by omega, show (8 : Int) = ((8 : Nat) : Int) from rfl, tdiv_nat, wrap64_in (by omega) (by omega)]

theorem parts (row s a b : Nat) : row / 2 ^ s % 2 ^ (a + b) = row / 2 ^ s % 2 ^ a + row / 2 ^ (s + a) % 2 ^ b * 2 ^ a := by
  rw [Nat.pow_add 2 a b, Nat.mod_mul, Nat.pow_add 2 s a, ← Nat.div_div_eq_div_mul, Nat.mul_comm (2 ^ a)]

theorem joins_true (row s a b : Nat) (hr : row < 18446744073709551616) (h2 : a + b ≤ 32) (h3 : s + a ≤ 31) :
    camshaftlaw09_ShiftJoins.j0 1 (row : Int) (s : Int) (a : Int) (b : Int) false = some true := by
  have hpa : 2 ^ (a + b) ≤ 2 ^ 32 := Nat.pow_le_pow_right (by decide) h2
  have hl := Nat.mod_lt (row / 2 ^ s) (Nat.two_pow_pos (a + b))
  have hj := parts row s a b
  have hs : shl .u64 ((row / 2 ^ (s + a) % 2 ^ b : Nat) : Int) (a : Int) = ((row / 2 ^ (s + a) % 2 ^ b * 2 ^ a : Nat) : Int) := by
    unfold shl
    rw [Int.toNat_natCast, show min a (IntKind.bits .u64) = a from Nat.min_eq_left (by show a ≤ 64; omega),
      show ((row / 2 ^ (s + a) % 2 ^ b : Nat) : Int) * 2 ^ a = ((row / 2 ^ (s + a) % 2 ^ b * 2 ^ a : Nat) : Int) from by rw [Int.natCast_mul, Int.natCast_pow]; rfl, IntKind.wrap_u64]
    omega
  have hb : row / 2 ^ (s + a) % 2 ^ b ≤ row / 2 ^ (s + a) % 2 ^ b * 2 ^ a := Nat.le_mul_of_pos_right _ (Nat.two_pow_pos a)
  simp only [camshaftlaw09_ShiftJoins.j0]
  rw [if_neg (by decide), wrap64_in (n := (a : Int) + b) (by omega) (by omega), wrap64_in (n := (s : Int) + a) (by omega) (by omega), show (a : Int) + (b : Int) = ((a + b : Nat) : Int) from by omega,
    show (s : Int) + (a : Int) = ((s + a : Nat) : Int) from by omega, extract_is row s (a + b) hr (by omega) h2, extract_is row s a hr (by omega) (by omega), extract_is row (s + a) b hr (by omega) (by omega),
    Option.bind_some, Option.bind_some, Option.bind_some, show IntKind.u64.wrap (a : Int) = (a : Int) from by rw [IntKind.wrap_u64]; omega, if_pos (by omega), span_is s (a + b) (by omega) h2, Option.bind_some]
  generalize row / 2 ^ s % 2 ^ (a + b) = x at *
  generalize row / 2 ^ s % 2 ^ a = y at *
  generalize row / 2 ^ (s + a) % 2 ^ b = z at *
  have ez : IntKind.u64.wrap (z : Int) = (z : Int) := by rw [IntKind.wrap_u64]; omega
  rw [ez, hs]
  generalize z * 2 ^ a = t at *
  rw [if_pos (by simp only [IntKind.wrap_u64]; omega), show (8 : Int) = ((8 : Nat) : Int) from rfl, tmod_nat]
  by_cases h0 : a + b = 0
  · rw [if_pos (by omega), if_pos (show a + b < 1 by omega), if_pos rfl]
  · rw [if_neg (by omega), if_pos (by omega), if_neg (show ¬ a + b < 1 by omega)]
    have hq : (s % 8 + (a + b) + 7) / 8 ≤ 6 := by omega
    have hq2 : 8 * ((s % 8 + (a + b) + 7) / 8) ≥ s % 8 + a + b ∧ 8 * ((s % 8 + (a + b) + 7) / 8) < s % 8 + a + b + 8 := by omega
    generalize (s % 8 + (a + b) + 7) / 8 = q at *
    rw [wrap64_in (n := ((s % 8 : Nat) : Int) + a) (by omega) (by omega), wrap64_in (n := ((s % 8 : Nat) : Int) + a + b) (by omega) (by omega), wrap64_in (n := ((8 : Nat) : Int) * q) (by omega) (by omega),
      wrap64_in (n := (q : Int) - 1) (by omega) (by omega), wrap64_in (n := ((8 : Nat) : Int) * (q - 1)) (by omega) (by omega), if_pos (by omega), decide_eq_true (by omega)]

theorem ShiftJoins : camshaftlaw09_ShiftJoins.Pure := by
  intro a0 a1 a2 a3 w0 _ _ _
  obtain ⟨row, rfl, hr⟩ := u64_nat w0
  refine ⟨1, ?_⟩
  have ht : ∀ p q r s : Int, camshaftlaw09_ShiftJoins.j0 1 p q r s true = some true := fun p q r s => by simp only [camshaftlaw09_ShiftJoins.j0]; rfl
  unfold camshaftlaw09_ShiftJoins.f
  rw [alive_is, Option.bind_some, if_pos rfl, ht]
  by_cases c1 : a1 < 0
  · rw [if_pos c1]
  · rw [if_neg c1]
    by_cases c2 : a2 < 0
    · rw [if_pos c2]
    · rw [if_neg c2]
      by_cases c3 : a3 < 0
      · rw [if_pos c3]
      · rw [if_neg c3]
        by_cases c4 : a1 > 31
        · rw [if_pos c4]
        · rw [if_neg c4]
          by_cases c5 : a2 > 32
          · rw [if_pos c5]
          · rw [if_neg c5]
            by_cases c6 : a3 > 32
            · rw [if_pos c6]
            · rw [if_neg c6, wrap64_in (by omega) (by omega), wrap64_in (n := a1 + a2) (by omega) (by omega)]
              by_cases c7 : a2 + a3 > 32
              · rw [if_pos c7]
              · rw [if_neg c7]
                by_cases c8 : a1 + a2 > 31
                · rw [decide_eq_true c8, ht]
                · rw [decide_eq_false c8]
                  obtain ⟨s, rfl⟩ := Int.eq_ofNat_of_zero_le (show 0 ≤ a1 by omega)
                  obtain ⟨a, rfl⟩ := Int.eq_ofNat_of_zero_le (show 0 ≤ a2 by omega)
                  obtain ⟨b, rfl⟩ := Int.eq_ofNat_of_zero_le (show 0 ≤ a3 by omega)
                  exact joins_true row s a b hr (by omega) (by omega)

end Go.Proofs.Ytpjgklpppiongaa.Pure
