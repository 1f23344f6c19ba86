/- Ash and Rot answer what the document says, of all counts and numbers: the pure statement behind ShiftShifts. No condition. -/
import Derived.Test.YtpjgklpppiongaaGShiftShiftsx3
import Derived.Test.YtpjgklpppiongaaAid
namespace Go.Proofs.Ytpjgklpppiongaa.Pure
open Go.RowKit Go.Proofs.Ytpjgklpppiongaa.Aid Go.Proofs.Ytpjgklpppiongaa.GShiftShifts Go.Proofs.YtpjgklpppiongaaW.PrintWords Go.Proofs.YtpjgklpppiongaaW.PrintLast

theorem wrap_i8 (n : Int) : IntKind.i8.wrap n = (n + 128) % 256 - 128 := by
  simp [IntKind.wrap, IntKind.bits, IntKind.signed]
  split <;> omega

/-- The count that a byte is. -/
theorem count_low (c : Nat) (h : c < 128) : wrap64 (IntKind.i8.wrap (c : Int)) = (c : Int) := by
  rw [wrap_i8]; unfold wrap64; omega
theorem count_high (c : Nat) (h : 128 ≤ c) (h2 : c < 256) : wrap64 (IntKind.i8.wrap (c : Int)) = (c : Int) - 256 := by
  rw [wrap_i8]; unfold wrap64; omega

theorem wrap32_range (x : Int) : -2147483648 ≤ wrap32 x ∧ wrap32 x ≤ 2147483647 := by unfold wrap32; omega
theorem wrap64_32 (x : Int) : wrap64 (wrap32 x) = wrap32 x := by have := wrap32_range x; exact wrap64_in (by omega) (by omega)

theorem pow_le31 (c : Nat) (h : c < 32) : 1 ≤ (2 : Int) ^ c ∧ (2 : Int) ^ c ≤ 2147483648 := by
  have h1 := Nat.two_pow_pos c
  have h2 : 2 ^ c ≤ 2 ^ 31 := Nat.pow_le_pow_right (by decide) (by omega)
  have e : (2 : Int) ^ c = ((2 ^ c : Nat) : Int) := by rw [Int.natCast_pow]; rfl
  rw [e]; omega

theorem mul_range (a p : Int) (ha : -2147483648 ≤ a) (hb : a ≤ 2147483647) (h1 : 1 ≤ p) (h2 : p ≤ 2147483648) : -4611686018427387904 ≤ a * p ∧ a * p ≤ 4611686018427387904 := by
  have e1 := Int.mul_le_mul_of_nonneg_right hb (show 0 ≤ p by omega)
  have e2 := Int.mul_le_mul_of_nonneg_right ha (show 0 ≤ p by omega)
  omega

/-- What a shift up comes to, out of the number that fits or not. -/
def upR (t : Int) : Int × Bool × Bool × Bool × Bool := (t % 4294967296, (t % 4294967296 / 2147483648) == 1, t % 4294967296 == 0, !(t == wrap32 (t % 4294967296)), false)
/-- What a shift down comes to. -/
def downR (q : Int) : Int × Bool × Bool × Bool × Bool := (q % 4294967296, (q % 4294967296 / 2147483648) == 1, q % 4294967296 == 0, false, false)
/-- What a shift up by 32 and more comes to. -/
def farR (x : Int) : Int × Bool × Bool × Bool × Bool := (0, false, true, x != 0, false)

theorem ash_up (c : Nat) (hc : c < 32) (x : Int) : shift_Ash.f (c : Int) x = some (upR (wrap32 x * 2 ^ c)) := by
  have hp := pow_le31 c hc
  have hx := wrap32_range x
  have hm := mul_range _ _ hx.1 hx.2 hp.1 hp.2
  have hs : shl .i64 (wrap32 x) (c : Int) = wrap32 x * 2 ^ c := by
    unfold shl
    rw [show min (c : Int).toNat (IntKind.bits .i64) = c from by rw [Int.toNat_natCast]; exact Nat.min_eq_left (by show c ≤ 64; omega), IntKind.wrap_i64]
    omega
  unfold shift_Ash.f shift_signs.f upR
  rw [count_low c (by omega), if_neg (by omega), if_pos (by omega), if_pos (by omega), wrap64_32, hs, wrap64_32]
  simp only [Option.bind_some]
  by_cases h : wrap32 x * 2 ^ c = wrap32 (wrap32 x * 2 ^ c % 4294967296)
  · rw [if_pos h, if_neg (by omega)]
    rw [← h]
    simp
  · rw [if_neg h]
    have : (wrap32 x * 2 ^ c == wrap32 (wrap32 x * 2 ^ c % 4294967296)) = false := beq_eq_false_iff_ne.mpr h
    rw [this]; rfl

theorem ash_far (c : Nat) (hc : 32 ≤ c) (hd : c < 128) (x : Int) : shift_Ash.f (c : Int) x = some (farR x) := by
  unfold shift_Ash.f shift_signs.f farR
  rw [count_low c hd, if_neg (by omega), if_neg (by omega)]
  simp only [Option.bind_some]
  rw [if_pos (by omega)]
  rfl

theorem ash_down (c : Nat) (hc : 128 ≤ c) (hd : c < 256) (x : Int) : shift_Ash.f (c : Int) x = some (downR (wrap32 x / 2 ^ (min (256 - c) 31))) := by
  have hm : (mn (wrap64 (-((c : Int) - 256))) 31).toNat = min (256 - c) 31 ∧ 0 ≤ mn (wrap64 (-((c : Int) - 256))) 31 := by
    rw [wrap64_in (by omega) (by omega)]; unfold mn; split <;> omega
  unfold shift_Ash.f shift_signs.f downR
  rw [count_high c hc hd, if_pos (by omega), if_pos hm.2, hm.1]
  rfl

theorem alive_is : camshaftlaw09_alive.f = some true := by
  unfold camshaftlaw09_alive.f
  have h := ash_up 1 (by decide) 1073741824
  rw [show ((1 : Nat) : Int) = 1 from rfl] at h
  rw [h]
  decide +kernel


theorem half (s : Int) (h1 : -2147483648 ≤ s) (h2 : s ≤ 2147483647) (m : Nat) : s / 2 ^ (min m 31) / 2 = s / 2 ^ (min (m + 1) 31) := by
  by_cases h : m < 31
  · rw [Nat.min_eq_left (by omega), Nat.min_eq_left (by omega), Int.pow_succ, Int.ediv_ediv_of_nonneg (by have := pow_le31 m (by omega); omega)]
  · rw [Nat.min_eq_right (by omega), Nat.min_eq_right (by omega)]
    omega

theorem div_range (s : Int) (h1 : -2147483648 ≤ s) (h2 : s ≤ 2147483647) (m : Nat) (hm : m < 32) : -2147483648 ≤ s / 2 ^ m ∧ s / 2 ^ m ≤ 2147483647 := by
  have hp := pow_le31 m hm
  constructor
  · refine Int.le_ediv_of_mul_le (by omega) ?_
    have := Int.mul_le_mul_of_nonpos_left (a := -2147483648) (by decide) hp.1
    omega
  · refine Int.le_of_lt_add_one (Int.ediv_lt_of_lt_mul (by omega) ?_)
    have := Int.mul_le_mul_of_nonneg_left (c := 2147483648) hp.1 (by decide)
    omega

/-- A number turned up by k < 32. -/
def rotN (x k : Nat) : Nat := x * 2 ^ k % 4294967296 ||| x / 2 ^ (32 - k)

theorem rotN_lt (x k : Nat) (hx : x < 4294967296) : rotN x k < 4294967296 := by
  unfold rotN
  have h1 : x / 2 ^ (32 - k) ≤ x := Nat.div_le_self _ _
  exact Nat.or_lt_two_pow (n := 32) (Nat.mod_lt _ (by decide)) (Nat.lt_of_le_of_lt h1 hx)

theorem high_bit (x i : Nat) (hx : x < 4294967296) (hi : 32 ≤ i) : x.testBit i = false :=
  Nat.testBit_lt_two_pow (Nat.lt_of_lt_of_le hx (Nat.pow_le_pow_right (n := 2) (by decide) hi))

theorem rotN_bit (x k i : Nat) (hx : x < 4294967296) (hk : k < 32) (hi : i < 32) : (rotN x k).testBit i = x.testBit ((i + 32 - k) % 32) := by
  unfold rotN
  rw [Nat.testBit_or, show 4294967296 = 2 ^ 32 from rfl, Nat.testBit_mod_two_pow, Nat.testBit_mul_two_pow, Nat.testBit_div_two_pow]
  by_cases h : k ≤ i
  · rw [high_bit x (i + (32 - k)) hx (by omega), show (i + 32 - k) % 32 = i - k from by omega]
    simp [h, hi]
  · rw [show (i + 32 - k) % 32 = i + (32 - k) from by omega]
    simp [h]

theorem rot_count (c : Nat) (hc : c < 256) : Go.bits .and .u64 (IntKind.u64.wrap (wrap64 (IntKind.i8.wrap (c : Int)))) 31 = ((c % 32 : Nat) : Int) := by
  have e : IntKind.u64.wrap (wrap64 (IntKind.i8.wrap (c : Int))) = ((if c < 128 then c else c + 18446744073709551360 : Nat) : Int) := by
    by_cases h : c < 128
    · rw [count_low c h, if_pos h, IntKind.wrap_u64]; omega
    · rw [count_high c (by omega) hc, if_neg h, IntKind.wrap_u64]; omega
  rw [e, show (31 : Int) = ((31 : Nat) : Int) from rfl, u64_and_nat _ 31 (by split <;> omega) (by decide), nat_mask5]
  split <;> omega

theorem rotate_is (x c : Nat) (hx : x < 4294967296) (hc : c < 256) : bits_RotateLeft32.f (x : Int) (wrap64 (IntKind.i8.wrap (c : Int))) = some ((rotN x (c % 32) : Nat) : Int) := by
  unfold bits_RotateLeft32.f rotN
  rw [rot_count c hc]
  have hk : c % 32 < 32 := Nat.mod_lt _ (by decide)
  generalize c % 32 = k at *
  have hsub : IntKind.u64.wrap (32 - ((k : Nat) : Int)) = ((32 - k : Nat) : Int) := by rw [IntKind.wrap_u64]; omega
  rw [hsub, if_pos (by omega), if_pos (by omega)]
  have e1 : shl .u32 (x : Int) ((k : Nat) : Int) = ((x * 2 ^ k % 4294967296 : Nat) : Int) := by
    unfold shl
    rw [Int.toNat_natCast, show min k (IntKind.bits .u32) = k from Nat.min_eq_left (by show k ≤ 32; omega), IntKind.wrap_u32, Int.natCast_emod, Int.natCast_mul, Int.natCast_pow]
    rfl
  have e2 : shr .u32 (x : Int) ((32 - k : Nat) : Int) = ((x / 2 ^ (32 - k) : Nat) : Int) := by
    unfold shr
    rw [Int.toNat_natCast, show min (32 - k) (IntKind.bits .u32) = 32 - k from Nat.min_eq_left (by show 32 - k ≤ 32; omega), Int.natCast_ediv, Int.natCast_pow]
    rfl
  have h1 : x / 2 ^ (32 - k) ≤ x := Nat.div_le_self _ _
  rw [e1, e2, u32_or_nat _ _ (Nat.mod_lt _ (by decide)) (by omega)]

/-- What a turn comes to. -/
def rotR (y : Nat) (c : Bool) : Int × Bool × Bool × Bool × Bool := ((y : Int), ((y : Int) / 2147483648) == 1, (y : Int) == 0, false, c)

theorem rot_is (c x : Nat) (hc : c < 256) (hx : x < 4294967296) (b : Bool) : shift_Rot.f (c : Int) (x : Int) b = some (rotR (rotN x (c % 32)) b) := by
  unfold shift_Rot.f shift_signs.f rotR
  rw [rotate_is x c hx hc]
  rfl

theorem rot_rot (x j k : Nat) (hx : x < 4294967296) (hj : j < 32) (hk : k < 32) : rotN (rotN x j) k = rotN x ((j + k) % 32) := by
  have h1 := rotN_lt x j hx
  refine eq_of_bits 32 _ _ (rotN_lt _ k h1) (rotN_lt x _ hx) fun i hi => ?_
  rw [rotN_bit _ k i h1 hk hi, rotN_bit x j _ hx hj (Nat.mod_lt _ (by decide)), rotN_bit x _ i hx (Nat.mod_lt _ (by decide)) hi]
  congr 1
  omega

theorem rot_zero (x : Nat) (hx : x < 4294967296) : rotN x 0 = x := by
  refine eq_of_bits 32 _ _ (rotN_lt x 0 hx) hx fun i hi => ?_
  rw [rotN_bit x 0 i hx (by decide) hi]
  congr 1
  omega

theorem wide4 : camshaftref01_Wide.f 4 = some 4294967296 := by decide +kernel
theorem wide1 : camshaftref01_Wide.f 1 = some 256 := by decide +kernel

theorem rest4 (x : Nat) (hx : x < 4294967296) : camshaftref01_Rest.f (x : Int) 4 = some (x : Int) := by
  unfold camshaftref01_Rest.f
  rw [wide4, Option.bind_some, if_neg (by decide), wrap64_in (by omega) (by omega), show (4294967296 : Int) = ((4294967296 : Nat) : Int) from rfl, tmod_nat, Nat.mod_eq_of_lt hx]

theorem signed4 (x : Nat) (hx : x < 4294967296) : camshaftref01_Signed.f (x : Int) 4 = some (wrap32 (x : Int)) := by
  unfold camshaftref01_Signed.f
  rw [rest4 x hx, wide4, Option.bind_some, Option.bind_some, show Int.tdiv 4294967296 2 = 2147483648 from by decide, wrap64_in (n := 2147483648) (by decide) (by decide)]
  by_cases h : (x : Int) ≥ 2147483648
  · rw [if_pos h, Option.bind_some, wrap64_in (by omega) (by omega)]
    exact congrArg some (by unfold wrap32; omega)
  · rw [if_neg h]
    exact congrArg some (by unfold wrap32; omega)

theorem fits4 (n : Int) : camshaftref01_Fits.f n 4 = some (decide (-2147483648 ≤ n) && decide (n < 2147483648)) := by
  unfold camshaftref01_Fits.f
  rw [wide4, Option.bind_some, wrap64_in (n := -4294967296) (by decide) (by decide), show Int.tdiv (-4294967296) 2 = -2147483648 from by decide,
    wrap64_in (n := -2147483648) (by decide) (by decide)]
  by_cases h : n ≥ -2147483648
  · rw [if_pos h, Option.bind_some, show Int.tdiv 4294967296 2 = 2147483648 from by decide, wrap64_in (n := 2147483648) (by decide) (by decide), decide_eq_true (show -2147483648 ≤ n from h), Bool.true_and]
  · rw [if_neg h, decide_eq_false (show ¬ -2147483648 ≤ n from h), Bool.false_and]

theorem bits4 (n : Int) (h1 : -9223372036854775808 ≤ n) (h2 : n ≤ 9223372036854775807) : camshaftref01_Bits.f n 4 = some (n % 4294967296) := by
  have e : Int.tmod n 4294967296 = n % 4294967296 ∨ (n < 0 ∧ Int.tmod n 4294967296 = n % 4294967296 - 4294967296) := by
    rcases Int.lt_or_le n 0 with h | h
    · have e : Int.tmod n 4294967296 = -((-n) % 4294967296) := by rw [← Int.tmod_eq_emod_of_nonneg (a := -n) (by omega), Int.neg_tmod, Int.neg_neg]
      omega
    · left; exact Int.tmod_eq_emod_of_nonneg h
  unfold camshaftref01_Bits.f
  rw [wide4, Option.bind_some, if_neg (by decide)]
  by_cases hn : Int.tmod n 4294967296 < 0
  · rw [if_pos hn, Option.bind_some, wrap64_in (by omega) (by omega)]; exact congrArg some (by omega)
  · rw [if_neg hn]; exact congrArg some (by omega)

theorem signs4 (x : Nat) (hx : x < 4294967296) : camshaftref01_Signs.f (x : Int) 4 = some (((x : Int) / 2147483648) == 1, (x : Int) == 0, false, false) := by
  have e : decide (wrap32 (x : Int) < 0) = (((x : Int) / 2147483648) == 1) := by
    by_cases h : x < 2147483648
    · rw [decide_eq_false (by unfold wrap32; omega)]; exact (beq_eq_false_iff_ne.mpr (by omega)).symm
    · rw [decide_eq_true (by unfold wrap32; omega)]; exact (beq_iff_eq.mpr (by omega)).symm
  unfold camshaftref01_Signs.f
  rw [signed4 x hx, rest4 x hx, Option.bind_some, Option.bind_some, e]

theorem signed1 (c : Nat) (hc : c < 256) : camshaftref01_Signed.f ((c : Int) % 4294967296) 1 = some (if c < 128 then (c : Int) else (c : Int) - 256) := by
  unfold camshaftref01_Signed.f camshaftref01_Rest.f
  rw [wide1, Option.bind_some, if_neg (by decide), wrap64_in (by omega) (by omega), show ((c : Int) % 4294967296) = ((c : Nat) : Int) from by omega, show (256 : Int) = ((256 : Nat) : Int) from rfl, tmod_nat, Option.bind_some,
    Option.bind_some, Nat.mod_eq_of_lt hc, show Int.tdiv ((256 : Nat) : Int) 2 = 128 from by decide, wrap64_in (n := 128) (by decide) (by decide)]
  by_cases h : c < 128
  · rw [if_neg (by omega), if_pos h]
  · rw [if_pos (by omega), if_neg h, Option.bind_some, wrap64_in (by omega) (by omega)]

/-- What the reference tells of a number and of whether it went over. -/
def endR (v : Int) (o : Bool) : Int × Bool × Bool × Bool × Bool := (v % 4294967296, (v % 4294967296 / 2147483648) == 1, v % 4294967296 == 0, o, false)

theorem l1_end (k : Nat) (v : Int) (o : Bool) (h1 : -2147483648 ≤ v) (h2 : v ≤ 2147483647) : camshaftref09_Ash.l1 (k + 1) 0 v o = some (endR v o) := by
  simp only [camshaftref09_Ash.l1]
  obtain ⟨y, hy⟩ := Int.eq_ofNat_of_zero_le (show 0 ≤ v % 4294967296 by omega)
  unfold endR
  rw [if_neg (by decide), bits4 v (by omega) (by omega), Option.bind_some, hy, signs4 y (by omega)]
  rfl

theorem l1_step (k n : Nat) (hn : n < 200) (v : Int) (o : Bool) (h1 : -2147483648 ≤ v) (h2 : v ≤ 2147483647) :
    camshaftref09_Ash.l1 (k + 1) ((n + 1 : Nat) : Int) v o = camshaftref09_Ash.l1 k (n : Int) (wrap32 (2 * v)) (o || !(2 * v == wrap32 (2 * v))) := by
  simp only [camshaftref09_Ash.l1]
  rw [if_pos (by omega), wrap64_in (n := ((n + 1 : Nat) : Int) - 1) (by omega) (by omega), show ((n + 1 : Nat) : Int) - 1 = (n : Int) from by omega, wrap64_in (n := 2 * v) (by omega) (by omega), fits4, Option.bind_some]
  by_cases h : -2147483648 ≤ 2 * v ∧ 2 * v < 2147483648
  · have e : wrap32 (2 * v) = 2 * v := by unfold wrap32; omega
    rw [if_pos (by rw [decide_eq_true h.1, decide_eq_true h.2]; rfl), e, beq_self_eq_true, Bool.not_true, Bool.or_false]
  · have hb : (2 * v == wrap32 (2 * v)) = false := beq_eq_false_iff_ne.mpr (by unfold wrap32; omega)
    have hd : (decide (-2147483648 ≤ 2 * v) && decide (2 * v < 2147483648)) = false := by
      rw [← Bool.decide_and]; exact decide_eq_false h
    obtain ⟨y, hy⟩ := Int.eq_ofNat_of_zero_le (show 0 ≤ 2 * v % 4294967296 by omega)
    rw [if_neg (by rw [hd]; decide), bits4 _ (by omega) (by omega), Option.bind_some, hy, signed4 y (by omega), Option.bind_some, hb, Bool.not_false, Bool.or_true,
      show wrap32 (y : Int) = wrap32 (2 * v) from by unfold wrap32; omega]

theorem l1_up (n : Nat) : ∀ (k : Nat) (t : Int), n < 200 → n < k → camshaftref09_Ash.l1 k (n : Int) (wrap32 t) (!(t == wrap32 t)) = some (endR (wrap32 (t * 2 ^ n)) (!(t * 2 ^ n == wrap32 (t * 2 ^ n)))) := by
  induction n with
  | zero =>
    intro k t _ hk
    obtain ⟨k, rfl⟩ : ∃ m, k = m + 1 := ⟨k - 1, by omega⟩
    have hr := wrap32_range t
    rw [Int.pow_zero, Int.mul_one]
    exact l1_end k _ _ hr.1 hr.2
  | succ n ih =>
    intro k t hn hk
    obtain ⟨k, rfl⟩ : ∃ m, k = m + 1 := ⟨k - 1, by omega⟩
    have hr := wrap32_range t
    have e1 : wrap32 (2 * wrap32 t) = wrap32 (2 * t) := by unfold wrap32; omega
    have e2 : (!(t == wrap32 t) || !(2 * wrap32 t == wrap32 (2 * t))) = !(2 * t == wrap32 (2 * t)) := by
      by_cases h : t = wrap32 t
      · rw [beq_iff_eq.mpr h, ← h]; rfl
      · rw [beq_eq_false_iff_ne.mpr h]
        have h2 : ¬ 2 * t = wrap32 (2 * t) := by unfold wrap32 at *; omega
        rw [beq_eq_false_iff_ne.mpr h2]; rfl
    rw [l1_step k n (by omega) _ _ hr.1 hr.2, e1, e2, ih k (2 * t) (by omega) (by omega), show 2 * t * 2 ^ n = t * 2 ^ (n + 1) from by rw [Int.pow_succ, Int.mul_comm 2 t, Int.mul_assoc, Int.mul_comm 2 (2 ^ n)]]

theorem l0_step (k n : Nat) (hn : n < 200) (v : Int) (o : Bool) (h1 : -2147483648 ≤ v) (h2 : v ≤ 2147483647) :
    camshaftref09_Ash.l0 (k + 1) (-((n + 1 : Nat) : Int)) v o = camshaftref09_Ash.l0 k (-(n : Int)) (v / 2) o := by
  have ht : Int.tmod v 2 = 0 ↔ v % 2 = 0 := by
    rcases Int.lt_or_le v 0 with h | h
    · have e : Int.tmod v 2 = -((-v) % 2) := by rw [← Int.tmod_eq_emod_of_nonneg (a := -v) (by omega), Int.neg_tmod, Int.neg_neg]
      omega
    · rw [Int.tmod_eq_emod_of_nonneg h]
  have hd : ∀ u : Int, u % 2 = 0 → Int.tdiv u 2 = u / 2 := fun u hu => Int.tdiv_eq_ediv_of_dvd (Int.dvd_of_emod_eq_zero hu)
  simp only [camshaftref09_Ash.l0]
  rw [if_pos (by omega), wrap64_in (n := -((n + 1 : Nat) : Int) + 1) (by omega) (by omega), show -((n + 1 : Nat) : Int) + 1 = -(n : Int) from by omega]
  by_cases h : v % 2 = 0
  · rw [if_pos (ht.2 h), hd v h, wrap64_in (by omega) (by omega)]
  · rw [if_neg (fun hh => h (ht.1 hh)), wrap64_in (n := v - 1) (by omega) (by omega), hd (v - 1) (by omega), wrap64_in (by omega) (by omega), show (v - 1) / 2 = v / 2 from by omega]

theorem l0_down (n : Nat) : ∀ (k j : Nat) (s : Int), n < 200 → n + 1 < k → -2147483648 ≤ s → s ≤ 2147483647 →
    camshaftref09_Ash.l0 k (-(n : Int)) (s / 2 ^ (min j 31)) false = some (endR (s / 2 ^ (min (j + n) 31)) false) := by
  induction n with
  | zero =>
    intro k j s _ hk h1 h2
    obtain ⟨k, rfl⟩ : ∃ m, k = m + 1 + 1 := ⟨k - 2, by omega⟩
    have hr := div_range s h1 h2 (min j 31) (by omega)
    simp only [camshaftref09_Ash.l0]
    rw [if_neg (by omega), show -((0 : Nat) : Int) = 0 from rfl, l1_end k _ _ hr.1 hr.2, Nat.add_zero]
  | succ n ih =>
    intro k j s hn hk h1 h2
    obtain ⟨k, rfl⟩ : ∃ m, k = m + 1 := ⟨k - 1, by omega⟩
    have hr := div_range s h1 h2 (min j 31) (by omega)
    rw [l0_step k n (by omega) _ _ hr.1 hr.2, half s h1 h2 j, ih k (j + 1) s (by omega) (by omega) h1 h2, show j + 1 + n = j + (n + 1) from by omega]

theorem l0_up (k : Nat) (n v : Int) (o : Bool) (h : 0 ≤ n) : camshaftref09_Ash.l0 (k + 1) n v o = camshaftref09_Ash.l1 k n v o := by
  simp only [camshaftref09_Ash.l0]
  rw [if_neg (by omega)]

theorem refAsh_is (c x : Nat) (hc : c < 256) (hx : x < 4294967296) : camshaftref09_Ash.f 300 (c : Int) (x : Int) = shift_Ash.f (c : Int) (x : Int) := by
  have hs := wrap32_range (x : Int)
  have e4 : ∀ t : Int, wrap32 t % 4294967296 = t % 4294967296 := fun t => by unfold wrap32; omega
  unfold camshaftref09_Ash.f
  rw [signed1 c hc, signed4 x hx, Option.bind_some, Option.bind_some]
  by_cases h : c < 128
  · rw [if_pos h, l0_up 299 _ _ _ (by omega)]
    have hself : (!(wrap32 (x : Int) == wrap32 (wrap32 (x : Int)))) = false := by
      rw [show wrap32 (wrap32 (x : Int)) = wrap32 (x : Int) from by unfold wrap32; omega, beq_self_eq_true]; rfl
    have hu := l1_up c 299 (wrap32 (x : Int)) (by omega) (by omega)
    rw [hself, show wrap32 (wrap32 (x : Int)) = wrap32 (x : Int) from by unfold wrap32; omega] at hu
    rw [hu]
    unfold endR
    rw [e4]
    by_cases h32 : c < 32
    · rw [ash_up c h32]
      unfold upR
      rw [show wrap32 (wrap32 (x : Int) * 2 ^ c % 4294967296) = wrap32 (wrap32 (x : Int) * 2 ^ c) from by unfold wrap32; omega]
    · rw [ash_far c (by omega) h]
      unfold farR
      have e2 : wrap32 (x : Int) * 2 ^ c = wrap32 (x : Int) * 2 ^ (c - 32) * 4294967296 := by
        rw [Int.mul_assoc, show (4294967296 : Int) = 2 ^ 32 from by decide, ← Int.pow_add, show c - 32 + 32 = c from by omega]
      have hp : (1 : Int) ≤ 2 ^ (c - 32) := by
        have := Nat.two_pow_pos (c - 32)
        rw [show (2 : Int) ^ (c - 32) = ((2 ^ (c - 32) : Nat) : Int) from by rw [Int.natCast_pow]; rfl]; omega
      have hz : (wrap32 (x : Int) * 2 ^ (c - 32) = 0) ↔ x = 0 := by
        rw [Int.mul_eq_zero]
        unfold wrap32
        omega
      rw [e2]
      generalize wrap32 (x : Int) * 2 ^ (c - 32) = q at *
      have hm : q * 4294967296 % 4294967296 = 0 := by omega
      have hw : wrap32 (q * 4294967296) = 0 := by unfold wrap32; omega
      rw [hm, hw]
      have hv : (!(q * 4294967296 == 0)) = ((x : Int) != 0) := by
        by_cases h0 : x = 0
        · have := hz.2 h0; subst this; subst h0; rfl
        · rw [beq_eq_false_iff_ne.mpr (show q * 4294967296 ≠ 0 by intro hh; exact h0 (hz.1 (by omega)))]
          exact (bne_iff_ne.mpr (show (x : Int) ≠ 0 by omega)).symm
      rw [hv]
      rfl
  · rw [if_neg h, show (c : Int) - 256 = -((256 - c : Nat) : Int) from by omega]
    have hd := l0_down (256 - c) 300 0 (wrap32 (x : Int)) (by omega) (by omega) hs.1 hs.2
    rw [show min 0 31 = 0 from rfl, Int.pow_zero, Int.ediv_one, Nat.zero_add] at hd
    rw [hd, ash_down c (by omega) hc]
    rfl

theorem rot_one (x : Nat) (hx : x < 4294967296) : ((((x : Int) * 2) % 4294967296) + ((Int.tdiv (x : Int) 2147483648) % 4294967296)) % 4294967296 = ((rotN x 1 : Nat) : Int) := by
  unfold rotN
  rw [show (2147483648 : Int) = ((2147483648 : Nat) : Int) from rfl, tdiv_nat, show 2 ^ 1 = 2 from rfl, show 2 ^ (32 - 1) = 2147483648 from rfl, nat_join 1 (x * 2 % 4294967296) (x / 2147483648) (by omega) (by omega)]
  omega

theorem refRot_l0 (b : Bool) (n : Nat) (hn : n < 32) (x : Nat) (hx : x < 4294967296) (d : Nat) : ∀ (k i : Nat), i + d = n → d < k →
    camshaftref09_Rot.l0 k ((rotN x i : Nat) : Int) b (n : Int) (i : Int) = some (rotR (rotN x n) b) := by
  induction d with
  | zero =>
    intro k i hi hk
    obtain ⟨k, rfl⟩ : ∃ m, k = m + 1 := ⟨k - 1, by omega⟩
    have hi2 : i = n := by omega
    subst hi2
    simp only [camshaftref09_Rot.l0]
    rw [if_neg (by omega), signs4 _ (rotN_lt x i hx), Option.bind_some]
    rfl
  | succ d ih =>
    intro k i hi hk
    obtain ⟨k, rfl⟩ : ∃ m, k = m + 1 := ⟨k - 1, by omega⟩
    simp only [camshaftref09_Rot.l0]
    rw [if_pos (by omega), wrap64_in (by omega) (by omega), show ((i : Int) + 1) = ((i + 1 : Nat) : Int) from by omega, rot_one _ (rotN_lt x i hx),
      rot_rot x i 1 hx (by omega) (by decide), show (i + 1) % 32 = i + 1 from by omega, ih k (i + 1) (by omega) (by omega)]

theorem refRot_is (c x : Nat) (hc : c < 256) (hx : x < 4294967296) (b : Bool) : camshaftref09_Rot.f 300 (c : Int) (x : Int) b = some (rotR (rotN x (c % 32)) b) := by
  unfold camshaftref09_Rot.f
  have h := refRot_l0 b (c % 32) (Nat.mod_lt _ (by decide)) x hx (c % 32) 300 0 (by omega) (by omega)
  rw [rot_zero x hx] at h
  rw [wrap64_in (by omega) (by omega), show (32 : Int) = ((32 : Nat) : Int) from rfl, tmod_nat]
  exact h

theorem ash_some (c x : Nat) (hc : c < 256) : ∃ r, shift_Ash.f (c : Int) (x : Int) = some r := by
  by_cases h1 : c < 32
  · exact ⟨_, ash_up c h1 _⟩
  · by_cases h2 : c < 128
    · exact ⟨_, ash_far c (by omega) h2 _⟩
    · exact ⟨_, ash_down c (by omega) hc _⟩

theorem ShiftShifts : camshaftlaw09_ShiftShifts.Pure := by
  intro a0 a1 a2 w0 w1
  obtain ⟨c, rfl, hc⟩ := u8_nat w0
  obtain ⟨x, rfl, hx⟩ := u32_nat w1
  refine ⟨300, ?_⟩
  obtain ⟨r, hr⟩ := ash_some c x hc
  unfold camshaftlaw09_ShiftShifts.f
  rw [alive_is, Option.bind_some, if_pos rfl, refAsh_is c x hc hx, hr, rot_is c x hc hx, refRot_is c x hc hx]
  simp

end Go.Proofs.Ytpjgklpppiongaa.Pure
