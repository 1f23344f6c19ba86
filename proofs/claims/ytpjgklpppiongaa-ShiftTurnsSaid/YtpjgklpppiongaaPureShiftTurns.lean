/- Two turns are one by both; a turn by 32 is none; no bit is lost: the pure statement behind ShiftTurns. No condition. -/
import Derived.Test.YtpjgklpppiongaaGShiftTurnsx3
import Derived.Test.YtpjgklpppiongaaAid
namespace Go.Proofs.Ytpjgklpppiongaa.Pure
open Go.RowKit Go.Proofs.Ytpjgklpppiongaa.Aid Go.Proofs.Ytpjgklpppiongaa.GShiftTurns Go.Proofs.YtpjgklpppiongaaW.PrintWords Go.Proofs.YtpjgklpppiongaaW.PrintLast

theorem wrap_i8 (n : Int) : IntKind.i8.wrap n = (n + 128) % 256 - 128 := by
  simp [IntKind.wrap, IntKind.bits, IntKind.signed]
  split <;> omega

/-- The count that a byte is. -/
theorem count_low (c : Nat) (h : c < 128) : wrap64 (IntKind.i8.wrap (c : Int)) = (c : Int) := by
  rw [wrap_i8]; unfold wrap64; omega
theorem count_high (c : Nat) (h : 128 ≤ c) (h2 : c < 256) : wrap64 (IntKind.i8.wrap (c : Int)) = (c : Int) - 256 := by
  rw [wrap_i8]; unfold wrap64; omega

theorem wrap32_range (x : Int) : -2147483648 ≤ wrap32 x ∧ wrap32 x ≤ 2147483647 := by unfold wrap32; omega
theorem wrap64_32 (x : Int) : wrap64 (wrap32 x) = wrap32 x := by have := wrap32_range x; exact wrap64_in (by omega) (by omega)

theorem pow_le31 (c : Nat) (h : c < 32) : 1 ≤ (2 : Int) ^ c ∧ (2 : Int) ^ c ≤ 2147483648 := by
  have h1 := Nat.two_pow_pos c
  have h2 : 2 ^ c ≤ 2 ^ 31 := Nat.pow_le_pow_right (by decide) (by omega)
  have e : (2 : Int) ^ c = ((2 ^ c : Nat) : Int) := by rw [Int.natCast_pow]; rfl
  rw [e]; omega

theorem mul_range (a p : Int) (ha : -2147483648 ≤ a) (hb : a ≤ 2147483647) (h1 : 1 ≤ p) (h2 : p ≤ 2147483648) : -4611686018427387904 ≤ a * p ∧ a * p ≤ 4611686018427387904 := by
  have e1 := Int.mul_le_mul_of_nonneg_right hb (show 0 ≤ p by omega)
  have e2 := Int.mul_le_mul_of_nonneg_right ha (show 0 ≤ p by omega)
  omega

/-- What a shift up comes to, out of the number that fits or not. -/
def upR (t : Int) : Int × Bool × Bool × Bool × Bool := (t % 4294967296, (t % 4294967296 / 2147483648) == 1, t % 4294967296 == 0, !(t == wrap32 (t % 4294967296)), false)
/-- What a shift down comes to. -/
def downR (q : Int) : Int × Bool × Bool × Bool × Bool := (q % 4294967296, (q % 4294967296 / 2147483648) == 1, q % 4294967296 == 0, false, false)
/-- What a shift up by 32 and more comes to. -/
def farR (x : Int) : Int × Bool × Bool × Bool × Bool := (0, false, true, x != 0, false)

theorem ash_up (c : Nat) (hc : c < 32) (x : Int) : shift_Ash.f (c : Int) x = some (upR (wrap32 x * 2 ^ c)) := by
  have hp := pow_le31 c hc
  have hx := wrap32_range x
  have hm := mul_range _ _ hx.1 hx.2 hp.1 hp.2
  have hs : shl .i64 (wrap32 x) (c : Int) = wrap32 x * 2 ^ c := by
    unfold shl
    rw [show min (c : Int).toNat (IntKind.bits .i64) = c from by rw [Int.toNat_natCast]; exact Nat.min_eq_left (by show c ≤ 64; omega), IntKind.wrap_i64]
    omega
  unfold shift_Ash.f shift_signs.f upR
  rw [count_low c (by omega), if_neg (by omega), if_pos (by omega), if_pos (by omega), wrap64_32, hs, wrap64_32]
  simp only [Option.bind_some]
  by_cases h : wrap32 x * 2 ^ c = wrap32 (wrap32 x * 2 ^ c % 4294967296)
  · rw [if_pos h, if_neg (by omega)]
    rw [← h]
    simp
  · rw [if_neg h]
    have : (wrap32 x * 2 ^ c == wrap32 (wrap32 x * 2 ^ c % 4294967296)) = false := beq_eq_false_iff_ne.mpr h
    rw [this]; rfl

theorem ash_far (c : Nat) (hc : 32 ≤ c) (hd : c < 128) (x : Int) : shift_Ash.f (c : Int) x = some (farR x) := by
  unfold shift_Ash.f shift_signs.f farR
  rw [count_low c hd, if_neg (by omega), if_neg (by omega)]
  simp only [Option.bind_some]
  rw [if_pos (by omega)]
  rfl

theorem ash_down (c : Nat) (hc : 128 ≤ c) (hd : c < 256) (x : Int) : shift_Ash.f (c : Int) x = some (downR (wrap32 x / 2 ^ (min (256 - c) 31))) := by
  have hm : (mn (wrap64 (-((c : Int) - 256))) 31).toNat = min (256 - c) 31 ∧ 0 ≤ mn (wrap64 (-((c : Int) - 256))) 31 := by
    rw [wrap64_in (by omega) (by omega)]; unfold mn; split <;> omega
  unfold shift_Ash.f shift_signs.f downR
  rw [count_high c hc hd, if_pos (by omega), if_pos hm.2, hm.1]
  rfl

theorem alive_is : camshaftlaw09_alive.f = some true := by
  unfold camshaftlaw09_alive.f
  have h := ash_up 1 (by decide) 1073741824
  rw [show ((1 : Nat) : Int) = 1 from rfl] at h
  rw [h]
  decide +kernel


/-- A number turned up by k < 32. -/
def rotN (x k : Nat) : Nat := x * 2 ^ k % 4294967296 ||| x / 2 ^ (32 - k)

theorem rotN_lt (x k : Nat) (hx : x < 4294967296) : rotN x k < 4294967296 := by
  unfold rotN
  have h1 : x / 2 ^ (32 - k) ≤ x := Nat.div_le_self _ _
  exact Nat.or_lt_two_pow (n := 32) (Nat.mod_lt _ (by decide)) (Nat.lt_of_le_of_lt h1 hx)

theorem high_bit (x i : Nat) (hx : x < 4294967296) (hi : 32 ≤ i) : x.testBit i = false :=
  Nat.testBit_lt_two_pow (Nat.lt_of_lt_of_le hx (Nat.pow_le_pow_right (n := 2) (by decide) hi))

theorem rotN_bit (x k i : Nat) (hx : x < 4294967296) (hk : k < 32) (hi : i < 32) : (rotN x k).testBit i = x.testBit ((i + 32 - k) % 32) := by
  unfold rotN
  rw [Nat.testBit_or, show 4294967296 = 2 ^ 32 from rfl, Nat.testBit_mod_two_pow, Nat.testBit_mul_two_pow, Nat.testBit_div_two_pow]
  by_cases h : k ≤ i
  · rw [high_bit x (i + (32 - k)) hx (by omega), show (i + 32 - k) % 32 = i - k from by omega]
    simp [h, hi]
  · rw [show (i + 32 - k) % 32 = i + (32 - k) from by omega]
    simp [h]

theorem rot_count (c : Nat) (hc : c < 256) : Go.bits .and .u64 (IntKind.u64.wrap (wrap64 (IntKind.i8.wrap (c : Int)))) 31 = ((c % 32 : Nat) : Int) := by
  have e : IntKind.u64.wrap (wrap64 (IntKind.i8.wrap (c : Int))) = ((if c < 128 then c else c + 18446744073709551360 : Nat) : Int) := by
    by_cases h : c < 128
    · rw [count_low c h, if_pos h, IntKind.wrap_u64]; omega
    · rw [count_high c (by omega) hc, if_neg h, IntKind.wrap_u64]; omega
  rw [e, show (31 : Int) = ((31 : Nat) : Int) from rfl, u64_and_nat _ 31 (by split <;> omega) (by decide), nat_mask5]
  split <;> omega

theorem rotate_is (x c : Nat) (hx : x < 4294967296) (hc : c < 256) : bits_RotateLeft32.f (x : Int) (wrap64 (IntKind.i8.wrap (c : Int))) = some ((rotN x (c % 32) : Nat) : Int) := by
  unfold bits_RotateLeft32.f rotN
  rw [rot_count c hc]
  have hk : c % 32 < 32 := Nat.mod_lt _ (by decide)
  generalize c % 32 = k at *
  have hsub : IntKind.u64.wrap (32 - ((k : Nat) : Int)) = ((32 - k : Nat) : Int) := by rw [IntKind.wrap_u64]; omega
  rw [hsub, if_pos (by omega), if_pos (by omega)]
  have e1 : shl .u32 (x : Int) ((k : Nat) : Int) = ((x * 2 ^ k % 4294967296 : Nat) : Int) := by
    unfold shl
    rw [Int.toNat_natCast, show min k (IntKind.bits .u32) = k from Nat.min_eq_left (by show k ≤ 32; omega), IntKind.wrap_u32, Int.natCast_emod, Int.natCast_mul, Int.natCast_pow]
    rfl
  have e2 : shr .u32 (x : Int) ((32 - k : Nat) : Int) = ((x / 2 ^ (32 - k) : Nat) : Int) := by
    unfold shr
    rw [Int.toNat_natCast, show min (32 - k) (IntKind.bits .u32) = 32 - k from Nat.min_eq_left (by show 32 - k ≤ 32; omega), Int.natCast_ediv, Int.natCast_pow]
    rfl
  have h1 : x / 2 ^ (32 - k) ≤ x := Nat.div_le_self _ _
  rw [e1, e2, u32_or_nat _ _ (Nat.mod_lt _ (by decide)) (by omega)]

/-- What a turn comes to. -/
def rotR (y : Nat) (c : Bool) : Int × Bool × Bool × Bool × Bool := ((y : Int), ((y : Int) / 2147483648) == 1, (y : Int) == 0, false, c)

theorem rot_is (c x : Nat) (hc : c < 256) (hx : x < 4294967296) (b : Bool) : shift_Rot.f (c : Int) (x : Int) b = some (rotR (rotN x (c % 32)) b) := by
  unfold shift_Rot.f shift_signs.f rotR
  rw [rotate_is x c hx hc]
  rfl

theorem rot_rot (x j k : Nat) (hx : x < 4294967296) (hj : j < 32) (hk : k < 32) : rotN (rotN x j) k = rotN x ((j + k) % 32) := by
  have h1 := rotN_lt x j hx
  refine eq_of_bits 32 _ _ (rotN_lt _ k h1) (rotN_lt x _ hx) fun i hi => ?_
  rw [rotN_bit _ k i h1 hk hi, rotN_bit x j _ hx hj (Nat.mod_lt _ (by decide)), rotN_bit x _ i hx (Nat.mod_lt _ (by decide)) hi]
  congr 1
  omega

theorem rot_zero (x : Nat) (hx : x < 4294967296) : rotN x 0 = x := by
  refine eq_of_bits 32 _ _ (rotN_lt x 0 hx) hx fun i hi => ?_
  rw [rotN_bit x 0 i hx (by decide) hi]
  congr 1
  omega

/-- How many of the n bits from bit s on, round about, are set. -/
def cnt (x s : Nat) : Nat → Int
  | 0 => 0
  | n + 1 => cnt x s n + (if x.testBit ((n + s) % 32) then 1 else 0)

theorem cnt_front (x s n : Nat) : cnt x s (n + 1) = (if x.testBit (s % 32) then 1 else 0) + cnt x (s + 1) n := by
  induction n with
  | zero => simp [cnt]
  | succ n ih =>
    rw [cnt, ih, cnt, show (n + 1 + s) % 32 = (n + (s + 1)) % 32 from by omega]
    omega

theorem cnt_turn (x s : Nat) : cnt x s 32 = cnt x 0 32 := by
  induction s with
  | zero => rfl
  | succ s ih =>
    have h := cnt_front x s 32
    rw [cnt, show (32 + s) % 32 = s % 32 from by omega] at h
    omega

theorem cnt_rot (x k n : Nat) (hx : x < 4294967296) (hk : k < 32) (hn : n ≤ 32) : cnt (rotN x k) 0 n = cnt x (32 - k) n := by
  induction n with
  | zero => rfl
  | succ n ih =>
    rw [cnt, cnt, ih (by omega), show (n + 0) % 32 = n from by omega, rotN_bit x k n hx hk (by omega), show (n + 32 - k) % 32 = (n + (32 - k)) % 32 from by omega]

theorem bit_at (x i : Nat) (hi : i < 32) : (Int.tmod (shr .u32 (x : Int) (IntKind.u64.wrap (i : Int))) 2 = 1) = (x.testBit i = true) := by
  have e : shr .u32 (x : Int) (IntKind.u64.wrap (i : Int)) = ((x / 2 ^ i : Nat) : Int) := by
    unfold shr
    rw [IntKind.wrap_u64, show ((i : Int) % 18446744073709551616) = (i : Int) from by omega, Int.toNat_natCast,
      show min i (IntKind.bits .u32) = i from Nat.min_eq_left (by show i ≤ 32; omega), Int.natCast_ediv, Int.natCast_pow]
    rfl
  rw [e, show (2 : Int) = ((2 : Nat) : Int) from rfl, tmod_nat, Nat.testBit_eq_decide_div_mod_eq, decide_eq_true_eq]
  apply propext
  constructor <;> intro h <;> omega

theorem turns_l0 (x y : Nat) (z : Int) (n1 n2 n3 : Bool) (hn : cnt x 0 32 = cnt y 0 32) (d : Nat) : ∀ (k i : Nat) (m : Int), i + d = 32 → d < k → m = cnt x 0 i - cnt y 0 i → -100 ≤ m → m ≤ 100 → -(32 - (d : Int)) ≤ m → m ≤ 32 - (d : Int) →
    camshaftlaw09_ShiftTurns.l0 k (x : Int) (y : Int) z z (y : Int) m (i : Int) n1 n2 n3 true = some (!n3) := by
  induction d with
  | zero =>
    intro k i m hi hk hm _ _ _ _
    obtain ⟨k, rfl⟩ : ∃ j, k = j + 1 := ⟨k - 1, by omega⟩
    simp only [camshaftlaw09_ShiftTurns.l0]
    have hi2 : i = 32 := by omega
    subst hi2
    rw [if_neg (by omega)]
    simp only [if_true]
    rw [if_pos (show m = 0 by omega)]
  | succ d ih =>
    intro k i m hi hk hm h1 h2 h3 h4
    obtain ⟨k, rfl⟩ : ∃ j, k = j + 1 := ⟨k - 1, by omega⟩
    simp only [camshaftlaw09_ShiftTurns.l0]
    have hw : (0 : Int) ≤ IntKind.u64.wrap (i : Int) := by rw [IntKind.wrap_u64]; omega
    have cx : cnt x 0 (i + 1) = cnt x 0 i + (if x.testBit i then 1 else 0) := by rw [cnt, show (i + 0) % 32 = i from by omega]
    have cy : cnt y 0 (i + 1) = cnt y 0 i + (if y.testBit i then 1 else 0) := by rw [cnt, show (i + 0) % 32 = i from by omega]
    rw [if_pos (by omega), if_pos hw]
    simp only [bit_at x i (by omega), bit_at y i (by omega)]
    rw [wrap64_in (n := (i : Int) + 1) (by omega) (by omega), show ((i : Int) + 1) = ((i + 1 : Nat) : Int) from by omega,
      wrap64_in (n := m + 1) (by omega) (by omega), wrap64_in (n := m + 1 - 1) (by omega) (by omega), wrap64_in (n := m - 1) (by omega) (by omega)]
    cases hx : x.testBit i <;> cases hy : y.testBit i <;> simp only [hx, hy, if_true, if_false, Bool.false_eq_true] at cx cy ⊢
    all_goals exact ih k (i + 1) _ (by omega) (by omega) (by omega) (by omega) (by omega) (by omega) (by omega)

theorem ShiftTurns : camshaftlaw09_ShiftTurns.Pure := by
  intro a0 a1 a2 w0 w1 w2
  obtain ⟨a, rfl, ha⟩ := u8_nat w0
  obtain ⟨b, rfl, hb⟩ := u8_nat w1
  obtain ⟨x, rfl, hx⟩ := u32_nat w2
  refine ⟨33, ?_⟩
  have hy := rotN_lt x (a % 32) hx
  unfold camshaftlaw09_ShiftTurns.f
  rw [alive_is, Option.bind_some, if_pos rfl, rot_is a x ha hx, Option.bind_some, show (rotR (rotN x (a % 32)) false).1 = ((rotN x (a % 32) : Nat) : Int) from rfl,
    rot_is b _ hb hy, Option.bind_some, show ((a : Int) + (b : Int)) % 256 = (((a + b) % 256 : Nat) : Int) from by omega, rot_is _ x (Nat.mod_lt _ (by decide)) hx, Option.bind_some,
    show ((a : Int) + 32) % 256 = (((a + 32) % 256 : Nat) : Int) from by omega, rot_is _ x (Nat.mod_lt _ (by decide)) hx, Option.bind_some,
    rot_rot x _ _ hx (Nat.mod_lt _ (by decide)) (Nat.mod_lt _ (by decide)), show (a + 32) % 256 % 32 = a % 32 from by omega, show (a % 32 + b % 32) % 32 = (a + b) % 256 % 32 from by omega]
  have hn : cnt x 0 32 = cnt (rotN x (a % 32)) 0 32 := by
    rw [cnt_rot x _ 32 hx (Nat.mod_lt _ (by decide)) (by decide), cnt_turn x (32 - a % 32)]
  exact turns_l0 x (rotN x (a % 32)) _ _ _ _ hn 32 33 0 0 (by decide) (by decide) (by simp [cnt]) (by decide) (by decide) (by decide) (by decide)

end Go.Proofs.Ytpjgklpppiongaa.Pure
