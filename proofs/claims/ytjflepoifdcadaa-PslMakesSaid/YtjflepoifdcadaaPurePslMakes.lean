/- Codes, With, At and Enter answer what the document says: the walks of PslMakes. No condition. -/
import Derived.Test.YtjflepoifdcadaaGPslMakesx2
import Derived.Test.YtjflepoifdcadaaAid
import Derived.Deep.RegionHeld3
import Derived.Lib.Hide
namespace Go.Proofs.Ytjflepoifdcadaa.Pure
open Go.RowKit Go.Proofs.Ytjflepoifdcadaa.Aid Go.Proofs.Ytjflepoifdcadaa.GPslMakes Go.Proofs.YtjflepoifdcadaaW.PrintWords Go.Proofs.YtjflepoifdcadaaW.PrintLast

/-- The level in a status. -/
def iplN (x : Nat) : Nat := x / 65536 % 32
/-- The bits that a status has not. -/
def restN (x : Nat) : Bool := (x &&& 4137746416 : Nat) != 0
def goodN (x : Nat) : Bool := !restN x && (!x.testBit 24 || (iplN x == 0 && x.testBit 22))

theorem alive_is : camshaftlaw06_alive.f = some true := by decide +kernel

theorem ipl_is (x : Nat) (h : x < 4294967296) : psl_Ipl.f (x : Int) = some ((iplN x : Nat) : Int) := by
  unfold psl_Ipl.f iplN
  rw [show (x : Int) / 65536 = ((x / 65536 : Nat) : Int) from by omega, show (31 : Int) = ((31 : Nat) : Int) from rfl,
    u32_and_nat _ 31 (by omega) (by decide), nat_mask5, wrap64_in (by omega) (by omega)]

theorem user_is (x : Nat) (h : x < 4294967296) : psl_IsUser.f (x : Int) = some (x.testBit 24) := by
  unfold psl_IsUser.f; rw [u32_flag 24 x 16777216 rfl (by decide) h]

theorem ipl_zero (x : Nat) : ((iplN x : Int) = 0) = (iplN x = 0) := by
  apply propext; constructor <;> intro h <;> omega

theorem good_is (x : Nat) (h : x < 4294967296) : psl_Good.f (x : Int) = some (goodN x) := by
  unfold psl_Good.f goodN restN
  rw [user_is x h, ipl_is x h, show (157220879 : Int) = ((157220879 : Nat) : Int) from rfl, u32_andNot_nat x _ h (by decide), u32_flag 22 x 4194304 rfl (by decide) h]
  simp only [Option.bind_some, Nat.reduceSub]
  generalize x &&& 4137746416 = r
  generalize x.testBit 24 = u
  generalize x.testBit 22 = b
  generalize iplN x = i
  rcases Nat.eq_zero_or_pos r with hr | hr
  · subst hr
    cases u
    · simp
    · rcases Nat.eq_zero_or_pos i with hi | hi
      · subst hi; simp
      · simp only [Int.natCast_eq_zero]
        have : i ≠ 0 := by omega
        simp [this]
  · have : r ≠ 0 := by omega
    simp [this]

theorem at_zero (a : Int) : psl_At.f 0 a = some (((a % 32).toNat * 65536 : Nat) : Int) := by
  have hp : Go.bits .and .i64 a 31 = (((a % 32).toNat : Nat) : Int) := by rw [i64_mask 5 (by decide) a 31 rfl]; omega
  have hq : (a % 32).toNat < 32 := by omega
  unfold psl_At.f
  rw [hp]
  generalize (a % 32).toNat = q at *
  have e0 : Go.bits .andNot .u32 0 2031616 = ((0 : Nat) : Int) := by
    have h := u32_andNot_nat 0 2031616 (by decide) (by decide)
    rw [Nat.zero_and] at h; exact h
  rw [e0, show (((q : Nat) : Int) % 4294967296 * 65536) % 4294967296 = ((q * 65536 : Nat) : Int) from by omega, u32_or_nat 0 _ (by decide) (by omega), Nat.zero_or]

/-- The status of a handler at a level, from the user or not. -/
def enterN (a : Nat) (u : Bool) : Nat := a * 65536 + (if u then 4194304 else 0)

theorem enter_is (x : Nat) (hx : x < 4294967296) (a : Int) : psl_Enter.f (x : Int) a = some ((enterN (a % 32).toNat (x.testBit 24) : Nat) : Int) := by
  have hq : (a % 32).toNat < 32 := by omega
  unfold psl_Enter.f enterN
  rw [at_zero, user_is x hx]
  generalize (a % 32).toNat = q at *
  rw [Option.bind_some, Option.bind_some]
  cases x.testBit 24
  · rw [if_neg (by decide), if_neg (by decide), Nat.add_zero]
  · rw [if_pos rfl, if_pos rfl, show (4194304 : Int) = ((4194304 : Nat) : Int) from rfl, u32_or_nat _ _ (by omega) (by decide), Nat.or_comm,
      nat_join 22 _ _ (by decide) (by omega), Nat.add_comm]

def enterChk (a : Nat) (u : Bool) : Bool :=
  decide (enterN a u < 4294967296) && ((enterN a u).testBit 24 == false) && ((enterN a u).testBit 22 == u) && (iplN (enterN a u) == a) && goodN (enterN a u) &&
    ((enterN a u).testBit 27 == false) && ((enterN a u).testBit 3 == false) && ((enterN a u).testBit 2 == false) && ((enterN a u).testBit 1 == false) && ((enterN a u).testBit 0 == false)

theorem enter_all : (List.range 32).all (fun a => enterChk a false && enterChk a true) = true := by decide +kernel

theorem enter_facts (a : Nat) (ha : a < 32) (u : Bool) : enterN a u < 4294967296 ∧ (enterN a u).testBit 24 = false ∧ (enterN a u).testBit 22 = u ∧ iplN (enterN a u) = a ∧ goodN (enterN a u) = true ∧
    (enterN a u).testBit 27 = false ∧ (enterN a u).testBit 3 = false ∧ (enterN a u).testBit 2 = false ∧ (enterN a u).testBit 1 = false ∧ (enterN a u).testBit 0 = false := by
  have h := List.all_eq_true.1 enter_all a (List.mem_range.2 ha)
  have hc : enterChk a u = true := by
    rw [Bool.and_eq_true] at h
    cases u
    · exact h.1
    · exact h.2
  unfold enterChk at hc
  simp only [Bool.and_eq_true, beq_iff_eq, decide_eq_true_eq] at hc
  obtain ⟨⟨⟨⟨⟨⟨⟨⟨⟨h1, h2⟩, h3⟩, h4⟩, h5⟩, h6⟩, h7⟩, h8⟩, h9⟩, h10⟩ := hc
  exact ⟨h1, h2, h3, h4, h5, h6, h7, h8, h9, h10⟩

/-- Four codes as a number. -/
def codesN (n z v c : Bool) : Nat := c.toNat + 2 * v.toNat + 4 * z.toNat + 8 * n.toNat

theorem codes_is : ∀ n z v c : Bool, psl_Codes.f 200 n z v c = some ((codesN n z v c : Nat) : Int) := by decide +kernel

theorem codes_lt (n z v c : Bool) : codesN n z v c < 16 := by cases n <;> cases z <;> cases v <;> cases c <;> decide

theorem mask_low : ∀ j, j < 32 → Nat.testBit 4294967280 j = decide (4 ≤ j) := by decide +kernel
theorem mask_ipl : ∀ j, j < 32 → Nat.testBit 4292935679 j = !(decide (16 ≤ j) && decide (j < 21)) := by decide +kernel

theorem and_low (x : Nat) (hx : x < 4294967296) : x &&& 4294967280 = x / 16 * 16 := by
  refine eq_of_bits 32 _ _ (Nat.lt_of_le_of_lt Nat.and_le_left hx) (by omega) fun i hi => ?_
  rw [Nat.testBit_and, mask_low i hi, show x / 16 * 16 = x / 2 ^ 4 * 2 ^ 4 from rfl, Nat.testBit_mul_two_pow, Nat.testBit_div_two_pow]
  by_cases h : 4 ≤ i
  · rw [show i - 4 + 4 = i from by omega, Bool.and_comm]
  · simp [h]

theorem and_ipl (x : Nat) (hx : x < 4294967296) : x &&& 4292935679 = x / 2097152 * 2097152 + x % 65536 := by
  refine eq_of_bits 32 _ _ (Nat.lt_of_le_of_lt Nat.and_le_left hx) (by omega) fun i hi => ?_
  rw [Nat.testBit_and, mask_ipl i hi, show x / 2097152 * 2097152 + x % 65536 = 2 ^ 21 * (x / 2 ^ 21) + x % 2 ^ 16 from by omega,
    Nat.testBit_two_pow_mul_add _ (show x % 2 ^ 16 < 2 ^ 21 by omega), Nat.testBit_mod_two_pow, Nat.testBit_div_two_pow]
  by_cases h1 : i < 16
  · simp [h1, show i < 21 by omega, show ¬ 16 ≤ i by omega]
  · by_cases h2 : i < 21
    · simp [h1, h2, show 16 ≤ i by omega]
    · rw [if_neg h2, show i - 21 + 21 = i from by omega]
      simp [h2]

def withN (x : Nat) (n z v c : Bool) : Nat := x / 16 * 16 + codesN n z v c
def atN (x l : Nat) : Nat := x / 2097152 * 2097152 + x % 65536 + l * 65536

theorem withN_lt (x : Nat) (hx : x < 4294967296) (n z v c : Bool) : withN x n z v c < 4294967296 := by
  have := codes_lt n z v c
  unfold withN; omega
theorem atN_lt (x l : Nat) (hx : x < 4294967296) (hl : l < 32) : atN x l < 4294967296 := by unfold atN; omega

theorem with_is (x : Nat) (hx : x < 4294967296) (n z v c : Bool) : psl_With.f 200 (x : Int) n z v c = some ((withN x n z v c : Nat) : Int) := by
  have hc := codes_lt n z v c
  unfold psl_With.f withN
  rw [codes_is, Option.bind_some, show (15 : Int) = ((15 : Nat) : Int) from rfl, u32_andNot_nat x 15 hx (by decide), show 4294967295 - 15 = 4294967280 from rfl, and_low x hx,
    u32_or_nat _ _ (by omega) (by omega), nat_join 4 _ _ (by omega) (by omega)]

theorem or_ipl (a b l : Nat) (hb : b < 65536) (hl : l < 32) : (a * 2097152 + b) ||| l * 65536 = a * 2097152 + b + l * 65536 := by
  rw [← nat_join 21 (a * 2097152) b (by omega) (by omega), Nat.or_assoc, Nat.or_comm b, nat_join 16 (l * 65536) b (by omega) (by omega), nat_join 21 (a * 2097152) _ (by omega) (by omega),
    nat_join 21 (a * 2097152) b (by omega) (by omega)]
  omega

theorem at_is (x : Nat) (hx : x < 4294967296) (l : Int) : psl_At.f (x : Int) l = some ((atN x (l % 32).toNat : Nat) : Int) := by
  have hp : Go.bits .and .i64 l 31 = (((l % 32).toNat : Nat) : Int) := by rw [i64_mask 5 (by decide) l 31 rfl]; omega
  have hq : (l % 32).toNat < 32 := by omega
  unfold psl_At.f atN
  rw [hp]
  generalize (l % 32).toNat = q at *
  rw [show (2031616 : Int) = ((2031616 : Nat) : Int) from rfl, u32_andNot_nat x 2031616 hx (by decide), show 4294967295 - 2031616 = 4292935679 from rfl, and_ipl x hx,
    show (((q : Nat) : Int) % 4294967296 * 65536) % 4294967296 = ((q * 65536 : Nat) : Int) from by omega, u32_or_nat _ _ (by omega) (by omega), or_ipl _ _ _ (by omega) hq]

theorem bit_toNat2 (x i : Nat) : (x.testBit i).toNat = x / 2 ^ i % 2 := by
  rw [Nat.testBit_eq_decide_div_mod_eq]
  have h : x / 2 ^ i % 2 = 0 ∨ x / 2 ^ i % 2 = 1 := by omega
  rcases h with h | h <;> rw [h] <;> rfl

theorem toNat_inj {a b : Bool} (h : a.toNat = b.toNat) : a = b := by cases a <;> cases b <;> first | rfl | exact absurd h (by decide)

theorem toNat_le1 (b : Bool) : b.toNat ≤ 1 := by cases b <;> decide

theorem bit_l0 (n : Nat) (hn : n ≤ 64) (d : Nat) : ∀ (k i x : Nat), i + d = n → x < 4294967296 → d < k →
    camshaftref03_Bit.l0 k (x : Int) (n : Int) (i : Int) = some (x.testBit d) := by
  induction d with
  | zero =>
    intro k i x hi hx hk
    obtain ⟨k, rfl⟩ : ∃ m, k = m + 1 := ⟨k - 1, by omega⟩
    simp only [camshaftref03_Bit.l0]
    rw [if_neg (by omega), show (2 : Int) = ((2 : Nat) : Int) from rfl, tmod_nat, Nat.testBit_eq_decide_div_mod_eq]
    have h : x % 2 = 0 ∨ x % 2 = 1 := by omega
    rcases h with h | h <;> simp [h]
  | succ d ih =>
    intro k i x hi hx hk
    obtain ⟨k, rfl⟩ : ∃ m, k = m + 1 := ⟨k - 1, by omega⟩
    simp only [camshaftref03_Bit.l0]
    rw [if_pos (by omega), show (2 : Int) = ((2 : Nat) : Int) from rfl, tdiv_nat, wrap64_in (by omega) (by omega),
      show (((x / 2 : Nat) : Int) % 4294967296) = ((x / 2 : Nat) : Int) from by omega, show ((i : Int) + 1) = ((i + 1 : Nat) : Int) from by omega,
      ih k (i + 1) (x / 2) (by omega) (by omega) (by omega), Nat.testBit_succ]

theorem bit_is (k n x : Nat) (hn : n ≤ 64) (hk : 64 < k) (hx : x < 4294967296) : camshaftref03_Bit.f k (x : Int) (n : Int) = some (x.testBit n) := by
  unfold camshaftref03_Bit.f
  exact bit_l0 n hn n k 0 x (by omega) hx (by omega)

/-- The bits that a status has, by number. -/
def knownB (i : Nat) : Bool := decide (i < 4) || (decide (16 ≤ i) && decide (i ≤ 20)) || decide (i = 22) || decide (i = 24) || decide (i = 27)

theorem of_step (k i x : Nat) (hi : i < 32) (hk : 64 < k) (hx : x < 4294967296) (n z v c : Bool) (p : Int) (w u f r : Bool) :
    camshaftref06_Of.l1 (k + 1) (x : Int) (i : Int) n z v c p w u f r = camshaftref06_Of.l1 k (x : Int) ((i + 1 : Nat) : Int) n z v c p w u f (r || (!knownB i && x.testBit i)) := by
  simp only [camshaftref06_Of.l1]
  rw [if_pos (by omega), wrap64_in (by omega) (by omega), show ((i : Int) + 1) = ((i + 1 : Nat) : Int) from by omega, bit_is k i x (by omega) hk hx]
  unfold knownB
  by_cases h4 : i < 4
  · rw [if_pos (by omega)]
    cases r <;> simp [h4]
  · rw [if_neg (by omega)]
    by_cases h16 : 16 ≤ i
    · rw [if_pos (by omega)]
      by_cases h20 : i ≤ 20
      · rw [if_pos (by omega)]
        cases r <;> simp [h4, h16, h20]
      · rw [if_neg (by omega)]
        by_cases h22 : i = 22
        · rw [if_pos (by omega)]
          cases r <;> simp [h22]
        · rw [if_neg (by omega)]
          by_cases h24 : i = 24
          · rw [if_pos (by omega)]
            cases r <;> simp [h24]
          · rw [if_neg (by omega)]
            by_cases h27 : i = 27
            · rw [if_pos (show (i : Int) = 27 by omega)]
              cases r <;> simp [h27]
            · rw [if_neg (show ¬ (i : Int) = 27 by omega)]
              cases r <;> simp [h4, h20, h22, h24, h27]
    · rw [if_neg (by omega)]
      by_cases h22 : i = 22
      · omega
      · rw [if_neg (by omega), if_neg (by omega)]
        cases r <;> simp [h4, h16, show ¬ i = 22 by omega, show ¬ i = 24 by omega, show ¬ i = 27 by omega, show ¬ (i : Int) = 27 by omega]

/-- What is set beyond the known bits, from bit 32 - d on. -/
def restD : Nat → Nat → Bool
  | 0, _ => false
  | d + 1, x => (!knownB (31 - d) && x.testBit (31 - d)) || restD d x

theorem of_l1 (x : Nat) (hx : x < 4294967296) (n z v c : Bool) (p : Int) (w u f : Bool) (d : Nat) : ∀ (k i : Nat) (r : Bool), i + d = 32 → 64 + d < k →
    camshaftref06_Of.l1 k (x : Int) (i : Int) n z v c p w u f r = some (n, z, v, c, p, w, u, f, r || restD d x) := by
  induction d with
  | zero =>
    intro k i r hi hk
    obtain ⟨k, rfl⟩ : ∃ m, k = m + 1 := ⟨k - 1, by omega⟩
    simp only [camshaftref06_Of.l1]
    rw [if_neg (by omega)]
    simp [restD]
  | succ d ih =>
    intro k i r hi hk
    obtain ⟨k, rfl⟩ : ∃ m, k = m + 1 := ⟨k - 1, by omega⟩
    rw [of_step k i x (by omega) (by omega) hx, ih k (i + 1) _ (by omega) (by omega), restD, show 31 - d = i from by omega, Bool.or_assoc]

theorem restD_any (x : Nat) (d : Nat) (hd : d ≤ 32) : restD d x = true ↔ ∃ j, 32 - d ≤ j ∧ j < 32 ∧ knownB j = false ∧ x.testBit j = true := by
  induction d with
  | zero => simp [restD]; omega
  | succ d ih =>
    rw [restD, Bool.or_eq_true, ih (by omega)]
    constructor
    · rintro (h | ⟨j, h1, h2, h3, h4⟩)
      · simp only [Bool.and_eq_true, Bool.not_eq_true'] at h
        exact ⟨31 - d, by omega, by omega, h.1, h.2⟩
      · exact ⟨j, by omega, h2, h3, h4⟩
    · rintro ⟨j, h1, h2, h3, h4⟩
      by_cases e : j = 31 - d
      · subst e; left; simp [h3, h4]
      · right; exact ⟨j, by omega, h2, h3, h4⟩

theorem mask_bits : ∀ j, j < 32 → Nat.testBit 4137746416 j = !knownB j := by decide +kernel

theorem rest_is (x : Nat) (hx : x < 4294967296) : restD 32 x = restN x := by
  rw [Bool.eq_iff_iff, restD_any x 32 (by decide)]
  unfold restN
  constructor
  · rintro ⟨j, _, h2, h3, h4⟩
    have hb : (x &&& 4137746416 : Nat).testBit j = true := by rw [Nat.testBit_and, h4, mask_bits j h2, h3]; rfl
    rw [bne_iff_ne]
    intro h0
    rw [h0, Nat.zero_testBit] at hb
    exact Bool.noConfusion hb
  · intro h
    rw [bne_iff_ne] at h
    obtain ⟨j, hj⟩ := Nat.exists_testBit_of_ne_zero h
    rw [Nat.testBit_and, Bool.and_eq_true] at hj
    have hl : j < 32 := by
      apply Classical.byContradiction
      intro hn
      have := Nat.testBit_lt_two_pow (x := x) (i := j) (Nat.lt_of_lt_of_le hx (Nat.pow_le_pow_right (n := 2) (by decide) (show 32 ≤ j by omega)))
      rw [this] at hj
      exact Bool.noConfusion hj.1
    refine ⟨j, by omega, hl, ?_, hj.1⟩
    have := mask_bits j hl
    rw [hj.2] at this
    cases hk : knownB j
    · rfl
    · rw [hk] at this; exact Bool.noConfusion this

theorem of_ipl (k i x wt pt : Nat) (hi : i < 21) (hk : 64 < k) (hx : x < 4294967296) (hw : wt ≤ 65536) (hp : pt ≤ 65536) (n z v c : Bool) (w u f r : Bool) :
    camshaftref06_Of.l0 (k + 1) (x : Int) (wt : Int) (i : Int) n z v c (pt : Int) w u f r = camshaftref06_Of.l0 k (x : Int) ((2 * wt : Nat) : Int) ((i + 1 : Nat) : Int) n z v c ((pt + (x.testBit i).toNat * wt : Nat) : Int) w u f r := by
  simp only [camshaftref06_Of.l0]
  rw [if_pos (by omega), wrap64_in (n := 2 * (wt : Int)) (by omega) (by omega), wrap64_in (n := (i : Int) + 1) (by omega) (by omega), wrap64_in (n := (pt : Int) + wt) (by omega) (by omega),
    show ((i : Int) + 1) = ((i + 1 : Nat) : Int) from by omega, show (2 * (wt : Int)) = ((2 * wt : Nat) : Int) from by omega, bit_is k i x (by omega) hk hx, Option.bind_some]
  cases x.testBit i
  · rw [if_neg (by decide), show Bool.toNat false = 0 from rfl, Nat.zero_mul, show pt + 0 = pt from rfl]
  · rw [if_pos rfl, show Bool.toNat true = 1 from rfl, Nat.one_mul, show (pt : Int) + wt = ((pt + wt : Nat) : Int) from by omega]

theorem bit_toNat (x i : Nat) : (x.testBit i).toNat = x / 2 ^ i % 2 := by
  rw [Nat.testBit_eq_decide_div_mod_eq]
  have h : x / 2 ^ i % 2 = 0 ∨ x / 2 ^ i % 2 = 1 := by omega
  rcases h with h | h <;> rw [h] <;> rfl

theorem ipl_bits (x : Nat) : 0 + (x.testBit 16).toNat * 1 + (x.testBit 17).toNat * (2 * 1) + (x.testBit 18).toNat * (2 * (2 * 1)) + (x.testBit 19).toNat * (2 * (2 * (2 * 1))) + (x.testBit 20).toNat * (2 * (2 * (2 * (2 * 1)))) = iplN x := by
  unfold iplN
  rw [bit_toNat, bit_toNat, bit_toNat, bit_toNat, bit_toNat]
  omega

theorem toNat_one (b : Bool) : b.toNat ≤ 1 := by cases b <;> decide

theorem of_is (k x : Nat) (hk : 110 < k) (hx : x < 4294967296) :
    camshaftref06_Of.f k (x : Int) = some (x.testBit 3, x.testBit 2, x.testBit 1, x.testBit 0, ((iplN x : Nat) : Int), x.testBit 22, x.testBit 24, x.testBit 27, restN x) := by
  unfold camshaftref06_Of.f
  rw [show (0 : Int) = ((0 : Nat) : Int) from rfl, show (1 : Int) = ((1 : Nat) : Int) from rfl, show (2 : Int) = ((2 : Nat) : Int) from rfl, show (3 : Int) = ((3 : Nat) : Int) from rfl,
    show (22 : Int) = ((22 : Nat) : Int) from rfl, show (24 : Int) = ((24 : Nat) : Int) from rfl, show (27 : Int) = ((27 : Nat) : Int) from rfl, show (16 : Int) = ((16 : Nat) : Int) from rfl,
    bit_is k 0 x (by decide) (by omega) hx, bit_is k 1 x (by decide) (by omega) hx, bit_is k 2 x (by decide) (by omega) hx, bit_is k 3 x (by decide) (by omega) hx,
    bit_is k 22 x (by decide) (by omega) hx, bit_is k 24 x (by decide) (by omega) hx, bit_is k 27 x (by decide) (by omega) hx]
  simp only [Option.bind_some]
  obtain ⟨k, rfl⟩ : ∃ m, k = m + 1 + 1 + 1 + 1 + 1 + 1 := ⟨k - 6, by omega⟩
  have t16 := toNat_one (x.testBit 16)
  have t17 := toNat_one (x.testBit 17)
  have t18 := toNat_one (x.testBit 18)
  have t19 := toNat_one (x.testBit 19)
  rw [of_ipl _ 16 x 1 0 (by decide) (by omega) hx (by decide) (by decide), of_ipl _ 17 x _ _ (by decide) (by omega) hx (by decide) (by omega), of_ipl _ 18 x _ _ (by decide) (by omega) hx (by decide) (by omega),
    of_ipl _ 19 x _ _ (by decide) (by omega) hx (by decide) (by omega), of_ipl _ 20 x _ _ (by decide) (by omega) hx (by decide) (by omega), ipl_bits x]
  simp only [camshaftref06_Of.l0]
  rw [if_neg (by omega), show (0 : Int) = ((0 : Nat) : Int) from rfl, of_l1 x hx _ _ _ _ _ _ _ _ 32 k 0 false (by decide) (by omega), rest_is x hx, Bool.false_or]

theorem of_call (x : Nat) (hx : x < 4294967296) (W : World) : Calls Try.prog 23 #[.int .u32 (x : Int)] W fun e w' => e = .returned (.agg #[.bool (x.testBit 3), .bool (x.testBit 2), .bool (x.testBit 1), .bool (x.testBit 0), .int .i64 ((iplN x : Nat) : Int), .bool (x.testBit 22), .bool (x.testBit 24), .bool (x.testBit 27), .bool (restN x)]) ∧ Below W.heap.size W w' :=
  camshaftref06_Of.calls 200 (x : Int) _ _ _ _ _ _ _ _ _ W (of_is 200 x (by decide) hx)

theorem field_ipl (v0 v1 v2 v3 v4 v5 v6 v7 v8 : Value) (W : World) : Sem.run Try.prog (Instr.field 34 (.agg #[v0, v1, v2, v3, v4, v5, v6, v7, v8]) 1) W = .ok v4 W := by kernel_rfl
theorem field_user (v0 v1 v2 v3 v4 v5 v6 v7 v8 : Value) (W : World) : Sem.run Try.prog (Instr.field 34 (.agg #[v0, v1, v2, v3, v4, v5, v6, v7, v8]) 3) W = .ok v6 W := by kernel_rfl

theorem tmod32 (p : Int) : Int.tmod p 32 = p % 32 ∨ Int.tmod p 32 = p % 32 - 32 := by
  rcases Int.lt_or_le p 0 with h | h
  · have e : Int.tmod p 32 = -((-p) % 32) := by rw [← Int.tmod_eq_emod_of_nonneg (a := -p) (by omega), Int.neg_tmod, Int.neg_neg]
    omega
  · left; exact Int.tmod_eq_emod_of_nonneg h

theorem level_is (L : Int) : Int.tmod (wrap64 (Int.tmod L 32 + 32)) 32 = (((L % 32).toNat : Nat) : Int) := by
  have h := tmod32 L
  rw [wrap64_in (by omega) (by omega), Int.tmod_eq_emod_of_nonneg (by omega)]
  omega

theorem ret_u32 {a b : Int} (h : a = b) : Ending.returned (.int .u32 a) = .returned (.int .u32 b) := by rw [h]

theorem refAt_call (x : Nat) (hx : x < 4294967296) (L : Int) (W : World) : Calls Try.prog 38 #[.int .u32 (x : Int), .int .i64 L] W fun e w' => e = .returned (.int .u32 ((atN x (L % 32).toNat : Nat) : Int)) ∧ Below W.heap.size W w' := by
  have hl : (L % 32).toNat < 32 := by omega
  have hL := level_is L
  have C := Lib.hid (of_call x hx)
  generalize x.testBit 3 = q3 at C
  generalize x.testBit 2 = q2 at C
  generalize x.testBit 1 = q1 at C
  generalize x.testBit 0 = q0 at C
  have hi : iplN x < 32 := by unfold iplN; omega
  have hat : atN x (L % 32).toNat = x - iplN x * 65536 + (L % 32).toNat * 65536 := by unfold atN iplN; omega
  have hat2 : iplN x * 65536 ≤ x := by unfold iplN; omega
  have hff := field_ipl
  have hlt := atN_lt x (L % 32).toNat hx hl
  rw [hat] at hlt
  rw [hat]
  clear hat
  generalize (L % 32).toNat = l at *
  generalize iplN x = p at *
  have H := Lib.hid hat2
  clear hat2
  have H3 := Lib.hid hlt
  clear hlt
  go_enter Try.func38, Try.ntmps38
  go_wp2_with (first | (go_at_call 23; ((with_reducible refine (C.out _).mono ?_); rintro e w' ⟨rfl, hb⟩)))
  go_ret
  have h2 := H.out
  have h3 := H3.out
  exact ⟨ret_u32 (by omega), hb⟩

theorem bit_zero : ∀ b : Bool, camshaftref06_bit.f 200 false 24 = some 0 ∧ camshaftref06_bit.f 200 false 27 = some 0 ∧ camshaftref06_bit.f 200 b 22 = some (if b then 4194304 else 0) := by decide +kernel
theorem refCodes_is : ∀ n z v c : Bool, camshaftref06_Codes.f 200 n z v c = some ((codesN n z v c : Nat) : Int) := by decide +kernel

/-- A world in which the status that came in lies in block B. -/
structure Nx (w : World) (B : Nat) (u : Bool) (W : World) : Prop where
  below : Below w.heap.size w W
  blk : W.heap[B]? = some (.cells #[.bool false, .bool false, .bool false, .bool false, .int .i64 0, .bool u, .bool false, .bool false, .bool false] 34 (0, 0))
  ge : w.heap.size ≤ B
theorem Nx.drewN {w W : World} {B : Nat} {u : Bool} (h : Nx w B u W) (k : Nat) : Nx w B u (W.drewN k) := ⟨pw_below_drewN h.below k, h.blk, h.ge⟩
theorem Nx.drew {w W : World} {B : Nat} {u : Bool} (h : Nx w B u W) : Nx w B u W.drew := ⟨h.below.drew, h.blk, h.ge⟩
theorem Nx.then {w W W' : World} {B : Nat} {u : Bool} (h : Nx w B u W) (k : Below W.heap.size W W') : Nx w B u W' :=
  ⟨below_then h.below h.below.size k, (k.block B (Array.getElem?_eq_some_iff.1 h.blk).1).trans h.blk, h.ge⟩
theorem nx_start (w : World) (u : Bool) : Nx w w.heap.size u (w.alloc (.cells #[.bool false, .bool false, .bool false, .bool false, .int .i64 0, .bool u, .bool false, .bool false, .bool false] 34)) :=
  ⟨(Below.refl _ _).alloc (Nat.le_refl _) _, heap_alloc_new w _, Nat.le_refl _⟩
theorem nx_all {w W : World} {B : Nat} {u : Bool} (h : Nx w B u W) : W.cell? ⟨B, 0, none⟩ = some (.bool false) ∧ W.cell? ⟨B, 1, none⟩ = some (.bool false) ∧ W.cell? ⟨B, 2, none⟩ = some (.bool false) ∧ W.cell? ⟨B, 3, none⟩ = some (.bool false) ∧
    W.cell? ⟨B, 4, none⟩ = some (.int .i64 0) ∧ W.cell? ⟨B, 5, none⟩ = some (.bool u) ∧ W.cell? ⟨B, 6, none⟩ = some (.bool false) ∧ W.cell? ⟨B, 7, none⟩ = some (.bool false) ∧ Nx w B u W :=
  ⟨(blk_cell h.blk 0).trans rfl, (blk_cell h.blk 1).trans rfl, (blk_cell h.blk 2).trans rfl, (blk_cell h.blk 3).trans rfl, (blk_cell h.blk 4).trans rfl, (blk_cell h.blk 5).trans rfl, (blk_cell h.blk 6).trans rfl, (blk_cell h.blk 7).trans rfl, h⟩

theorem refCodes_nx {w : World} {B : Nat} {u : Bool} (W : World) (h : Nx w B u W) : Calls Try.prog 34 #[.agg #[.bool false, .bool false, .bool false, .bool false]] W fun e w' => e = .returned (.int .u32 0) ∧ Nx w B u w' :=
  (camshaftref06_Codes.calls 200 false false false false _ W (refCodes_is false false false false)).mono fun _ _ ⟨e, b⟩ => ⟨e, h.then b⟩
theorem bit24_nx {w : World} {B : Nat} {u : Bool} (W : World) (h : Nx w B u W) : Calls Try.prog 47 #[.bool false, .int .i64 24] W fun e w' => e = .returned (.int .u32 0) ∧ Nx w B u w' :=
  (camshaftref06_bit.calls 200 false 24 _ W (bit_zero true).1).mono fun _ _ ⟨e, b⟩ => ⟨e, h.then b.below⟩
theorem bit27_nx {w : World} {B : Nat} {u : Bool} (W : World) (h : Nx w B u W) : Calls Try.prog 47 #[.bool false, .int .i64 27] W fun e w' => e = .returned (.int .u32 0) ∧ Nx w B u w' :=
  (camshaftref06_bit.calls 200 false 27 _ W (bit_zero true).2.1).mono fun _ _ ⟨e, b⟩ => ⟨e, h.then b.below⟩
theorem bit22_nx {w : World} {B : Nat} {u : Bool} (W : World) (h : Nx w B u W) : Calls Try.prog 47 #[.bool u, .int .i64 22] W fun e w' => e = .returned (.int .u32 ((enterN 0 u : Nat) : Int)) ∧ Nx w B u w' := by
  have e : camshaftref06_bit.f 200 u 22 = some ((enterN 0 u : Nat) : Int) := by rw [(bit_zero u).2.2]; cases u <;> rfl
  exact (camshaftref06_bit.calls 200 u 22 _ W e).mono fun _ _ ⟨e, b⟩ => ⟨e, h.then b.below⟩

/-- The number of a status of the user's, and of nothing else. -/
theorem number_call (u : Bool) (w : World) : Calls Try.prog 48 #[.agg #[.bool false, .bool false, .bool false, .bool false, .int .i64 0, .bool u, .bool false, .bool false, .bool false]] w fun e w' => e = .returned (.int .u32 ((enterN 0 u : Nat) : Int)) ∧ Below w.heap.size w w' := by
  have hr : 0 ≤ ((enterN 0 u : Nat) : Int) ∧ ((enterN 0 u : Nat) : Int) < 4294967296 := by unfold enterN; cases u <;> decide
  have C := Lib.hid (fun W (h : Nx w w.heap.size u W) => bit22_nx W h)
  generalize ((enterN 0 u : Nat) : Int) = r at *
  obtain ⟨r0, r1⟩ := hr
  go_enter Try.func48, Try.ntmps48
  go_wp2_with fail
  have hS := nx_all (nx_start w u)
  go_region_held3 (fun W => W.cell? ⟨w.heap.size, 0, none⟩ = some (.bool false) ∧ W.cell? ⟨w.heap.size, 1, none⟩ = some (.bool false) ∧ W.cell? ⟨w.heap.size, 2, none⟩ = some (.bool false) ∧ W.cell? ⟨w.heap.size, 3, none⟩ = some (.bool false) ∧
      W.cell? ⟨w.heap.size, 4, none⟩ = some (.int .i64 0) ∧ W.cell? ⟨w.heap.size, 5, none⟩ = some (.bool u) ∧ W.cell? ⟨w.heap.size, 6, none⟩ = some (.bool false) ∧ W.cell? ⟨w.heap.size, 7, none⟩ = some (.bool false) ∧ Nx w w.heap.size u W)
    (first | exact nx_all (by assumption) | exact nx_all (Nx.drew (nx_start w u)) | exact nx_all (Nx.drew (by assumption)))
    (first
    | (go_at_call 34; ((with_reducible refine (refCodes_nx _ (by obtain ⟨_, _, _, _, _, _, _, _, h_⟩ := ‹_ ∧ _›; exact h_)).mono ?_); rintro e w' ⟨rfl, hB1⟩))
    | (go_at_call 47; ((with_reducible refine (bit24_nx _ (by obtain ⟨_, _, _, _, _, _, _, _, h_⟩ := ‹_ ∧ _›; exact h_)).mono ?_); rintro e w' ⟨rfl, hB1⟩))
    | (go_at_call 47; ((with_reducible refine (bit27_nx _ (by obtain ⟨_, _, _, _, _, _, _, _, h_⟩ := ‹_ ∧ _›; exact h_)).mono ?_); rintro e w' ⟨rfl, hB1⟩))
    | (go_at_call 47; ((with_reducible refine (C.out _ (by obtain ⟨_, _, _, _, _, _, _, _, h_⟩ := ‹_ ∧ _›; exact h_)).mono ?_); rintro e w' ⟨rfl, hB1⟩)))
  have hB : Nx w w.heap.size u _ := (‹_ ∧ _ ∧ _ ∧ _ ∧ _ ∧ _ ∧ _ ∧ _ ∧ Nx w w.heap.size u _›).2.2.2.2.2.2.2.2
  have hbel := hB.below
  go_wp2
  go_ret
  refine ⟨?_, hbel⟩
  show Ending.returned (Value.int .u32 (IntKind.u32.wrap (IntKind.u32.wrap (IntKind.u32.wrap (IntKind.u32.wrap (IntKind.u32.wrap (IntKind.u32.wrap 0 * 65536)) + r))))) = _
  exact ret_u32 (by simp only [IntKind.wrap_u32]; omega)

theorem atN_enter (u : Bool) (l : Nat) : atN (enterN 0 u) l = enterN l u ∧ enterN 0 u < 4294967296 := by
  unfold atN enterN
  cases u
  · simp only [Bool.false_eq_true, if_false]; omega
  · simp only [if_true]; omega

theorem refEnter_call (x : Nat) (hx : x < 4294967296) (L : Int) (W : World) : Calls Try.prog 39 #[.int .u32 (x : Int), .int .i64 L] W fun e w' => e = .returned (.int .u32 ((enterN (L % 32).toNat (x.testBit 24) : Nat) : Int)) ∧ Below W.heap.size W w' := by
  have C := Lib.hid (of_call x hx)
  generalize x.testBit 3 = q3 at C
  generalize x.testBit 2 = q2 at C
  generalize x.testBit 1 = q1 at C
  generalize x.testBit 0 = q0 at C
  generalize x.testBit 24 = q at *
  obtain ⟨e1, e2⟩ := atN_enter q (L % 32).toNat
  have D := Lib.hid (refAt_call (enterN 0 q) e2 L)
  rw [e1] at D
  clear e1 e2
  have hff := field_user
  go_enter Try.func39, Try.ntmps39
  go_wp2_with (first | (go_at_call 23; ((with_reducible refine (C.out _).mono ?_); rintro e w' ⟨rfl, hb1⟩)) | (go_at_call 48; ((with_reducible refine (number_call _ _).mono ?_); rintro e w' ⟨rfl, hb2⟩)) | (go_at_call 38; ((with_reducible refine (D.out _).mono ?_); rintro e w' ⟨rfl, hb3⟩)))
  go_ret
  exact ⟨rfl, below_then (below_then hb1 hb1.size hb2) (Nat.le_trans hb1.size hb2.size) hb3⟩

/-- A world of the call: below w it is as w was, and the codes that came in lie in block B. -/
structure Bx (w : World) (B : Nat) (n z v c : Bool) (W : World) : Prop where
  below : Below w.heap.size w W
  blk : W.heap[B]? = some (.cells #[.bool n, .bool z, .bool v, .bool c] 32 (0, 0))
  ge : w.heap.size ≤ B
theorem Bx.drewN {w W : World} {B : Nat} {n z v c : Bool} (h : Bx w B n z v c W) (k : Nat) : Bx w B n z v c (W.drewN k) := ⟨pw_below_drewN h.below k, h.blk, h.ge⟩
theorem Bx.drew {w W : World} {B : Nat} {n z v c : Bool} (h : Bx w B n z v c W) : Bx w B n z v c W.drew := ⟨h.below.drew, h.blk, h.ge⟩
theorem Bx.then {w W W' : World} {B : Nat} {n z v c : Bool} (h : Bx w B n z v c W) (k : Below W.heap.size W W') : Bx w B n z v c W' :=
  ⟨below_then h.below h.below.size k, (k.block B (Array.getElem?_eq_some_iff.1 h.blk).1).trans h.blk, h.ge⟩
theorem Bx.cells {w W : World} {B : Nat} {n z v c : Bool} (h : Bx w B n z v c W) : W.cell? ⟨B, 0, none⟩ = some (.bool n) ∧ W.cell? ⟨B, 1, none⟩ = some (.bool z) ∧ W.cell? ⟨B, 2, none⟩ = some (.bool v) ∧ W.cell? ⟨B, 3, none⟩ = some (.bool c) :=
  ⟨(blk_cell h.blk 0).trans rfl, (blk_cell h.blk 1).trans rfl, (blk_cell h.blk 2).trans rfl, (blk_cell h.blk 3).trans rfl⟩

theorem bx_start (w : World) (n z v c : Bool) : Bx w w.heap.size n z v c (w.alloc (.cells #[.bool n, .bool z, .bool v, .bool c] 32)) :=
  ⟨(Below.refl _ _).alloc (Nat.le_refl _) _, heap_alloc_new w _, Nat.le_refl _⟩

theorem bx_all {w W : World} {B : Nat} {n z v c : Bool} (h : Bx w B n z v c W) : W.cell? ⟨B, 0, none⟩ = some (.bool n) ∧ W.cell? ⟨B, 1, none⟩ = some (.bool z) ∧ W.cell? ⟨B, 2, none⟩ = some (.bool v) ∧ W.cell? ⟨B, 3, none⟩ = some (.bool c) ∧ Bx w B n z v c W :=
  ⟨h.cells.1, h.cells.2.1, h.cells.2.2.1, h.cells.2.2.2, h⟩

theorem refWith_is (x : Nat) (hx : x < 4294967296) (n z v c : Bool) : camshaftref06_With.f 200 (x : Int) n z v c = some ((withN x n z v c : Nat) : Int) := by
  have hc := codes_lt n z v c
  unfold camshaftref06_With.f withN
  rw [refCodes_is, Option.bind_some, show (16 : Int) = ((16 : Nat) : Int) from rfl, tmod_nat]
  exact congrArg some (by omega)

section
variable {w : World} {B : Nat} {n z v c : Bool}
theorem codes_bx (W : World) (h : Bx w B n z v c W) : Calls Try.prog 33 #[.agg #[.bool n, .bool z, .bool v, .bool c]] W fun e w' => e = .returned (.int .u32 ((codesN n z v c : Nat) : Int)) ∧ Bx w B n z v c w' :=
  (psl_Codes.calls 200 _ _ _ _ _ W (codes_is n z v c)).mono fun _ _ ⟨e, b⟩ => ⟨e, h.then b⟩
theorem refCodes_bx (W : World) (h : Bx w B n z v c W) : Calls Try.prog 34 #[.agg #[.bool n, .bool z, .bool v, .bool c]] W fun e w' => e = .returned (.int .u32 ((codesN n z v c : Nat) : Int)) ∧ Bx w B n z v c w' :=
  (camshaftref06_Codes.calls 200 _ _ _ _ _ W (refCodes_is n z v c)).mono fun _ _ ⟨e, b⟩ => ⟨e, h.then b⟩
theorem with_bx (x : Nat) (hx : x < 4294967296) (W : World) (h : Bx w B n z v c W) : Calls Try.prog 35 #[.int .u32 (x : Int), .agg #[.bool n, .bool z, .bool v, .bool c]] W fun e w' => e = .returned (.int .u32 ((withN x n z v c : Nat) : Int)) ∧ Bx w B n z v c w' :=
  (psl_With.calls 200 (x : Int) _ _ _ _ _ W (with_is x hx n z v c)).mono fun _ _ ⟨e, b⟩ => ⟨e, h.then b⟩
theorem refWith_bx (x : Nat) (hx : x < 4294967296) (W : World) (h : Bx w B n z v c W) : Calls Try.prog 36 #[.int .u32 (x : Int), .agg #[.bool n, .bool z, .bool v, .bool c]] W fun e w' => e = .returned (.int .u32 ((withN x n z v c : Nat) : Int)) ∧ Bx w B n z v c w' :=
  (camshaftref06_With.calls 200 (x : Int) _ _ _ _ _ W (refWith_is x hx n z v c)).mono fun _ _ ⟨e, b⟩ => ⟨e, h.then b⟩
theorem at_bx (x : Nat) (hx : x < 4294967296) (L : Int) (W : World) (h : Bx w B n z v c W) : Calls Try.prog 37 #[.int .u32 (x : Int), .int .i64 L] W fun e w' => e = .returned (.int .u32 ((atN x (L % 32).toNat : Nat) : Int)) ∧ Bx w B n z v c w' :=
  (psl_At.calls (x : Int) L _ W (at_is x hx L)).mono fun _ _ ⟨e, b⟩ => ⟨e, h.then b.below⟩
theorem refAt_bx (x : Nat) (hx : x < 4294967296) (L : Int) (W : World) (h : Bx w B n z v c W) : Calls Try.prog 38 #[.int .u32 (x : Int), .int .i64 L] W fun e w' => e = .returned (.int .u32 ((atN x (L % 32).toNat : Nat) : Int)) ∧ Bx w B n z v c w' :=
  (refAt_call x hx L W).mono fun _ _ ⟨e, b⟩ => ⟨e, h.then b⟩
theorem enter_bx (x : Nat) (hx : x < 4294967296) (L : Int) (W : World) (h : Bx w B n z v c W) : Calls Try.prog 31 #[.int .u32 (x : Int), .int .i64 L] W fun e w' => e = .returned (.int .u32 ((enterN (L % 32).toNat (x.testBit 24) : Nat) : Int)) ∧ Bx w B n z v c w' :=
  (psl_Enter.calls (x : Int) L _ W (enter_is x hx L)).mono fun _ _ ⟨e, b⟩ => ⟨e, h.then b.below⟩
theorem refEnter_bx (x : Nat) (hx : x < 4294967296) (L : Int) (W : World) (h : Bx w B n z v c W) : Calls Try.prog 39 #[.int .u32 (x : Int), .int .i64 L] W fun e w' => e = .returned (.int .u32 ((enterN (L % 32).toNat (x.testBit 24) : Nat) : Int)) ∧ Bx w B n z v c w' :=
  (refEnter_call x hx L W).mono fun _ _ ⟨e, b⟩ => ⟨e, h.then b⟩
theorem good_bx (l : Nat) (hl : l < 32) (u : Bool) (W : World) (h : Bx w B n z v c W) : Calls Try.prog 27 #[.int .u32 ((enterN l u : Nat) : Int)] W fun e w' => e = .returned (.bool true) ∧ Bx w B n z v c w' := by
  obtain ⟨y1, _, _, _, y5, _⟩ := enter_facts l hl u
  have e := good_is (enterN l u) y1
  rw [y5] at e
  exact (psl_Good.calls _ _ W e).mono fun _ _ ⟨e, b⟩ => ⟨e, h.then b.below⟩
end

set_option maxHeartbeats 4000000 in
set_option maxRecDepth 100000 in
theorem makes_walk (x : Nat) (n z v c : Bool) (L : Int) (hx : x < 4294967296) (w : World) :
    Calls Try.prog 9 #[.int .u32 (x : Int), .agg #[.bool n, .bool z, .bool v, .bool c], .int .i64 L] w fun e w' => e = .returned (.bool true) ∧ Below w.heap.size w w' := by
  have C1 := Lib.hid (fun W (h : Bx w w.heap.size n z v c W) => codes_bx W h)
  have C2 := Lib.hid (fun W (h : Bx w w.heap.size n z v c W) => refCodes_bx W h)
  have C3 := Lib.hid (fun W (h : Bx w w.heap.size n z v c W) => with_bx x hx W h)
  have C4 := Lib.hid (fun W (h : Bx w w.heap.size n z v c W) => refWith_bx x hx W h)
  have C5 := Lib.hid (fun W (h : Bx w w.heap.size n z v c W) => at_bx x hx L W h)
  have C6 := Lib.hid (fun W (h : Bx w w.heap.size n z v c W) => refAt_bx x hx L W h)
  have C7 := Lib.hid (fun W (h : Bx w w.heap.size n z v c W) => enter_bx x hx L W h)
  have C8 := Lib.hid (fun W (h : Bx w w.heap.size n z v c W) => refEnter_bx x hx L W h)
  have C9 := Lib.hid (fun W (h : Bx w w.heap.size n z v c W) => good_bx (L % 32).toNat (by omega) (x.testBit 24) W h)
  generalize codesN n z v c = u1 at C1 C2
  generalize withN x n z v c = u2 at C3 C4
  generalize atN x (L % 32).toNat = u3 at C5 C6
  generalize enterN (L % 32).toNat (x.testBit 24) = u4 at C7 C8 C9
  go_enter Try.func9, Try.ntmps9
  go_wp2_with (first | (go_at_call 22; refine (camshaftlaw06_alive.calls true _ alive_is).mono ?_; rintro e w' ⟨rfl, hd⟩; have hS := bx_all ((bx_start w n z v c).then hd.below); clear hd))
  go_region_held3 (fun W => W.cell? ⟨w.heap.size, 0, none⟩ = some (.bool n) ∧ W.cell? ⟨w.heap.size, 1, none⟩ = some (.bool z) ∧ W.cell? ⟨w.heap.size, 2, none⟩ = some (.bool v) ∧ W.cell? ⟨w.heap.size, 3, none⟩ = some (.bool c) ∧ Bx w w.heap.size n z v c W)
    (first | exact bx_all (by assumption) | exact bx_all (Bx.drew (by assumption)) | exact bx_all (Bx.drew (by obtain ⟨_, _, _, _, h⟩ := hS; exact h)) | exact bx_all ((bx_start w n z v c).drewN _))
    (first
    | (go_at_call 33; ((with_reducible refine (C1.out _ (by obtain ⟨_, _, _, _, h_⟩ := ‹_ ∧ _›; exact h_)).mono ?_); rintro e w' ⟨rfl, hB1⟩))
    | (go_at_call 34; ((with_reducible refine (C2.out _ (by obtain ⟨_, _, _, _, h_⟩ := ‹_ ∧ _›; exact h_)).mono ?_); rintro e w' ⟨rfl, hB1⟩))
    | (go_at_call 35; ((with_reducible refine (C3.out _ (by obtain ⟨_, _, _, _, h_⟩ := ‹_ ∧ _›; exact h_)).mono ?_); rintro e w' ⟨rfl, hB1⟩))
    | (go_at_call 36; ((with_reducible refine (C4.out _ (by obtain ⟨_, _, _, _, h_⟩ := ‹_ ∧ _›; exact h_)).mono ?_); rintro e w' ⟨rfl, hB1⟩))
    | (go_at_call 37; ((with_reducible refine (C5.out _ (by obtain ⟨_, _, _, _, h_⟩ := ‹_ ∧ _›; exact h_)).mono ?_); rintro e w' ⟨rfl, hB1⟩))
    | (go_at_call 38; ((with_reducible refine (C6.out _ (by obtain ⟨_, _, _, _, h_⟩ := ‹_ ∧ _›; exact h_)).mono ?_); rintro e w' ⟨rfl, hB1⟩))
    | (go_at_call 31; ((with_reducible refine (C7.out _ (by obtain ⟨_, _, _, _, h_⟩ := ‹_ ∧ _›; exact h_)).mono ?_); rintro e w' ⟨rfl, hB1⟩))
    | (go_at_call 39; ((with_reducible refine (C8.out _ (by obtain ⟨_, _, _, _, h_⟩ := ‹_ ∧ _›; exact h_)).mono ?_); rintro e w' ⟨rfl, hB1⟩))
    | (go_at_call 27; ((with_reducible refine (C9.out _ (by obtain ⟨_, _, _, _, h_⟩ := ‹_ ∧ _›; exact h_)).mono ?_); rintro e w' ⟨rfl, hB1⟩)))
  have hB : Bx w w.heap.size n z v c _ := (‹_ ∧ _ ∧ _ ∧ _ ∧ Bx w w.heap.size n z v c _›).2.2.2.2
  have hbel := hB.below
  go_wp2
  go_ret
  exact ⟨rfl, hbel⟩

theorem makes_any (a : Int) (n z v c : Bool) (b : Int) (w : World) (ha : (Lit.int .u32 a).wf = true) (_hb : (Lit.int .i64 b).wf = true) :
    Calls Try.prog 9 #[.int .u32 a, .agg #[.bool n, .bool z, .bool v, .bool c], .int .i64 b] w fun e w' => e = .returned (.bool true) ∧ Below w.heap.size w w' := by
  obtain ⟨x, rfl, hx⟩ := u32_nat ha
  exact makes_walk x n z v c b hx w

end Go.Proofs.Ytjflepoifdcadaa.Pure
