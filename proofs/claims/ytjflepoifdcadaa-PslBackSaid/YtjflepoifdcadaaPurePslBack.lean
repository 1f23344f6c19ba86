/- Back answers what the document says; returns never lead from the user to the kernel, nor to a higher level: the pure statement behind PslBack. No condition. -/
import Derived.Test.YtjflepoifdcadaaGPslBackx3
import Derived.Test.YtjflepoifdcadaaAid
namespace Go.Proofs.Ytjflepoifdcadaa.Pure
open Go.RowKit Go.Proofs.Ytjflepoifdcadaa.Aid Go.Proofs.Ytjflepoifdcadaa.GPslBack Go.Proofs.YtjflepoifdcadaaW.PrintWords Go.Proofs.YtjflepoifdcadaaW.PrintLast

/-- The level in a status. -/
def iplN (x : Nat) : Nat := x / 65536 % 32
/-- The bits that a status has not. -/
def restN (x : Nat) : Bool := (x &&& 4137746416 : Nat) != 0
def goodN (x : Nat) : Bool := !restN x && (!x.testBit 24 || (iplN x == 0 && x.testBit 22))

theorem alive_is : camshaftlaw06_alive.f = some true := by decide +kernel

theorem ipl_is (x : Nat) (h : x < 4294967296) : psl_Ipl.f (x : Int) = some ((iplN x : Nat) : Int) := by
  unfold psl_Ipl.f iplN
  rw [show (x : Int) / 65536 = ((x / 65536 : Nat) : Int) from by omega, show (31 : Int) = ((31 : Nat) : Int) from rfl,
    u32_and_nat _ 31 (by omega) (by decide), nat_mask5, wrap64_in (by omega) (by omega)]

theorem user_is (x : Nat) (h : x < 4294967296) : psl_IsUser.f (x : Int) = some (x.testBit 24) := by
  unfold psl_IsUser.f; rw [u32_flag 24 x 16777216 rfl (by decide) h]

theorem ipl_zero (x : Nat) : ((iplN x : Int) = 0) = (iplN x = 0) := by
  apply propext; constructor <;> intro h <;> omega

theorem good_is (x : Nat) (h : x < 4294967296) : psl_Good.f (x : Int) = some (goodN x) := by
  unfold psl_Good.f goodN restN
  rw [user_is x h, ipl_is x h, show (157220879 : Int) = ((157220879 : Nat) : Int) from rfl, u32_andNot_nat x _ h (by decide), u32_flag 22 x 4194304 rfl (by decide) h]
  simp only [Option.bind_some, Nat.reduceSub]
  generalize x &&& 4137746416 = r
  generalize x.testBit 24 = u
  generalize x.testBit 22 = b
  generalize iplN x = i
  rcases Nat.eq_zero_or_pos r with hr | hr
  · subst hr
    cases u
    · simp
    · rcases Nat.eq_zero_or_pos i with hi | hi
      · subst hi; simp
      · simp only [Int.natCast_eq_zero]
        have : i ≠ 0 := by omega
        simp [this]
  · have : r ≠ 0 := by omega
    simp [this]

theorem bit_l0 (n : Nat) (hn : n ≤ 64) (d : Nat) : ∀ (k i x : Nat), i + d = n → x < 4294967296 → d < k →
    camshaftref03_Bit.l0 k (x : Int) (n : Int) (i : Int) = some (x.testBit d) := by
  induction d with
  | zero =>
    intro k i x hi hx hk
    obtain ⟨k, rfl⟩ : ∃ m, k = m + 1 := ⟨k - 1, by omega⟩
    simp only [camshaftref03_Bit.l0]
    rw [if_neg (by omega), show (2 : Int) = ((2 : Nat) : Int) from rfl, tmod_nat, Nat.testBit_eq_decide_div_mod_eq]
    have h : x % 2 = 0 ∨ x % 2 = 1 := by omega
    rcases h with h | h <;> simp [h]
  | succ d ih =>
    intro k i x hi hx hk
    obtain ⟨k, rfl⟩ : ∃ m, k = m + 1 := ⟨k - 1, by omega⟩
    simp only [camshaftref03_Bit.l0]
    rw [if_pos (by omega), show (2 : Int) = ((2 : Nat) : Int) from rfl, tdiv_nat, wrap64_in (by omega) (by omega),
      show (((x / 2 : Nat) : Int) % 4294967296) = ((x / 2 : Nat) : Int) from by omega, show ((i : Int) + 1) = ((i + 1 : Nat) : Int) from by omega,
      ih k (i + 1) (x / 2) (by omega) (by omega) (by omega), Nat.testBit_succ]

theorem bit_is (k n x : Nat) (hn : n ≤ 64) (hk : 64 < k) (hx : x < 4294967296) : camshaftref03_Bit.f k (x : Int) (n : Int) = some (x.testBit n) := by
  unfold camshaftref03_Bit.f
  exact bit_l0 n hn n k 0 x (by omega) hx (by omega)

/-- The bits that a status has, by number. -/
def knownB (i : Nat) : Bool := decide (i < 4) || (decide (16 ≤ i) && decide (i ≤ 20)) || decide (i = 22) || decide (i = 24) || decide (i = 27)

theorem of_step (k i x : Nat) (hi : i < 32) (hk : 64 < k) (hx : x < 4294967296) (n z v c : Bool) (p : Int) (w u f r : Bool) :
    camshaftref06_Of.l1 (k + 1) (x : Int) (i : Int) n z v c p w u f r = camshaftref06_Of.l1 k (x : Int) ((i + 1 : Nat) : Int) n z v c p w u f (r || (!knownB i && x.testBit i)) := by
  simp only [camshaftref06_Of.l1]
  rw [if_pos (by omega), wrap64_in (by omega) (by omega), show ((i : Int) + 1) = ((i + 1 : Nat) : Int) from by omega, bit_is k i x (by omega) hk hx]
  unfold knownB
  by_cases h4 : i < 4
  · rw [if_pos (by omega)]
    cases r <;> simp [h4]
  · rw [if_neg (by omega)]
    by_cases h16 : 16 ≤ i
    · rw [if_pos (by omega)]
      by_cases h20 : i ≤ 20
      · rw [if_pos (by omega)]
        cases r <;> simp [h4, h16, h20]
      · rw [if_neg (by omega)]
        by_cases h22 : i = 22
        · rw [if_pos (by omega)]
          cases r <;> simp [h22]
        · rw [if_neg (by omega)]
          by_cases h24 : i = 24
          · rw [if_pos (by omega)]
            cases r <;> simp [h24]
          · rw [if_neg (by omega)]
            by_cases h27 : i = 27
            · rw [if_pos (show (i : Int) = 27 by omega)]
              cases r <;> simp [h27]
            · rw [if_neg (show ¬ (i : Int) = 27 by omega)]
              cases r <;> simp [h4, h20, h22, h24, h27]
    · rw [if_neg (by omega)]
      by_cases h22 : i = 22
      · omega
      · rw [if_neg (by omega), if_neg (by omega)]
        cases r <;> simp [h4, h16, show ¬ i = 22 by omega, show ¬ i = 24 by omega, show ¬ i = 27 by omega, show ¬ (i : Int) = 27 by omega]

/-- What is set beyond the known bits, from bit 32 - d on. -/
def restD : Nat → Nat → Bool
  | 0, _ => false
  | d + 1, x => (!knownB (31 - d) && x.testBit (31 - d)) || restD d x

theorem of_l1 (x : Nat) (hx : x < 4294967296) (n z v c : Bool) (p : Int) (w u f : Bool) (d : Nat) : ∀ (k i : Nat) (r : Bool), i + d = 32 → 64 + d < k →
    camshaftref06_Of.l1 k (x : Int) (i : Int) n z v c p w u f r = some (n, z, v, c, p, w, u, f, r || restD d x) := by
  induction d with
  | zero =>
    intro k i r hi hk
    obtain ⟨k, rfl⟩ : ∃ m, k = m + 1 := ⟨k - 1, by omega⟩
    simp only [camshaftref06_Of.l1]
    rw [if_neg (by omega)]
    simp [restD]
  | succ d ih =>
    intro k i r hi hk
    obtain ⟨k, rfl⟩ : ∃ m, k = m + 1 := ⟨k - 1, by omega⟩
    rw [of_step k i x (by omega) (by omega) hx, ih k (i + 1) _ (by omega) (by omega), restD, show 31 - d = i from by omega, Bool.or_assoc]

theorem restD_any (x : Nat) (d : Nat) (hd : d ≤ 32) : restD d x = true ↔ ∃ j, 32 - d ≤ j ∧ j < 32 ∧ knownB j = false ∧ x.testBit j = true := by
  induction d with
  | zero => simp [restD]; omega
  | succ d ih =>
    rw [restD, Bool.or_eq_true, ih (by omega)]
    constructor
    · rintro (h | ⟨j, h1, h2, h3, h4⟩)
      · simp only [Bool.and_eq_true, Bool.not_eq_true'] at h
        exact ⟨31 - d, by omega, by omega, h.1, h.2⟩
      · exact ⟨j, by omega, h2, h3, h4⟩
    · rintro ⟨j, h1, h2, h3, h4⟩
      by_cases e : j = 31 - d
      · subst e; left; simp [h3, h4]
      · right; exact ⟨j, by omega, h2, h3, h4⟩

theorem mask_bits : ∀ j, j < 32 → Nat.testBit 4137746416 j = !knownB j := by decide +kernel

theorem rest_is (x : Nat) (hx : x < 4294967296) : restD 32 x = restN x := by
  rw [Bool.eq_iff_iff, restD_any x 32 (by decide)]
  unfold restN
  constructor
  · rintro ⟨j, _, h2, h3, h4⟩
    have hb : (x &&& 4137746416 : Nat).testBit j = true := by rw [Nat.testBit_and, h4, mask_bits j h2, h3]; rfl
    rw [bne_iff_ne]
    intro h0
    rw [h0, Nat.zero_testBit] at hb
    exact Bool.noConfusion hb
  · intro h
    rw [bne_iff_ne] at h
    obtain ⟨j, hj⟩ := Nat.exists_testBit_of_ne_zero h
    rw [Nat.testBit_and, Bool.and_eq_true] at hj
    have hl : j < 32 := by
      apply Classical.byContradiction
      intro hn
      have := Nat.testBit_lt_two_pow (x := x) (i := j) (Nat.lt_of_lt_of_le hx (Nat.pow_le_pow_right (n := 2) (by decide) (show 32 ≤ j by omega)))
      rw [this] at hj
      exact Bool.noConfusion hj.1
    refine ⟨j, by omega, hl, ?_, hj.1⟩
    have := mask_bits j hl
    rw [hj.2] at this
    cases hk : knownB j
    · rfl
    · rw [hk] at this; exact Bool.noConfusion this

theorem of_ipl (k i x wt pt : Nat) (hi : i < 21) (hk : 64 < k) (hx : x < 4294967296) (hw : wt ≤ 65536) (hp : pt ≤ 65536) (n z v c : Bool) (w u f r : Bool) :
    camshaftref06_Of.l0 (k + 1) (x : Int) (wt : Int) (i : Int) n z v c (pt : Int) w u f r = camshaftref06_Of.l0 k (x : Int) ((2 * wt : Nat) : Int) ((i + 1 : Nat) : Int) n z v c ((pt + (x.testBit i).toNat * wt : Nat) : Int) w u f r := by
  simp only [camshaftref06_Of.l0]
  rw [if_pos (by omega), wrap64_in (n := 2 * (wt : Int)) (by omega) (by omega), wrap64_in (n := (i : Int) + 1) (by omega) (by omega), wrap64_in (n := (pt : Int) + wt) (by omega) (by omega),
    show ((i : Int) + 1) = ((i + 1 : Nat) : Int) from by omega, show (2 * (wt : Int)) = ((2 * wt : Nat) : Int) from by omega, bit_is k i x (by omega) hk hx, Option.bind_some]
  cases x.testBit i
  · rw [if_neg (by decide), show Bool.toNat false = 0 from rfl, Nat.zero_mul, show pt + 0 = pt from rfl]
  · rw [if_pos rfl, show Bool.toNat true = 1 from rfl, Nat.one_mul, show (pt : Int) + wt = ((pt + wt : Nat) : Int) from by omega]

theorem bit_toNat (x i : Nat) : (x.testBit i).toNat = x / 2 ^ i % 2 := by
  rw [Nat.testBit_eq_decide_div_mod_eq]
  have h : x / 2 ^ i % 2 = 0 ∨ x / 2 ^ i % 2 = 1 := by omega
  rcases h with h | h <;> rw [h] <;> rfl

theorem ipl_bits (x : Nat) : 0 + (x.testBit 16).toNat * 1 + (x.testBit 17).toNat * (2 * 1) + (x.testBit 18).toNat * (2 * (2 * 1)) + (x.testBit 19).toNat * (2 * (2 * (2 * 1))) + (x.testBit 20).toNat * (2 * (2 * (2 * (2 * 1)))) = iplN x := by
  unfold iplN
  rw [bit_toNat, bit_toNat, bit_toNat, bit_toNat, bit_toNat]
  omega

theorem toNat_one (b : Bool) : b.toNat ≤ 1 := by cases b <;> decide

theorem of_is (k x : Nat) (hk : 110 < k) (hx : x < 4294967296) :
    camshaftref06_Of.f k (x : Int) = some (x.testBit 3, x.testBit 2, x.testBit 1, x.testBit 0, ((iplN x : Nat) : Int), x.testBit 22, x.testBit 24, x.testBit 27, restN x) := by
  unfold camshaftref06_Of.f
  rw [show (0 : Int) = ((0 : Nat) : Int) from rfl, show (1 : Int) = ((1 : Nat) : Int) from rfl, show (2 : Int) = ((2 : Nat) : Int) from rfl, show (3 : Int) = ((3 : Nat) : Int) from rfl,
    show (22 : Int) = ((22 : Nat) : Int) from rfl, show (24 : Int) = ((24 : Nat) : Int) from rfl, show (27 : Int) = ((27 : Nat) : Int) from rfl, show (16 : Int) = ((16 : Nat) : Int) from rfl,
    bit_is k 0 x (by decide) (by omega) hx, bit_is k 1 x (by decide) (by omega) hx, bit_is k 2 x (by decide) (by omega) hx, bit_is k 3 x (by decide) (by omega) hx,
    bit_is k 22 x (by decide) (by omega) hx, bit_is k 24 x (by decide) (by omega) hx, bit_is k 27 x (by decide) (by omega) hx]
  simp only [Option.bind_some]
  obtain ⟨k, rfl⟩ : ∃ m, k = m + 1 + 1 + 1 + 1 + 1 + 1 := ⟨k - 6, by omega⟩
  have t16 := toNat_one (x.testBit 16)
  have t17 := toNat_one (x.testBit 17)
  have t18 := toNat_one (x.testBit 18)
  have t19 := toNat_one (x.testBit 19)
  rw [of_ipl _ 16 x 1 0 (by decide) (by omega) hx (by decide) (by decide), of_ipl _ 17 x _ _ (by decide) (by omega) hx (by decide) (by omega), of_ipl _ 18 x _ _ (by decide) (by omega) hx (by decide) (by omega),
    of_ipl _ 19 x _ _ (by decide) (by omega) hx (by decide) (by omega), of_ipl _ 20 x _ _ (by decide) (by omega) hx (by decide) (by omega), ipl_bits x]
  simp only [camshaftref06_Of.l0]
  rw [if_neg (by omega), show (0 : Int) = ((0 : Nat) : Int) from rfl, of_l1 x hx _ _ _ _ _ _ _ _ 32 k 0 false (by decide) (by omega), rest_is x hx, Bool.false_or]

theorem refGood_is (k x : Nat) (hk : 110 < k) (hx : x < 4294967296) : camshaftref06_Good.f k (x : Int) = some (goodN x) := by
  unfold camshaftref06_Good.f goodN
  rw [of_is k x hk hx, Option.bind_some]
  simp only [Int.natCast_eq_zero]
  cases restN x <;> cases x.testBit 24 <;> simp
  by_cases h : iplN x = 0 <;> simp [h]

def backN (x y : Nat) : Bool := goodN y && (y.testBit 24 || (!x.testBit 24 && decide (iplN y ≤ iplN x)))

theorem back_is (x y : Nat) (hx : x < 4294967296) (hy : y < 4294967296) : psl_Back.f (x : Int) (y : Int) = some (backN x y) := by
  unfold psl_Back.f backN
  rw [good_is y hy, user_is y hy, user_is x hx, ipl_is y hy, ipl_is x hx]
  cases goodN y <;> cases y.testBit 24 <;> cases x.testBit 24 <;> simp

theorem back_safe (x y : Nat) (h : backN x y = true) : (x.testBit 24 = true → y.testBit 24 = true) ∧ iplN y ≤ iplN x := by
  unfold backN goodN at h
  generalize restN y = r at h
  generalize iplN y = p at *
  generalize iplN x = q at *
  generalize y.testBit 22 = w at h
  cases hy : y.testBit 24 <;> cases hx : x.testBit 24 <;> rw [hy, hx] at h <;> simp at h ⊢
  · exact h.2
  · omega
  · omega

theorem refBack_is (k x y : Nat) (hk : 110 < k) (hx : x < 4294967296) (hy : y < 4294967296) : camshaftref06_Back.f k (x : Int) (y : Int) = some (backN x y) := by
  unfold camshaftref06_Back.f backN
  rw [of_is k x hk hx, of_is k y hk hy, refGood_is k y hk hy]
  simp only [Option.bind_some]
  cases goodN y <;> cases y.testBit 24 <;> cases x.testBit 24 <;> simp

theorem back_l0 (l : List Int) (hl : l.length ≤ 60) (hw : ∀ x ∈ l, (Lit.int .u32 x).wf = true) (d : Nat) : ∀ (k i x : Nat), i + d = l.length → x < 4294967296 → 110 + d < k →
    camshaftlaw06_PslBack.l0 k (x : Int) l (l.length : Int) (i : Int) = some true := by
  induction d with
  | zero =>
    intro k i x hi hx hk
    obtain ⟨k, rfl⟩ : ∃ m, k = m + 1 := ⟨k - 1, by omega⟩
    simp only [camshaftlaw06_PslBack.l0]
    rw [if_neg (by omega)]
  | succ d ih =>
    intro k i x hi hx hk
    obtain ⟨k, rfl⟩ : ∃ m, k = m + 1 := ⟨k - 1, by omega⟩
    have hm : rd l (i : Int) ∈ l := by
      unfold rd
      rw [List.getD_eq_getElem?_getD, List.getElem?_eq_getElem (show (i : Int).toNat < l.length by omega)]
      exact List.getElem_mem _
    obtain ⟨y, hy, hyl⟩ := u32_nat (hw _ hm)
    have hs := back_safe x y
    simp only [camshaftlaw06_PslBack.l0]
    rw [if_pos (by omega), if_pos (by omega), if_pos (by omega), hy, back_is x y hx hyl, refBack_is k x y (by omega) hx hyl, user_is x hx, user_is y hyl, ipl_is x hx, ipl_is y hyl,
      wrap64_in (by omega) (by omega), show ((i : Int) + 1) = ((i + 1 : Nat) : Int) from by omega, ih k (i + 1) x (by omega) hx (by omega), ih k (i + 1) y (by omega) hyl (by omega)]
    simp only [Option.bind_some]
    cases hb : backN x y
    · simp
    · obtain ⟨h1, h2⟩ := hs hb
      have h3 : ¬ ((iplN y : Int) > (iplN x : Int)) := by omega
      cases hu : x.testBit 24
      · simp [h3]
      · rw [h1 hu]; simp [h3]

theorem PslBack : camshaftlaw06_PslBack.Pure := by
  intro a0 l w0 _ _ hw
  obtain ⟨x, rfl, hx⟩ := u32_nat w0
  refine ⟨200, ?_⟩
  unfold camshaftlaw06_PslBack.f
  rw [alive_is, Option.bind_some, if_pos rfl]
  split
  · rfl
  · exact back_l0 l (by omega) hw l.length 200 0 x (by omega) hx (by omega)

end Go.Proofs.Ytjflepoifdcadaa.Pure
