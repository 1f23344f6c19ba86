/- Codes and level are put, and read again, each beside the other; a handler's status can be returned to from where it was entered, unless it came from the user: the walk of PslParts. No condition. -/
import Derived.Test.YtjflepoifdcadaaPPslPartsx2
import Derived.Test.YtjflepoifdcadaaAid
import Derived.Deep.RegionHeld3
import Derived.Deep.DeepCutAuto
import Derived.Lib.Hide
namespace Go.Proofs.Ytjflepoifdcadaa.Pure
open Go.RowKit Go.Proofs.Ytjflepoifdcadaa.Aid Go.Proofs.Ytjflepoifdcadaa.PPslParts Go.Proofs.YtjflepoifdcadaaW.PrintWords Go.Proofs.YtjflepoifdcadaaW.PrintLast

/-- The level in a status. -/
def iplN (x : Nat) : Nat := x / 65536 % 32
/-- The bits that a status has not. -/
def restN (x : Nat) : Bool := (x &&& 4137746416 : Nat) != 0
def goodN (x : Nat) : Bool := !restN x && (!x.testBit 24 || (iplN x == 0 && x.testBit 22))

theorem alive_is : camshaftlaw06_alive.f = some true := by decide +kernel

theorem ipl_is (x : Nat) (h : x < 4294967296) : psl_Ipl.f (x : Int) = some ((iplN x : Nat) : Int) := by
  unfold psl_Ipl.f iplN
  rw [show (x : Int) / 65536 = ((x / 65536 : Nat) : Int) from by omega, show (31 : Int) = ((31 : Nat) : Int) from rfl,
    u32_and_nat _ 31 (by omega) (by decide), nat_mask5, wrap64_in (by omega) (by omega)]

theorem user_is (x : Nat) (h : x < 4294967296) : psl_IsUser.f (x : Int) = some (x.testBit 24) := by
  unfold psl_IsUser.f; rw [u32_flag 24 x 16777216 rfl (by decide) h]

theorem ipl_zero (x : Nat) : ((iplN x : Int) = 0) = (iplN x = 0) := by
  apply propext; constructor <;> intro h <;> omega

theorem good_is (x : Nat) (h : x < 4294967296) : psl_Good.f (x : Int) = some (goodN x) := by
  unfold psl_Good.f goodN restN
  rw [user_is x h, ipl_is x h, show (157220879 : Int) = ((157220879 : Nat) : Int) from rfl, u32_andNot_nat x _ h (by decide), u32_flag 22 x 4194304 rfl (by decide) h]
  simp only [Option.bind_some, Nat.reduceSub]
  generalize x &&& 4137746416 = r
  generalize x.testBit 24 = u
  generalize x.testBit 22 = b
  generalize iplN x = i
  rcases Nat.eq_zero_or_pos r with hr | hr
  · subst hr
    cases u
    · simp
    · rcases Nat.eq_zero_or_pos i with hi | hi
      · subst hi; simp
      · simp only [Int.natCast_eq_zero]
        have : i ≠ 0 := by omega
        simp [this]
  · have : r ≠ 0 := by omega
    simp [this]

def backN (x y : Nat) : Bool := goodN y && (y.testBit 24 || (!x.testBit 24 && decide (iplN y ≤ iplN x)))

theorem back_is (x y : Nat) (hx : x < 4294967296) (hy : y < 4294967296) : psl_Back.f (x : Int) (y : Int) = some (backN x y) := by
  unfold psl_Back.f backN
  rw [good_is y hy, user_is y hy, user_is x hx, ipl_is y hy, ipl_is x hx]
  cases goodN y <;> cases y.testBit 24 <;> cases x.testBit 24 <;> simp

theorem back_safe (x y : Nat) (h : backN x y = true) : (x.testBit 24 = true → y.testBit 24 = true) ∧ iplN y ≤ iplN x := by
  unfold backN goodN at h
  generalize restN y = r at h
  generalize iplN y = p at *
  generalize iplN x = q at *
  generalize y.testBit 22 = w at h
  cases hy : y.testBit 24 <;> cases hx : x.testBit 24 <;> rw [hy, hx] at h <;> simp at h ⊢
  · exact h.2
  · omega
  · omega

theorem flags_is (x : Nat) (h : x < 4294967296) : psl_Flags.f (x : Int) = some (x.testBit 3, x.testBit 2, x.testBit 1, x.testBit 0) := by
  unfold psl_Flags.f
  rw [u32_flag 3 x 8 rfl (by decide) h, u32_flag 2 x 4 rfl (by decide) h, u32_flag 1 x 2 rfl (by decide) h, u32_flag 0 x 1 rfl (by decide) h]

theorem at_zero (a : Int) : psl_At.f 0 a = some (((a % 32).toNat * 65536 : Nat) : Int) := by
  have hp : Go.bits .and .i64 a 31 = (((a % 32).toNat : Nat) : Int) := by rw [i64_mask 5 (by decide) a 31 rfl]; omega
  have hq : (a % 32).toNat < 32 := by omega
  unfold psl_At.f
  rw [hp]
  generalize (a % 32).toNat = q at *
  have e0 : Go.bits .andNot .u32 0 2031616 = ((0 : Nat) : Int) := by
    have h := u32_andNot_nat 0 2031616 (by decide) (by decide)
    rw [Nat.zero_and] at h; exact h
  rw [e0, show (((q : Nat) : Int) % 4294967296 * 65536) % 4294967296 = ((q * 65536 : Nat) : Int) from by omega, u32_or_nat 0 _ (by decide) (by omega), Nat.zero_or]

/-- The status of a handler at a level, from the user or not. -/
def enterN (a : Nat) (u : Bool) : Nat := a * 65536 + (if u then 4194304 else 0)

theorem enter_is (x : Nat) (hx : x < 4294967296) (a : Int) : psl_Enter.f (x : Int) a = some ((enterN (a % 32).toNat (x.testBit 24) : Nat) : Int) := by
  have hq : (a % 32).toNat < 32 := by omega
  unfold psl_Enter.f enterN
  rw [at_zero, user_is x hx]
  generalize (a % 32).toNat = q at *
  rw [Option.bind_some, Option.bind_some]
  cases x.testBit 24
  · rw [if_neg (by decide), if_neg (by decide), Nat.add_zero]
  · rw [if_pos rfl, if_pos rfl, show (4194304 : Int) = ((4194304 : Nat) : Int) from rfl, u32_or_nat _ _ (by omega) (by decide), Nat.or_comm,
      nat_join 22 _ _ (by decide) (by omega), Nat.add_comm]

def enterChk (a : Nat) (u : Bool) : Bool :=
  decide (enterN a u < 4294967296) && ((enterN a u).testBit 24 == false) && ((enterN a u).testBit 22 == u) && (iplN (enterN a u) == a) && goodN (enterN a u) &&
    ((enterN a u).testBit 27 == false) && ((enterN a u).testBit 3 == false) && ((enterN a u).testBit 2 == false) && ((enterN a u).testBit 1 == false) && ((enterN a u).testBit 0 == false)

theorem enter_all : (List.range 32).all (fun a => enterChk a false && enterChk a true) = true := by decide +kernel

theorem enter_facts (a : Nat) (ha : a < 32) (u : Bool) : enterN a u < 4294967296 ∧ (enterN a u).testBit 24 = false ∧ (enterN a u).testBit 22 = u ∧ iplN (enterN a u) = a ∧ goodN (enterN a u) = true ∧
    (enterN a u).testBit 27 = false ∧ (enterN a u).testBit 3 = false ∧ (enterN a u).testBit 2 = false ∧ (enterN a u).testBit 1 = false ∧ (enterN a u).testBit 0 = false := by
  have h := List.all_eq_true.1 enter_all a (List.mem_range.2 ha)
  have hc : enterChk a u = true := by
    rw [Bool.and_eq_true] at h
    cases u
    · exact h.1
    · exact h.2
  unfold enterChk at hc
  simp only [Bool.and_eq_true, beq_iff_eq, decide_eq_true_eq] at hc
  obtain ⟨⟨⟨⟨⟨⟨⟨⟨⟨h1, h2⟩, h3⟩, h4⟩, h5⟩, h6⟩, h7⟩, h8⟩, h9⟩, h10⟩ := hc
  exact ⟨h1, h2, h3, h4, h5, h6, h7, h8, h9, h10⟩

/-- Four codes as a number. -/
def codesN (n z v c : Bool) : Nat := c.toNat + 2 * v.toNat + 4 * z.toNat + 8 * n.toNat

theorem codes_is : ∀ n z v c : Bool, psl_Codes.f 200 n z v c = some ((codesN n z v c : Nat) : Int) := by decide +kernel

theorem codes_lt (n z v c : Bool) : codesN n z v c < 16 := by cases n <;> cases z <;> cases v <;> cases c <;> decide

theorem mask_low : ∀ j, j < 32 → Nat.testBit 4294967280 j = decide (4 ≤ j) := by decide +kernel
theorem mask_ipl : ∀ j, j < 32 → Nat.testBit 4292935679 j = !(decide (16 ≤ j) && decide (j < 21)) := by decide +kernel

theorem and_low (x : Nat) (hx : x < 4294967296) : x &&& 4294967280 = x / 16 * 16 := by
  refine eq_of_bits 32 _ _ (Nat.lt_of_le_of_lt Nat.and_le_left hx) (by omega) fun i hi => ?_
  rw [Nat.testBit_and, mask_low i hi, show x / 16 * 16 = x / 2 ^ 4 * 2 ^ 4 from rfl, Nat.testBit_mul_two_pow, Nat.testBit_div_two_pow]
  by_cases h : 4 ≤ i
  · rw [show i - 4 + 4 = i from by omega, Bool.and_comm]
  · simp [h]

theorem and_ipl (x : Nat) (hx : x < 4294967296) : x &&& 4292935679 = x / 2097152 * 2097152 + x % 65536 := by
  refine eq_of_bits 32 _ _ (Nat.lt_of_le_of_lt Nat.and_le_left hx) (by omega) fun i hi => ?_
  rw [Nat.testBit_and, mask_ipl i hi, show x / 2097152 * 2097152 + x % 65536 = 2 ^ 21 * (x / 2 ^ 21) + x % 2 ^ 16 from by omega,
    Nat.testBit_two_pow_mul_add _ (show x % 2 ^ 16 < 2 ^ 21 by omega), Nat.testBit_mod_two_pow, Nat.testBit_div_two_pow]
  by_cases h1 : i < 16
  · simp [h1, show i < 21 by omega, show ¬ 16 ≤ i by omega]
  · by_cases h2 : i < 21
    · simp [h1, h2, show 16 ≤ i by omega]
    · rw [if_neg h2, show i - 21 + 21 = i from by omega]
      simp [h2]

def withN (x : Nat) (n z v c : Bool) : Nat := x / 16 * 16 + codesN n z v c
def atN (x l : Nat) : Nat := x / 2097152 * 2097152 + x % 65536 + l * 65536

theorem withN_lt (x : Nat) (hx : x < 4294967296) (n z v c : Bool) : withN x n z v c < 4294967296 := by
  have := codes_lt n z v c
  unfold withN; omega
theorem atN_lt (x l : Nat) (hx : x < 4294967296) (hl : l < 32) : atN x l < 4294967296 := by unfold atN; omega

theorem with_is (x : Nat) (hx : x < 4294967296) (n z v c : Bool) : psl_With.f 200 (x : Int) n z v c = some ((withN x n z v c : Nat) : Int) := by
  have hc := codes_lt n z v c
  unfold psl_With.f withN
  rw [codes_is, Option.bind_some, show (15 : Int) = ((15 : Nat) : Int) from rfl, u32_andNot_nat x 15 hx (by decide), show 4294967295 - 15 = 4294967280 from rfl, and_low x hx,
    u32_or_nat _ _ (by omega) (by omega), nat_join 4 _ _ (by omega) (by omega)]

theorem or_ipl (a b l : Nat) (hb : b < 65536) (hl : l < 32) : (a * 2097152 + b) ||| l * 65536 = a * 2097152 + b + l * 65536 := by
  rw [← nat_join 21 (a * 2097152) b (by omega) (by omega), Nat.or_assoc, Nat.or_comm b, nat_join 16 (l * 65536) b (by omega) (by omega), nat_join 21 (a * 2097152) _ (by omega) (by omega),
    nat_join 21 (a * 2097152) b (by omega) (by omega)]
  omega

theorem at_is (x : Nat) (hx : x < 4294967296) (l : Int) : psl_At.f (x : Int) l = some ((atN x (l % 32).toNat : Nat) : Int) := by
  have hp : Go.bits .and .i64 l 31 = (((l % 32).toNat : Nat) : Int) := by rw [i64_mask 5 (by decide) l 31 rfl]; omega
  have hq : (l % 32).toNat < 32 := by omega
  unfold psl_At.f atN
  rw [hp]
  generalize (l % 32).toNat = q at *
  rw [show (2031616 : Int) = ((2031616 : Nat) : Int) from rfl, u32_andNot_nat x 2031616 hx (by decide), show 4294967295 - 2031616 = 4292935679 from rfl, and_ipl x hx,
    show (((q : Nat) : Int) % 4294967296 * 65536) % 4294967296 = ((q * 65536 : Nat) : Int) from by omega, u32_or_nat _ _ (by omega) (by omega), or_ipl _ _ _ (by omega) hq]

theorem bit_toNat2 (x i : Nat) : (x.testBit i).toNat = x / 2 ^ i % 2 := by
  rw [Nat.testBit_eq_decide_div_mod_eq]
  have h : x / 2 ^ i % 2 = 0 ∨ x / 2 ^ i % 2 = 1 := by omega
  rcases h with h | h <;> rw [h] <;> rfl

theorem toNat_inj {a b : Bool} (h : a.toNat = b.toNat) : a = b := by cases a <;> cases b <;> first | rfl | exact absurd h (by decide)

theorem toNat_le1 (b : Bool) : b.toNat ≤ 1 := by cases b <;> decide

theorem codes_of (x : Nat) : codesN (x.testBit 3) (x.testBit 2) (x.testBit 1) (x.testBit 0) = x % 16 := by
  unfold codesN
  rw [bit_toNat2, bit_toNat2, bit_toNat2, bit_toNat2]
  omega

theorem bits_of (y : Nat) (n z v c : Bool) (h : y % 16 = codesN n z v c) : y.testBit 3 = n ∧ y.testBit 2 = z ∧ y.testBit 1 = v ∧ y.testBit 0 = c := by
  unfold codesN at h
  have h1 := toNat_le1 n
  have h2 := toNat_le1 z
  have h3 := toNat_le1 v
  have h4 := toNat_le1 c
  refine ⟨?_, ?_, ?_, ?_⟩ <;> apply toNat_inj <;> rw [bit_toNat2] <;> omega

/-- A world of the call: below w it is as w was, and the codes that came in lie in block B. -/
structure Bx (w : World) (B : Nat) (n z v c : Bool) (W : World) : Prop where
  below : Below w.heap.size w W
  blk : W.heap[B]? = some (.cells #[.bool n, .bool z, .bool v, .bool c] 32 (0, 0))
  ge : w.heap.size ≤ B
theorem Bx.drewN {w W : World} {B : Nat} {n z v c : Bool} (h : Bx w B n z v c W) (k : Nat) : Bx w B n z v c (W.drewN k) := ⟨pw_below_drewN h.below k, h.blk, h.ge⟩
theorem Bx.drew {w W : World} {B : Nat} {n z v c : Bool} (h : Bx w B n z v c W) : Bx w B n z v c W.drew := ⟨h.below.drew, h.blk, h.ge⟩
theorem Bx.then {w W W' : World} {B : Nat} {n z v c : Bool} (h : Bx w B n z v c W) (k : Below W.heap.size W W') : Bx w B n z v c W' :=
  ⟨below_then h.below h.below.size k, (k.block B (Array.getElem?_eq_some_iff.1 h.blk).1).trans h.blk, h.ge⟩
theorem Bx.cells {w W : World} {B : Nat} {n z v c : Bool} (h : Bx w B n z v c W) : W.cell? ⟨B, 0, none⟩ = some (.bool n) ∧ W.cell? ⟨B, 1, none⟩ = some (.bool z) ∧ W.cell? ⟨B, 2, none⟩ = some (.bool v) ∧ W.cell? ⟨B, 3, none⟩ = some (.bool c) :=
  ⟨(blk_cell h.blk 0).trans rfl, (blk_cell h.blk 1).trans rfl, (blk_cell h.blk 2).trans rfl, (blk_cell h.blk 3).trans rfl⟩

theorem bx_start (w : World) (n z v c : Bool) : Bx w w.heap.size n z v c (w.alloc (.cells #[.bool n, .bool z, .bool v, .bool c] 32)) :=
  ⟨(Below.refl _ _).alloc (Nat.le_refl _) _, heap_alloc_new w _, Nat.le_refl _⟩

theorem bx_all {w W : World} {B : Nat} {n z v c : Bool} (h : Bx w B n z v c W) : W.cell? ⟨B, 0, none⟩ = some (.bool n) ∧ W.cell? ⟨B, 1, none⟩ = some (.bool z) ∧ W.cell? ⟨B, 2, none⟩ = some (.bool v) ∧ W.cell? ⟨B, 3, none⟩ = some (.bool c) ∧ Bx w B n z v c W :=
  ⟨h.cells.1, h.cells.2.1, h.cells.2.2.1, h.cells.2.2.2, h⟩

section
variable {w : World} {B : Nat} {n z v c : Bool}
theorem flags_bx (x : Nat) (hx : x < 4294967296) (W : World) (h : Bx w B n z v c W) : Calls Try.prog 24 #[.int .u32 (x : Int)] W fun e w' => e = .returned (.agg #[.bool (x.testBit 3), .bool (x.testBit 2), .bool (x.testBit 1), .bool (x.testBit 0)]) ∧ Bx w B n z v c w' :=
  (psl_Flags.calls (x : Int) _ _ _ _ W (flags_is x hx)).mono fun _ _ ⟨e, b⟩ => ⟨e, h.then b⟩
theorem with_bx (x : Nat) (hx : x < 4294967296) (n' z' v' c' : Bool) (W : World) (h : Bx w B n z v c W) : Calls Try.prog 35 #[.int .u32 (x : Int), .agg #[.bool n', .bool z', .bool v', .bool c']] W fun e w' => e = .returned (.int .u32 ((withN x n' z' v' c' : Nat) : Int)) ∧ Bx w B n z v c w' :=
  (psl_With.calls 200 (x : Int) _ _ _ _ _ W (with_is x hx n' z' v' c')).mono fun _ _ ⟨e, b⟩ => ⟨e, h.then b⟩
theorem at_bx (x l : Nat) (hx : x < 4294967296) (hl : l < 32) (W : World) (h : Bx w B n z v c W) : Calls Try.prog 37 #[.int .u32 (x : Int), .int .i64 (l : Int)] W fun e w' => e = .returned (.int .u32 ((atN x l : Nat) : Int)) ∧ Bx w B n z v c w' := by
  have e := at_is x hx (l : Int)
  rw [show (((l : Nat) : Int) % 32).toNat = l from by omega] at e
  exact (psl_At.calls (x : Int) (l : Int) _ W e).mono fun _ _ ⟨e, b⟩ => ⟨e, h.then b.below⟩
theorem ipl_bx (x : Nat) (hx : x < 4294967296) (W : World) (h : Bx w B n z v c W) : Calls Try.prog 25 #[.int .u32 (x : Int)] W fun e w' => e = .returned (.int .i64 ((iplN x : Nat) : Int)) ∧ Bx w B n z v c w' :=
  (psl_Ipl.calls (x : Int) _ W (ipl_is x hx)).mono fun _ _ ⟨e, b⟩ => ⟨e, h.then b.below⟩
theorem enter_bx (x l : Nat) (hx : x < 4294967296) (hl : l < 32) (W : World) (h : Bx w B n z v c W) : Calls Try.prog 31 #[.int .u32 (x : Int), .int .i64 (l : Int)] W fun e w' => e = .returned (.int .u32 ((enterN l (x.testBit 24) : Nat) : Int)) ∧ Bx w B n z v c w' := by
  have e := enter_is x hx (l : Int)
  rw [show (((l : Nat) : Int) % 32).toNat = l from by omega] at e
  exact (psl_Enter.calls (x : Int) (l : Int) _ W e).mono fun _ _ ⟨e, b⟩ => ⟨e, h.then b.below⟩
theorem user_bx (x : Nat) (hx : x < 4294967296) (W : World) (h : Bx w B n z v c W) : Calls Try.prog 26 #[.int .u32 (x : Int)] W fun e w' => e = .returned (.bool (x.testBit 24)) ∧ Bx w B n z v c w' :=
  (psl_IsUser.calls (x : Int) _ W (user_is x hx)).mono fun _ _ ⟨e, b⟩ => ⟨e, h.then b.below⟩
theorem good_bx (x : Nat) (hx : x < 4294967296) (W : World) (h : Bx w B n z v c W) : Calls Try.prog 27 #[.int .u32 (x : Int)] W fun e w' => e = .returned (.bool (goodN x)) ∧ Bx w B n z v c w' :=
  (psl_Good.calls (x : Int) _ W (good_is x hx)).mono fun _ _ ⟨e, b⟩ => ⟨e, h.then b.below⟩
theorem back_bx (x y : Nat) (hx : x < 4294967296) (hy : y < 4294967296) (W : World) (h : Bx w B n z v c W) : Calls Try.prog 29 #[.int .u32 (x : Int), .int .u32 (y : Int)] W fun e w' => e = .returned (.bool (backN x y)) ∧ Bx w B n z v c w' :=
  (psl_Back.calls (x : Int) (y : Int) _ W (back_is x y hx hy)).mono fun _ _ ⟨e, b⟩ => ⟨e, h.then b.below⟩
end

/-- What is known of the numbers in between. -/
theorem facts2 (x l : Nat) (_hx : x < 4294967296) (hl : l < 32) : ∃ (e p : Nat) (q g : Bool), enterN l (x.testBit 24) = e ∧ e < 4294967296 ∧ e.testBit 24 = false ∧ iplN e = l ∧ x.testBit 24 = q ∧ goodN x = g ∧ iplN x = p ∧ backN e x = (g && (q || decide (p ≤ l))) := by
  obtain ⟨y1, y2, _, y4, _⟩ := enter_facts l hl (x.testBit 24)
  refine ⟨_, _, _, _, rfl, y1, y2, y4, rfl, rfl, rfl, ?_⟩
  unfold backN
  rw [y2, y4, Bool.not_false, Bool.true_and]

theorem facts (x l : Nat) (n z v c : Bool) (hx : x < 4294967296) (hl : l < 32) : ∃ u y a : Nat, withN x n z v c = u ∧ u < 4294967296 ∧ atN u l = y ∧ y < 4294967296 ∧ atN x l = a ∧ a < 4294967296 ∧
    y.testBit 3 = n ∧ y.testBit 2 = z ∧ y.testBit 1 = v ∧ y.testBit 0 = c ∧ iplN y = l ∧ withN a n z v c = y ∧ withN y (x.testBit 3) (x.testBit 2) (x.testBit 1) (x.testBit 0) = a := by
  have hc := codes_lt n z v c
  have h1 := withN_lt x hx n z v c
  refine ⟨_, _, _, rfl, h1, rfl, atN_lt _ l h1 hl, rfl, atN_lt x l hx hl, ?_⟩
  have hb := bits_of (atN (withN x n z v c) l) n z v c (by unfold atN withN; omega)
  refine ⟨hb.1, hb.2.1, hb.2.2.1, hb.2.2.2, ?_, ?_, ?_⟩
  · unfold iplN atN withN; omega
  · unfold atN withN; omega
  · unfold withN
    rw [codes_of]
    unfold atN; omega

set_option maxHeartbeats 4000000 in
set_option maxRecDepth 100000 in
theorem parts_walk (x l : Nat) (n z v c : Bool) (hx : x < 4294967296) (hl : l < 32) (w : World) :
    Calls Try.prog 12 #[.int .u32 (x : Int), .agg #[.bool n, .bool z, .bool v, .bool c], .int .i64 (l : Int)] w fun e w' => e = .returned (.bool true) ∧ Below w.heap.size w w' := by
  obtain ⟨u, y, a, eu, hu, ey, hy, ea, ha, b3, b2, b1, b0, ei, e1, e2⟩ := facts x l n z v c hx hl
  have C1 := Lib.hid (fun W (h : Bx w w.heap.size n z v c W) => (with_bx x hx n z v c W h))
  rw [eu] at C1
  have C2 := Lib.hid (fun W (h : Bx w w.heap.size n z v c W) => (at_bx u l hu hl W h))
  rw [ey] at C2
  have C3 := Lib.hid (fun W (h : Bx w w.heap.size n z v c W) => (flags_bx y hy W h))
  rw [b3, b2, b1, b0] at C3
  have C4 := Lib.hid (fun W (h : Bx w w.heap.size n z v c W) => (ipl_bx y hy W h))
  rw [ei] at C4
  have C5 := Lib.hid (fun W (h : Bx w w.heap.size n z v c W) => (at_bx x l hx hl W h))
  rw [ea] at C5
  have C6 := Lib.hid (fun W (h : Bx w w.heap.size n z v c W) => (with_bx a ha n z v c W h))
  rw [e1] at C6
  have C7 := Lib.hid (fun W (h : Bx w w.heap.size n z v c W) => (flags_bx x hx W h))
  have C8 := Lib.hid (fun W (h : Bx w w.heap.size n z v c W) => (with_bx y hy (x.testBit 3) (x.testBit 2) (x.testBit 1) (x.testBit 0) W h))
  rw [e2] at C8
  generalize x.testBit 3 = q3 at C7 C8
  generalize x.testBit 2 = q2 at C7 C8
  generalize x.testBit 1 = q1 at C7 C8
  generalize x.testBit 0 = q0 at C7 C8
  obtain ⟨e, p, q, g, ee, he, eq, ep, xq, xg, xp, xb⟩ := facts2 x l hx hl
  have D1 := Lib.hid (fun W (h : Bx w w.heap.size n z v c W) => (enter_bx x l hx hl W h))
  rw [ee] at D1
  have D2 := Lib.hid (fun W (h : Bx w w.heap.size n z v c W) => (user_bx e he W h))
  rw [eq] at D2
  have D3 := Lib.hid (fun W (h : Bx w w.heap.size n z v c W) => (ipl_bx e he W h))
  rw [ep] at D3
  have D4 := Lib.hid (fun W (h : Bx w w.heap.size n z v c W) => (user_bx x hx W h))
  rw [xq] at D4
  have D5 := Lib.hid (fun W (h : Bx w w.heap.size n z v c W) => (good_bx x hx W h))
  rw [xg] at D5
  have D6 := Lib.hid (fun W (h : Bx w w.heap.size n z v c W) => (ipl_bx x hx W h))
  rw [xp] at D6
  have D7 := Lib.hid (fun W (h : Bx w w.heap.size n z v c W) => (back_bx e x he hx W h))
  rw [xb] at D7
  clear ee eq ep xq xg xp xb
  clear eu ey ea b3 b2 b1 b0 ei e1 e2
  go_enter Try.func12, Try.ntmps12
  go_wp2_with (first | (go_at_call 22; refine (camshaftlaw06_alive.calls true _ alive_is).mono ?_; rintro e w' ⟨rfl, ⟨nd, rfl⟩⟩; have hB := (bx_start w n z v c).drewN nd) | (go_at_call 35; ((with_reducible refine (C1.out _ (by assumption)).mono ?_); rintro e w' ⟨rfl, hB1⟩)) | (go_at_call 37; ((with_reducible refine (C2.out _ (by assumption)).mono ?_); rintro e w' ⟨rfl, hB2⟩)))
  have hS := bx_all hB2
  clear hB hB1 hB2
  go_region_held3 (fun W => W.cell? ⟨w.heap.size, 0, none⟩ = some (.bool n) ∧ W.cell? ⟨w.heap.size, 1, none⟩ = some (.bool z) ∧ W.cell? ⟨w.heap.size, 2, none⟩ = some (.bool v) ∧ W.cell? ⟨w.heap.size, 3, none⟩ = some (.bool c) ∧ Bx w w.heap.size n z v c W)
    (first | exact bx_all (by assumption) | exact bx_all (Bx.drew (by assumption)) | exact bx_all (Bx.drew (by obtain ⟨_, _, _, _, h⟩ := hS; exact h)))
    (first
    | (go_at_call 24; ((with_reducible refine (C3.out _ (by obtain ⟨_, _, _, _, h_⟩ := ‹_ ∧ _›; exact h_)).mono ?_); rintro e w' ⟨rfl, hB1⟩))
    | (go_at_call 24; ((with_reducible refine (C7.out _ (by obtain ⟨_, _, _, _, h_⟩ := ‹_ ∧ _›; exact h_)).mono ?_); rintro e w' ⟨rfl, hB1⟩))
    | (go_at_call 25; ((with_reducible refine (C4.out _ (by obtain ⟨_, _, _, _, h_⟩ := ‹_ ∧ _›; exact h_)).mono ?_); rintro e w' ⟨rfl, hB1⟩))
    | (go_at_call 37; ((with_reducible refine (C5.out _ (by obtain ⟨_, _, _, _, h_⟩ := ‹_ ∧ _›; exact h_)).mono ?_); rintro e w' ⟨rfl, hB1⟩))
    | (go_at_call 35; ((with_reducible refine (C6.out _ (by obtain ⟨_, _, _, _, h_⟩ := ‹_ ∧ _›; exact h_)).mono ?_); rintro e w' ⟨rfl, hB1⟩))
    | (go_at_call 35; ((with_reducible refine (C8.out _ (by obtain ⟨_, _, _, _, h_⟩ := ‹_ ∧ _›; exact h_)).mono ?_); rintro e w' ⟨rfl, hB1⟩)))
  have hB : Bx w w.heap.size n z v c _ := (‹_ ∧ _ ∧ _ ∧ _ ∧ Bx w w.heap.size n z v c _›).2.2.2.2
  cases q
  · cases g
    · go_wp2_with (first | (go_at_call 31; ((with_reducible refine (D1.out _ (by assumption)).mono ?_); rintro e w' ⟨rfl, hB1⟩)) | (go_at_call 26; ((with_reducible refine (D2.out _ (by assumption)).mono ?_); rintro e w' ⟨rfl, hB1⟩)) | (go_at_call 25; ((with_reducible refine (D3.out _ (by assumption)).mono ?_); rintro e w' ⟨rfl, hB1⟩)) | (go_at_call 26; ((with_reducible refine (D4.out _ (by assumption)).mono ?_); rintro e w' ⟨rfl, hB1⟩)) | (go_at_call 27; ((with_reducible refine (D5.out _ (by assumption)).mono ?_); rintro e w' ⟨rfl, hB1⟩)) | (go_at_call 25; ((with_reducible refine (D6.out _ (by assumption)).mono ?_); rintro e w' ⟨rfl, hB1⟩)) | (go_at_call 29; ((with_reducible refine (D7.out _ (by assumption)).mono ?_); rintro e w' ⟨rfl, hB1⟩)))
      go_ret
      exact ⟨rfl, Bx.below (by assumption)⟩
    · by_cases hp : p ≤ l
      · have hd : decide (p ≤ l) = true := decide_eq_true hp
        go_wp2_with (first | (go_at_call 31; ((with_reducible refine (D1.out _ (by assumption)).mono ?_); rintro e w' ⟨rfl, hB1⟩)) | (go_at_call 26; ((with_reducible refine (D2.out _ (by assumption)).mono ?_); rintro e w' ⟨rfl, hB1⟩)) | (go_at_call 25; ((with_reducible refine (D3.out _ (by assumption)).mono ?_); rintro e w' ⟨rfl, hB1⟩)) | (go_at_call 26; ((with_reducible refine (D4.out _ (by assumption)).mono ?_); rintro e w' ⟨rfl, hB1⟩)) | (go_at_call 27; ((with_reducible refine (D5.out _ (by assumption)).mono ?_); rintro e w' ⟨rfl, hB1⟩)) | (go_at_call 25; ((with_reducible refine (D6.out _ (by assumption)).mono ?_); rintro e w' ⟨rfl, hB1⟩)) | (go_at_call 29; ((with_reducible refine (D7.out _ (by assumption)).mono ?_); rintro e w' ⟨rfl, hB1⟩)))
        go_ret
        exact ⟨rfl, Bx.below (by assumption)⟩
      · have hd : decide (p ≤ l) = false := decide_eq_false hp
        go_wp2_with (first | (go_at_call 31; ((with_reducible refine (D1.out _ (by assumption)).mono ?_); rintro e w' ⟨rfl, hB1⟩)) | (go_at_call 26; ((with_reducible refine (D2.out _ (by assumption)).mono ?_); rintro e w' ⟨rfl, hB1⟩)) | (go_at_call 25; ((with_reducible refine (D3.out _ (by assumption)).mono ?_); rintro e w' ⟨rfl, hB1⟩)) | (go_at_call 26; ((with_reducible refine (D4.out _ (by assumption)).mono ?_); rintro e w' ⟨rfl, hB1⟩)) | (go_at_call 27; ((with_reducible refine (D5.out _ (by assumption)).mono ?_); rintro e w' ⟨rfl, hB1⟩)) | (go_at_call 25; ((with_reducible refine (D6.out _ (by assumption)).mono ?_); rintro e w' ⟨rfl, hB1⟩)) | (go_at_call 29; ((with_reducible refine (D7.out _ (by assumption)).mono ?_); rintro e w' ⟨rfl, hB1⟩)))
        go_ret
        exact ⟨rfl, Bx.below (by assumption)⟩
  · go_wp2_with (first | (go_at_call 31; ((with_reducible refine (D1.out _ (by assumption)).mono ?_); rintro e w' ⟨rfl, hB1⟩)) | (go_at_call 26; ((with_reducible refine (D2.out _ (by assumption)).mono ?_); rintro e w' ⟨rfl, hB1⟩)) | (go_at_call 25; ((with_reducible refine (D3.out _ (by assumption)).mono ?_); rintro e w' ⟨rfl, hB1⟩)) | (go_at_call 26; ((with_reducible refine (D4.out _ (by assumption)).mono ?_); rintro e w' ⟨rfl, hB1⟩)) | (go_at_call 27; ((with_reducible refine (D5.out _ (by assumption)).mono ?_); rintro e w' ⟨rfl, hB1⟩)) | (go_at_call 25; ((with_reducible refine (D6.out _ (by assumption)).mono ?_); rintro e w' ⟨rfl, hB1⟩)) | (go_at_call 29; ((with_reducible refine (D7.out _ (by assumption)).mono ?_); rintro e w' ⟨rfl, hB1⟩)))
    go_ret
    exact ⟨rfl, Bx.below (by assumption)⟩

theorem parts_any (a : Int) (n z v c : Bool) (b : Int) (w : World) (ha : (Lit.int .u32 a).wf = true) (_hb : (Lit.int .i64 b).wf = true) :
    Calls Try.prog 12 #[.int .u32 a, .agg #[.bool n, .bool z, .bool v, .bool c], .int .i64 b] w fun e w' => e = .returned (.bool true) ∧ Below w.heap.size w w' := by
  obtain ⟨x, rfl, hx⟩ := u32_nat ha
  by_cases h : 0 ≤ b ∧ b ≤ 31
  · obtain ⟨l, rfl⟩ := Int.eq_ofNat_of_zero_le h.1
    exact parts_walk x l n z v c hx (by omega) w
  · go_enter Try.func12, Try.ntmps12
    by_cases h0 : b < 0
    · go_wp2_with (first | (go_at_call 22; refine (camshaftlaw06_alive.calls true _ alive_is).mono ?_; rintro e w' ⟨rfl, ⟨nd, rfl⟩⟩))
      go_ret
      exact ⟨rfl, pw_below_drewN ((Below.refl _ _).alloc (Nat.le_refl _) _) _⟩
    · have h1 : 31 < b := by omega
      go_wp2_with (first | (go_at_call 22; refine (camshaftlaw06_alive.calls true _ alive_is).mono ?_; rintro e w' ⟨rfl, ⟨nd, rfl⟩⟩))
      go_ret
      exact ⟨rfl, pw_below_drewN ((Below.refl _ _).alloc (Nat.le_refl _) _) _⟩

end Go.Proofs.Ytjflepoifdcadaa.Pure
