/- What is inserted is extracted, other bits stay; a turn by a count, and by the opposite, is none: the walk of ShiftBack. No condition. -/
import Derived.Test.YtpjgklpppiongaaGShiftBackx3
import Derived.Test.YtpjgklpppiongaaAid
import Derived.Laws.Rows
import Derived.Laws.Tables
import Derived.Lib.Hide
import Derived.Deep.QuietTactic
import Derived.BigQuiet
import Derived.IntWalk
namespace Go.Proofs.Ytpjgklpppiongaa.Pure
open Go.RowKit Go.Proofs.Ytpjgklpppiongaa.Aid Go.Proofs.Ytpjgklpppiongaa.GShiftBack Go.Proofs.YtpjgklpppiongaaW.PrintWords Go.Proofs.YtpjgklpppiongaaW.PrintLast

theorem wrap_i8 (n : Int) : IntKind.i8.wrap n = (n + 128) % 256 - 128 := by
  simp [IntKind.wrap, IntKind.bits, IntKind.signed]
  split <;> omega

/-- The count that a byte is. -/
theorem count_low (c : Nat) (h : c < 128) : wrap64 (IntKind.i8.wrap (c : Int)) = (c : Int) := by
  rw [wrap_i8]; unfold wrap64; omega
theorem count_high (c : Nat) (h : 128 ≤ c) (h2 : c < 256) : wrap64 (IntKind.i8.wrap (c : Int)) = (c : Int) - 256 := by
  rw [wrap_i8]; unfold wrap64; omega

theorem wrap32_range (x : Int) : -2147483648 ≤ wrap32 x ∧ wrap32 x ≤ 2147483647 := by unfold wrap32; omega
theorem wrap64_32 (x : Int) : wrap64 (wrap32 x) = wrap32 x := by have := wrap32_range x; exact wrap64_in (by omega) (by omega)

theorem pow_le31 (c : Nat) (h : c < 32) : 1 ≤ (2 : Int) ^ c ∧ (2 : Int) ^ c ≤ 2147483648 := by
  have h1 := Nat.two_pow_pos c
  have h2 : 2 ^ c ≤ 2 ^ 31 := Nat.pow_le_pow_right (by decide) (by omega)
  have e : (2 : Int) ^ c = ((2 ^ c : Nat) : Int) := by rw [Int.natCast_pow]; rfl
  rw [e]; omega

theorem mul_range (a p : Int) (ha : -2147483648 ≤ a) (hb : a ≤ 2147483647) (h1 : 1 ≤ p) (h2 : p ≤ 2147483648) : -4611686018427387904 ≤ a * p ∧ a * p ≤ 4611686018427387904 := by
  have e1 := Int.mul_le_mul_of_nonneg_right hb (show 0 ≤ p by omega)
  have e2 := Int.mul_le_mul_of_nonneg_right ha (show 0 ≤ p by omega)
  omega

/-- What a shift up comes to, out of the number that fits or not. -/
def upR (t : Int) : Int × Bool × Bool × Bool × Bool := (t % 4294967296, (t % 4294967296 / 2147483648) == 1, t % 4294967296 == 0, !(t == wrap32 (t % 4294967296)), false)
/-- What a shift down comes to. -/
def downR (q : Int) : Int × Bool × Bool × Bool × Bool := (q % 4294967296, (q % 4294967296 / 2147483648) == 1, q % 4294967296 == 0, false, false)
/-- What a shift up by 32 and more comes to. -/
def farR (x : Int) : Int × Bool × Bool × Bool × Bool := (0, false, true, x != 0, false)

theorem ash_up (c : Nat) (hc : c < 32) (x : Int) : shift_Ash.f (c : Int) x = some (upR (wrap32 x * 2 ^ c)) := by
  have hp := pow_le31 c hc
  have hx := wrap32_range x
  have hm := mul_range _ _ hx.1 hx.2 hp.1 hp.2
  have hs : shl .i64 (wrap32 x) (c : Int) = wrap32 x * 2 ^ c := by
    unfold shl
    rw [show min (c : Int).toNat (IntKind.bits .i64) = c from by rw [Int.toNat_natCast]; exact Nat.min_eq_left (by show c ≤ 64; omega), IntKind.wrap_i64]
    omega
  unfold shift_Ash.f shift_signs.f upR
  rw [count_low c (by omega), if_neg (by omega), if_pos (by omega), if_pos (by omega), wrap64_32, hs, wrap64_32]
  simp only [Option.bind_some]
  by_cases h : wrap32 x * 2 ^ c = wrap32 (wrap32 x * 2 ^ c % 4294967296)
  · rw [if_pos h, if_neg (by omega)]
    rw [← h]
    simp
  · rw [if_neg h]
    have : (wrap32 x * 2 ^ c == wrap32 (wrap32 x * 2 ^ c % 4294967296)) = false := beq_eq_false_iff_ne.mpr h
    rw [this]; rfl

theorem ash_far (c : Nat) (hc : 32 ≤ c) (hd : c < 128) (x : Int) : shift_Ash.f (c : Int) x = some (farR x) := by
  unfold shift_Ash.f shift_signs.f farR
  rw [count_low c hd, if_neg (by omega), if_neg (by omega)]
  simp only [Option.bind_some]
  rw [if_pos (by omega)]
  rfl

theorem ash_down (c : Nat) (hc : 128 ≤ c) (hd : c < 256) (x : Int) : shift_Ash.f (c : Int) x = some (downR (wrap32 x / 2 ^ (min (256 - c) 31))) := by
  have hm : (mn (wrap64 (-((c : Int) - 256))) 31).toNat = min (256 - c) 31 ∧ 0 ≤ mn (wrap64 (-((c : Int) - 256))) 31 := by
    rw [wrap64_in (by omega) (by omega)]; unfold mn; split <;> omega
  unfold shift_Ash.f shift_signs.f downR
  rw [count_high c hc hd, if_pos (by omega), if_pos hm.2, hm.1]
  rfl

theorem alive_is : camshaftlaw09_alive.f = some true := by
  unfold camshaftlaw09_alive.f
  have h := ash_up 1 (by decide) 1073741824
  rw [show ((1 : Nat) : Int) = 1 from rfl] at h
  rw [h]
  decide +kernel


/-- A number turned up by k < 32. -/
def rotN (x k : Nat) : Nat := x * 2 ^ k % 4294967296 ||| x / 2 ^ (32 - k)

theorem rotN_lt (x k : Nat) (hx : x < 4294967296) : rotN x k < 4294967296 := by
  unfold rotN
  have h1 : x / 2 ^ (32 - k) ≤ x := Nat.div_le_self _ _
  exact Nat.or_lt_two_pow (n := 32) (Nat.mod_lt _ (by decide)) (Nat.lt_of_le_of_lt h1 hx)

theorem high_bit (x i : Nat) (hx : x < 4294967296) (hi : 32 ≤ i) : x.testBit i = false :=
  Nat.testBit_lt_two_pow (Nat.lt_of_lt_of_le hx (Nat.pow_le_pow_right (n := 2) (by decide) hi))

theorem rotN_bit (x k i : Nat) (hx : x < 4294967296) (hk : k < 32) (hi : i < 32) : (rotN x k).testBit i = x.testBit ((i + 32 - k) % 32) := by
  unfold rotN
  rw [Nat.testBit_or, show 4294967296 = 2 ^ 32 from rfl, Nat.testBit_mod_two_pow, Nat.testBit_mul_two_pow, Nat.testBit_div_two_pow]
  by_cases h : k ≤ i
  · rw [high_bit x (i + (32 - k)) hx (by omega), show (i + 32 - k) % 32 = i - k from by omega]
    simp [h, hi]
  · rw [show (i + 32 - k) % 32 = i + (32 - k) from by omega]
    simp [h]

theorem rot_count (c : Nat) (hc : c < 256) : Go.bits .and .u64 (IntKind.u64.wrap (wrap64 (IntKind.i8.wrap (c : Int)))) 31 = ((c % 32 : Nat) : Int) := by
  have e : IntKind.u64.wrap (wrap64 (IntKind.i8.wrap (c : Int))) = ((if c < 128 then c else c + 18446744073709551360 : Nat) : Int) := by
    by_cases h : c < 128
    · rw [count_low c h, if_pos h, IntKind.wrap_u64]; omega
    · rw [count_high c (by omega) hc, if_neg h, IntKind.wrap_u64]; omega
  rw [e, show (31 : Int) = ((31 : Nat) : Int) from rfl, u64_and_nat _ 31 (by split <;> omega) (by decide), nat_mask5]
  split <;> omega

theorem rotate_is (x c : Nat) (hx : x < 4294967296) (hc : c < 256) : bits_RotateLeft32.f (x : Int) (wrap64 (IntKind.i8.wrap (c : Int))) = some ((rotN x (c % 32) : Nat) : Int) := by
  unfold bits_RotateLeft32.f rotN
  rw [rot_count c hc]
  have hk : c % 32 < 32 := Nat.mod_lt _ (by decide)
  generalize c % 32 = k at *
  have hsub : IntKind.u64.wrap (32 - ((k : Nat) : Int)) = ((32 - k : Nat) : Int) := by rw [IntKind.wrap_u64]; omega
  rw [hsub, if_pos (by omega), if_pos (by omega)]
  have e1 : shl .u32 (x : Int) ((k : Nat) : Int) = ((x * 2 ^ k % 4294967296 : Nat) : Int) := by
    unfold shl
    rw [Int.toNat_natCast, show min k (IntKind.bits .u32) = k from Nat.min_eq_left (by show k ≤ 32; omega), IntKind.wrap_u32, Int.natCast_emod, Int.natCast_mul, Int.natCast_pow]
    rfl
  have e2 : shr .u32 (x : Int) ((32 - k : Nat) : Int) = ((x / 2 ^ (32 - k) : Nat) : Int) := by
    unfold shr
    rw [Int.toNat_natCast, show min (32 - k) (IntKind.bits .u32) = 32 - k from Nat.min_eq_left (by show 32 - k ≤ 32; omega), Int.natCast_ediv, Int.natCast_pow]
    rfl
  have h1 : x / 2 ^ (32 - k) ≤ x := Nat.div_le_self _ _
  rw [e1, e2, u32_or_nat _ _ (Nat.mod_lt _ (by decide)) (by omega)]

/-- What a turn comes to. -/
def rotR (y : Nat) (c : Bool) : Int × Bool × Bool × Bool × Bool := ((y : Int), ((y : Int) / 2147483648) == 1, (y : Int) == 0, false, c)

theorem rot_is (c x : Nat) (hc : c < 256) (hx : x < 4294967296) (b : Bool) : shift_Rot.f (c : Int) (x : Int) b = some (rotR (rotN x (c % 32)) b) := by
  unfold shift_Rot.f shift_signs.f rotR
  rw [rotate_is x c hx hc]
  rfl

theorem rot_rot (x j k : Nat) (hx : x < 4294967296) (hj : j < 32) (hk : k < 32) : rotN (rotN x j) k = rotN x ((j + k) % 32) := by
  have h1 := rotN_lt x j hx
  refine eq_of_bits 32 _ _ (rotN_lt _ k h1) (rotN_lt x _ hx) fun i hi => ?_
  rw [rotN_bit _ k i h1 hk hi, rotN_bit x j _ hx hj (Nat.mod_lt _ (by decide)), rotN_bit x _ i hx (Nat.mod_lt _ (by decide)) hi]
  congr 1
  omega

theorem rot_zero (x : Nat) (hx : x < 4294967296) : rotN x 0 = x := by
  refine eq_of_bits 32 _ _ (rotN_lt x 0 hx) hx fun i hi => ?_
  rw [rotN_bit x 0 i hx (by decide) hi]
  congr 1
  omega

theorem bit_l0 (n : Nat) (hn : n ≤ 64) (d : Nat) : ∀ (k i x : Nat), i + d = n → x < 4294967296 → d < k →
    camshaftref03_Bit.l0 k (x : Int) (n : Int) (i : Int) = some (x.testBit d) := by
  induction d with
  | zero =>
    intro k i x hi hx hk
    obtain ⟨k, rfl⟩ : ∃ m, k = m + 1 := ⟨k - 1, by omega⟩
    simp only [camshaftref03_Bit.l0]
    rw [if_neg (by omega), show (2 : Int) = ((2 : Nat) : Int) from rfl, tmod_nat, Nat.testBit_eq_decide_div_mod_eq]
    have h : x % 2 = 0 ∨ x % 2 = 1 := by omega
    rcases h with h | h <;> simp [h]
  | succ d ih =>
    intro k i x hi hx hk
    obtain ⟨k, rfl⟩ : ∃ m, k = m + 1 := ⟨k - 1, by omega⟩
    simp only [camshaftref03_Bit.l0]
    rw [if_pos (by omega), show (2 : Int) = ((2 : Nat) : Int) from rfl, tdiv_nat, wrap64_in (by omega) (by omega),
      show (((x / 2 : Nat) : Int) % 4294967296) = ((x / 2 : Nat) : Int) from by omega, show ((i : Int) + 1) = ((i + 1 : Nat) : Int) from by omega,
      ih k (i + 1) (x / 2) (by omega) (by omega) (by omega), Nat.testBit_succ]

theorem bit_is (k n x : Nat) (hn : n ≤ 64) (hk : 64 < k) (hx : x < 4294967296) : camshaftref03_Bit.f k (x : Int) (n : Int) = some (x.testBit n) := by
  unfold camshaftref03_Bit.f
  exact bit_l0 n hn n k 0 x (by omega) hx (by omega)

theorem low_is (n : Nat) (hn : n ≤ 32) : shift_low.f (n : Int) = some ((2 ^ n - 1 : Nat) : Int) := by
  have hp := Nat.two_pow_pos n
  have h2 : 2 ^ n ≤ 2 ^ 32 := Nat.pow_le_pow_right (by decide) hn
  have e : (mn (mx (n : Int) 0) 32).toNat = n := by unfold mn mx; split <;> split <;> omega
  unfold shift_low.f
  rw [e, show (2 : Int) ^ n = ((2 ^ n : Nat) : Int) from by rw [Int.natCast_pow]; rfl]
  generalize 2 ^ n = p at *
  rw [IntKind.wrap_u64, IntKind.wrap_u64]
  congr 1
  omega

theorem at_mask (a : Nat) (_ha : a < 32) : Go.bits .and .i64 (a : Int) 31 = (a : Int) := by
  rw [i64_mask 5 (by decide) (a : Int) 31 rfl]; omega

theorem shr64 (row a : Nat) (_ha : a < 64) : shr .u64 (row : Int) (a : Int) = ((row / 2 ^ a : Nat) : Int) := by
  unfold shr
  rw [Int.toNat_natCast, show min a (IntKind.bits .u64) = a from Nat.min_eq_left (by show a ≤ 64; omega), Int.natCast_ediv, Int.natCast_pow]
  rfl

theorem field_is (row a n : Nat) (hr : row < 18446744073709551616) (ha : a < 32) (hn : n ≤ 32) :
    Go.bits .and .u64 (shr .u64 (row : Int) (a : Int)) ((2 ^ n - 1 : Nat) : Int) = ((row / 2 ^ a % 2 ^ n : Nat) : Int) := by
  have h1 : row / 2 ^ a ≤ row := Nat.div_le_self _ _
  have h2 : 2 ^ n ≤ 2 ^ 32 := Nat.pow_le_pow_right (by decide) hn
  rw [shr64 row a (by omega), u64_and_nat _ _ (by omega) (by omega), Nat.and_two_pow_sub_one_eq_mod]

theorem extract_is (row a n : Nat) (hr : row < 18446744073709551616) (ha : a < 32) (hn : n ≤ 32) :
    shift_Extract.f (row : Int) (a : Int) (n : Int) false = some ((row / 2 ^ a % 2 ^ n : Nat) : Int) := by
  have h2 : 2 ^ n ≤ 2 ^ 32 := Nat.pow_le_pow_right (by decide) hn
  have hl := Nat.mod_lt (row / 2 ^ a) (Nat.two_pow_pos n)
  unfold shift_Extract.f
  rw [at_mask a ha, if_pos (by omega), low_is n hn, Option.bind_some, if_neg (by decide), field_is row a n hr ha hn]
  congr 1
  omega

/-! 64 bits as an array of bools. -/
def bv (l : List Bool) : Array Value := (l.map Value.bool).toArray
theorem bv_size (l : List Bool) : (bv l).size = l.length := by simp [bv]
theorem bv_get (l : List Bool) (i : Nat) (h : i < l.length) : (bv l)[i]? = some (.bool (l.getD i false)) := by
  simp [bv, List.getD_eq_getElem?_getD, List.getElem?_eq_getElem h]
theorem bv_set (l : List Bool) (i : Nat) (b : Bool) : (bv l).setIfInBounds i (.bool b) = bv (l.set i b) := by
  simp only [bv, List.setIfInBounds_toArray, List.map_set]
theorem bv_one (l : List Bool) : (bv l).all (·.oneCell') = true := by
  unfold bv
  rw [List.all_toArray, List.all_eq_true]
  intro v hv
  obtain ⟨b, _, rfl⟩ := List.mem_map.1 hv
  rfl

/-- Bit by bit, out of a function. -/
def ofF (f : Nat → Bool) : List Bool := (List.range 64).map f
theorem ofF_length (f : Nat → Bool) : (ofF f).length = 64 := by simp [ofF]
theorem ofF_get (f : Nat → Bool) (i : Nat) (h : i < 64) : (ofF f).getD i false = f i := by
  simp [ofF, List.getD_eq_getElem?_getD, h]
theorem ofF_congr (f g : Nat → Bool) (h : ∀ i, i < 64 → f i = g i) : ofF f = ofF g := by
  unfold ofF
  exact List.map_congr_left fun i hi => h i (List.mem_range.1 hi)
theorem ofF_set (f : Nat → Bool) (k : Nat) (b : Bool) : (ofF f).set k b = ofF (fun i => if i = k then b else f i) := by
  apply List.ext_getElem
  · simp [ofF]
  · intro i h1 h2
    simp only [ofF, List.getElem_set, List.getElem_map, List.getElem_range]
    by_cases h : k = i
    · simp [h]
    · rw [if_neg h, if_neg (fun e => h e.symm)]

/-- An array of 64 bools lies in block g of world W, free to be written. -/
def ArrAt (W : World) (g : Nat) (l : List Bool) : Prop := W.heap[g]? = some (.cells (bv l) 39 (0, 0)) ∧ l.length = 64
theorem ArrAt.cell {W : World} {g : Nat} {l : List Bool} (h : ArrAt W g l) (i : Nat) (hi : i < 64) : W.cell? ⟨g, i, none⟩ = some (.bool (l.getD i false)) := by
  rw [cell_of_row W g i _ _ _ h.1, bv_get l i (by have := h.2; omega)]
theorem ArrAt.free {W : World} {g : Nat} {l : List Bool} (h : ArrAt W g l) (i : Nat) : W.frozen? ⟨g, i, none⟩ = false := frozen_of_row W g i _ _ h.1
theorem ArrAt.set {W : World} {g : Nat} {l : List Bool} (h : ArrAt W g l) (i : Nat) (b : Bool) : ArrAt (W.setCell ⟨g, i, none⟩ (.bool b)) g (l.set i b) := by
  refine ⟨?_, by rw [List.length_set]; exact h.2⟩
  rw [heap_setCell_same W g i _ _ _ h.1, bv_set]
theorem ArrAt.drewN {W : World} {g : Nat} {l : List Bool} (h : ArrAt W g l) (n : Nat) : ArrAt (W.drewN n) g l := h
theorem ArrAt.lt {W : World} {g : Nat} {l : List Bool} (h : ArrAt W g l) : g < W.heap.size := (Array.getElem?_eq_some_iff.1 h.1).1
theorem ArrAt.then {W W' : World} {g : Nat} {l : List Bool} (h : ArrAt W g l) (k : Below W.heap.size W W') : ArrAt W' g l := ⟨(k.block g h.lt).trans h.1, h.2⟩

/-- 'i < 32 and its bit of the lower half, or its bit of the upper half'. -/
theorem half_bit (row i : Nat) : (if i < 32 then (row % 4294967296).testBit i else (row / 4294967296).testBit (i - 32)) = row.testBit i := by
  by_cases h : i < 32
  · rw [if_pos h, show 4294967296 = 2 ^ 32 from rfl, Nat.testBit_mod_two_pow]; simp [h]
  · rw [if_neg h, show 4294967296 = 2 ^ 32 from rfl, Nat.testBit_div_two_pow, show i - 32 + 32 = i from by omega]
theorem below_setRow {B : Nat} {a w : World} (h : Below B a w) (g : Nat) (cs : Array Value) (hg : B ≤ g) : Below B a (w.setRow g cs) :=
  h.trans ⟨rfl, rfl, rfl, by simp, fun k hk => setRow_other w g k cs (by omega)⟩
theorem ArrAt.setOther {W : World} {g : Nat} {l : List Bool} (h : ArrAt W g l) (a : Addr) (ha : g ≠ a.block) (v : Value) : ArrAt (W.setCell a v) g l :=
  ⟨(heap_setCell_other W a g v ha).trans h.1, h.2⟩
theorem below_setCell {B : Nat} {a w : World} (h : Below B a w) (p : Addr) (hp : B ≤ p.block) (u : Value) : Below B a (w.setCell p u) := h.setCell hp u
/-- The number of bits, the lowest first. -/
def numL : List Bool → Nat
  | [] => 0
  | b :: t => b.toNat + 2 * numL t
theorem numL_lt : ∀ l : List Bool, numL l < 2 ^ l.length
  | [] => by simp [numL]
  | b :: t => by
    have h := numL_lt t
    have hb : b.toNat ≤ 1 := by cases b <;> decide
    rw [numL, List.length_cons, Nat.pow_succ]
    omega
theorem numL_bit : ∀ (l : List Bool) (i : Nat), (numL l).testBit i = l.getD i false
  | [], i => by simp [numL]
  | b :: t, 0 => by
    rw [numL, Nat.testBit_zero]
    cases b <;> simp <;> omega
  | b :: t, i + 1 => by
    have hb : b.toNat ≤ 1 := by cases b <;> decide
    rw [numL, Nat.testBit_succ, show (b.toNat + 2 * numL t) / 2 = numL t from by omega, numL_bit t i]
    simp
theorem numL_drop (l : List Bool) (k : Nat) (h : k < l.length) : numL (l.drop k) = 2 * numL (l.drop (k + 1)) + (if l.getD k false then 1 else 0) := by
  rw [List.drop_eq_getElem_cons h, numL, List.getD_eq_getElem?_getD, List.getElem?_eq_getElem h]
  cases l[k] <;> simp <;> omega

/-- The bits of an extracted field, and of a row with a number in it, as the reference lays them. -/
def extF (row a n : Nat) (s : Bool) (i : Nat) : Bool := if i < n then row.testBit (a + i) else s && (decide (0 < n) && row.testBit (a + n - 1))
def extK (row a n : Nat) (s : Bool) (k : Nat) (i : Nat) : Bool := decide (i < k) && extF row a n s i
def insK (row a n x k : Nat) (i : Nat) : Bool := if a ≤ i ∧ i < a + n ∧ i < a + k then x.testBit (i - a) else row.testBit i
theorem numK_lt (row a n : Nat) (s : Bool) : numL (ofF (extK row a n s 32)) < 4294967296 := by
  apply Nat.lt_pow_two_of_testBit (n := 32)
  intro i hi
  rw [numL_bit]
  by_cases h : i < 64
  · rw [ofF_get _ _ h]; unfold extK; rw [decide_eq_false (by omega), Bool.false_and]
  · rw [List.getD_eq_getElem?_getD, List.getElem?_eq_none (by rw [ofF_length]; omega)]; rfl

theorem and_31 (a0 : Nat) (_h : a0 ≤ 4294967296) : Go.bits .and .i64 (a0 : Int) 31 = ((a0 % 32 : Nat) : Int) := by
  rw [i64_mask 5 (by decide) (a0 : Int) 31 rfl]; omega

theorem not_low (n : Nat) (hn : n ≤ 32) : Go.bits .xor .u64 18446744073709551615 ((2 ^ n - 1 : Nat) : Int) = ((18446744073709551615 ^^^ (2 ^ n - 1) : Nat) : Int) := by
  have h2 : 2 ^ n ≤ 2 ^ 32 := Nat.pow_le_pow_right (by decide) hn
  rw [show (18446744073709551615 : Int) = ((18446744073709551615 : Nat) : Int) from rfl, u64_xor_nat _ _ (by decide) (by omega)]

theorem ones_bit (n i : Nat) : (2 ^ n - 1).testBit i = decide (i < n) := Nat.testBit_two_pow_sub_one n i

theorem field_bit (row a n i : Nat) : (row / 2 ^ a % 2 ^ n).testBit i = (decide (i < n) && row.testBit (a + i)) := by
  rw [Nat.testBit_mod_two_pow, Nat.testBit_div_two_pow, Nat.add_comm i a]

theorem ext_number (row a n : Nat) (s : Bool) (y : Nat) (hy : y < 4294967296) (h : ∀ i, i < 32 → y.testBit i = extF row a n s i) : y = numL (ofF (extK row a n s 32)) := by
  refine eq_of_bits 32 _ _ hy (numK_lt row a n s) fun i hi => ?_
  rw [h i hi, numL_bit, ofF_get _ _ (by omega)]
  unfold extK
  rw [decide_eq_true hi, Bool.true_and]

theorem extract_full (row a0 n : Nat) (s : Bool) (hr : row < 18446744073709551616) (ha : a0 ≤ 4294967296) (hn : n ≤ 32) :
    shift_Extract.f (row : Int) (a0 : Int) (n : Int) s = some ((numL (ofF (extK row (a0 % 32) n s 32)) : Nat) : Int) := by
  have haL : a0 % 32 < 32 := Nat.mod_lt _ (by decide)
  have h2 : 2 ^ n ≤ 2 ^ 32 := Nat.pow_le_pow_right (by decide) hn
  have hl := Nat.mod_lt (row / 2 ^ (a0 % 32)) (Nat.two_pow_pos n)
  unfold shift_Extract.f
  rw [and_31 a0 ha, if_pos (by omega), low_is n hn, Option.bind_some, Option.bind_some, field_is row (a0 % 32) n hr haL hn, not_low n hn]
  generalize a0 % 32 = a at *
  have hplain : ((row / 2 ^ a % 2 ^ n : Nat) : Int) % 4294967296 = ((row / 2 ^ a % 2 ^ n : Nat) : Int) := by omega
  have hb : ∀ i, (row / 2 ^ a % 2 ^ n).testBit i = (decide (i < n) && row.testBit (a + i)) := field_bit row a n
  generalize row / 2 ^ a % 2 ^ n = x at *
  by_cases hs : s = true ∧ 0 < n
  · obtain ⟨rfl, h0⟩ := hs
    have em : wrap64 (mn (n : Int) 32 - 1) = ((n - 1 : Nat) : Int) := by
      rw [wrap64_in (by unfold mn; split <;> omega) (by unfold mn; split <;> omega)]; unfold mn; split <;> omega
    have et : Go.bits .and .u64 (shr .u64 (x : Int) ((n - 1 : Nat) : Int)) 1 = ((x / 2 ^ (n - 1) % 2 : Nat) : Int) := by
      have hd : x / 2 ^ (n - 1) ≤ x := Nat.div_le_self _ _
      rw [shr64 x (n - 1) (by omega), show (1 : Int) = ((1 : Nat) : Int) from rfl, u64_and_nat _ 1 (by omega) (by decide), nat_mask1]
    have hx : x < 4294967296 := by omega
    have hm := hb (n - 1)
    rw [decide_eq_true (show n - 1 < n by omega), Bool.true_and, show a + (n - 1) = a + n - 1 from by omega] at hm
    rw [if_pos rfl, if_pos (by omega), em, if_pos (by omega), et]
    rw [Nat.testBit_eq_decide_div_mod_eq] at hm
    by_cases ht : x / 2 ^ (n - 1) % 2 = 1
    · rw [if_pos (by omega)]
      rw [decide_eq_true ht] at hm
      have hx64 : 18446744073709551615 ^^^ (2 ^ n - 1) < 18446744073709551616 := Nat.xor_lt_two_pow (n := 64) (by decide) (by omega)
      rw [u64_or_nat x _ (by omega) hx64, show (((x ||| 18446744073709551615 ^^^ (2 ^ n - 1) : Nat) : Int) % 4294967296) = (((x ||| 18446744073709551615 ^^^ (2 ^ n - 1)) % 4294967296 : Nat) : Int) from by omega]
      refine congrArg (fun k : Nat => some (k : Int)) (ext_number row a n true _ (Nat.mod_lt _ (by decide)) fun i hi => ?_)
      rw [show 4294967296 = 2 ^ 32 from rfl, Nat.testBit_mod_two_pow, Nat.testBit_or, hb i, Nat.testBit_xor, show 18446744073709551615 = 2 ^ 64 - 1 from rfl, ones_bit, ones_bit,
        decide_eq_true hi, decide_eq_true (show i < 64 by omega), Bool.true_and]
      unfold extF
      by_cases hin : i < n
      · rw [if_pos hin, decide_eq_true hin]; simp
      · rw [if_neg hin, decide_eq_false hin, decide_eq_true h0, ← hm]; simp
    · rw [if_neg (by omega), hplain]
      rw [decide_eq_false ht] at hm
      refine congrArg (fun k : Nat => some (k : Int)) (ext_number row a n true _ hx fun i hi => ?_)
      rw [hb i]
      unfold extF
      by_cases hin : i < n
      · rw [if_pos hin, decide_eq_true hin]; simp
      · rw [if_neg hin, decide_eq_false hin, decide_eq_true h0, ← hm]; simp
  · have hx : x < 4294967296 := by omega
    have hgoal : some (((x : Nat) : Int) % 4294967296) = some ((numL (ofF (extK row a n s 32)) : Nat) : Int) := by
      rw [hplain]
      refine congrArg (fun k : Nat => some (k : Int)) (ext_number row a n s _ hx fun i hi => ?_)
      rw [hb i]
      unfold extF
      by_cases hin : i < n
      · rw [if_pos hin, decide_eq_true hin]; simp
      · rw [if_neg hin, decide_eq_false hin, Bool.false_and]
        cases s
        · rfl
        · rw [decide_eq_false (fun h => hs ⟨rfl, h⟩)]; rfl
    cases s
    · rw [if_neg (by decide)]; exact hgoal
    · rw [if_pos rfl, if_neg (by have h : ¬ 0 < n := fun h => hs ⟨rfl, h⟩; omega)]; exact hgoal

theorem num_eq (y : Nat) (f : Nat → Bool) (hy : y < 18446744073709551616) (h : ∀ i, i < 64 → y.testBit i = f i) : y = numL (ofF f) := by
  have hl := numL_lt (ofF f)
  rw [ofF_length] at hl
  refine eq_of_bits 64 _ _ hy hl fun i hi => ?_
  rw [h i hi, numL_bit, ofF_get _ _ hi]

theorem pow_mul64 (a b : Nat) (ha : a ≤ 4294967296) (hb : b < 32) : a * 2 ^ b < 18446744073709551616 := by
  have h2 : 2 ^ b ≤ 2 ^ 31 := Nat.pow_le_pow_right (by decide) (by omega)
  have := Nat.mul_le_mul ha h2
  omega

theorem shl64 (x a : Nat) (hx : x ≤ 4294967296) (ha : a < 32) : shl .u64 (x : Int) (a : Int) = ((x * 2 ^ a : Nat) : Int) := by
  have h := pow_mul64 x a hx ha
  unfold shl
  rw [Int.toNat_natCast, show min a (IntKind.bits .u64) = a from Nat.min_eq_left (by show a ≤ 64; omega),
    show (x : Int) * 2 ^ a = ((x * 2 ^ a : Nat) : Int) from by rw [Int.natCast_mul, Int.natCast_pow]; rfl, IntKind.wrap_u64]
  omega

theorem insert_full (row a0 n x : Nat) (hr : row < 18446744073709551616) (ha : a0 ≤ 4294967296) (hn : n ≤ 32) (hx : x < 4294967296) :
    shift_Insert.f (row : Int) (a0 : Int) (n : Int) (x : Int) = some ((numL (ofF (insK row (a0 % 32) n x n)) : Nat) : Int) := by
  have haL : a0 % 32 < 32 := Nat.mod_lt _ (by decide)
  have h2 : 2 ^ n ≤ 2 ^ 32 := Nat.pow_le_pow_right (by decide) hn
  have hp := Nat.two_pow_pos n
  unfold shift_Insert.f
  rw [low_is n hn, Option.bind_some, and_31 a0 ha, if_pos (by omega), show IntKind.u64.wrap (x : Int) = (x : Int) from by rw [IntKind.wrap_u64]; omega]
  generalize a0 % 32 = a at *
  have hm := pow_mul64 (2 ^ n - 1) a (by omega) haL
  have hy := pow_mul64 x a (by omega) haL
  rw [shl64 (2 ^ n - 1) a (by omega) haL, shl64 x a (by omega) haL, u64_andNot_nat row _ hr hm, u64_and_nat _ _ hy hm,
    u64_or_nat _ _ (Nat.lt_of_le_of_lt Nat.and_le_left hr) (Nat.lt_of_le_of_lt Nat.and_le_left hy)]
  refine congrArg (fun k : Nat => some (k : Int)) (num_eq _ _ (Nat.or_lt_two_pow (n := 64) (Nat.lt_of_le_of_lt Nat.and_le_left hr) (Nat.lt_of_le_of_lt Nat.and_le_left hy)) fun i hi => ?_)
  have hmb : ((2 ^ n - 1) * 2 ^ a).testBit i = (decide (a ≤ i) && decide (i - a < n)) := by
    rw [Nat.testBit_mul_two_pow, ones_bit]
  have hnb : (18446744073709551615 - (2 ^ n - 1) * 2 ^ a).testBit i = !((2 ^ n - 1) * 2 ^ a).testBit i := by
    have h := Nat.testBit_two_pow_sub_succ (x := (2 ^ n - 1) * 2 ^ a) (n := 64) hm i
    rw [show 2 ^ 64 - ((2 ^ n - 1) * 2 ^ a + 1) = 18446744073709551615 - (2 ^ n - 1) * 2 ^ a from by omega] at h
    rw [h, decide_eq_true hi, Bool.true_and]
  rw [Nat.testBit_or, Nat.testBit_and, Nat.testBit_and, hnb, hmb, Nat.testBit_mul_two_pow]
  unfold insK
  by_cases h1 : a ≤ i
  · by_cases h3 : i - a < n
    · rw [if_pos (by omega), decide_eq_true h1, decide_eq_true h3]; simp
    · rw [if_neg (by omega), decide_eq_true h1, decide_eq_false h3]; simp
  · rw [if_neg (by omega), decide_eq_false h1]; simp

theorem bit_neg (x : Nat) (n : Int) (hn : n ≤ 0) : camshaftref03_Bit.f 1 (x : Int) n = some (x.testBit 0) := by
  unfold camshaftref03_Bit.f
  simp only [camshaftref03_Bit.l0]
  rw [if_neg (by omega), show (2 : Int) = ((2 : Nat) : Int) from rfl, tmod_nat, Nat.testBit_eq_decide_div_mod_eq]
  have h : x % 2 = 0 ∨ x % 2 = 1 := by omega
  rcases h with h | h <;> simp [h]

theorem bit_call (x i : Nat) (hx : x < 4294967296) (hi : i ≤ 64) (W : World) : Calls Try.prog 29 #[.int .u32 (x : Int), .int .i64 (i : Int)] W fun e w' => e = .returned (.bool (x.testBit i)) ∧ ∃ n, w' = W.drewN n :=
  (camshaftref03_Bit.calls 65 (x : Int) (i : Int) _ W (bit_is 65 i x hi (by decide) hx)).mono fun _ _ ⟨e, d⟩ => ⟨e, d.out⟩
theorem bit_any (x : Nat) (n : Int) (hn : n ≤ 0) (W : World) : Calls Try.prog 29 #[.int .u32 (x : Int), .int .i64 n] W fun e w' => e = .returned (.bool (x.testBit 0)) ∧ ∃ n, w' = W.drewN n :=
  (camshaftref03_Bit.calls 1 (x : Int) n _ W (bit_neg x n hn)).mono fun _ _ ⟨e, d⟩ => ⟨e, d.out⟩

def rowF (row k : Nat) (i : Nat) : Bool := decide (i < k) && row.testBit i

theorem row_call (row : Nat) (hr : row < 18446744073709551616) (w : World) : Calls Try.prog 20 #[.int .u64 (row : Int)] w fun e w' => e = .returned (.agg (bv (ofF row.testBit))) ∧ Below w.heap.size w w' := by
  go_enter Try.func20, Try.ntmps20
  go_wp2
  go_loopw [5] (fun i wr => ∃ k : Nat, k ≤ 64 ∧ i = .int .i64 k ∧ ArrAt wr (w.heap.size + 1) (ofF (rowF row k)) ∧ ArrAt wr w.heap.size (ofF fun _ => false) ∧ Below w.heap.size w wr) (fun i _ => 64 - (intOf i).toNat)
  case atStart => exact ⟨0, by omega, rfl, ⟨heap_alloc2_new _ _ _, ofF_length _⟩, ⟨heap_alloc2_old _ _ _, ofF_length _⟩, ((Below.refl _ _).alloc (Nat.le_refl _) _).alloc (by simp) _⟩
  case round =>
    obtain ⟨k, hk, rfl, h1, h0, hb⟩ := hrel
    by_cases h64 : k = 64
    · subst h64
      rw [ofF_congr (rowF row 64) row.testBit (fun i hi => by unfold rowF; rw [decide_eq_true hi, Bool.true_and])] at h1
      have H1 := Lib.hid h1
      have H0 := Lib.hid h0
      clear h1 h0
      go_wp2_with (first
        | (refine wpList_load_row rfl 39 (.tmp 3) rfl (w.heap.size + 1) rfl _ _ _ _ H1.out.1 Try.underlying39 rfl (by rw [bv_size, H1.out.2]; kernel_rfl) ?_)
        | (refine wpList_store_row rfl 39 (.tmp 2) (.tmp 32) rfl w.heap.size _ rfl rfl _ _ H0.out.1 (by rw [bv_size, H1.out.2]; kernel_rfl) (by rw [bv_size, bv_size, H1.out.2, H0.out.2]) (bv_one _) ?_))
      refine bodyPost_ret (results_cell_row rfl _ _ w.heap.size 39 (bv (ofF row.testBit)) (0, 0) _ rfl (setRow_heap wr w.heap.size _ _ 39 _ H0.out.1) Try.underlying39 rfl (by rw [bv_size, H1.out.2]; kernel_rfl)) rfl ⟨rfl, below_setRow hb _ _ (Nat.le_refl _)⟩
    · have hlt : k < 64 := by omega
      have e1 : (row : Int) / 4294967296 = ((row / 4294967296 : Nat) : Int) := by omega
      have e2 : (row : Int) % 4294967296 = ((row % 4294967296 : Nat) : Int) := by omega
      have hbit := half_bit row k
      have h1c := h1.cell k hlt
      have h1f := h1.free k
      have hset := h1.set k (row.testBit k)
      rw [ofF_set, ofF_congr (fun i => if i = k then row.testBit k else rowF row k i) (rowF row (k + 1)) (fun i hi => by
        unfold rowF
        by_cases hik : i = k
        · subst hik; simp
        · by_cases hik2 : i < k
          · simp [hik, hik2, show i < k + 1 by omega]
          · simp [hik, hik2, show ¬ i < k + 1 by omega])] at hset
      by_cases h32 : k < 32
      · rw [if_pos h32] at hbit
        have A := Lib.hid (bit_any (row / 4294967296) ((k : Int) - 32) (by omega))
        have B := Lib.hid (bit_call (row % 4294967296) k (by omega) (by omega))
        rw [hbit, ← e2] at B
        rw [← e1] at A
        have HS := Lib.hid hset
        have H1 := Lib.hid h1
        have H0 := Lib.hid h0
        have HB := Lib.hid hb
        generalize row.testBit k = r at *
        generalize (row / 4294967296).testBit 0 = q at *
        clear hset h1 h0 hb hbit e1 e2
        have hd : decide (32 ≤ (k : Int)) = false := decide_eq_false (by omega)
        cases q
        · go_wp2_with (first | (go_at_call 29; ((with_reducible refine (A.out _).mono ?_); rintro e w' ⟨rfl, ⟨n, rfl⟩⟩)) | (go_at_call 29; ((with_reducible refine (B.out _).mono ?_); rintro e w' ⟨rfl, ⟨n, rfl⟩⟩)))
          go_roundw
          case rel => exact ⟨k + 1, by omega, by go_num, HS.out, ArrAt.setOther (H0.out.drewN _) _ (by simp) _, below_setCell (pw_below_drewN HB.out _) _ (by simp) _⟩
          case measure => simp [intOf]; omega
        · go_wp2_with (first | (go_at_call 29; ((with_reducible refine (A.out _).mono ?_); rintro e w' ⟨rfl, ⟨n, rfl⟩⟩)) | (go_at_call 29; ((with_reducible refine (B.out _).mono ?_); rintro e w' ⟨rfl, ⟨n, rfl⟩⟩)))
          go_roundw
          case rel => exact ⟨k + 1, by omega, by go_num, HS.out, ArrAt.setOther (H0.out.drewN _) _ (by simp) _, below_setCell (pw_below_drewN HB.out _) _ (by simp) _⟩
          case measure => simp [intOf]; omega
      · rw [if_neg h32] at hbit
        have A := Lib.hid (bit_call (row / 4294967296) (k - 32) (by omega) (by omega))
        rw [hbit, ← e1, show ((k - 32 : Nat) : Int) = (k : Int) - 32 from by omega] at A
        have HS := Lib.hid hset
        have H1 := Lib.hid h1
        have H0 := Lib.hid h0
        have HB := Lib.hid hb
        generalize row.testBit k = r at *
        clear hset h1 h0 hb hbit e1 e2
        cases r
        · go_wp2_with (first | (go_at_call 29; ((with_reducible refine (A.out _).mono ?_); rintro e w' ⟨rfl, ⟨n, rfl⟩⟩)))
          go_roundw
          case rel => exact ⟨k + 1, by omega, by go_num, HS.out, ArrAt.setOther (H0.out.drewN _) _ (by simp) _, below_setCell (pw_below_drewN HB.out _) _ (by simp) _⟩
          case measure => simp [intOf]; omega
        · go_wp2_with (first | (go_at_call 29; ((with_reducible refine (A.out _).mono ?_); rintro e w' ⟨rfl, ⟨n, rfl⟩⟩)))
          go_roundw
          case rel => exact ⟨k + 1, by omega, by go_num, HS.out, ArrAt.setOther (H0.out.drewN _) _ (by simp) _, below_setCell (pw_below_drewN HB.out _) _ (by simp) _⟩
          case measure => simp [intOf]; omega

theorem number_call (l : List Bool) (hl : l.length = 64) (w : World) : Calls Try.prog 28 #[.agg (bv l)] w fun e w' => e = .returned (.int .u64 ((numL l : Nat) : Int)) ∧ Below w.heap.size w w' := by
  have hA : ArrAt (w.alloc (.cells (bv l) 39)) w.heap.size l := ⟨heap_alloc_new w _, hl⟩
  have HA := Lib.hid hA
  clear hA
  go_enter Try.func28, Try.ntmps28
  go_wp2
  go_loop [3, 4] (fun x i => ∃ k : Nat, k ≤ 64 ∧ i = .int .i64 ((k : Int) - 1) ∧ x = .int .u64 ((numL (l.drop k) : Nat) : Int)) (fun _ i => (intOf i + 1).toNat)
  case atStart => exact ⟨64, by omega, rfl, by rw [List.drop_eq_nil_of_le (by omega)]; rfl⟩
  case round =>
    obtain ⟨k, hk, rfl, rfl⟩ := hrel
    by_cases h0 : k = 0
    · subst h0
      go_wp2
      go_ret
      exact ⟨rfl, (Below.refl _ _).alloc (Nat.le_refl _) _⟩
    · obtain ⟨k, rfl⟩ : ∃ m, k = m + 1 := ⟨k - 1, by omega⟩
      have hc := HA.out.cell k (by omega)
      have hd := numL_drop l k (by omega)
      have h1 := numL_lt (l.drop (k + 1))
      have h2 : 2 ^ (l.drop (k + 1)).length ≤ 2 ^ 63 := Nat.pow_le_pow_right (by decide) (by rw [List.length_drop]; omega)
      have hx : numL (l.drop (k + 1)) < 9223372036854775808 := by omega
      clear h1 h2
      rw [show ((k + 1 : Nat) : Int) - 1 = (k : Int) from by omega]
      have HD := Lib.hid hd
      have HX := Lib.hid hx
      clear hd hx
      generalize numL (l.drop (k + 1)) = x at *
      generalize hq : l.getD k false = q at *
      clear hq
      cases q
      · have hx := HX.out
        go_wp2
        go_round
        case rel => exact ⟨k, by omega, rfl, by rw [HD.out]; exact congrArg (Value.int .u64) (by simp)⟩
        case measure => simp [intOf]
      · have hx := HX.out
        go_wp2
        go_round
        case rel => exact ⟨k, by omega, rfl, by rw [HD.out]; exact congrArg (Value.int .u64) (by simp)⟩
        case measure => simp [intOf]


theorem arr_new2 (w : World) (o o' : Obj) (cs : Array Value) : (((w.alloc o).setRow w.heap.size cs).alloc o').heap[w.heap.size + 1]? = some o' := by
  have h := heap_alloc_new ((w.alloc o).setRow w.heap.size cs) o'
  have e : ((w.alloc o).setRow w.heap.size cs).heap.size = w.heap.size + 1 := by simp
  rwa [e] at h

theorem refExtract_call (row a0 a n : Nat) (s : Bool) (hr : row < 18446744073709551616) (ha0 : a0 ≤ 4294967296) (hn : n ≤ 32) (q : Nat) (HE : Hid (a0 % 32 = a ∧ numL (ofF (extK row a n s 32)) = q)) (w : World) :
    Calls Try.prog 17 #[.int .u64 (row : Int), .int .i64 (a0 : Int), .int .i64 (n : Int), .bool s] w fun e w' => e = .returned (.int .u32 (q : Int)) ∧ Below w.heap.size w w' := by
  have C := Lib.hid (row_call row hr)
  go_enter Try.func17, Try.ntmps17
  go_wp2_with (first
    | (go_at_call 20; ((with_reducible refine (C.out _).mono ?_); rintro e w1 ⟨rfl, hb1⟩))
    | (refine wpList_store_row rfl 39 (.tmp 9) (.tmp 13) rfl w1.heap.size _ rfl rfl _ _ (heap_alloc_new w1 _) (by rw [bv_size, ofF_length]; kernel_rfl) (by rw [bv_size, ofF_length]; rfl) (bv_one _) ?_))
  have ha : (a0 : Int) % 32 = (a : Int) := by have := HE.out.1; omega
  have haL : a < 32 := by have := HE.out.1; omega
  rw [ha]
  clear ha
  go_loopw [11] (fun i wr => ∃ k : Nat, k ≤ 32 ∧ i = .int .i64 k ∧ ArrAt wr w1.heap.size (ofF row.testBit) ∧ ArrAt wr (w1.heap.size + 1) (ofF (extK row a n s k)) ∧ Below w.heap.size w wr) (fun i _ => 32 - (intOf i).toNat)
  case atStart => exact ⟨0, by omega, rfl, ⟨(heap_alloc_old _ _ (by simp)).trans (setRow_heap _ w1.heap.size _ _ 39 _ (heap_alloc_new w1 _)), ofF_length _⟩, ⟨arr_new2 _ _ _ _, ofF_length _⟩, (below_setRow (hb1.alloc hb1.size _) _ _ hb1.size).alloc (by simp; have := hb1.size; omega) _⟩
  case round =>
    obtain ⟨k, hk, rfl, hA, hO, hB⟩ := hrel
    have hs1 := hb1.size
    by_cases h32 : k = 32
    · subst h32
      have HA := Lib.hid hA
      have HO := Lib.hid hO
      have N1 := Lib.hid (number_call (ofF (extK row a n s 32)) (ofF_length _))
      have hq1 := numK_lt row a n s
      rw [HE.out.2] at N1 hq1
      clear hA hO
      go_wp2_with (first
        | (refine wpList_load_row rfl 39 (.tmp 10) rfl (w1.heap.size + 1) rfl _ _ _ _ HO.out.1 Try.underlying39 rfl (by rw [bv_size, ofF_length]; kernel_rfl) ?_)
        | (go_at_call 28; ((with_reducible refine (N1.out _).mono ?_); rintro e w2 ⟨rfl, hb2⟩)))
      go_ret
      exact ⟨rfl, below_then hB hB.size hb2⟩
    · have hlt : k < 32 := by omega
      have hset := hO.set k (extF row a n s k)
      rw [ofF_set, ofF_congr (fun i => if i = k then extF row a n s k else extK row a n s k i) (extK row a n s (k + 1)) (fun i hi => by
        unfold extK
        by_cases hik : i = k
        · subst hik; simp
        · by_cases hik2 : i < k
          · simp [hik, hik2, show i < k + 1 by omega]
          · simp [hik, hik2, show ¬ i < k + 1 by omega])] at hset
      have hof := hO.free k
      have hoc := hO.cell k (by omega)
      have HS := Lib.hid hset
      have HA := Lib.hid hA
      have HO := Lib.hid hO
      have HB := Lib.hid hB
      clear hset hA hO hB
      by_cases hn1 : k < n
      · have hc := HA.out.cell (a + k) (by omega)
        rw [ofF_get _ _ (by omega)] at hc
        have he : extF row a n s k = row.testBit (a + k) := by unfold extF; rw [if_pos hn1]
        rw [he] at HS
        clear he
        generalize row.testBit (a + k) = r at *
        cases r
        · go_wp2
          go_roundw
          case rel => exact ⟨k + 1, by omega, by go_num, ArrAt.setOther HA.out _ (by simp) _, HS.out, below_setCell HB.out _ (by simp; omega) _⟩
          case measure => simp [intOf]; omega
        · go_wp2
          go_roundw
          case rel => exact ⟨k + 1, by omega, by go_num, ArrAt.setOther HA.out _ (by simp) _, HS.out, below_setCell HB.out _ (by simp; omega) _⟩
          case measure => simp [intOf]; omega
      · have he : extF row a n s k = (s && (decide (0 < n) && row.testBit (a + n - 1))) := by unfold extF; rw [if_neg hn1]
        rw [he] at HS
        clear he
        cases s
        · go_wp2
          go_roundw
          case rel => exact ⟨k + 1, by omega, by go_num, ArrAt.setOther HA.out _ (by simp) _, HS.out, below_setCell HB.out _ (by simp; omega) _⟩
          case measure => simp [intOf]; omega
        · by_cases hn0 : n = 0
          · have hd0 : ¬ 0 < n := by omega
            rw [decide_eq_false (show ¬ 0 < n by omega), Bool.false_and, Bool.and_false] at HS
            clear hn0
            go_wp2
            go_roundw
            case rel => exact ⟨k + 1, by omega, by go_num, ArrAt.setOther HA.out _ (by simp) _, HS.out, below_setCell HB.out _ (by simp; omega) _⟩
            case measure => simp [intOf]; omega
          · have hc := HA.out.cell (a + n - 1) (by omega)
            rw [ofF_get _ _ (by omega)] at hc
            rw [decide_eq_true (show 0 < n by omega), Bool.true_and, Bool.true_and] at HS
            generalize row.testBit (a + n - 1) = r at *
            cases r
            · go_wp2
              go_roundw
              case rel => exact ⟨k + 1, by omega, by go_num, ArrAt.setOther HA.out _ (by simp) _, HS.out, below_setCell HB.out _ (by simp; omega) _⟩
              case measure => simp [intOf]; omega
            · go_wp2
              go_roundw
              case rel => exact ⟨k + 1, by omega, by go_num, ArrAt.setOther HA.out _ (by simp) _, HS.out, below_setCell HB.out _ (by simp; omega) _⟩
              case measure => simp [intOf]; omega


theorem refInsert_call (row a0 a n x : Nat) (hr : row < 18446744073709551616) (ha0 : a0 ≤ 4294967296) (hn : n ≤ 32) (hx : x < 4294967296) (q : Nat) (HE : Hid (a0 % 32 = a ∧ numL (ofF (insK row a n x n)) = q)) (w : World) :
    Calls Try.prog 19 #[.int .u64 (row : Int), .int .i64 (a0 : Int), .int .i64 (n : Int), .int .u32 (x : Int)] w fun e w' => e = .returned (.int .u64 (q : Int)) ∧ Below w.heap.size w w' := by
  have C := Lib.hid (row_call row hr)
  go_enter Try.func19, Try.ntmps19
  go_wp2_with (first
    | (go_at_call 20; ((with_reducible refine (C.out _).mono ?_); rintro e w1 ⟨rfl, hb1⟩))
    | (refine wpList_store_row rfl 39 (.tmp 9) (.tmp 12) rfl w1.heap.size _ rfl rfl _ _ (heap_alloc_new w1 _) (by rw [bv_size, ofF_length]; kernel_rfl) (by rw [bv_size, ofF_length]; rfl) (bv_one _) ?_))
  have ha : (a0 : Int) % 32 = (a : Int) := by have := HE.out.1; omega
  have haL : a < 32 := by have := HE.out.1; omega
  rw [ha]
  clear ha
  go_loopw [10] (fun i wr => ∃ k : Nat, k ≤ n ∧ i = .int .i64 k ∧ ArrAt wr w1.heap.size (ofF (insK row a n x k)) ∧ Below w.heap.size w wr) (fun i _ => n - (intOf i).toNat)
  case atStart =>
    refine ⟨0, by omega, rfl, ⟨(setRow_heap _ w1.heap.size _ _ 39 _ (heap_alloc_new w1 _)).trans ?_, ofF_length _⟩, below_setRow (hb1.alloc hb1.size _) _ _ hb1.size⟩
    rw [ofF_congr (insK row a n x 0) row.testBit (fun i hi => by unfold insK; rw [if_neg (by omega)])]
  case round =>
    obtain ⟨k, hk, rfl, hA, hB⟩ := hrel
    have hs1 := hb1.size
    by_cases h32 : k = n
    · have HA := Lib.hid hA
      have N1 := Lib.hid (number_call (ofF (insK row a n x n)) (ofF_length _))
      rw [HE.out.2] at N1
      rw [h32] at HA
      clear hA
      have hd : ¬ k < n := by omega
      clear h32
      go_wp2_with (first
        | (refine wpList_load_row rfl 39 (.tmp 9) rfl w1.heap.size rfl _ _ _ _ HA.out.1 Try.underlying39 rfl (by rw [bv_size, ofF_length]; kernel_rfl) ?_)
        | (go_at_call 28; ((with_reducible refine (N1.out _).mono ?_); rintro e w2 ⟨rfl, hb2⟩)))
      go_ret
      exact ⟨rfl, below_then hB hB.size hb2⟩
    · have hlt : k < n := by omega
      have hset := hA.set (a + k) (x.testBit k)
      rw [ofF_set, ofF_congr (fun i => if i = a + k then x.testBit k else insK row a n x k i) (insK row a n x (k + 1)) (fun i hi => by
        unfold insK
        by_cases hik : i = a + k
        · subst hik; rw [if_pos rfl, if_pos (by omega), show a + k - a = k from by omega]
        · simp only [hik, if_false]
          by_cases hik2 : a ≤ i ∧ i < a + n ∧ i < a + k
          · rw [if_pos hik2, if_pos (by omega)]
          · rw [if_neg hik2, if_neg (by omega)])] at hset
      have hof := hA.free (a + k)
      have hoc := hA.cell (a + k) (by omega)
      have B := Lib.hid (bit_call x k hx (by omega))
      have HS := Lib.hid hset
      have HB := Lib.hid hB
      clear hset hA hB h32
      generalize x.testBit k = r at *
      go_wp2_with (first | (go_at_call 29; ((with_reducible refine (B.out _).mono ?_); rintro e w' ⟨rfl, ⟨m, rfl⟩⟩)))
      go_roundw
      case rel => exact ⟨k + 1, by omega, by go_num, HS.out, below_setCell (pw_below_drewN HB.out _) _ (by simp; omega) _⟩
      case measure => simp [intOf]; omega

theorem alive_call (w : World) : Calls Try.prog 9 #[] w fun e w' => e = .returned (.bool true) ∧ Below w.heap.size w w' := camshaftlaw09_alive.calls true w alive_is

/-- The number that is inserted. -/
def insN (row a n x : Nat) : Nat := numL (ofF (insK row a n x n))
theorem insN_lt (row a n x : Nat) : insN row a n x < 18446744073709551616 := by
  have h := numL_lt (ofF (insK row a n x n))
  rw [ofF_length] at h
  exact h
theorem insN_bit (row a n x i : Nat) (hi : i < 64) : (insN row a n x).testBit i = insK row a n x n i := by
  unfold insN; rw [numL_bit, ofF_get _ _ hi]

theorem ext_ins (row a n x : Nat) (ha : a < 32) (_hn : n ≤ 32) : numL (ofF (extK (insN row a n x) a n false 32)) = numL (ofF (extK x 0 n false 32)) := by
  rw [ofF_congr (extK (insN row a n x) a n false 32) (extK x 0 n false 32) fun i hi => by
    unfold extK extF
    by_cases h32 : i < 32
    · by_cases h : i < n
      · rw [if_pos h, if_pos h, insN_bit _ _ _ _ _ (by omega)]
        unfold insK
        rw [if_pos (by omega), show a + i - a = i from by omega, Nat.zero_add]
      · rw [if_neg h, if_neg h, Bool.false_and, Bool.false_and]
    · rw [decide_eq_false h32, Bool.false_and, Bool.false_and]]

theorem ins_back (row a n x : Nat) (hr : row < 18446744073709551616) (_ha : a < 32) (hn : n ≤ 32) : insN (insN row a n x) a n (numL (ofF (extK row a n true 32))) = row := by
  refine eq_of_bits 64 _ _ (insN_lt _ _ _ _) hr fun i hi => ?_
  rw [insN_bit _ _ _ _ _ hi]
  unfold insK
  by_cases h : a ≤ i ∧ i < a + n ∧ i < a + n
  · rw [if_pos h, numL_bit, ofF_get _ _ (by omega)]
    unfold extK extF
    rw [if_pos (by omega), decide_eq_true (by omega), Bool.true_and, show a + (i - a) = i from by omega]
  · rw [if_neg h, insN_bit _ _ _ _ _ hi]
    unfold insK
    rw [if_neg h]

theorem rot_back (x c : Nat) (hx : x < 4294967296) (hc : c < 256) : rotN (rotN x (c % 32)) ((256 - c) % 256 % 32) = x := by
  rw [rot_rot x _ _ hx (Nat.mod_lt _ (by decide)) (Nat.mod_lt _ (by decide)), show (c % 32 + (256 - c) % 256 % 32) % 32 = 0 from by omega, rot_zero x hx]

theorem arr_two (w : World) (o : Obj) (cs cs' : Array Value) : (((w.alloc o).alloc (.cells cs 39)).setRow w.heap.size cs').heap[w.heap.size + 1]? = some (.cells cs 39 (0, 0)) := by
  rw [setRow_other _ _ _ _ (by omega)]
  exact heap_alloc2_new w o _

set_option maxHeartbeats 1000000 in
theorem back_walk (row a n x c : Nat) (hr : row < 18446744073709551616) (ha : a < 32) (hn : n ≤ 32) (hx : x < 4294967296) (hc : c < 256) (w : World) :
    Calls Try.prog 8 #[.int .u64 (row : Int), .int .i64 (a : Int), .int .i64 (n : Int), .int .u32 (x : Int), .int .u8 (c : Int)] w fun e w' => e = .returned (.bool true) ∧ Below w.heap.size w w' := by
  have hy := insN_lt row a n x
  have hz := rotN_lt x (c % 32) hx
  have C1 := Lib.hid (fun W => shift_Insert.calls (row : Int) (a : Int) (n : Int) (x : Int) _ W (insert_full row a n x hr (by omega) hn hx))
  have R1 := Lib.hid (fun W => row_call row hr W)
  have R2 := Lib.hid (fun W => row_call (insN row a n x) hy W)
  have T1 := Lib.hid (fun W => shift_Rot.calls (c : Int) (x : Int) false _ _ _ _ _ W (rot_is c x hc hx false))
  have T2 := Lib.hid (fun W => shift_Rot.calls (((256 - c) % 256 : Nat) : Int) ((rotN x (c % 32) : Nat) : Int) false _ _ _ _ _ W (rot_is ((256 - c) % 256) _ (Nat.mod_lt _ (by decide)) hz false))
  rw [rot_back x c hx hc, show (((256 - c) % 256 : Nat) : Int) = -(c : Int) % 256 from by omega] at T2
  have E1 := Lib.hid (fun W => shift_Extract.calls ((insN row a n x : Nat) : Int) (a : Int) (n : Int) false _ W (extract_full (insN row a n x) a n false hy (by omega) hn))
  have E2 := Lib.hid (fun W => refExtract_call x 0 0 n false (by omega) (by decide) hn _ ⟨rfl, rfl⟩ W)
  rw [show ((0 : Nat) : Int) = 0 from rfl] at E2
  have E3 := Lib.hid (fun W => shift_Extract.calls (row : Int) (a : Int) (n : Int) true _ W (extract_full row a n true hr (by omega) hn))
  have hq := numK_lt row a n true
  have C2 := Lib.hid (fun W => shift_Insert.calls ((insN row a n x : Nat) : Int) (a : Int) (n : Int) _ _ W (insert_full (insN row a n x) a n (numL (ofF (extK row a n true 32))) hy (by omega) hn hq))
  rw [Nat.mod_eq_of_lt ha] at C1 E1 E3 C2
  have hback := ins_back row a n x hr ha hn
  unfold insN at hback
  rw [show numL (ofF (insK (insN row a n x) a n (numL (ofF (extK row a n true 32))) n)) = row from hback] at C2
  rw [ext_ins row a n x ha hn] at E1
  have HB := Lib.hid (fun i (hi : i < 64) => insN_bit row a n x i hi)
  rw [show numL (ofF (insK row a n x n)) = insN row a n x from rfl] at C1
  clear hback
  generalize insN row a n x = y at *
  generalize numL (ofF (extK x 0 n false 32)) = e1 at *
  generalize numL (ofF (extK row a n true 32)) = e3 at *
  generalize rotN x (c % 32) = z at *
  go_enter Try.func8, Try.ntmps8
  go_wp2_with (first
    | (go_at_call 9; ((with_reducible refine (alive_call _).mono ?_); rintro e w1 ⟨rfl, hb1⟩))
    | (go_at_call 18; ((with_reducible refine (C1.out _).mono ?_); rintro e w2 ⟨rfl, hb2⟩))
    | (go_at_call 20; ((with_reducible refine (R1.out _).mono ?_); rintro e w3 ⟨rfl, hb3⟩))
    | (go_at_call 20; ((with_reducible refine (R2.out _).mono ?_); rintro e w4 ⟨rfl, hb4⟩))
    | (refine wpList_store_row rfl 39 (.tmp 12) (.tmp 41) rfl w4.heap.size _ rfl rfl _ _ (heap_alloc2_old w4 _ _) (by rw [bv_size, ofF_length]; kernel_rfl) (by rw [bv_size, ofF_length]; rfl) (bv_one _) ?_)
    | (refine wpList_store_row rfl 39 (.tmp 13) (.tmp 43) rfl (w4.heap.size + 1) _ rfl rfl _ _ (arr_two w4 _ _ _) (by rw [bv_size, ofF_length]; kernel_rfl) (by rw [bv_size, ofF_length]; rfl) (bv_one _) ?_))
  have k2 := below_then hb1 hb1.size hb2
  have k3 := below_then k2 k2.size hb3
  have k4 := below_then k3 k3.size hb4
  clear hb1 hb2 hb3 hb4 k2 k3
  have hs4 := k4.size
  go_loopw [44] (fun i wr => ∃ k : Nat, k ≤ 64 ∧ i = .int .i64 k ∧ ArrAt wr w4.heap.size (ofF row.testBit) ∧ ArrAt wr (w4.heap.size + 1) (ofF y.testBit) ∧ Below w.heap.size w wr) (fun i _ => 64 - (intOf i).toNat)
  case atStart =>
    refine ⟨0, by omega, rfl, ⟨?_, ofF_length _⟩, ⟨?_, ofF_length _⟩, below_setRow (below_setRow ((k4.alloc hs4 _).alloc (by simp; omega) _) _ _ hs4) _ _ (by omega)⟩
    · rw [setRow_other _ _ _ _ (by omega)]
      exact setRow_heap _ w4.heap.size _ _ 39 _ (heap_alloc2_old w4 _ _)
    · exact setRow_heap _ (w4.heap.size + 1) _ _ 39 _ (arr_two w4 _ _ _)
  case round =>
    obtain ⟨k, hk, rfl, hA, hC, hW⟩ := hrel
    by_cases h64 : k = 64
    · have hd : ¬ k < 64 := by omega
      clear h64 hA hC
      go_wp2_with (first
        | (go_at_call 12; ((with_reducible refine (T1.out _).mono ?_); rintro e w5 ⟨rfl, hb5⟩))
        | (go_at_call 12; ((with_reducible refine (T2.out _).mono ?_); rintro e w6 ⟨rfl, hb6⟩))
        | (go_at_call 14; ((with_reducible refine (E1.out _).mono ?_); rintro e w7 ⟨rfl, hb7⟩))
        | (go_at_call 17; ((with_reducible refine (E2.out _).mono ?_); rintro e w8 ⟨rfl, hb8⟩))
        | (go_at_call 14; ((with_reducible refine (E3.out _).mono ?_); rintro e w9 ⟨rfl, hb9⟩))
        | (go_at_call 18; ((with_reducible refine (C2.out _).mono ?_); rintro e w10 ⟨rfl, hb10⟩)))
      go_ret
      have m5 := below_then hW hW.size hb5
      have m6 := below_then (m5.alloc m5.size _) (m5.alloc m5.size _).size hb6
      have m7 := below_then (m6.alloc m6.size _) (m6.alloc m6.size _).size hb7
      have m8 := below_then m7 m7.size hb8
      have m9 := below_then m8 m8.size hb9
      exact ⟨rfl, below_then m9 m9.size hb10⟩
    · have hlt : k < 64 := by omega
      clear h64
      have hc1 := hA.cell k hlt
      have hc2 := hC.cell k hlt
      rw [ofF_get _ _ hlt] at hc1 hc2
      have hbit := HB.out k hlt
      unfold insK at hbit
      have HA := Lib.hid hA
      have HC := Lib.hid hC
      have HW := Lib.hid hW
      clear hA hC hW
      by_cases hin : k < a ∨ a + n ≤ k
      · rw [if_neg (by omega)] at hbit
        rw [hbit] at hc2
        clear hbit
        generalize row.testBit k = r at *
        by_cases h1 : k < a
        · go_wp2
          go_quiet (fail)
          go_wp2
          go_roundw
          case rel => exact ⟨k + 1, by omega, by go_num, HA.out.drewN _, HC.out.drewN _, pw_below_drewN HW.out _⟩
          case measure => simp [intOf]; omega
        · have h2 : a + n ≤ k := by omega
          have e1 : decide (k < a) = false := decide_eq_false h1
          have hsum : IntKind.i64.wrap ((a : Int) + (n : Int)) = (a : Int) + (n : Int) := IntWalk.i64_in _ (by omega)
          have e2 : decide ((a : Int) + (n : Int) ≤ (k : Int)) = true := decide_eq_true (by omega)
          have e3 : decide (a + n ≤ k) = true := decide_eq_true (by omega)
          clear h2
          go_wp2
          go_quiet (fail)
          go_wp2
          go_roundw
          case rel => exact ⟨k + 1, by omega, by go_num, HA.out.drewN _, HC.out.drewN _, pw_below_drewN HW.out _⟩
          case measure => simp [intOf]; omega
      · have h1 : ¬ k < a := by omega
        have h2 : ¬ a + n ≤ k := by omega
        clear hbit hin
        have e1 : decide (k < a) = false := decide_eq_false h1
        have hsum : IntKind.i64.wrap ((a : Int) + (n : Int)) = (a : Int) + (n : Int) := IntWalk.i64_in _ (by omega)
        have e2 : decide ((a : Int) + (n : Int) ≤ (k : Int)) = false := decide_eq_false (by omega)
        have e3 : decide (a + n ≤ k) = false := decide_eq_false (by omega)
        clear h2
        go_wp2
        go_quiet (fail)
        go_wp2
        go_roundw
        case rel => exact ⟨k + 1, by omega, by go_num, HA.out.drewN _, HC.out.drewN _, pw_below_drewN HW.out _⟩
        case measure => simp [intOf]; omega

theorem back_any (r a n x c : Int) (w : World) (wr : (Lit.int .u64 r).wf = true) (_wa : (Lit.int .i64 a).wf = true) (_wn : (Lit.int .i64 n).wf = true) (wx : (Lit.int .u32 x).wf = true) (wc : (Lit.int .u8 c).wf = true) :
    Calls Try.prog 8 #[.int .u64 r, .int .i64 a, .int .i64 n, .int .u32 x, .int .u8 c] w fun e w' => e = .returned (.bool true) ∧ Below w.heap.size w w' := by
  obtain ⟨row, rfl, hr⟩ := u64_nat wr
  obtain ⟨x, rfl, hx⟩ := u32_nat wx
  obtain ⟨c, rfl, hc⟩ := u8_nat wc
  by_cases h : 0 ≤ a ∧ a ≤ 31 ∧ 0 ≤ n ∧ n ≤ 32
  · obtain ⟨a, rfl⟩ := Int.eq_ofNat_of_zero_le h.1
    obtain ⟨n, rfl⟩ := Int.eq_ofNat_of_zero_le h.2.2.1
    exact back_walk row a n x c hr (by omega) (by omega) hx hc w
  · go_enter Try.func8, Try.ntmps8
    by_cases h1 : a < 0
    · go_wp2_with (first | (go_at_call 9; ((with_reducible refine (alive_call _).mono ?_); rintro e w1 ⟨rfl, hb1⟩)))
      go_ret
      exact ⟨rfl, hb1⟩
    · by_cases h2 : 31 < a
      · go_wp2_with (first | (go_at_call 9; ((with_reducible refine (alive_call _).mono ?_); rintro e w1 ⟨rfl, hb1⟩)))
        go_ret
        exact ⟨rfl, hb1⟩
      · by_cases h3 : n < 0
        · go_wp2_with (first | (go_at_call 9; ((with_reducible refine (alive_call _).mono ?_); rintro e w1 ⟨rfl, hb1⟩)))
          go_ret
          exact ⟨rfl, hb1⟩
        · have h4 : 32 < n := by omega
          go_wp2_with (first | (go_at_call 9; ((with_reducible refine (alive_call _).mono ?_); rintro e w1 ⟨rfl, hb1⟩)))
          go_ret
          exact ⟨rfl, hb1⟩

end Go.Proofs.Ytpjgklpppiongaa.Pure
