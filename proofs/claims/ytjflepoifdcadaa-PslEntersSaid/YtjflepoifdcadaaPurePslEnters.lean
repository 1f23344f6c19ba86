/- Whoever is entered is the kernel, with no codes, nothing begun, at the level, from where it came: the pure statement behind PslEnters. No condition. -/
import Derived.Test.YtjflepoifdcadaaPPslEntersx2
import Derived.Test.YtjflepoifdcadaaAid
namespace Go.Proofs.Ytjflepoifdcadaa.Pure
open Go.RowKit Go.Proofs.Ytjflepoifdcadaa.Aid Go.Proofs.Ytjflepoifdcadaa.PPslEnters Go.Proofs.YtjflepoifdcadaaW.PrintWords Go.Proofs.YtjflepoifdcadaaW.PrintLast

/-- The level in a status. -/
def iplN (x : Nat) : Nat := x / 65536 % 32
/-- The bits that a status has not. -/
def restN (x : Nat) : Bool := (x &&& 4137746416 : Nat) != 0
def goodN (x : Nat) : Bool := !restN x && (!x.testBit 24 || (iplN x == 0 && x.testBit 22))

theorem alive_is : camshaftlaw06_alive.f = some true := by decide +kernel

theorem ipl_is (x : Nat) (h : x < 4294967296) : psl_Ipl.f (x : Int) = some ((iplN x : Nat) : Int) := by
  unfold psl_Ipl.f iplN
  rw [show (x : Int) / 65536 = ((x / 65536 : Nat) : Int) from by omega, show (31 : Int) = ((31 : Nat) : Int) from rfl,
    u32_and_nat _ 31 (by omega) (by decide), nat_mask5, wrap64_in (by omega) (by omega)]

theorem user_is (x : Nat) (h : x < 4294967296) : psl_IsUser.f (x : Int) = some (x.testBit 24) := by
  unfold psl_IsUser.f; rw [u32_flag 24 x 16777216 rfl (by decide) h]

theorem ipl_zero (x : Nat) : ((iplN x : Int) = 0) = (iplN x = 0) := by
  apply propext; constructor <;> intro h <;> omega

theorem good_is (x : Nat) (h : x < 4294967296) : psl_Good.f (x : Int) = some (goodN x) := by
  unfold psl_Good.f goodN restN
  rw [user_is x h, ipl_is x h, show (157220879 : Int) = ((157220879 : Nat) : Int) from rfl, u32_andNot_nat x _ h (by decide), u32_flag 22 x 4194304 rfl (by decide) h]
  simp only [Option.bind_some, Nat.reduceSub]
  generalize x &&& 4137746416 = r
  generalize x.testBit 24 = u
  generalize x.testBit 22 = b
  generalize iplN x = i
  rcases Nat.eq_zero_or_pos r with hr | hr
  · subst hr
    cases u
    · simp
    · rcases Nat.eq_zero_or_pos i with hi | hi
      · subst hi; simp
      · simp only [Int.natCast_eq_zero]
        have : i ≠ 0 := by omega
        simp [this]
  · have : r ≠ 0 := by omega
    simp [this]

def backN (x y : Nat) : Bool := goodN y && (y.testBit 24 || (!x.testBit 24 && decide (iplN y ≤ iplN x)))

theorem back_is (x y : Nat) (hx : x < 4294967296) (hy : y < 4294967296) : psl_Back.f (x : Int) (y : Int) = some (backN x y) := by
  unfold psl_Back.f backN
  rw [good_is y hy, user_is y hy, user_is x hx, ipl_is y hy, ipl_is x hx]
  cases goodN y <;> cases y.testBit 24 <;> cases x.testBit 24 <;> simp

theorem back_safe (x y : Nat) (h : backN x y = true) : (x.testBit 24 = true → y.testBit 24 = true) ∧ iplN y ≤ iplN x := by
  unfold backN goodN at h
  generalize restN y = r at h
  generalize iplN y = p at *
  generalize iplN x = q at *
  generalize y.testBit 22 = w at h
  cases hy : y.testBit 24 <;> cases hx : x.testBit 24 <;> rw [hy, hx] at h <;> simp at h ⊢
  · exact h.2
  · omega
  · omega

theorem flags_is (x : Nat) (h : x < 4294967296) : psl_Flags.f (x : Int) = some (x.testBit 3, x.testBit 2, x.testBit 1, x.testBit 0) := by
  unfold psl_Flags.f
  rw [u32_flag 3 x 8 rfl (by decide) h, u32_flag 2 x 4 rfl (by decide) h, u32_flag 1 x 2 rfl (by decide) h, u32_flag 0 x 1 rfl (by decide) h]

theorem at_zero (a : Int) : psl_At.f 0 a = some (((a % 32).toNat * 65536 : Nat) : Int) := by
  have hp : Go.bits .and .i64 a 31 = (((a % 32).toNat : Nat) : Int) := by rw [i64_mask 5 (by decide) a 31 rfl]; omega
  have hq : (a % 32).toNat < 32 := by omega
  unfold psl_At.f
  rw [hp]
  generalize (a % 32).toNat = q at *
  have e0 : Go.bits .andNot .u32 0 2031616 = ((0 : Nat) : Int) := by
    have h := u32_andNot_nat 0 2031616 (by decide) (by decide)
    rw [Nat.zero_and] at h; exact h
  rw [e0, show (((q : Nat) : Int) % 4294967296 * 65536) % 4294967296 = ((q * 65536 : Nat) : Int) from by omega, u32_or_nat 0 _ (by decide) (by omega), Nat.zero_or]

/-- The status of a handler at a level, from the user or not. -/
def enterN (a : Nat) (u : Bool) : Nat := a * 65536 + (if u then 4194304 else 0)

theorem enter_is (x : Nat) (hx : x < 4294967296) (a : Int) : psl_Enter.f (x : Int) a = some ((enterN (a % 32).toNat (x.testBit 24) : Nat) : Int) := by
  have hq : (a % 32).toNat < 32 := by omega
  unfold psl_Enter.f enterN
  rw [at_zero, user_is x hx]
  generalize (a % 32).toNat = q at *
  rw [Option.bind_some, Option.bind_some]
  cases x.testBit 24
  · rw [if_neg (by decide), if_neg (by decide), Nat.add_zero]
  · rw [if_pos rfl, if_pos rfl, show (4194304 : Int) = ((4194304 : Nat) : Int) from rfl, u32_or_nat _ _ (by omega) (by decide), Nat.or_comm,
      nat_join 22 _ _ (by decide) (by omega), Nat.add_comm]

def enterChk (a : Nat) (u : Bool) : Bool :=
  decide (enterN a u < 4294967296) && ((enterN a u).testBit 24 == false) && ((enterN a u).testBit 22 == u) && (iplN (enterN a u) == a) && goodN (enterN a u) &&
    ((enterN a u).testBit 27 == false) && ((enterN a u).testBit 3 == false) && ((enterN a u).testBit 2 == false) && ((enterN a u).testBit 1 == false) && ((enterN a u).testBit 0 == false)

theorem enter_all : (List.range 32).all (fun a => enterChk a false && enterChk a true) = true := by decide +kernel

theorem enter_facts (a : Nat) (ha : a < 32) (u : Bool) : enterN a u < 4294967296 ∧ (enterN a u).testBit 24 = false ∧ (enterN a u).testBit 22 = u ∧ iplN (enterN a u) = a ∧ goodN (enterN a u) = true ∧
    (enterN a u).testBit 27 = false ∧ (enterN a u).testBit 3 = false ∧ (enterN a u).testBit 2 = false ∧ (enterN a u).testBit 1 = false ∧ (enterN a u).testBit 0 = false := by
  have h := List.all_eq_true.1 enter_all a (List.mem_range.2 ha)
  have hc : enterChk a u = true := by
    rw [Bool.and_eq_true] at h
    cases u
    · exact h.1
    · exact h.2
  unfold enterChk at hc
  simp only [Bool.and_eq_true, beq_iff_eq, decide_eq_true_eq] at hc
  obtain ⟨⟨⟨⟨⟨⟨⟨⟨⟨h1, h2⟩, h3⟩, h4⟩, h5⟩, h6⟩, h7⟩, h8⟩, h9⟩, h10⟩ := hc
  exact ⟨h1, h2, h3, h4, h5, h6, h7, h8, h9, h10⟩

theorem enters_true (x a b : Nat) (hx : x < 4294967296) (ha : a < 32) (hb : b < 32) : camshaftlaw06_PslEnters.j0 1 (x : Int) (a : Int) (b : Int) false = some true := by
  have ea : (((a : Nat) : Int) % 32).toNat = a := by omega
  have eb : (((b : Nat) : Int) % 32).toNat = b := by omega
  obtain ⟨y1, y2, y3, y4, y5, y6, y7, y8, y9, y10⟩ := enter_facts a ha (x.testBit 24)
  obtain ⟨z1, z2, _, z4, _⟩ := enter_facts b hb false
  simp only [camshaftlaw06_PslEnters.j0]
  rw [if_neg (by decide), enter_is x hx, ea]
  have hback : backN (enterN b false) (enterN a (x.testBit 24)) = decide (a ≤ b) := by
    unfold backN; rw [y5, y2, z2, y4, z4]; rfl
  have ez : ((enterN b false : Nat) : Int) = (((b : Int) % 4294967296) * 65536) % 4294967296 := by
    unfold enterN; simp only [Bool.false_eq_true, if_false]; omega
  generalize enterN a (x.testBit 24) = y at *
  have e27 : Go.bits .and .u32 (y : Int) 134217728 = 0 := by
    have := u32_flag 27 y 134217728 rfl (by decide) y1
    rw [y6, bne_eq_false_iff_eq] at this
    exact this
  rw [Option.bind_some, enter_is y y1, y2, eb, Option.bind_some, flags_is y y1, y7, y8, y9, y10, Option.bind_some, if_pos (by rfl), e27, if_pos rfl, good_is y y1, y5, Option.bind_some, if_pos rfl,
    user_is x hx, Option.bind_some, u32_flag 22 y 4194304 rfl (by decide) y1, y3, if_pos (beq_self_eq_true _), ← ez, if_pos rfl, back_is _ y z1 y1, hback, Option.bind_some]
  have hd : decide ((a : Int) ≤ (b : Int)) = decide (a ≤ b) := by
    by_cases h : a ≤ b
    · simp [h]
    · simp [h]
  rw [hd, beq_self_eq_true]

theorem PslEnters : camshaftlaw06_PslEnters.Pure := by
  intro a0 a1 a2 w0 _ _
  obtain ⟨x, rfl, hx⟩ := u32_nat w0
  refine ⟨1, ?_⟩
  unfold camshaftlaw06_PslEnters.f
  rw [alive_is, Option.bind_some, if_pos rfl]
  have ht : ∀ p q r : Int, camshaftlaw06_PslEnters.j0 1 p q r true = some true := fun p q r => by simp only [camshaftlaw06_PslEnters.j0]; rfl
  rw [ht]
  split
  · rfl
  · split
    · rfl
    · split
      · rfl
      · by_cases h : a2 > 31
        · rw [decide_eq_true h, ht]
        · rw [decide_eq_false h]
          obtain ⟨a, rfl⟩ := Int.eq_ofNat_of_zero_le (show 0 ≤ a1 by omega)
          obtain ⟨b, rfl⟩ := Int.eq_ofNat_of_zero_le (show 0 ≤ a2 by omega)
          exact enters_true x a b hx (by omega) (by omega)

end Go.Proofs.Ytjflepoifdcadaa.Pure
