/- What Make makes is what the document says, and has its parts: the pure statement behind PteMakes. No condition. -/
import Derived.Test.YtjflepoifdcadaaPPteMakesx1
import Derived.Test.YtjflepoifdcadaaAid
namespace Go.Proofs.Ytjflepoifdcadaa.Pure
open Go.RowKit Go.Proofs.Ytjflepoifdcadaa.Aid Go.Proofs.Ytjflepoifdcadaa.PPteMakes Go.Proofs.YtjflepoifdcadaaW.PrintWords Go.Proofs.YtjflepoifdcadaaW.PrintLast

theorem and_frames (x : Nat) (h : x < 4294967296) : Go.bits .and .u32 (x : Int) 2097151 = ((x % 2097152 : Nat) : Int) := by
  rw [show (2097151 : Int) = ((2097151 : Nat) : Int) from rfl, u32_and_nat x 2097151 h (by decide), nat_mask21]

theorem and_511 (x : Nat) (h : x < 4294967296) : Go.bits .and .u32 (x : Int) 511 = ((x % 512 : Nat) : Int) := by
  rw [show (511 : Int) = ((511 : Nat) : Int) from rfl, u32_and_nat x 511 h (by decide), nat_mask9]

theorem frame_is (x : Nat) (h : x < 4294967296) : pte_Frame.f (x : Int) = some ((x % 2097152 : Nat) : Int) := by
  unfold pte_Frame.f; rw [and_frames x h]

theorem place_is (x v : Nat) (h : x < 4294967296) (hv : v < 4294967296) : pte_Place.f (x : Int) (v : Int) = some ((x % 2097152 * 512 + v % 512 : Nat) : Int) := by
  unfold pte_Place.f
  rw [frame_is x h, and_511 v hv]
  simp only [Option.bind_some]
  have e : (((x % 2097152 : Nat) : Int) * 512) % 4294967296 = ((x % 2097152 * 512 : Nat) : Int) := by omega
  rw [e, u32_or_nat _ _ (by omega) (by omega), nat_join 9 _ _ (by omega) (by omega)]

theorem alive_is : camshaftlaw03_alive.f = some true := by decide +kernel

theorem is_is (x : Nat) (h : x < 4294967296) : pte_Is.f (x : Int) = some (x.testBit 31) := by
  unfold pte_Is.f; rw [u32_flag 31 x 2147483648 rfl (by decide) h]

theorem written_is (x : Nat) (h : x < 4294967296) : pte_Written.f (x : Int) = some (x.testBit 26) := by
  unfold pte_Written.f; rw [u32_flag 26 x 67108864 rfl (by decide) h]

theorem prot_is (x : Nat) (h : x < 4294967296) : pte_Prot.f (x : Int) = some ((x / 134217728 % 4 : Nat) : Int) := by
  unfold pte_Prot.f
  rw [show (x : Int) / 134217728 = ((x / 134217728 : Nat) : Int) from by omega, show (3 : Int) = ((3 : Nat) : Int) from rfl,
    u32_and_nat _ 3 (by omega) (by decide), nat_mask2, wrap64_in (by omega) (by omega)]

/-- The entry as a number. -/
def made (v : Nat) (p : Nat) (m : Nat) (f : Nat) : Nat := f % 2097152 + p % 4 * 134217728 + v * 2147483648 + m * 67108864

theorem made_eq (v p m f : Nat) : made v p m f = f % 2097152 + p % 4 * 134217728 + v * 2147483648 + m * 67108864 := by unfold made; exact Eq.refl _
theorem made_tt (q f : Nat) : made 1 q 1 f = f % 2097152 + (q % 4 + 16) * 134217728 + 67108864 := (made_eq 1 q 1 f).trans (by omega)
theorem made_tf (q f : Nat) : made 1 q 0 f = f % 2097152 + (q % 4 + 16) * 134217728 := (made_eq 1 q 0 f).trans (by omega)
theorem made_ft (q f : Nat) : made 0 q 1 f = f % 2097152 + q % 4 * 134217728 + 67108864 := (made_eq 0 q 1 f).trans (by omega)
theorem made_ff (q f : Nat) : made 0 q 0 f = f % 2097152 + q % 4 * 134217728 := (made_eq 0 q 0 f).trans (by omega)

theorem or_frame (f p : Nat) : f % 2097152 ||| p % 4 * 134217728 = f % 2097152 + p % 4 * 134217728 := by
  rw [Nat.or_comm, nat_join 27 _ _ (by omega) (by omega), Nat.add_comm]

theorem or_mod (a b : Nat) (hb : b < 2097152) : (b + a * 134217728) ||| 67108864 = b + a * 134217728 + 67108864 := by
  rw [Nat.add_comm b, ← nat_join 27 (a * 134217728) b (by omega) (by omega), Nat.or_assoc, Nat.or_comm b, nat_join 26 67108864 b (by omega) (by omega),
    nat_join 27 (a * 134217728) _ (by omega) (by omega), nat_join 27 (a * 134217728) _ (by omega) (by omega)]
  omega

theorem or_valid (f q : Nat) : f % 2097152 + q % 4 * 134217728 ||| 2147483648 = f % 2097152 + (q % 4 + 16) * 134217728 := by
  rw [Nat.or_comm, nat_join 31 _ _ (by omega) (by omega)]; omega

theorem make_is (v : Bool) (p : Int) (m : Bool) (f : Nat) (hf : f < 4294967296) : pte_Make.f v p m (f : Int) = some ((made v.toNat (p % 4).toNat m.toNat f : Nat) : Int) := by
  have hp : Go.bits .and .i64 p 3 = (((p % 4).toNat : Nat) : Int) := by rw [i64_mask 2 (by decide) p 3 rfl]; omega
  have hq : (p % 4).toNat < 4 := by omega
  unfold pte_Make.f
  rw [hp, and_frames f hf]
  generalize (p % 4).toNat = q at *
  rw [show (((q : Nat) : Int) % 4294967296 * 134217728) % 4294967296 = ((q % 4 * 134217728 : Nat) : Int) from by omega,
    u32_or_nat _ _ (by omega) (by omega), or_frame,
    show (2147483648 : Int) = ((2147483648 : Nat) : Int) from rfl, show (67108864 : Int) = ((67108864 : Nat) : Int) from rfl,
    u32_or_nat _ 2147483648 (by omega) (by omega), or_valid, u32_or_nat _ 67108864 (by omega) (by omega), or_mod _ _ (by omega),
    u32_or_nat _ 67108864 (by omega) (by omega), or_mod _ _ (by omega)]
  cases v <;> cases m
  · rw [show Bool.toNat false = 0 from rfl, made_ff]; rfl
  · rw [show Bool.toNat false = 0 from rfl, show Bool.toNat true = 1 from rfl, made_ft]; rfl
  · rw [show Bool.toNat false = 0 from rfl, show Bool.toNat true = 1 from rfl, made_tf]; rfl
  · rw [show Bool.toNat true = 1 from rfl, made_tt]; rfl

theorem one_is (b : Bool) (n : Nat) : camshaftref03_one.f b (n : Int) = some ((b.toNat * n : Nat) : Int) := by
  unfold camshaftref03_one.f
  cases b
  · rw [show Bool.toNat false = 0 from rfl, Nat.zero_mul]; rfl
  · rw [show Bool.toNat true = 1 from rfl, Nat.one_mul]; rfl

theorem tmod4 (p : Int) : Int.tmod p 4 = p % 4 ∨ Int.tmod p 4 = p % 4 - 4 := by
  rcases Int.lt_or_le p 0 with h | h
  · have e : Int.tmod p 4 = -((-p) % 4) := by rw [← Int.tmod_eq_emod_of_nonneg (a := -p) (by omega), Int.neg_tmod, Int.neg_neg]
    omega
  · left; exact Int.tmod_eq_emod_of_nonneg h

theorem toNat_le (b : Bool) : b.toNat ≤ 1 := by cases b <;> decide

theorem refMake_is (v : Bool) (p : Int) (m : Bool) (f : Nat) :
    camshaftref03_Make.f v p m (f : Int) = some ((made v.toNat (p % 4).toNat m.toNat f : Nat) : Int) := by
  have e0 := tmod4 p
  have e : ((wrap64 (Int.tmod p 4 + 4)) % 4294967296) % 4 = p % 4 := by
    rw [wrap64_in (by omega) (by omega)]; omega
  have h1 := toNat_le v
  have h2 := toNat_le m
  unfold camshaftref03_Make.f
  rw [e, show (2147483648 : Int) = ((2147483648 : Nat) : Int) from rfl, show (67108864 : Int) = ((67108864 : Nat) : Int) from rfl, one_is, one_is,
    show (2097152 : Int) = ((2097152 : Nat) : Int) from rfl, tmod_nat, Option.bind_some, Option.bind_some, made_eq]
  congr 1
  omega

theorem made_parts (v p m f : Nat) (hv : v ≤ 1) (hm : m ≤ 1) : made v p m f < 4294967296 ∧ made v p m f / 2147483648 % 2 = v ∧ made v p m f / 67108864 % 2 = m ∧
    made v p m f % 2097152 = f % 2097152 ∧ made v p m f / 134217728 % 4 = p % 4 := by
  have h := made_eq v p m f
  generalize made v p m f = z at *
  omega

theorem dec_toNat (b : Bool) : decide (b.toNat = 1) = b := by cases b <;> rfl

theorem tell (z : Nat) (a0 a2 : Bool) (a1 : Int) (f : Nat) (hl : z < 4294967296) (i31 : z / 2147483648 % 2 = a0.toNat) (i26 : z / 67108864 % 2 = a2.toNat) (fr : z % 2097152 = f % 2097152) (pr : z / 134217728 % 4 = (a1 % 4).toNat % 4) :
    pte_Is.f (z : Int) = some a0 ∧ pte_Written.f (z : Int) = some a2 ∧ pte_Frame.f (z : Int) = some (Int.tmod (f : Int) 2097152) ∧ pte_Prot.f (z : Int) = some (a1 % 4) := by
  have j31 : z.testBit 31 = a0 := by
    rw [Nat.testBit_eq_decide_div_mod_eq, show 2 ^ 31 = 2147483648 from rfl, i31, dec_toNat]
  have j26 : z.testBit 26 = a2 := by
    rw [Nat.testBit_eq_decide_div_mod_eq, show 2 ^ 26 = 67108864 from rfl, i26, dec_toNat]
  have jp : ((z / 134217728 % 4 : Nat) : Int) = a1 % 4 := by omega
  refine ⟨?_, ?_, ?_, ?_⟩
  · rw [is_is z hl, j31]
  · rw [written_is z hl, j26]
  · rw [frame_is z hl, fr, show (2097152 : Int) = ((2097152 : Nat) : Int) from rfl, tmod_nat]
  · rw [prot_is z hl, jp]

theorem PteMakes : camshaftlaw03_PteMakes.Pure := by
  intro a0 a1 a2 a3 w1 w3
  obtain ⟨f, rfl, hf⟩ := u32_nat w3
  have e0 := tmod4 a1
  have e : Int.tmod (wrap64 (Int.tmod a1 4 + 4)) 4 = a1 % 4 := by
    rw [wrap64_in (by omega) (by omega), Int.tmod_eq_emod_of_nonneg (by omega)]; omega
  obtain ⟨hl, i31, i26, fr, pr⟩ := made_parts a0.toNat (a1 % 4).toNat a2.toNat f (toNat_le _) (toNat_le _)
  obtain ⟨t1, t2, t3, t4⟩ := tell _ a0 a2 a1 f hl i31 i26 fr pr
  clear hl i31 i26 fr pr
  unfold camshaftlaw03_PteMakes.f
  rw [alive_is, make_is a0 a1 a2 f hf, refMake_is a0 a1 a2 f, e]
  rw [Option.bind_some, if_pos rfl, Option.bind_some, Option.bind_some, if_pos rfl, t1, t2, t3, t4, Option.bind_some, if_pos (beq_self_eq_true a0), Option.bind_some,
    if_pos (beq_self_eq_true a2), Option.bind_some, if_pos rfl, Option.bind_some, beq_self_eq_true]

end Go.Proofs.Ytjflepoifdcadaa.Pure
