/- Bits that say nothing play no part; where a byte lies hangs on the frame and nine bits alone: the walk of PteBits. No condition. -/
import Derived.Test.YtjflepoifdcadaaPPteBitsx1
import Derived.Test.YtjflepoifdcadaaAid
namespace Go.Proofs.Ytjflepoifdcadaa.Pure
open Go.RowKit Go.Proofs.Ytjflepoifdcadaa.Aid Go.Proofs.Ytjflepoifdcadaa.PPteBits Go.Proofs.YtjflepoifdcadaaW.PrintWords Go.Proofs.YtjflepoifdcadaaW.PrintLast

theorem and_frames (x : Nat) (h : x < 4294967296) : Go.bits .and .u32 (x : Int) 2097151 = ((x % 2097152 : Nat) : Int) := by
  rw [show (2097151 : Int) = ((2097151 : Nat) : Int) from rfl, u32_and_nat x 2097151 h (by decide), nat_mask21]

theorem and_511 (x : Nat) (h : x < 4294967296) : Go.bits .and .u32 (x : Int) 511 = ((x % 512 : Nat) : Int) := by
  rw [show (511 : Int) = ((511 : Nat) : Int) from rfl, u32_and_nat x 511 h (by decide), nat_mask9]

theorem frame_is (x : Nat) (h : x < 4294967296) : pte_Frame.f (x : Int) = some ((x % 2097152 : Nat) : Int) := by
  unfold pte_Frame.f; rw [and_frames x h]

theorem place_is (x v : Nat) (h : x < 4294967296) (hv : v < 4294967296) : pte_Place.f (x : Int) (v : Int) = some ((x % 2097152 * 512 + v % 512 : Nat) : Int) := by
  unfold pte_Place.f
  rw [frame_is x h, and_511 v hv]
  simp only [Option.bind_some]
  have e : (((x % 2097152 : Nat) : Int) * 512) % 4294967296 = ((x % 2097152 * 512 : Nat) : Int) := by omega
  rw [e, u32_or_nat _ _ (by omega) (by omega), nat_join 9 _ _ (by omega) (by omega)]

theorem alive_is : camshaftlaw03_alive.f = some true := by decide +kernel

theorem is_is (x : Nat) (h : x < 4294967296) : pte_Is.f (x : Int) = some (x.testBit 31) := by
  unfold pte_Is.f; rw [u32_flag 31 x 2147483648 rfl (by decide) h]

theorem written_is (x : Nat) (h : x < 4294967296) : pte_Written.f (x : Int) = some (x.testBit 26) := by
  unfold pte_Written.f; rw [u32_flag 26 x 67108864 rfl (by decide) h]

theorem prot_is (x : Nat) (h : x < 4294967296) : pte_Prot.f (x : Int) = some ((x / 134217728 % 4 : Nat) : Int) := by
  unfold pte_Prot.f
  rw [show (x : Int) / 134217728 = ((x / 134217728 : Nat) : Int) from by omega, show (3 : Int) = ((3 : Nat) : Int) from rfl,
    u32_and_nat _ 3 (by omega) (by decide), nat_mask2, wrap64_in (by omega) (by omega)]

theorem alive_call (w : World) : Calls Try.prog 14 #[] w fun e w' => e = .returned (.bool true) ∧ ∃ n, w' = w.drewN n :=
  (camshaftlaw03_alive.calls true w alive_is).mono fun _ _ ⟨h, d⟩ => ⟨h, d.out⟩

def mayB (x : Nat) (u wr : Bool) : Bool := if u then (if wr then x / 134217728 % 4 == 3 else decide (2 ≤ x / 134217728 % 4)) else x / 134217728 % 4 != 0

theorem may_is (x : Nat) (hx : x < 4294967296) (u wr : Bool) : pte_May.f (x : Int) u wr = some (mayB x u wr) := by
  unfold pte_May.f mayB
  rw [prot_is x hx, Option.bind_some]
  have hl : x / 134217728 % 4 < 4 := by omega
  generalize x / 134217728 % 4 = p at *
  have : p = 0 ∨ p = 1 ∨ p = 2 ∨ p = 3 := by omega
  rcases this with rfl | rfl | rfl | rfl <;> cases u <;> cases wr <;> rfl

theorem may_call (x : Nat) (hx : x < 4294967296) (u wr : Bool) (w : World) : Calls Try.prog 32 #[.int .u32 (x : Int), .bool u, .bool wr] w fun e w' => e = .returned (.bool (mayB x u wr)) ∧ ∃ n, w' = w.drewN n :=
  (pte_May.calls (x : Int) u wr _ w (may_is x hx u wr)).mono fun _ _ ⟨h, d⟩ => ⟨h, d.out⟩

/-- The bits that play no part, turned. -/
def turned (x y : Nat) : Nat := x ^^^ (y &&& 1675624448)

theorem turned_lt (x y : Nat) (hx : x < 4294967296) (hy : y < 4294967296) : turned x y < 4294967296 :=
  Nat.xor_lt_two_pow (n := 32) hx (Nat.lt_of_le_of_lt Nat.and_le_left hy)

theorem mask_bits : ∀ j, j < 32 → Nat.testBit 1675624448 j = ((decide (21 ≤ j) && decide (j < 26)) || decide (j = 29) || decide (j = 30)) := by decide +kernel

theorem turned_bit (x y i : Nat) (hi : i < 32) (h : i < 21 ∨ i = 26 ∨ i = 27 ∨ i = 28 ∨ i = 31) : (turned x y).testBit i = x.testBit i := by
  unfold turned
  have hm : Nat.testBit 1675624448 i = false := by
    rw [mask_bits i hi, decide_eq_false (show ¬ i = 29 by omega), decide_eq_false (show ¬ i = 30 by omega), ← Bool.decide_and, decide_eq_false (show ¬ (21 ≤ i ∧ i < 26) by omega)]; rfl
  rw [Nat.testBit_xor, Nat.testBit_and, hm, Bool.and_false, Bool.xor_false]

theorem turned_prot (x y : Nat) : turned x y / 134217728 % 4 = x / 134217728 % 4 := by
  refine eq_of_bits 2 _ _ (by omega) (by omega) fun i hi => ?_
  rw [show (134217728 : Nat) = 2 ^ 27 from rfl, show 4 = 2 ^ 2 from rfl, Nat.testBit_mod_two_pow, Nat.testBit_mod_two_pow, Nat.testBit_div_two_pow, Nat.testBit_div_two_pow, turned_bit x y _ (by omega) (by omega)]

theorem turned_frame (x y : Nat) : turned x y % 2097152 = x % 2097152 := by
  refine eq_of_bits 21 _ _ (by omega) (by omega) fun i hi => ?_
  rw [show (2097152 : Nat) = 2 ^ 21 from rfl, Nat.testBit_mod_two_pow, Nat.testBit_mod_two_pow, turned_bit x y _ (by omega) (by omega)]

theorem turned_is (x y : Nat) (hx : x < 4294967296) (hy : y < 4294967296) : bits .xor .u32 (x : Int) (bits .and .u32 (y : Int) 1675624448) = ((turned x y : Nat) : Int) := by
  rw [show (1675624448 : Int) = ((1675624448 : Nat) : Int) from rfl, u32_and_nat y _ hy (by decide), u32_xor_nat x _ hx (Nat.lt_of_le_of_lt Nat.and_le_left hy)]; rfl

theorem may_z (x y : Nat) (hx : x < 4294967296) (hy : y < 4294967296) (u wr : Bool) (w : World) : Calls Try.prog 32 #[.int .u32 (bits .xor .u32 (x : Int) (bits .and .u32 (y : Int) 1675624448)), .bool u, .bool wr] w fun e w' => e = .returned (.bool (mayB x u wr)) ∧ ∃ n, w' = w.drewN n := by
  rw [turned_is x y hx hy]
  have hm : mayB x u wr = mayB (turned x y) u wr := by unfold mayB; rw [turned_prot]
  rw [hm]
  exact may_call _ (turned_lt x y hx hy) u wr w

theorem is_call (x : Nat) (hx : x < 4294967296) (w : World) : Calls Try.prog 19 #[.int .u32 (x : Int)] w fun e w' => e = .returned (.bool (x.testBit 31)) ∧ ∃ n, w' = w.drewN n :=
  (pte_Is.calls (x : Int) _ w (is_is x hx)).mono fun _ _ ⟨h, d⟩ => ⟨h, d.out⟩
theorem is_z (x y : Nat) (hx : x < 4294967296) (hy : y < 4294967296) (w : World) : Calls Try.prog 19 #[.int .u32 (bits .xor .u32 (x : Int) (bits .and .u32 (y : Int) 1675624448))] w fun e w' => e = .returned (.bool (x.testBit 31)) ∧ ∃ n, w' = w.drewN n := by
  rw [turned_is x y hx hy, ← turned_bit x y 31 (by decide) (by decide)]
  exact is_call _ (turned_lt x y hx hy) w
theorem written_call (x : Nat) (hx : x < 4294967296) (w : World) : Calls Try.prog 20 #[.int .u32 (x : Int)] w fun e w' => e = .returned (.bool (x.testBit 26)) ∧ ∃ n, w' = w.drewN n :=
  (pte_Written.calls (x : Int) _ w (written_is x hx)).mono fun _ _ ⟨h, d⟩ => ⟨h, d.out⟩
theorem written_z (x y : Nat) (hx : x < 4294967296) (hy : y < 4294967296) (w : World) : Calls Try.prog 20 #[.int .u32 (bits .xor .u32 (x : Int) (bits .and .u32 (y : Int) 1675624448))] w fun e w' => e = .returned (.bool (x.testBit 26)) ∧ ∃ n, w' = w.drewN n := by
  rw [turned_is x y hx hy, ← turned_bit x y 26 (by decide) (by decide)]
  exact written_call _ (turned_lt x y hx hy) w

/-- Where a byte lies. -/
def placeI (x v : Nat) : Int := ((x % 2097152 * 512 + v % 512 : Nat) : Int)
theorem placeI_range (x v : Nat) : 0 ≤ placeI x v ∧ placeI x v < 4294967296 := by unfold placeI; omega
theorem placeI_mod (x v : Nat) : (placeI x v % 512 == (v : Int) % 512) = true := by
  unfold placeI
  exact beq_iff_eq.mpr (by omega)
theorem place_call (x v : Nat) (hx : x < 4294967296) (hv : v < 4294967296) (w : World) : Calls Try.prog 15 #[.int .u32 (x : Int), .int .u32 (v : Int)] w fun e w' => e = .returned (.int .u32 (placeI x v)) ∧ ∃ n, w' = w.drewN n :=
  (pte_Place.calls (x : Int) (v : Int) _ w (place_is x v hx hv)).mono fun _ _ ⟨h, d⟩ => ⟨h, d.out⟩
theorem place_z (x y v : Nat) (hx : x < 4294967296) (hy : y < 4294967296) (hv : v < 4294967296) (w : World) : Calls Try.prog 15 #[.int .u32 (bits .xor .u32 (x : Int) (bits .and .u32 (y : Int) 1675624448)), .int .u32 (v : Int)] w fun e w' => e = .returned (.int .u32 (placeI x v)) ∧ ∃ n, w' = w.drewN n := by
  rw [turned_is x y hx hy]
  have h := place_call (turned x y) v (turned_lt x y hx hy) hv w
  unfold placeI at *
  rw [turned_frame] at h
  exact h

theorem place_o (x v o : Nat) (hx : x < 4294967296) (w : World) : Calls Try.prog 15 #[.int .u32 (x : Int), .int .u32 ((v : Int) % 512 + 512 * ((o : Int) % 1048576))] w fun e w' => e = .returned (.int .u32 (placeI x v)) ∧ ∃ n, w' = w.drewN n := by
  have h := place_call x (v % 512 + 512 * (o % 1048576)) hx (by omega) w
  rw [show ((v % 512 + 512 * (o % 1048576) : Nat) : Int) = (v : Int) % 512 + 512 * ((o : Int) % 1048576) from by omega] at h
  have e : placeI x (v % 512 + 512 * (o % 1048576)) = placeI x v := by unfold placeI; omega
  rw [e] at h
  exact h

theorem index_0 (w : World) : (Instr.index 43 (.agg #[.bool false, .bool true]) (.int .i64 0)).run Try.prog w = .ok (.bool false) w := by kernel_rfl
theorem index_1 (w : World) : (Instr.index 43 (.agg #[.bool false, .bool true]) (.int .i64 1)).run Try.prog w = .ok (.bool true) w := by kernel_rfl
theorem below_drewN (w : World) (n : Nat) : Below w.heap.size w (w.drewN n) := pw_below_drewN (Below.refl _ _) n

set_option maxHeartbeats 1000000 in
theorem bits_walk (x y v o : Nat) (hx : x < 4294967296) (hy : y < 4294967296) (hv : v < 4294967296) (ho : o < 4294967296) (w : World) :
    Calls Try.prog 11 #[.int .u32 (x : Int), .int .u32 (y : Int), .int .u32 (v : Int), .int .u32 (o : Int)] w fun e w' => e = .returned (.bool true) ∧ Below w.heap.size w w' := by
  have i0 := index_0
  have i1 := index_1
  obtain ⟨p0, p1⟩ := placeI_range x v
  have pm := placeI_mod x v
  go_enter Try.func11, Try.ntmps11
  go_wp2_with (go_at_call 14; refine (alive_call _).mono ?_; rintro e w' ⟨rfl, ⟨n, rfl⟩⟩)
  go_loopw [19] (fun i wr => ∃ k : Nat, k ≤ 2 ∧ i = .int .i64 k ∧ ∃ m, wr = w.drewN m) (fun i _ => 2 - (intOf i).toNat)
  case atStart => exact ⟨0, by omega, rfl, _, rfl⟩
  case round =>
    obtain ⟨k, hk, rfl, m, rfl⟩ := hrel
    by_cases h2 : k = 2
    · subst h2
      rw [show ((2 : Nat) : Int) = 2 from rfl]
      go_wp2_with (first | (go_at_call 19; ((with_reducible refine (is_call x hx _).mono ?_); rintro e w' ⟨rfl, ⟨n, rfl⟩⟩)) | (go_at_call 19; ((with_reducible refine (is_z x y hx hy _).mono ?_); rintro e w' ⟨rfl, ⟨n, rfl⟩⟩)) | (go_at_call 20; ((with_reducible refine (written_call x hx _).mono ?_); rintro e w' ⟨rfl, ⟨n, rfl⟩⟩)) | (go_at_call 20; ((with_reducible refine (written_z x y hx hy _).mono ?_); rintro e w' ⟨rfl, ⟨n, rfl⟩⟩)) | (go_at_call 15; ((with_reducible refine (place_call x v hx hv _).mono ?_); rintro e w' ⟨rfl, ⟨n, rfl⟩⟩)) | (go_at_call 15; ((with_reducible refine (place_z x y v hx hy hv _).mono ?_); rintro e w' ⟨rfl, ⟨n, rfl⟩⟩)) | (go_at_call 15; ((with_reducible refine (place_o x v o hx _).mono ?_); rintro e w' ⟨rfl, ⟨n, rfl⟩⟩)))
      go_ret
      exact ⟨rfl, below_drewN _ _⟩
    · by_cases h0 : k = 0
      · subst h0
        go_wp2_with (first | (go_at_call 32; ((with_reducible refine (may_call x hx _ _ _).mono ?_); rintro e w' ⟨rfl, ⟨n, rfl⟩⟩)) | (go_at_call 32; ((with_reducible refine (may_z x y hx hy _ _ _).mono ?_); rintro e w' ⟨rfl, ⟨n, rfl⟩⟩)))
        go_roundw
        case rel => exact ⟨1, by omega, rfl, _, rfl⟩
        case measure => simp [intOf]
      · obtain rfl : k = 1 := by omega
        go_wp2_with (first | (go_at_call 32; ((with_reducible refine (may_call x hx _ _ _).mono ?_); rintro e w' ⟨rfl, ⟨n, rfl⟩⟩)) | (go_at_call 32; ((with_reducible refine (may_z x y hx hy _ _ _).mono ?_); rintro e w' ⟨rfl, ⟨n, rfl⟩⟩)))
        go_roundw
        case rel => exact ⟨2, by omega, rfl, _, rfl⟩
        case measure => simp [intOf]

theorem bits_any (a b c d : Int) (w : World) (ha : (Lit.int .u32 a).wf = true) (hb : (Lit.int .u32 b).wf = true) (hc : (Lit.int .u32 c).wf = true) (hd : (Lit.int .u32 d).wf = true) :
    Calls Try.prog 11 #[.int .u32 a, .int .u32 b, .int .u32 c, .int .u32 d] w fun e w' => e = .returned (.bool true) ∧ Below w.heap.size w w' := by
  obtain ⟨x, rfl, hx⟩ := u32_nat ha
  obtain ⟨y, rfl, hy⟩ := u32_nat hb
  obtain ⟨v, rfl, hv⟩ := u32_nat hc
  obtain ⟨o, rfl, ho⟩ := u32_nat hd
  exact bits_walk x y v o hx hy hv ho w

end Go.Proofs.Ytjflepoifdcadaa.Pure
