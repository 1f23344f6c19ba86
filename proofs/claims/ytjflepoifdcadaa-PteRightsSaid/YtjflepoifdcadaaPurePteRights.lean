/- Who may write may read; what the user may the kernel may; whether the page is there plays no part: the walk of PteRights. No condition. -/
import Derived.Test.YtjflepoifdcadaaPPteRightsx1
import Derived.Test.YtjflepoifdcadaaAid
namespace Go.Proofs.Ytjflepoifdcadaa.Pure
open Go.RowKit Go.Proofs.Ytjflepoifdcadaa.Aid Go.Proofs.Ytjflepoifdcadaa.PPteRights Go.Proofs.YtjflepoifdcadaaW.PrintWords Go.Proofs.YtjflepoifdcadaaW.PrintLast

theorem alive_is : camshaftlaw03_alive.f = some true := by decide +kernel

theorem prot_is (x : Nat) (h : x < 4294967296) : pte_Prot.f (x : Int) = some ((x / 134217728 % 4 : Nat) : Int) := by
  unfold pte_Prot.f
  rw [show (x : Int) / 134217728 = ((x / 134217728 : Nat) : Int) from by omega, show (3 : Int) = ((3 : Nat) : Int) from rfl,
    u32_and_nat _ 3 (by omega) (by decide), nat_mask2, wrap64_in (by omega) (by omega)]

theorem alive_call (w : World) : Calls Try.prog 14 #[] w fun e w' => e = .returned (.bool true) ∧ ∃ n, w' = w.drewN n :=
  (camshaftlaw03_alive.calls true w alive_is).mono fun _ _ ⟨h, d⟩ => ⟨h, d.out⟩

def mayB (x : Nat) (u wr : Bool) : Bool := if u then (if wr then x / 134217728 % 4 == 3 else decide (2 ≤ x / 134217728 % 4)) else x / 134217728 % 4 != 0

theorem may_is (x : Nat) (hx : x < 4294967296) (u wr : Bool) : pte_May.f (x : Int) u wr = some (mayB x u wr) := by
  unfold pte_May.f mayB
  rw [prot_is x hx, Option.bind_some]
  have hl : x / 134217728 % 4 < 4 := by omega
  generalize x / 134217728 % 4 = p at *
  have : p = 0 ∨ p = 1 ∨ p = 2 ∨ p = 3 := by omega
  rcases this with rfl | rfl | rfl | rfl <;> cases u <;> cases wr <;> rfl

theorem may_call (x : Nat) (hx : x < 4294967296) (u wr : Bool) (w : World) : Calls Try.prog 32 #[.int .u32 (x : Int), .bool u, .bool wr] w fun e w' => e = .returned (.bool (mayB x u wr)) ∧ ∃ n, w' = w.drewN n :=
  (pte_May.calls (x : Int) u wr _ w (may_is x hx u wr)).mono fun _ _ ⟨h, d⟩ => ⟨h, d.out⟩

theorem xor_bit (x i : Nat) (hi : i < 32) (hx : x < 4294967296) : x ^^^ 2 ^ i < 4294967296 := Nat.xor_lt_two_pow (n := 32) hx (Nat.pow_lt_pow_right (by decide) hi)

theorem may_z (x : Nat) (hx : x < 4294967296) (u wr : Bool) (w : World) : Calls Try.prog 32 #[.int .u32 (bits .xor .u32 (bits .xor .u32 (x : Int) 2147483648) 67108864), .bool u, .bool wr] w fun e w' => e = .returned (.bool (mayB x u wr)) ∧ ∃ n, w' = w.drewN n := by
  have h1 := xor_bit x 31 (by decide) hx
  have h2 := xor_bit (x ^^^ 2 ^ 31) 26 (by decide) h1
  have ep : (x ^^^ 2 ^ 31 ^^^ 2 ^ 26) / 134217728 % 4 = x / 134217728 % 4 := by
    refine eq_of_bits 2 _ _ (by omega) (by omega) fun i hi => ?_
    rw [show (134217728 : Nat) = 2 ^ 27 from rfl, show 4 = 2 ^ 2 from rfl, Nat.testBit_mod_two_pow, Nat.testBit_mod_two_pow, Nat.testBit_div_two_pow, Nat.testBit_div_two_pow, Nat.testBit_xor, Nat.testBit_xor,
      Nat.testBit_two_pow_of_ne (by omega), Nat.testBit_two_pow_of_ne (by omega)]
    simp
  have e : bits .xor .u32 (bits .xor .u32 (x : Int) 2147483648) 67108864 = ((x ^^^ 2 ^ 31 ^^^ 2 ^ 26 : Nat) : Int) := by
    rw [show (2147483648 : Int) = ((2 ^ 31 : Nat) : Int) from rfl, show (67108864 : Int) = ((2 ^ 26 : Nat) : Int) from rfl, u32_xor_nat x _ hx (by decide), u32_xor_nat _ _ h1 (by decide)]
  rw [e]
  have hm : mayB x u wr = mayB (x ^^^ 2 ^ 31 ^^^ 2 ^ 26) u wr := by unfold mayB; rw [ep]
  rw [hm]
  exact may_call _ h2 u wr w

theorem may_less (x : Nat) (u : Bool) (h : mayB x u true = true) : mayB x u false = true := by
  unfold mayB at *
  cases u
  · exact h
  · simp only [if_true, beq_iff_eq, Bool.false_eq_true, if_false, decide_eq_true_eq] at *; omega

theorem may_kernel (x : Nat) (wr : Bool) (h : mayB x true wr = true) : mayB x false wr = true := by
  unfold mayB at *
  cases wr <;> simp only [if_true, beq_iff_eq, Bool.false_eq_true, if_false, decide_eq_true_eq, bne_iff_ne, ne_eq] at * <;> omega

theorem index_0 (w : World) : (Instr.index 43 (.agg #[.bool false, .bool true]) (.int .i64 0)).run Try.prog w = .ok (.bool false) w := by kernel_rfl
theorem index_1 (w : World) : (Instr.index 43 (.agg #[.bool false, .bool true]) (.int .i64 1)).run Try.prog w = .ok (.bool true) w := by kernel_rfl

theorem below_drewN (w : World) (n : Nat) : Below w.heap.size w (w.drewN n) := pw_below_drewN (Below.refl _ _) n

set_option maxHeartbeats 1000000 in
theorem rights_walk (x : Nat) (hx : x < 4294967296) (w : World) : Calls Try.prog 8 #[.int .u32 (x : Int)] w fun e w' => e = .returned (.bool true) ∧ Below w.heap.size w w' := by
  have i0 := index_0
  have i1 := index_1
  go_enter Try.func8, Try.ntmps8
  go_wp2_with (go_at_call 14; refine (alive_call _).mono ?_; rintro e w' ⟨rfl, ⟨n, rfl⟩⟩)
  go_loopw [10] (fun i wr => ∃ k : Nat, k ≤ 2 ∧ i = .int .i64 k ∧ ∃ m, wr = w.drewN m) (fun i _ => 2 - (intOf i).toNat)
  case atStart => exact ⟨0, by omega, rfl, _, rfl⟩
  case round =>
    obtain ⟨k, hk, rfl, m, rfl⟩ := hrel
    by_cases h2 : k = 2
    · subst h2
      rw [show ((2 : Nat) : Int) = 2 from rfl]
      go_wp2
      go_loopw [35] (fun i wr => ∃ k : Nat, k ≤ 2 ∧ i = .int .i64 k ∧ ∃ m, wr = w.drewN m) (fun i _ => 2 - (intOf i).toNat)
      case atStart => exact ⟨0, by omega, rfl, _, rfl⟩
      case round =>
        obtain ⟨k, hk, rfl, m, rfl⟩ := hrel
        by_cases h2 : k = 2
        · subst h2
          go_wp2
          go_ret
          exact ⟨rfl, below_drewN _ _⟩
        · by_cases h0 : k = 0
          · subst h0
            cases h1 : mayB x true false
            · go_wp2_with (first | (go_at_call 32; ((with_reducible refine (may_call x hx _ _ _).mono ?_); rintro e w' ⟨rfl, ⟨n, rfl⟩⟩)))
              go_roundw
              case rel => exact ⟨1, by omega, rfl, _, rfl⟩
              case measure => simp [intOf]
            · have h3 := may_kernel x false h1
              go_wp2_with (first | (go_at_call 32; ((with_reducible refine (may_call x hx _ _ _).mono ?_); rintro e w' ⟨rfl, ⟨n, rfl⟩⟩)))
              go_roundw
              case rel => exact ⟨1, by omega, rfl, _, rfl⟩
              case measure => simp [intOf]
          · obtain rfl : k = 1 := by omega
            cases h1 : mayB x true true
            · go_wp2_with (first | (go_at_call 32; ((with_reducible refine (may_call x hx _ _ _).mono ?_); rintro e w' ⟨rfl, ⟨n, rfl⟩⟩)))
              go_roundw
              case rel => exact ⟨2, by omega, rfl, _, rfl⟩
              case measure => simp [intOf]
            · have h3 := may_kernel x true h1
              go_wp2_with (first | (go_at_call 32; ((with_reducible refine (may_call x hx _ _ _).mono ?_); rintro e w' ⟨rfl, ⟨n, rfl⟩⟩)))
              go_roundw
              case rel => exact ⟨2, by omega, rfl, _, rfl⟩
              case measure => simp [intOf]
    · by_cases h0 : k = 0
      · subst h0
        cases h1 : mayB x false true
        · go_wp2_with (first | (go_at_call 32; ((with_reducible refine (may_call x hx _ _ _).mono ?_); rintro e w' ⟨rfl, ⟨n, rfl⟩⟩)) | (go_at_call 32; ((with_reducible refine (may_z x hx _ _ _).mono ?_); rintro e w' ⟨rfl, ⟨n, rfl⟩⟩)))
          go_roundw
          case rel => exact ⟨1, by omega, rfl, _, rfl⟩
          case measure => simp [intOf]
        · have h3 := may_less x false h1
          go_wp2_with (first | (go_at_call 32; ((with_reducible refine (may_call x hx _ _ _).mono ?_); rintro e w' ⟨rfl, ⟨n, rfl⟩⟩)) | (go_at_call 32; ((with_reducible refine (may_z x hx _ _ _).mono ?_); rintro e w' ⟨rfl, ⟨n, rfl⟩⟩)))
          go_roundw
          case rel => exact ⟨1, by omega, rfl, _, rfl⟩
          case measure => simp [intOf]
      · obtain rfl : k = 1 := by omega
        cases h1 : mayB x true true
        · go_wp2_with (first | (go_at_call 32; ((with_reducible refine (may_call x hx _ _ _).mono ?_); rintro e w' ⟨rfl, ⟨n, rfl⟩⟩)) | (go_at_call 32; ((with_reducible refine (may_z x hx _ _ _).mono ?_); rintro e w' ⟨rfl, ⟨n, rfl⟩⟩)))
          go_roundw
          case rel => exact ⟨2, by omega, rfl, _, rfl⟩
          case measure => simp [intOf]
        · have h3 := may_less x true h1
          go_wp2_with (first | (go_at_call 32; ((with_reducible refine (may_call x hx _ _ _).mono ?_); rintro e w' ⟨rfl, ⟨n, rfl⟩⟩)) | (go_at_call 32; ((with_reducible refine (may_z x hx _ _ _).mono ?_); rintro e w' ⟨rfl, ⟨n, rfl⟩⟩)))
          go_roundw
          case rel => exact ⟨2, by omega, rfl, _, rfl⟩
          case measure => simp [intOf]

theorem rights_any (a : Int) (w : World) (h : (Lit.int .u32 a).wf = true) : Calls Try.prog 8 #[.int .u32 a] w fun e w' => e = .returned (.bool true) ∧ Below w.heap.size w w' := by
  obtain ⟨x, rfl, hx⟩ := u32_nat h
  exact rights_walk x hx w

end Go.Proofs.Ytjflepoifdcadaa.Pure
