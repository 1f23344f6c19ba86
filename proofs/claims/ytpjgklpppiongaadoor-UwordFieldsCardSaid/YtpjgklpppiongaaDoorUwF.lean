/- The words' laws of layer 14: Nothing. -/
import Derived.Test.YtpjgklpppiongaaDoorUwE
namespace Go.Proofs.YtpjgklpppiongaaDoor.UwWalk
open Go.RowKit Go.Proofs.YtpjgklpppiongaaDoor.Aid Go.Proofs.YtpjgklpppiongaaDoorW.PrintWords Go.Proofs.YtpjgklpppiongaaDoorW.PrintLast Go.Proofs.YtpjgklpppiongaaDoorW.PrintMore
set_option linter.unusedVariables false
set_option linter.unusedSimpArgs false
/-- How many of the lowest k parts are not 0. -/
def cntN (x : Nat) : Nat → Nat
  | 0 => 0
  | k + 1 => cntN x k + (if unpN x k = 0 then 0 else 1)
theorem cnt_one : ∀ b, b < 64 → cntN (2 ^ b) 12 = 1 := by decide +kernel
theorem all_parts : ∀ i, i < 12 → unpN 18446744073709551615 i = 2 ^ fb i - 1 := by decide +kernel
theorem cnt_le (x k : Nat) : cntN x k ≤ k := by
  induction k with
  | zero => exact Nat.le_refl _
  | succ k ih => unfold cntN; split <;> omega
theorem box_store (w : World) (cs : Array Value) (a : Nat → Int) : WordAt ((w.alloc (.cells cs 23 (0, 0))).setRow w.heap.size (wcells a)) w.heap.size a ∧ Below w.heap.size w ((w.alloc (.cells cs 23 (0, 0))).setRow w.heap.size (wcells a)) :=
  ⟨setRow_heap _ w.heap.size _ _ 23 _ (blk_new _ _), below_setRow (below_alloc (Below.refl _ _) _) (Nat.le_refl _) _⟩
theorem nothing_no (w : World) (bit : Int) (hF : FieldsAt w) (h : ¬ (0 ≤ bit ∧ bit ≤ 63)) :
    Calls Tryd.prog 5 #[.int .i64 bit] w fun e w' => e = .returned (.bool true) ∧ Below w.heap.size w w' := by
  have A := Aside0.mk (alive_call w hF)
  clear hF
  by_cases h0 : 0 ≤ bit
  · have h1 : ¬ bit ≤ 63 := fun q => h ⟨h0, q⟩
    clear h
    go_enter Tryd.func5, Tryd.ntmps5
    go_wp2_with (first
      | (go_at_call 9; (with_reducible refine (A.out).mono ?_); rintro e w1 ⟨rfl, hb⟩))
    go_ret
    exact ⟨rfl, hb⟩
  · clear h
    go_enter Tryd.func5, Tryd.ntmps5
    go_wp2_with (first
      | (go_at_call 9; (with_reducible refine (A.out).mono ?_); rintro e w1 ⟨rfl, hb⟩))
    go_ret
    exact ⟨rfl, hb⟩
set_option maxHeartbeats 8000000 in
theorem nothing_yes (w : World) (b : Nat) (hF : FieldsAt w) (hb64 : b < 64) :
    Calls Tryd.prog 5 #[.int .i64 b] w fun e w' => e = .returned (.bool true) ∧ Below w.heap.size w w' := by
  have A := Aside0.mk (alive_call w hF)
  have F := Aside0.mk hF
  have h0 : (0 : Int) ≤ b := by omega
  have h1 : (b : Int) ≤ 63 := by omega
  have hp : 2 ^ b < 18446744073709551616 := Nat.pow_lt_pow_right (by decide) (by omega : b < 64)
  have P0 : ∀ w, FieldsAt w → Calls Tryd.prog 11 #[.agg #[.int .i64 0, .int .i64 0, .int .i64 0, .int .i64 0, .int .i64 0, .int .i64 0, .int .i64 0, .int .i64 0, .int .i64 0, .int .i64 0, .int .i64 0, .int .i64 0]] w fun e w' => e = .returned (.tuple #[.int .u64 0, .int .i64 0]) ∧ Below w.heap.size w w' :=
    fun w h => pack_yes w (fun i => 0) h (by decide)
  have P := Aside0.mk P0
  have ew : IntKind.u64.wrap ((2 : Int) ^ b) = ((2 ^ b : Nat) : Int) := by
    rw [show ((2 : Int) ^ b) = ((2 ^ b : Nat) : Int) from by simp]
    exact u64_small _ hp
  have U0 : ∀ w, FieldsAt w → Calls Tryd.prog 14 #[.int .u64 (IntKind.u64.wrap ((2 : Int) ^ b))] w fun e w' => e = .returned (.agg (wcells (unpTo (2 ^ b) 12))) ∧ Below w.heap.size w w' := by
    rw [ew]; exact fun w h => unpack_call w (2 ^ b) hp h
  have U1 : ∀ w, FieldsAt w → Calls Tryd.prog 14 #[.int .u64 18446744073709551615] w fun e w' => e = .returned (.agg (wcells (unpTo 18446744073709551615 12))) ∧ Below w.heap.size w w' := fun w h => unpack_call w 18446744073709551615 (by decide) h
  have UX := Aside0.mk U0
  have UA := Aside0.mk U1
  have PT := Aside0.mk parts_call
  have BX := Aside0.mk (fun (w : World) (a : Nat → Int) => box_store w #[.int .i64 0, .int .i64 0, .int .i64 0, .int .i64 0, .int .i64 0, .int .i64 0, .int .i64 0, .int .i64 0, .int .i64 0, .int .i64 0, .int .i64 0, .int .i64 0] a)
  have CX := Aside0.mk (cnt_one b hb64)
  clear P0 hF U0 U1 ew
  generalize hX : 2 ^ b = X at *
  clear hX hp
  go_enter Tryd.func5, Tryd.ntmps5
  go_wp2_with (first
    | (go_at_call 9; (with_reducible refine (A.out).mono ?_); rintro e w1 ⟨rfl, hb⟩; have C1 := Aside0.mk (hb); clear hb)
    | (go_at_call 11; (with_reducible refine (P.out _ (F.out.then C1.out)).mono ?_); rintro e w2 ⟨rfl, hb⟩; have C2 := Aside0.mk (below_step C1.out hb); clear hb)
    | (go_at_call 14; (with_reducible refine (UX.out _ (F.out.then C2.out)).mono ?_); rintro e w3 ⟨rfl, hb⟩; have C3 := Aside0.mk (below_step C2.out hb); clear hb)
    | (refine wpList_store_row rfl 23 (.tmp 6) (.tmp 26) rfl w3.heap.size (wcells (unpTo X 12)) rfl rfl _ _ (blk_new _ _) infoW rfl (by kernel_rfl) ?_; have X4 := BX.out w3 (unpTo X 12); generalize (w3.alloc (.cells #[.int .i64 0, .int .i64 0, .int .i64 0, .int .i64 0, .int .i64 0, .int .i64 0, .int .i64 0, .int .i64 0, .int .i64 0, .int .i64 0, .int .i64 0, .int .i64 0] 23 (0, 0))).setRow w3.heap.size (wcells (unpTo X 12)) = w4 at X4 ⊢; have W4 := Aside0.mk X4.1; have C4 := Aside0.mk (below_step C3.out X4.2); clear X4)
    | (go_at_call 14; (with_reducible refine (UA.out _ (F.out.then C4.out)).mono ?_); rintro e w5 ⟨rfl, hb⟩; have W5 := Aside0.mk (W4.out.then hb); have C5 := Aside0.mk (below_step C4.out hb); clear hb)
    | (refine wpList_store_row rfl 23 (.tmp 7) (.tmp 27) rfl w5.heap.size (wcells (unpTo 18446744073709551615 12)) rfl rfl _ _ (blk_new _ _) infoW rfl (by kernel_rfl) ?_; have X6 := BX.out w5 (unpTo 18446744073709551615 12); generalize (w5.alloc (.cells #[.int .i64 0, .int .i64 0, .int .i64 0, .int .i64 0, .int .i64 0, .int .i64 0, .int .i64 0, .int .i64 0, .int .i64 0, .int .i64 0, .int .i64 0, .int .i64 0] 23 (0, 0))).setRow w5.heap.size (wcells (unpTo 18446744073709551615 12)) = w6 at X6 ⊢; have W6 := Aside0.mk X6.1; have V6 := Aside0.mk (W5.out.then X6.2); have C6 := Aside0.mk (below_step C5.out X6.2); clear X6)
    | (refine wpList_load_row rfl 23 (.tmp 6) rfl w3.heap.size rfl _ _ _ _ V6.out Tryd.underlying23 rfl infoW ?_)
    | (go_at_call 16; (with_reducible refine (PT.out _ _).mono ?_); rintro e w7 ⟨q, rfl, hp, hb, hq⟩; have P7 := Aside0.mk hp; have W7 := Aside0.mk (W6.out.then hb); have C7 := Aside0.mk (below_step C6.out hb); clear hb hp hq))
  go_loopw [5, 31] (fun n i wr => ∃ k : Nat, k ≤ 12 ∧ i = .int .i64 k ∧ n = .int .i64 (cntN X k) ∧ Below w7.heap.size w7 wr) (fun _ i _ => 12 - (intOf i).toNat)
  case atStart => exact ⟨0, by omega, rfl, rfl, Below.refl _ _⟩
  case round =>
    obtain ⟨k, hk, rfl, rfl, hb⟩ := hrel
    have B := Aside0.mk hb
    by_cases hk12 : k = 12
    · subst hk12
      clear hb
      rw [CX.out]
      go_wp2
      go_ret
      exact ⟨rfl, below_step C7.out B.out⟩
    · have hk' : k < 12 := by omega
      have c1 := (P7.out.then hb).cell k hk'
      have hk'' : (k : Int) < 12 := by omega
      have hk0 : (0 : Int) ≤ k := by omega
      have hcnt := cnt_le X k
      have HK : Aside0 (∀ W, Below wr.heap.size wr W → WordAt W w5.heap.size (unpTo 18446744073709551615 12)) := ⟨fun W h => W7.out.then (below_step B.out h)⟩
      clear hb
      have eu : unpTo X 12 k = ((unpN X k : Nat) : Int) := by unfold unpTo; rw [if_pos hk']
      rw [eu] at c1
      have ea : unpTo 18446744073709551615 12 k = wideF k - 1 := by
        unfold unpTo wideF
        rw [if_pos hk', all_parts k hk']
        have : 0 < 2 ^ fb k := Nat.pow_pos (by decide)
        omega
      have PTK := (fun w1 => (parts_call w1 (unpTo 18446744073709551615 12)).mono (R' := fun e w' => ∃ b, e = .returned (.slice (some ⟨b, 0, none⟩) 12 12) ∧ w'.cell? ⟨b, k, none⟩ = some (.int .i64 (wideF k - 1)) ∧ b < w'.heap.size ∧ Below w1.heap.size w1 w') (fun e w' ⟨b, h1, h2, h3, h4⟩ => ⟨b, h1, ea ▸ h2.cell k hk', h2.lt, h3⟩))
      unfold wcells at PTK
      have PTK := Aside0.mk PTK
      have WC := Aside0.mk (fun w1 => (wide_call w1).mono (R' := fun e w' => ∃ b, e = .returned (.slice (some ⟨b, 0, none⟩) 12 12) ∧ w'.cell? ⟨b, k, none⟩ = some (.int .i64 (wideF k)) ∧ b < w'.heap.size ∧ Below w1.heap.size w1 w') (fun e w' ⟨b, h1, h2, h3, h4⟩ => ⟨b, h1, h2.cell k hk', h2.lt, h3⟩))
      have hw1 : 1 ≤ wideF k ∧ wideF k ≤ 2048 := by
        have h1 : 0 < 2 ^ fb k := Nat.pow_pos (by decide)
        have h2 : 2 ^ fb k ≤ 2 ^ 11 := Nat.pow_le_pow_right (by decide) (fb_le k)
        unfold wideF
        generalize 2 ^ fb k = z at *
        omega
      obtain ⟨hw1, hw2⟩ := hw1
      have hww : (wideF k - 1 != IntKind.i64.wrap (wideF k - 1)) = false := by
        have e : IntKind.i64.wrap (wideF k - 1) = wideF k - 1 := by
          generalize wideF k = z at *
          simp [IntKind.wrap, IntKind.signed, IntKind.bits, IntKind.min, IntKind.max]
          omega
        rw [e]; simp
      clear eu ea
      have hS := (HK.out wr (Below.refl _ _)).all
      obtain ⟨s0, s1, s2, s3, s4, s5, s6, s7, s8, s9, s10, s11⟩ := hS
      by_cases hz : unpN X k = 0
      · rw [hz] at c1
        have HZ := Aside0.mk hz
        clear hz
        go_wp2
        go_region_with (first
          | (go_at_call 16; (with_reducible refine (PTK.out _).mono ?_); rintro e w8 ⟨q8, rfl, c8, l8, hb⟩; have hb8 : Below wr.heap.size wr w8 := ((Below.refl wr.heap.size wr).drew).trans hb; have C8 := Aside0.mk (And.intro c8 l8); clear hb l8)
          | (go_at_call 17; (with_reducible refine (WC.out _).mono ?_); rintro e w9 ⟨q9, rfl, c9, l9, hb⟩; have c8 := (hb.cell (p := ⟨q8, k, none⟩) C8.out.2).trans C8.out.1; have hb9 := below_step hb8 hb; clear hb l9))
        all_goals go_wp2
        all_goals exact ⟨⟨k + 1, by omega, rfl, congrArg (Value.int .i64) (by show _ = ((cntN X k + (if unpN X k = 0 then 0 else 1) : Nat) : Int); rw [if_pos HZ.out]; rfl), below_step B.out hb9⟩, by simp [intOf]; omega⟩
      · have hz1 : ¬ ((unpN X k : Nat) : Int) = 0 := by omega
        have HZ := Aside0.mk hz
        clear hz
        go_wp2
        go_region_with (first
          | (go_at_call 16; (with_reducible refine (PTK.out _).mono ?_); rintro e w8 ⟨q8, rfl, c8, l8, hb⟩; have hb8 : Below wr.heap.size wr w8 := ((Below.refl wr.heap.size wr).drew).trans hb; have C8 := Aside0.mk (And.intro c8 l8); clear hb l8)
          | (go_at_call 17; (with_reducible refine (WC.out _).mono ?_); rintro e w9 ⟨q9, rfl, c9, l9, hb⟩; have c8 := (hb.cell (p := ⟨q8, k, none⟩) C8.out.2).trans C8.out.1; have hb9 := below_step hb8 hb; clear hb l9))
        all_goals go_wp2
        all_goals exact ⟨⟨k + 1, by omega, rfl, congrArg (Value.int .i64) (by show _ = ((cntN X k + (if unpN X k = 0 then 0 else 1) : Nat) : Int); rw [if_neg HZ.out]; first | rfl | (rw [wrap64_in (by omega) (by omega)]; rfl) | omega), below_step B.out hb9⟩, by simp [intOf]; omega⟩
theorem nothing_walk (w : World) (bit : Int) (hF : FieldsAt w) :
    Calls Tryd.prog 5 #[.int .i64 bit] w fun e w' => e = .returned (.bool true) ∧ Below w.heap.size w w' := by
  by_cases h : 0 ≤ bit ∧ bit ≤ 63
  · obtain ⟨b, rfl⟩ : ∃ b : Nat, bit = b := ⟨bit.toNat, by omega⟩
    exact nothing_yes w b hF (by omega)
  · exact nothing_no w bit hF h
end Go.Proofs.YtpjgklpppiongaaDoor.UwWalk
