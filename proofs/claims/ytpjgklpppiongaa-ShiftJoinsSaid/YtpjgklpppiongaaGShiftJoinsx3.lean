-- Written by gprint.py, a program of this session: its own text.
import Derived.Test.YtpjgklpppiongaaGShiftJoinsx0
import Derived.Test.YtpjgklpppiongaaGShiftJoinsx2
namespace Go.Proofs.Ytpjgklpppiongaa.GShiftJoins
open Go.RowKit Go.Proofs.YtpjgklpppiongaaW.PrintWords Go.Proofs.YtpjgklpppiongaaW.PrintLast Go.Proofs.YtpjgklpppiongaaW.PrintMore
attribute [local go_sem] max2_int min2_int max_two min_two max_three min_three max_four min_four   -- for this text's walks alone
set_option linter.unusedVariables false
set_option linter.unusedSimpArgs false

/-! ### shift_Extract: function 14 -/
def shift_Extract.f (a0 : Int) (a1 : Int) (a2 : Int) (a3 : Bool) : Option (Int) := if 0 ≤ (Go.bits .and .i64 a1 31) then ((shift_low.f a2).bind fun t123 => (if a3 = true then (if a2 > 0 then (if 0 ≤ (wrap64 ((mn a2 32) - 1)) then (if (Go.bits .and .u64 (shr .u64 (Go.bits .and .u64 (shr .u64 a0 (Go.bits .and .i64 a1 31)) t123) (wrap64 ((mn a2 32) - 1))) 1) = 1 then ((shift_low.f a2).bind fun t124 => (some ((Go.bits .or .u64 (Go.bits .and .u64 (shr .u64 a0 (Go.bits .and .i64 a1 31)) t123) (Go.bits .xor .u64 18446744073709551615 t124)) % 4294967296))) else (some ((Go.bits .and .u64 (shr .u64 a0 (Go.bits .and .i64 a1 31)) t123) % 4294967296))) else (none)) else (some ((Go.bits .and .u64 (shr .u64 a0 (Go.bits .and .i64 a1 31)) t123) % 4294967296))) else (some ((Go.bits .and .u64 (shr .u64 a0 (Go.bits .and .i64 a1 31)) t123) % 4294967296)))) else (none)
def shift_Extract.T1 : Bool × List (List Nat × List Nat) := (true, [([], []), ([], []), ([1], [1]), ([0, 2], [0, 2]), ([], []), ([4], [4]), ([3, 5], [3, 5]), ([6, 5, 0, 1, 2, 3, 4, 5, 6], [6])])
def shift_Extract.B1 : List Nat := [0, 0, 2, 7, 0, 16, 63, 127]
theorem shift_Extract.tab1 : rtab .any (opsOf Try.f14 1) = shift_Extract.T1 := by kernel_rfl
theorem shift_Extract.bits1 : waitsOk shift_Extract.T1.2 shift_Extract.B1 = true := by kernel_rfl
set_option maxHeartbeats 8000000 in
set_option maxRecDepth 100000 in
theorem shift_Extract.calls (a0 : Int) (a1 : Int) (a2 : Int) (a3 : Bool) (r : Int) (w : World) (h : shift_Extract.f a0 a1 a2 a3 = some r) :
    Calls Try.prog 14 #[.int .u64 a0, .int .i64 a1, .int .i64 a2, .bool a3] w fun e w' => e = .returned (.int .u32 r) ∧ Below w.heap.size w w' := by
  have HB := Aside0.mk (Below.refl w.heap.size w)
  have H : (if 0 ≤ (Go.bits .and .i64 a1 31) then ((shift_low.f a2).bind fun t123 => (if a3 = true then (if a2 > 0 then (if 0 ≤ (wrap64 ((mn a2 32) - 1)) then (if (Go.bits .and .u64 (shr .u64 (Go.bits .and .u64 (shr .u64 a0 (Go.bits .and .i64 a1 31)) t123) (wrap64 ((mn a2 32) - 1))) 1) = 1 then ((shift_low.f a2).bind fun t124 => (some ((Go.bits .or .u64 (Go.bits .and .u64 (shr .u64 a0 (Go.bits .and .i64 a1 31)) t123) (Go.bits .xor .u64 18446744073709551615 t124)) % 4294967296))) else (some ((Go.bits .and .u64 (shr .u64 a0 (Go.bits .and .i64 a1 31)) t123) % 4294967296))) else (none)) else (some ((Go.bits .and .u64 (shr .u64 a0 (Go.bits .and .i64 a1 31)) t123) % 4294967296))) else (some ((Go.bits .and .u64 (shr .u64 a0 (Go.bits .and .i64 a1 31)) t123) % 4294967296)))) else (none)) = some r := h
  clear h
  by_cases c5 : 0 ≤ (Go.bits .and .i64 a1 31)
  · rw [if_pos c5] at H
    have c5b0 := eq_true c5
    have c5b1 : decide (0 ≤ (Go.bits .and .i64 a1 31)) = true := decide_eq_true c5
    clear c5
    obtain ⟨ji6, hji6⟩ : ∃ j_ : Int, (shr .u64 a0 (Go.bits .and .i64 a1 31)) = j_ := ⟨_, rfl⟩
    replace H : ((shift_low.f a2).bind fun t123 => (if a3 = true then (if a2 > 0 then (if 0 ≤ (wrap64 ((mn a2 32) - 1)) then (if (Go.bits .and .u64 (shr .u64 (Go.bits .and .u64 (ji6) t123) (wrap64 ((mn a2 32) - 1))) 1) = 1 then ((shift_low.f a2).bind fun t124 => (some ((Go.bits .or .u64 (Go.bits .and .u64 (ji6) t123) (Go.bits .xor .u64 18446744073709551615 t124)) % 4294967296))) else (some ((Go.bits .and .u64 (ji6) t123) % 4294967296))) else (none)) else (some ((Go.bits .and .u64 (ji6) t123) % 4294967296))) else (some ((Go.bits .and .u64 (ji6) t123) % 4294967296)))) = some r := by first | (rw [hji6] at H; exact H) | (simp only [hji6] at H ⊢; exact H)
    have hji6_ : (a0 / 2 ^ min (Go.bits .and .i64 a1 31).toNat 64) = ji6 := hji6
    have hji6z : (Go.bits .and .i64 a1 31) ≤ 64 → (a0 / 2 ^ (Go.bits .and .i64 a1 31).toNat) = ji6 := shr_small hji6
    replace H := Option.bind_eq_some_iff.mp H
    obtain ⟨t123, A70, H⟩ := H
    replace H : (if a3 = true then (if a2 > 0 then (if 0 ≤ (wrap64 ((mn a2 32) - 1)) then (if (Go.bits .and .u64 (shr .u64 (Go.bits .and .u64 (ji6) t123) (wrap64 ((mn a2 32) - 1))) 1) = 1 then ((shift_low.f a2).bind fun t124 => (some ((Go.bits .or .u64 (Go.bits .and .u64 (ji6) t123) (Go.bits .xor .u64 18446744073709551615 t124)) % 4294967296))) else (some ((Go.bits .and .u64 (ji6) t123) % 4294967296))) else (none)) else (some ((Go.bits .and .u64 (ji6) t123) % 4294967296))) else (some ((Go.bits .and .u64 (ji6) t123) % 4294967296))) = some r := H
    have A7 := Aside0.mk A70
    clear A70
    by_cases c8 : a3 = true
    · subst c8
      have H1 : (if a2 > 0 then (if 0 ≤ (wrap64 ((mn a2 32) - 1)) then (if (Go.bits .and .u64 (shr .u64 (Go.bits .and .u64 (ji6) t123) (wrap64 ((mn a2 32) - 1))) 1) = 1 then ((shift_low.f a2).bind fun t124 => (some ((Go.bits .or .u64 (Go.bits .and .u64 (ji6) t123) (Go.bits .xor .u64 18446744073709551615 t124)) % 4294967296))) else (some ((Go.bits .and .u64 (ji6) t123) % 4294967296))) else (none)) else (some ((Go.bits .and .u64 (ji6) t123) % 4294967296))) = some r := by rw [if_pos rfl] at H; exact H
      clear H
      have H := H1
      clear H1
      by_cases c9 : a2 > 0
      · rw [if_pos c9] at H
        have c9b0 : decide (0 < a2) = true := decide_eq_true c9
        clear c9
        obtain ⟨ji10, hji10⟩ : ∃ j_ : Int, (mn a2 32) = j_ := ⟨_, rfl⟩
        replace H : (if 0 ≤ (wrap64 ((ji10) - 1)) then (if (Go.bits .and .u64 (shr .u64 (Go.bits .and .u64 (ji6) t123) (wrap64 ((ji10) - 1))) 1) = 1 then ((shift_low.f a2).bind fun t124 => (some ((Go.bits .or .u64 (Go.bits .and .u64 (ji6) t123) (Go.bits .xor .u64 18446744073709551615 t124)) % 4294967296))) else (some ((Go.bits .and .u64 (ji6) t123) % 4294967296))) else (none)) = some r := by first | (rw [hji10] at H; exact H) | (simp only [hji10] at H ⊢; exact H)
        (try rw [hji10] at A7)
        (try (have hji10h : ji10 ≤ 32 := by (rw [← hji10]; unfold mn; (repeat' split) <;> omega)))
        (try (have hji10g : ji10 ≤ 64 := by omega))
        (try (have hji10g32 : ji10 ≤ 32 := by omega))
        have hji10_ : (if 32 < a2 then 32 else a2) = ji10 := hji10
        obtain ⟨ji11, hji11⟩ : ∃ j_ : Int, (wrap64 ((ji10) - 1)) = j_ := ⟨_, rfl⟩
        replace H : (if 0 ≤ (ji11) then (if (Go.bits .and .u64 (shr .u64 (Go.bits .and .u64 (ji6) t123) (ji11)) 1) = 1 then ((shift_low.f a2).bind fun t124 => (some ((Go.bits .or .u64 (Go.bits .and .u64 (ji6) t123) (Go.bits .xor .u64 18446744073709551615 t124)) % 4294967296))) else (some ((Go.bits .and .u64 (ji6) t123) % 4294967296))) else (none)) = some r := by first | (rw [hji11] at H; exact H) | (simp only [hji11] at H ⊢; exact H)
        (try rw [hji11] at A7)
        have hji11w : (IntKind.i64.wrap ((ji10) - 1)) = ji11 := (i64_w _).trans hji11
        by_cases c12 : 0 ≤ (ji11)
        · rw [if_pos c12] at H
          have c12b0 := eq_true c12
          have c12b1 : decide (0 ≤ (ji11)) = true := decide_eq_true c12
          clear c12
          obtain ⟨ji13, hji13⟩ : ∃ j_ : Int, (shr .u64 (Go.bits .and .u64 (ji6) t123) (ji11)) = j_ := ⟨_, rfl⟩
          replace H : (if (Go.bits .and .u64 (ji13) 1) = 1 then ((shift_low.f a2).bind fun t124 => (some ((Go.bits .or .u64 (Go.bits .and .u64 (ji6) t123) (Go.bits .xor .u64 18446744073709551615 t124)) % 4294967296))) else (some ((Go.bits .and .u64 (ji6) t123) % 4294967296))) = some r := by first | (rw [hji13] at H; exact H) | (simp only [hji13] at H ⊢; exact H)
          (try rw [hji13] at A7)
          have hji13_ : ((Go.bits .and .u64 (ji6) t123) / 2 ^ min (ji11).toNat 64) = ji13 := hji13
          have hji13z : (ji11) ≤ 64 → ((Go.bits .and .u64 (ji6) t123) / 2 ^ (ji11).toNat) = ji13 := shr_small hji13
          by_cases c14 : (Go.bits .and .u64 (ji13) 1) = 1
          · rw [if_pos c14] at H
            have c14b0 : ((Go.bits .and .u64 (ji13) 1) == 1) = true := beq_iff_eq.mpr c14
            have c14b1 : ((Go.bits .and .u64 (ji13) 1) != 1) = false := bne_eq_false_iff_eq.mpr c14
            clear c14
            replace H := Option.bind_eq_some_iff.mp H
            obtain ⟨t124, A150, H⟩ := H
            replace H : (some ((Go.bits .or .u64 (Go.bits .and .u64 (ji6) t123) (Go.bits .xor .u64 18446744073709551615 t124)) % 4294967296)) = some r := H
            have A15 := Aside0.mk A150
            clear A150
            obtain rfl := Option.some.inj H
            go_enter Try.func14, Try.ntmps14
            try go_wp2
            have n0_ := Aside0.mk (below_drew1 HB.out)
            clear HB
            have HB := n0_
            clear n0_
            refine start_ (n := 8) (S := fun w' => True) (ds := []) #[false, false, false, false, false, false, false, false] (by kernel_rfl) rfl rfl trivial (fun hHeld => ?_); refine with_tabW shift_Extract.tab1 shift_Extract.bits1 (fun HT_ HW_ => ?_)
            generalize w.drew = w16 at HB hHeld ⊢
            refine pure_ (i := 0) (N := some 10) (v := ?_) (a' := ?_) #[true, false, false, false, false, false, false, false] rfl rfl (any_of HT_.out (by kernel_rfl)) (fun _ _ _ h => h) (Or.inl ⟨by rfl, ?_⟩) ?_ ?_
            rotate_left
            · intro w'
              go_simp
              with_reducible rfl
            rotate_left
            · simp only [Act.put, List.setIfInBounds_toArray, List.set_cons_zero, List.set_cons_succ, i64_w, i32_w]
              rfl
            refine pure_ (i := 1) (N := some 11) (v := ?_) (a' := ?_) #[true, true, false, false, false, false, false, false] rfl rfl (any_of HT_.out (by kernel_rfl)) (fun _ _ _ h => h) (Or.inl ⟨by rfl, ?_⟩) ?_ ?_
            rotate_left
            · intro w'
              go_simp
              with_reducible rfl
            rotate_left
            · simp only [Act.put, List.setIfInBounds_toArray, List.set_cons_zero, List.set_cons_succ, i64_w, i32_w]
              rfl
            refine pure_ (i := 2) (N := some 12) (v := ?_) (a' := ?_) #[true, true, true, false, false, false, false, false] rfl rfl (any_of HT_.out (by kernel_rfl)) (fun _ _ _ h => h) (Or.inl ⟨by rfl, ?_⟩) ?_ ?_
            rotate_left
            · intro w'
              go_simp
              with_reducible rfl
            rotate_left
            · simp only [Act.put, List.setIfInBounds_toArray, List.set_cons_zero, List.set_cons_succ, i64_w, i32_w]
              rfl
            refine pure_ (i := 3) (N := some 13) (v := ?_) (a' := ?_) #[true, true, true, true, false, false, false, false] rfl rfl (any_of HT_.out (by kernel_rfl)) (fun _ _ _ h => h) (Or.inl ⟨by rfl, ?_⟩) ?_ ?_
            rotate_left
            · intro w'
              go_simp
              with_reducible rfl
            rotate_left
            · simp only [Act.put, List.setIfInBounds_toArray, List.set_cons_zero, List.set_cons_succ, i64_w, i32_w]
              rfl
            refine pure_ (i := 4) (N := some 14) (v := ?_) (a' := ?_) #[true, true, true, true, true, false, false, false] rfl rfl (any_of HT_.out (by kernel_rfl)) (fun _ _ _ h => h) (Or.inl ⟨by rfl, ?_⟩) ?_ ?_
            rotate_left
            · intro w'
              go_simp
              with_reducible rfl
            rotate_left
            · simp only [Act.put, List.setIfInBounds_toArray, List.set_cons_zero, List.set_cons_succ, i64_w, i32_w]
              rfl
            refine one_ (i := 5) (N := some 15) #[true, true, true, true, true, true, false, false] rfl rfl (one_of HT_.out (by kernel_rfl)) (by decide) (fun K hK => ?_)
            refine goes_ Try.func27 (by kernel_rfl) rfl #[.int .i64 a2] (by rfl) rfl rfl (by (try simp only [List.map_toArray, List.map_cons, List.map_nil]); first | done | rfl | (simp only [List.length_drop, List.length_take]; rfl)) ?_
            with_reducible refine (shift_low.calls a2 t123 _ A7.out).mono ?_
            rintro e w17 ⟨rfl, hb⟩
            refine ⟨_, rfl, ?_⟩
            have n0_ := Aside0.mk (below_step (by repeat (first | (with_reducible first | exact HB.out | apply below_alloc | apply pw_below_drewN | apply below_drew1) | exact HB.out)) hb)
            clear HB
            have HB := n0_
            clear n0_
            (try clear hb)
            (try clear hb2)
            (try clear hk)
            (try clear hi)
            refine hK.out _ _ trivial (fun hHeld => ?_)
            clear hK K
            refine norm_ (a' := ?_) ?_ ?_
            rotate_left
            · show Act.put _ (some 15) _ = _
              simp only [Act.put, List.setIfInBounds_toArray, List.set_cons_zero, List.set_cons_succ, i64_w, i32_w]
              rfl
            refine pure_ (i := 6) (N := some 16) (v := ?_) (a' := ?_) #[true, true, true, true, true, true, true, false] rfl rfl (any_of HT_.out (by kernel_rfl)) (fun _ _ _ h => h) (Or.inl ⟨by rfl, ?_⟩) ?_ ?_
            rotate_left
            · intro w'
              go_simp
              with_reducible rfl
            rotate_left
            · simp only [Act.put, List.setIfInBounds_toArray, List.set_cons_zero, List.set_cons_succ, i64_w, i32_w]
              rfl
            refine pure_ (i := 7) (N := some 9) (v := ?_) (a' := ?_) #[true, true, true, true, true, true, true, true] rfl rfl (any_of HT_.out (by kernel_rfl)) (fun _ _ _ h => h) (Or.inl ⟨by rfl, ?_⟩) ?_ ?_
            rotate_left
            · intro w'
              go_simp
              with_reducible rfl
            rotate_left
            · simp only [Act.put, List.setIfInBounds_toArray, List.set_cons_zero, List.set_cons_succ, i64_w, i32_w]
              rfl
            refine done_ (done_of HT_.out (by kernel_rfl)) ?_
            try go_wp2_with (first | ((with_reducible refine gate_callee (f := 27) rfl ?_); refine goesL_ (some 33) rfl rfl Try.func27 (by kernel_rfl) rfl #[.int .i64 a2] rfl (by (try simp only [List.map_toArray, List.map_cons, List.map_nil]); first | done | rfl | (simp only [List.length_drop, List.length_take]; rfl)) ?_; (with_reducible refine (shift_low.calls a2 t124 _ A15.out).mono ?_); rintro e w18 ⟨rfl, hb⟩; refine ⟨_, rfl, ?_⟩; have n0_ := Aside0.mk (below_step (by repeat (first | (with_reducible first | exact HB.out | apply below_alloc | apply pw_below_drewN | apply below_drew1) | exact HB.out)) hb); clear HB; have HB := n0_; clear n0_; (try clear hb); (try clear hb2); (try clear hk); (try clear hi)))
            go_ret
            exact ⟨by first | rfl | (simp [errW_none, errW_some] <;> rfl) | (simp only [← hji6, ← hji10, ← hji11, ← hji13]; first | rfl | (simp [errW_none, errW_some] <;> rfl)) | (simp [*, errW_none, errW_some] <;> rfl), by repeat (first | (with_reducible first | exact HB.out | apply below_alloc | apply pw_below_drewN | apply below_drew1) | exact HB.out)⟩
          · rw [if_neg c14] at H
            have c14b0 : ((Go.bits .and .u64 (ji13) 1) == 1) = false := beq_eq_false_iff_ne.mpr c14
            have c14b1 : ((Go.bits .and .u64 (ji13) 1) != 1) = true := bne_iff_ne.mpr c14
            obtain rfl := Option.some.inj H
            go_enter Try.func14, Try.ntmps14
            try go_wp2
            have n0_ := Aside0.mk (below_drew1 HB.out)
            clear HB
            have HB := n0_
            clear n0_
            refine start_ (n := 8) (S := fun w' => True) (ds := []) #[false, false, false, false, false, false, false, false] (by kernel_rfl) rfl rfl trivial (fun hHeld => ?_); refine with_tabW shift_Extract.tab1 shift_Extract.bits1 (fun HT_ HW_ => ?_)
            generalize w.drew = w19 at HB hHeld ⊢
            refine pure_ (i := 0) (N := some 10) (v := ?_) (a' := ?_) #[true, false, false, false, false, false, false, false] rfl rfl (any_of HT_.out (by kernel_rfl)) (fun _ _ _ h => h) (Or.inl ⟨by rfl, ?_⟩) ?_ ?_
            rotate_left
            · intro w'
              go_simp
              with_reducible rfl
            rotate_left
            · simp only [Act.put, List.setIfInBounds_toArray, List.set_cons_zero, List.set_cons_succ, i64_w, i32_w]
              rfl
            refine pure_ (i := 1) (N := some 11) (v := ?_) (a' := ?_) #[true, true, false, false, false, false, false, false] rfl rfl (any_of HT_.out (by kernel_rfl)) (fun _ _ _ h => h) (Or.inl ⟨by rfl, ?_⟩) ?_ ?_
            rotate_left
            · intro w'
              go_simp
              with_reducible rfl
            rotate_left
            · simp only [Act.put, List.setIfInBounds_toArray, List.set_cons_zero, List.set_cons_succ, i64_w, i32_w]
              rfl
            refine pure_ (i := 2) (N := some 12) (v := ?_) (a' := ?_) #[true, true, true, false, false, false, false, false] rfl rfl (any_of HT_.out (by kernel_rfl)) (fun _ _ _ h => h) (Or.inl ⟨by rfl, ?_⟩) ?_ ?_
            rotate_left
            · intro w'
              go_simp
              with_reducible rfl
            rotate_left
            · simp only [Act.put, List.setIfInBounds_toArray, List.set_cons_zero, List.set_cons_succ, i64_w, i32_w]
              rfl
            refine pure_ (i := 3) (N := some 13) (v := ?_) (a' := ?_) #[true, true, true, true, false, false, false, false] rfl rfl (any_of HT_.out (by kernel_rfl)) (fun _ _ _ h => h) (Or.inl ⟨by rfl, ?_⟩) ?_ ?_
            rotate_left
            · intro w'
              go_simp
              with_reducible rfl
            rotate_left
            · simp only [Act.put, List.setIfInBounds_toArray, List.set_cons_zero, List.set_cons_succ, i64_w, i32_w]
              rfl
            refine pure_ (i := 4) (N := some 14) (v := ?_) (a' := ?_) #[true, true, true, true, true, false, false, false] rfl rfl (any_of HT_.out (by kernel_rfl)) (fun _ _ _ h => h) (Or.inl ⟨by rfl, ?_⟩) ?_ ?_
            rotate_left
            · intro w'
              go_simp
              with_reducible rfl
            rotate_left
            · simp only [Act.put, List.setIfInBounds_toArray, List.set_cons_zero, List.set_cons_succ, i64_w, i32_w]
              rfl
            refine one_ (i := 5) (N := some 15) #[true, true, true, true, true, true, false, false] rfl rfl (one_of HT_.out (by kernel_rfl)) (by decide) (fun K hK => ?_)
            refine goes_ Try.func27 (by kernel_rfl) rfl #[.int .i64 a2] (by rfl) rfl rfl (by (try simp only [List.map_toArray, List.map_cons, List.map_nil]); first | done | rfl | (simp only [List.length_drop, List.length_take]; rfl)) ?_
            with_reducible refine (shift_low.calls a2 t123 _ A7.out).mono ?_
            rintro e w20 ⟨rfl, hb⟩
            refine ⟨_, rfl, ?_⟩
            have n0_ := Aside0.mk (below_step (by repeat (first | (with_reducible first | exact HB.out | apply below_alloc | apply pw_below_drewN | apply below_drew1) | exact HB.out)) hb)
            clear HB
            have HB := n0_
            clear n0_
            (try clear hb)
            (try clear hb2)
            (try clear hk)
            (try clear hi)
            refine hK.out _ _ trivial (fun hHeld => ?_)
            clear hK K
            refine norm_ (a' := ?_) ?_ ?_
            rotate_left
            · show Act.put _ (some 15) _ = _
              simp only [Act.put, List.setIfInBounds_toArray, List.set_cons_zero, List.set_cons_succ, i64_w, i32_w]
              rfl
            refine pure_ (i := 6) (N := some 16) (v := ?_) (a' := ?_) #[true, true, true, true, true, true, true, false] rfl rfl (any_of HT_.out (by kernel_rfl)) (fun _ _ _ h => h) (Or.inl ⟨by rfl, ?_⟩) ?_ ?_
            rotate_left
            · intro w'
              go_simp
              with_reducible rfl
            rotate_left
            · simp only [Act.put, List.setIfInBounds_toArray, List.set_cons_zero, List.set_cons_succ, i64_w, i32_w]
              rfl
            refine pure_ (i := 7) (N := some 9) (v := ?_) (a' := ?_) #[true, true, true, true, true, true, true, true] rfl rfl (any_of HT_.out (by kernel_rfl)) (fun _ _ _ h => h) (Or.inl ⟨by rfl, ?_⟩) ?_ ?_
            rotate_left
            · intro w'
              go_simp
              with_reducible rfl
            rotate_left
            · simp only [Act.put, List.setIfInBounds_toArray, List.set_cons_zero, List.set_cons_succ, i64_w, i32_w]
              rfl
            refine done_ (done_of HT_.out (by kernel_rfl)) ?_
            try go_wp2
            go_ret
            exact ⟨by first | rfl | (simp [errW_none, errW_some] <;> rfl) | (simp only [← hji6, ← hji10, ← hji11, ← hji13]; first | rfl | (simp [errW_none, errW_some] <;> rfl)) | (simp [*, errW_none, errW_some] <;> rfl), by repeat (first | (with_reducible first | exact HB.out | apply below_alloc | apply pw_below_drewN | apply below_drew1) | exact HB.out)⟩
        · rw [if_neg c12] at H
          exact absurd H (by simp)
      · rw [if_neg c9] at H
        have c9b0 : decide (0 < a2) = false := decide_eq_false c9
        clear c9
        obtain rfl := Option.some.inj H
        go_enter Try.func14, Try.ntmps14
        try go_wp2
        have n0_ := Aside0.mk (below_drew1 HB.out)
        clear HB
        have HB := n0_
        clear n0_
        refine start_ (n := 8) (S := fun w' => True) (ds := []) #[false, false, false, false, false, false, false, false] (by kernel_rfl) rfl rfl trivial (fun hHeld => ?_); refine with_tabW shift_Extract.tab1 shift_Extract.bits1 (fun HT_ HW_ => ?_)
        generalize w.drew = w21 at HB hHeld ⊢
        refine pure_ (i := 0) (N := some 10) (v := ?_) (a' := ?_) #[true, false, false, false, false, false, false, false] rfl rfl (any_of HT_.out (by kernel_rfl)) (fun _ _ _ h => h) (Or.inl ⟨by rfl, ?_⟩) ?_ ?_
        rotate_left
        · intro w'
          go_simp
          with_reducible rfl
        rotate_left
        · simp only [Act.put, List.setIfInBounds_toArray, List.set_cons_zero, List.set_cons_succ, i64_w, i32_w]
          rfl
        refine pure_ (i := 1) (N := some 11) (v := ?_) (a' := ?_) #[true, true, false, false, false, false, false, false] rfl rfl (any_of HT_.out (by kernel_rfl)) (fun _ _ _ h => h) (Or.inl ⟨by rfl, ?_⟩) ?_ ?_
        rotate_left
        · intro w'
          go_simp
          with_reducible rfl
        rotate_left
        · simp only [Act.put, List.setIfInBounds_toArray, List.set_cons_zero, List.set_cons_succ, i64_w, i32_w]
          rfl
        refine pure_ (i := 2) (N := some 12) (v := ?_) (a' := ?_) #[true, true, true, false, false, false, false, false] rfl rfl (any_of HT_.out (by kernel_rfl)) (fun _ _ _ h => h) (Or.inl ⟨by rfl, ?_⟩) ?_ ?_
        rotate_left
        · intro w'
          go_simp
          with_reducible rfl
        rotate_left
        · simp only [Act.put, List.setIfInBounds_toArray, List.set_cons_zero, List.set_cons_succ, i64_w, i32_w]
          rfl
        refine pure_ (i := 3) (N := some 13) (v := ?_) (a' := ?_) #[true, true, true, true, false, false, false, false] rfl rfl (any_of HT_.out (by kernel_rfl)) (fun _ _ _ h => h) (Or.inl ⟨by rfl, ?_⟩) ?_ ?_
        rotate_left
        · intro w'
          go_simp
          with_reducible rfl
        rotate_left
        · simp only [Act.put, List.setIfInBounds_toArray, List.set_cons_zero, List.set_cons_succ, i64_w, i32_w]
          rfl
        refine pure_ (i := 4) (N := some 14) (v := ?_) (a' := ?_) #[true, true, true, true, true, false, false, false] rfl rfl (any_of HT_.out (by kernel_rfl)) (fun _ _ _ h => h) (Or.inl ⟨by rfl, ?_⟩) ?_ ?_
        rotate_left
        · intro w'
          go_simp
          with_reducible rfl
        rotate_left
        · simp only [Act.put, List.setIfInBounds_toArray, List.set_cons_zero, List.set_cons_succ, i64_w, i32_w]
          rfl
        refine one_ (i := 5) (N := some 15) #[true, true, true, true, true, true, false, false] rfl rfl (one_of HT_.out (by kernel_rfl)) (by decide) (fun K hK => ?_)
        refine goes_ Try.func27 (by kernel_rfl) rfl #[.int .i64 a2] (by rfl) rfl rfl (by (try simp only [List.map_toArray, List.map_cons, List.map_nil]); first | done | rfl | (simp only [List.length_drop, List.length_take]; rfl)) ?_
        with_reducible refine (shift_low.calls a2 t123 _ A7.out).mono ?_
        rintro e w22 ⟨rfl, hb⟩
        refine ⟨_, rfl, ?_⟩
        have n0_ := Aside0.mk (below_step (by repeat (first | (with_reducible first | exact HB.out | apply below_alloc | apply pw_below_drewN | apply below_drew1) | exact HB.out)) hb)
        clear HB
        have HB := n0_
        clear n0_
        (try clear hb)
        (try clear hb2)
        (try clear hk)
        (try clear hi)
        refine hK.out _ _ trivial (fun hHeld => ?_)
        clear hK K
        refine norm_ (a' := ?_) ?_ ?_
        rotate_left
        · show Act.put _ (some 15) _ = _
          simp only [Act.put, List.setIfInBounds_toArray, List.set_cons_zero, List.set_cons_succ, i64_w, i32_w]
          rfl
        refine pure_ (i := 6) (N := some 16) (v := ?_) (a' := ?_) #[true, true, true, true, true, true, true, false] rfl rfl (any_of HT_.out (by kernel_rfl)) (fun _ _ _ h => h) (Or.inl ⟨by rfl, ?_⟩) ?_ ?_
        rotate_left
        · intro w'
          go_simp
          with_reducible rfl
        rotate_left
        · simp only [Act.put, List.setIfInBounds_toArray, List.set_cons_zero, List.set_cons_succ, i64_w, i32_w]
          rfl
        refine pure_ (i := 7) (N := some 9) (v := ?_) (a' := ?_) #[true, true, true, true, true, true, true, true] rfl rfl (any_of HT_.out (by kernel_rfl)) (fun _ _ _ h => h) (Or.inl ⟨by rfl, ?_⟩) ?_ ?_
        rotate_left
        · intro w'
          go_simp
          with_reducible rfl
        rotate_left
        · simp only [Act.put, List.setIfInBounds_toArray, List.set_cons_zero, List.set_cons_succ, i64_w, i32_w]
          rfl
        refine done_ (done_of HT_.out (by kernel_rfl)) ?_
        try go_wp2
        go_ret
        exact ⟨by first | rfl | (simp [errW_none, errW_some] <;> rfl) | (simp only [← hji6]; first | rfl | (simp [errW_none, errW_some] <;> rfl)) | (simp [*, errW_none, errW_some] <;> rfl), by repeat (first | (with_reducible first | exact HB.out | apply below_alloc | apply pw_below_drewN | apply below_drew1) | exact HB.out)⟩
    · replace c8 := Bool.eq_false_iff.mpr c8
      subst c8
      have H1 : (some ((Go.bits .and .u64 (ji6) t123) % 4294967296)) = some r := by rw [if_neg (show ¬ (false = true) by decide)] at H; exact H
      clear H
      have H := H1
      clear H1
      obtain rfl := Option.some.inj H
      go_enter Try.func14, Try.ntmps14
      try go_wp2
      have n0_ := Aside0.mk (below_drew1 HB.out)
      clear HB
      have HB := n0_
      clear n0_
      refine start_ (n := 8) (S := fun w' => True) (ds := []) #[false, false, false, false, false, false, false, false] (by kernel_rfl) rfl rfl trivial (fun hHeld => ?_); refine with_tabW shift_Extract.tab1 shift_Extract.bits1 (fun HT_ HW_ => ?_)
      generalize w.drew = w23 at HB hHeld ⊢
      refine pure_ (i := 0) (N := some 10) (v := ?_) (a' := ?_) #[true, false, false, false, false, false, false, false] rfl rfl (any_of HT_.out (by kernel_rfl)) (fun _ _ _ h => h) (Or.inl ⟨by rfl, ?_⟩) ?_ ?_
      rotate_left
      · intro w'
        go_simp
        with_reducible rfl
      rotate_left
      · simp only [Act.put, List.setIfInBounds_toArray, List.set_cons_zero, List.set_cons_succ, i64_w, i32_w]
        rfl
      refine pure_ (i := 1) (N := some 11) (v := ?_) (a' := ?_) #[true, true, false, false, false, false, false, false] rfl rfl (any_of HT_.out (by kernel_rfl)) (fun _ _ _ h => h) (Or.inl ⟨by rfl, ?_⟩) ?_ ?_
      rotate_left
      · intro w'
        go_simp
        with_reducible rfl
      rotate_left
      · simp only [Act.put, List.setIfInBounds_toArray, List.set_cons_zero, List.set_cons_succ, i64_w, i32_w]
        rfl
      refine pure_ (i := 2) (N := some 12) (v := ?_) (a' := ?_) #[true, true, true, false, false, false, false, false] rfl rfl (any_of HT_.out (by kernel_rfl)) (fun _ _ _ h => h) (Or.inl ⟨by rfl, ?_⟩) ?_ ?_
      rotate_left
      · intro w'
        go_simp
        with_reducible rfl
      rotate_left
      · simp only [Act.put, List.setIfInBounds_toArray, List.set_cons_zero, List.set_cons_succ, i64_w, i32_w]
        rfl
      refine pure_ (i := 3) (N := some 13) (v := ?_) (a' := ?_) #[true, true, true, true, false, false, false, false] rfl rfl (any_of HT_.out (by kernel_rfl)) (fun _ _ _ h => h) (Or.inl ⟨by rfl, ?_⟩) ?_ ?_
      rotate_left
      · intro w'
        go_simp
        with_reducible rfl
      rotate_left
      · simp only [Act.put, List.setIfInBounds_toArray, List.set_cons_zero, List.set_cons_succ, i64_w, i32_w]
        rfl
      refine pure_ (i := 4) (N := some 14) (v := ?_) (a' := ?_) #[true, true, true, true, true, false, false, false] rfl rfl (any_of HT_.out (by kernel_rfl)) (fun _ _ _ h => h) (Or.inl ⟨by rfl, ?_⟩) ?_ ?_
      rotate_left
      · intro w'
        go_simp
        with_reducible rfl
      rotate_left
      · simp only [Act.put, List.setIfInBounds_toArray, List.set_cons_zero, List.set_cons_succ, i64_w, i32_w]
        rfl
      refine one_ (i := 5) (N := some 15) #[true, true, true, true, true, true, false, false] rfl rfl (one_of HT_.out (by kernel_rfl)) (by decide) (fun K hK => ?_)
      refine goes_ Try.func27 (by kernel_rfl) rfl #[.int .i64 a2] (by rfl) rfl rfl (by (try simp only [List.map_toArray, List.map_cons, List.map_nil]); first | done | rfl | (simp only [List.length_drop, List.length_take]; rfl)) ?_
      with_reducible refine (shift_low.calls a2 t123 _ A7.out).mono ?_
      rintro e w24 ⟨rfl, hb⟩
      refine ⟨_, rfl, ?_⟩
      have n0_ := Aside0.mk (below_step (by repeat (first | (with_reducible first | exact HB.out | apply below_alloc | apply pw_below_drewN | apply below_drew1) | exact HB.out)) hb)
      clear HB
      have HB := n0_
      clear n0_
      (try clear hb)
      (try clear hb2)
      (try clear hk)
      (try clear hi)
      refine hK.out _ _ trivial (fun hHeld => ?_)
      clear hK K
      refine norm_ (a' := ?_) ?_ ?_
      rotate_left
      · show Act.put _ (some 15) _ = _
        simp only [Act.put, List.setIfInBounds_toArray, List.set_cons_zero, List.set_cons_succ, i64_w, i32_w]
        rfl
      refine pure_ (i := 6) (N := some 16) (v := ?_) (a' := ?_) #[true, true, true, true, true, true, true, false] rfl rfl (any_of HT_.out (by kernel_rfl)) (fun _ _ _ h => h) (Or.inl ⟨by rfl, ?_⟩) ?_ ?_
      rotate_left
      · intro w'
        go_simp
        with_reducible rfl
      rotate_left
      · simp only [Act.put, List.setIfInBounds_toArray, List.set_cons_zero, List.set_cons_succ, i64_w, i32_w]
        rfl
      refine pure_ (i := 7) (N := some 9) (v := ?_) (a' := ?_) #[true, true, true, true, true, true, true, true] rfl rfl (any_of HT_.out (by kernel_rfl)) (fun _ _ _ h => h) (Or.inl ⟨by rfl, ?_⟩) ?_ ?_
      rotate_left
      · intro w'
        go_simp
        with_reducible rfl
      rotate_left
      · simp only [Act.put, List.setIfInBounds_toArray, List.set_cons_zero, List.set_cons_succ, i64_w, i32_w]
        rfl
      refine done_ (done_of HT_.out (by kernel_rfl)) ?_
      try go_wp2
      go_ret
      exact ⟨by first | rfl | (simp [errW_none, errW_some] <;> rfl) | (simp only [← hji6]; first | rfl | (simp [errW_none, errW_some] <;> rfl)) | (simp [*, errW_none, errW_some] <;> rfl), by repeat (first | (with_reducible first | exact HB.out | apply below_alloc | apply pw_below_drewN | apply below_drew1) | exact HB.out)⟩
  · rw [if_neg c5] at H
    exact absurd H (by simp)

/-! ### shift_Span: function 15 -/
def shift_Span.f (a0 : Int) (a1 : Int) : Option (Int) := if a1 < 1 then (some 0) else (some (wrap64 (Int.tdiv (wrap64 ((wrap64 ((Go.bits .and .i64 a0 7) + a1)) + 7)) 8)))
set_option maxHeartbeats 8000000 in
set_option maxRecDepth 100000 in
theorem shift_Span.calls (a0 : Int) (a1 : Int) (r : Int) (w : World) (h : shift_Span.f a0 a1 = some r) :
    Calls Try.prog 15 #[.int .i64 a0, .int .i64 a1] w fun e w' => e = .returned (.int .i64 r) ∧ Drawn0 w w' := by
  have H : (if a1 < 1 then (some 0) else (some (wrap64 (Int.tdiv (wrap64 ((wrap64 ((Go.bits .and .i64 a0 7) + a1)) + 7)) 8)))) = some r := h
  clear h
  by_cases c3 : a1 < 1
  · rw [if_pos c3] at H
    have c3b0 : decide (a1 < 1) = true := decide_eq_true c3
    clear c3
    obtain rfl := Option.some.inj H
    go_enter Try.func15, Try.ntmps15
    go_wp2
    go_ret
    exact ⟨by first | rfl | (simp; done) | (simp [*]; done), by repeat (first | exact Drawn0.refl _ | apply Drawn0.step)⟩
  · rw [if_neg c3] at H
    have c3b0 : decide (a1 < 1) = false := decide_eq_false c3
    clear c3
    obtain rfl := Option.some.inj H
    go_enter Try.func15, Try.ntmps15
    go_wp2
    go_ret
    exact ⟨by first | rfl | (simp; done) | (simp [*]; done), by repeat (first | exact Drawn0.refl _ | apply Drawn0.step)⟩

/-! ### camshaftlaw09_ShiftJoins: function 6 -/
def camshaftlaw09_ShiftJoins.j0 : Nat → Int → Int → Int → Int → Bool → Option (Bool)
  | 0, _, _, _, _, _ => none
  | k + 1, x0, x1, x2, x3, x47 => if x47 = true then (some true) else ((shift_Extract.f x0 x1 (wrap64 (x2 + x3)) false).bind fun t126 => ((shift_Extract.f x0 x1 x2 false).bind fun t127 => ((shift_Extract.f x0 (wrap64 (x1 + x2)) x3 false).bind fun t128 => (if 0 ≤ (IntKind.u64.wrap (x2)) then ((shift_Span.f x1 (wrap64 (x2 + x3))).bind fun t129 => (if (IntKind.u64.wrap (t126)) = (IntKind.u64.wrap ((IntKind.u64.wrap (t127)) + (shl .u64 (IntKind.u64.wrap (t128)) (IntKind.u64.wrap (x2))))) then (if (wrap64 (x2 + x3)) = 0 then (if t129 = 0 then (some true) else (if (wrap64 (x2 + x3)) > 0 then (if (wrap64 (8 * t129)) ≥ (wrap64 ((wrap64 ((Int.tmod x1 8) + x2)) + x3)) then (some (decide ((wrap64 (8 * (wrap64 (t129 - 1)))) < (wrap64 ((wrap64 ((Int.tmod x1 8) + x2)) + x3))))) else (some false)) else (some false))) else (if (wrap64 (x2 + x3)) > 0 then (if (wrap64 (8 * t129)) ≥ (wrap64 ((wrap64 ((Int.tmod x1 8) + x2)) + x3)) then (some (decide ((wrap64 (8 * (wrap64 (t129 - 1)))) < (wrap64 ((wrap64 ((Int.tmod x1 8) + x2)) + x3))))) else (some false)) else (some false))) else (some false))) else (none)))))
def camshaftlaw09_ShiftJoins.f (k : Nat) (a0 : Int) (a1 : Int) (a2 : Int) (a3 : Int) : Option (Bool) := (camshaftlaw09_alive.f).bind fun t125 => (if t125 = true then (if a1 < 0 then (camshaftlaw09_ShiftJoins.j0 k a0 a1 a2 a3 true) else (if a2 < 0 then (camshaftlaw09_ShiftJoins.j0 k a0 a1 a2 a3 true) else (if a3 < 0 then (camshaftlaw09_ShiftJoins.j0 k a0 a1 a2 a3 true) else (if a1 > 31 then (camshaftlaw09_ShiftJoins.j0 k a0 a1 a2 a3 true) else (if a2 > 32 then (camshaftlaw09_ShiftJoins.j0 k a0 a1 a2 a3 true) else (if a3 > 32 then (camshaftlaw09_ShiftJoins.j0 k a0 a1 a2 a3 true) else (if (wrap64 (a2 + a3)) > 32 then (camshaftlaw09_ShiftJoins.j0 k a0 a1 a2 a3 true) else (camshaftlaw09_ShiftJoins.j0 k a0 a1 a2 a3 (decide ((wrap64 (a1 + a2)) > 31)))))))))) else (some false))
theorem camshaftlaw09_ShiftJoins.mono_l : ∀ k, (∀ y0 y1 y2 y3 y4, LeO (camshaftlaw09_ShiftJoins.j0 k y0 y1 y2 y3 y4) (camshaftlaw09_ShiftJoins.j0 (k + 1) y0 y1 y2 y3 y4))
  | 0 => fun _ _ _ _ _ r h => by simp [camshaftlaw09_ShiftJoins.j0] at h
  | k + 1 => by
    have ih0 := camshaftlaw09_ShiftJoins.mono_l k
    · intro y0 y1 y2 y3 y4
      unfold camshaftlaw09_ShiftJoins.j0
      repeat' first
      | (with_reducible exact ih0 _ _ _ _ _)
      | (with_reducible exact LeO.refl _)
      | (with_reducible exact LeO.none _)
      | (with_reducible refine LeO.ite ?_ ?_)
      | (with_reducible refine LeO.bind ?_ (fun _ => ?_))
      | exact ih0 _ _ _ _ _
      | exact LeO.none _
      | refine LeO.ite ?_ ?_
      | refine LeO.bind ?_ (fun _ => ?_)
theorem camshaftlaw09_ShiftJoins.mono : ∀ a0 a1 a2 a3 k, LeO (camshaftlaw09_ShiftJoins.f k a0 a1 a2 a3) (camshaftlaw09_ShiftJoins.f (k + 1) a0 a1 a2 a3) := by
  intro a0 a1 a2 a3 k
  have ih0 := camshaftlaw09_ShiftJoins.mono_l k
  unfold camshaftlaw09_ShiftJoins.f
  repeat' first
      | (with_reducible exact ih0 _ _ _ _ _)
      | (with_reducible exact LeO.refl _)
      | (with_reducible exact LeO.none _)
      | (with_reducible refine LeO.ite ?_ ?_)
      | (with_reducible refine LeO.bind ?_ (fun _ => ?_))
      | exact ih0 _ _ _ _ _
      | exact LeO.none _
      | refine LeO.ite ?_ ?_
      | refine LeO.bind ?_ (fun _ => ?_)
set_option maxHeartbeats 8000000 in
set_option maxRecDepth 100000 in
theorem camshaftlaw09_ShiftJoins.calls (k : Nat) (a0 : Int) (a1 : Int) (a2 : Int) (a3 : Int) (r : Bool) (w : World) (h : camshaftlaw09_ShiftJoins.f k a0 a1 a2 a3 = some r) :
    Calls Try.prog 6 #[.int .u64 a0, .int .i64 a1, .int .i64 a2, .int .i64 a3] w fun e w' => e = .returned (.bool r) ∧ Below w.heap.size w w' := by
  have HB := Aside0.mk (Below.refl w.heap.size w)
  have H : ((camshaftlaw09_alive.f).bind fun t125 => (if t125 = true then (if a1 < 0 then (camshaftlaw09_ShiftJoins.j0 k a0 a1 a2 a3 true) else (if a2 < 0 then (camshaftlaw09_ShiftJoins.j0 k a0 a1 a2 a3 true) else (if a3 < 0 then (camshaftlaw09_ShiftJoins.j0 k a0 a1 a2 a3 true) else (if a1 > 31 then (camshaftlaw09_ShiftJoins.j0 k a0 a1 a2 a3 true) else (if a2 > 32 then (camshaftlaw09_ShiftJoins.j0 k a0 a1 a2 a3 true) else (if a3 > 32 then (camshaftlaw09_ShiftJoins.j0 k a0 a1 a2 a3 true) else (if (wrap64 (a2 + a3)) > 32 then (camshaftlaw09_ShiftJoins.j0 k a0 a1 a2 a3 true) else (camshaftlaw09_ShiftJoins.j0 k a0 a1 a2 a3 (decide ((wrap64 (a1 + a2)) > 31)))))))))) else (some false))) = some r := h
  clear h
  replace H := Option.bind_eq_some_iff.mp H
  obtain ⟨t125, A50, H⟩ := H
  replace H : (if t125 = true then (if a1 < 0 then (camshaftlaw09_ShiftJoins.j0 k a0 a1 a2 a3 true) else (if a2 < 0 then (camshaftlaw09_ShiftJoins.j0 k a0 a1 a2 a3 true) else (if a3 < 0 then (camshaftlaw09_ShiftJoins.j0 k a0 a1 a2 a3 true) else (if a1 > 31 then (camshaftlaw09_ShiftJoins.j0 k a0 a1 a2 a3 true) else (if a2 > 32 then (camshaftlaw09_ShiftJoins.j0 k a0 a1 a2 a3 true) else (if a3 > 32 then (camshaftlaw09_ShiftJoins.j0 k a0 a1 a2 a3 true) else (if (wrap64 (a2 + a3)) > 32 then (camshaftlaw09_ShiftJoins.j0 k a0 a1 a2 a3 true) else (camshaftlaw09_ShiftJoins.j0 k a0 a1 a2 a3 (decide ((wrap64 (a1 + a2)) > 31)))))))))) else (some false)) = some r := H
  have A5 := Aside0.mk A50
  clear A50
  by_cases c6 : t125 = true
  · subst c6
    have H1 : (if a1 < 0 then (camshaftlaw09_ShiftJoins.j0 k a0 a1 a2 a3 true) else (if a2 < 0 then (camshaftlaw09_ShiftJoins.j0 k a0 a1 a2 a3 true) else (if a3 < 0 then (camshaftlaw09_ShiftJoins.j0 k a0 a1 a2 a3 true) else (if a1 > 31 then (camshaftlaw09_ShiftJoins.j0 k a0 a1 a2 a3 true) else (if a2 > 32 then (camshaftlaw09_ShiftJoins.j0 k a0 a1 a2 a3 true) else (if a3 > 32 then (camshaftlaw09_ShiftJoins.j0 k a0 a1 a2 a3 true) else (if (wrap64 (a2 + a3)) > 32 then (camshaftlaw09_ShiftJoins.j0 k a0 a1 a2 a3 true) else (camshaftlaw09_ShiftJoins.j0 k a0 a1 a2 a3 (decide ((wrap64 (a1 + a2)) > 31)))))))))) = some r := by rw [if_pos rfl] at H; exact H
    clear H
    have H := H1
    clear H1
    have HC7 := Aside0.mk H
    clear H
    go_enter Try.func6, Try.ntmps6
    go_upto_region 3 with (first | ((with_reducible refine gate_callee (f := 9) rfl ?_); refine goesL_ (some 12) rfl rfl Try.func9 (by kernel_rfl) rfl #[] rfl (by (try simp only [List.map_toArray, List.map_cons, List.map_nil]); first | done | rfl | (simp only [List.length_drop, List.length_take]; rfl)) ?_; (with_reducible refine (camshaftlaw09_alive.calls  true _ A5.out).mono ?_); rintro e w8 ⟨rfl, hb⟩; refine ⟨_, rfl, ?_⟩; have n0_ := Aside0.mk (below_step (by repeat (first | (with_reducible first | exact HB.out | apply below_alloc | apply pw_below_drewN | apply below_drew1) | exact HB.out)) hb); clear HB; have HB := n0_; clear n0_; (try clear hb); (try clear hb2); (try clear hk); (try clear hi)))
    (try simp only [Act.put, List.setIfInBounds_toArray, List.set_cons_zero, List.set_cons_succ])
    go_cut [47] (fun v47 wc => ∃ (kq : Nat) (x47_6 : Bool), v47 = .bool x47_6 ∧ Aside0 (camshaftlaw09_ShiftJoins.j0 kq a0 a1 a2 a3 x47_6 = some r) ∧ Aside0 (kq ≤ k) ∧ Aside0 (Below w.heap.size w wc))
    case first =>
      have H := HC7.out
      clear HC7
      by_cases c9 : a1 < 0
      · rw [if_pos c9] at H
        have c9b0 : decide (a1 < 0) = true := decide_eq_true c9
        clear c9
        (first | rw [c9b0] | (simp only [i64_w, i32_w]; rw [c9b0]) | skip)
        have H' := Aside0.mk H
        clear H
        go_wp2
        go_meet
        case rel => exact ⟨_, (true), (by first | rfl | (simp; done) | (simp [*]; done)), H', ⟨by first | omega | exact Nat.le_refl _⟩, ⟨by repeat (first | (with_reducible first | exact HB.out | apply below_alloc | apply pw_below_drewN | apply below_drew1) | exact HB.out)⟩⟩
      · rw [if_neg c9] at H
        have c9b0 : decide (a1 < 0) = false := decide_eq_false c9
        clear c9
        (first | rw [c9b0] | (simp only [i64_w, i32_w]; rw [c9b0]) | skip)
        by_cases c10 : a2 < 0
        · rw [if_pos c10] at H
          have c10b0 : decide (a2 < 0) = true := decide_eq_true c10
          clear c10
          have H' := Aside0.mk H
          clear H
          go_wp2
          go_meet
          case rel => exact ⟨_, (true), (by first | rfl | (simp; done) | (simp [*]; done)), H', ⟨by first | omega | exact Nat.le_refl _⟩, ⟨by repeat (first | (with_reducible first | exact HB.out | apply below_alloc | apply pw_below_drewN | apply below_drew1) | exact HB.out)⟩⟩
        · rw [if_neg c10] at H
          have c10b0 : decide (a2 < 0) = false := decide_eq_false c10
          clear c10
          by_cases c11 : a3 < 0
          · rw [if_pos c11] at H
            have c11b0 : decide (a3 < 0) = true := decide_eq_true c11
            clear c11
            have H' := Aside0.mk H
            clear H
            go_wp2
            go_meet
            case rel => exact ⟨_, (true), (by first | rfl | (simp; done) | (simp [*]; done)), H', ⟨by first | omega | exact Nat.le_refl _⟩, ⟨by repeat (first | (with_reducible first | exact HB.out | apply below_alloc | apply pw_below_drewN | apply below_drew1) | exact HB.out)⟩⟩
          · rw [if_neg c11] at H
            have c11b0 : decide (a3 < 0) = false := decide_eq_false c11
            clear c11
            by_cases c12 : a1 > 31
            · rw [if_pos c12] at H
              have c12b0 : decide (31 < a1) = true := decide_eq_true c12
              clear c12
              have H' := Aside0.mk H
              clear H
              go_wp2
              go_meet
              case rel => exact ⟨_, (true), (by first | rfl | (simp; done) | (simp [*]; done)), H', ⟨by first | omega | exact Nat.le_refl _⟩, ⟨by repeat (first | (with_reducible first | exact HB.out | apply below_alloc | apply pw_below_drewN | apply below_drew1) | exact HB.out)⟩⟩
            · rw [if_neg c12] at H
              have c12b0 : decide (31 < a1) = false := decide_eq_false c12
              clear c12
              by_cases c13 : a2 > 32
              · rw [if_pos c13] at H
                have c13b0 : decide (32 < a2) = true := decide_eq_true c13
                clear c13
                have H' := Aside0.mk H
                clear H
                go_wp2
                go_meet
                case rel => exact ⟨_, (true), (by first | rfl | (simp; done) | (simp [*]; done)), H', ⟨by first | omega | exact Nat.le_refl _⟩, ⟨by repeat (first | (with_reducible first | exact HB.out | apply below_alloc | apply pw_below_drewN | apply below_drew1) | exact HB.out)⟩⟩
              · rw [if_neg c13] at H
                have c13b0 : decide (32 < a2) = false := decide_eq_false c13
                clear c13
                by_cases c14 : a3 > 32
                · rw [if_pos c14] at H
                  have c14b0 : decide (32 < a3) = true := decide_eq_true c14
                  clear c14
                  have H' := Aside0.mk H
                  clear H
                  go_wp2
                  go_meet
                  case rel => exact ⟨_, (true), (by first | rfl | (simp; done) | (simp [*]; done)), H', ⟨by first | omega | exact Nat.le_refl _⟩, ⟨by repeat (first | (with_reducible first | exact HB.out | apply below_alloc | apply pw_below_drewN | apply below_drew1) | exact HB.out)⟩⟩
                · rw [if_neg c14] at H
                  have c14b0 : decide (32 < a3) = false := decide_eq_false c14
                  clear c14
                  by_cases c15 : (wrap64 (a2 + a3)) > 32
                  · rw [if_pos c15] at H
                    have c15b0 : decide (32 < (wrap64 (a2 + a3))) = true := decide_eq_true c15
                    clear c15
                    have H' := Aside0.mk H
                    clear H
                    go_wp2
                    go_meet
                    case rel => exact ⟨_, (true), (by first | rfl | (simp; done) | (simp [*]; done)), H', ⟨by first | omega | exact Nat.le_refl _⟩, ⟨by repeat (first | (with_reducible first | exact HB.out | apply below_alloc | apply pw_below_drewN | apply below_drew1) | exact HB.out)⟩⟩
                  · rw [if_neg c15] at H
                    have c15b0 : decide (32 < (wrap64 (a2 + a3))) = false := decide_eq_false c15
                    clear c15
                    have H' := Aside0.mk H
                    clear H
                    go_wp2
                    go_meet
                    case rel => exact ⟨_, (decide ((wrap64 (a1 + a2)) > 31)), (by first | rfl | (simp; done) | (simp [*]; done)), H', ⟨by first | omega | exact Nat.le_refl _⟩, ⟨by repeat (first | (with_reducible first | exact HB.out | apply below_alloc | apply pw_below_drewN | apply below_drew1) | exact HB.out)⟩⟩
    case rest =>
      clear HC7
      try clear c1
      try clear p2
      try clear c6
      try clear p6
      try clear c9
      try clear c9b0
      try clear c10
      try clear c10b0
      try clear c11
      try clear c11b0
      try clear c12
      try clear c12b0
      try clear c13
      try clear c13b0
      try clear c14
      try clear c14b0
      try clear c15
      try clear c15b0
      obtain ⟨kq, x47_6, rfl, HA, HJ6, HB⟩ := hcut
      cases kq with
      | zero => exact absurd HA.out (by simp [camshaftlaw09_ShiftJoins.j0])
      | succ kj6 =>
        have H := HA.out
        clear HA
        simp only [camshaftlaw09_ShiftJoins.j0] at H
        by_cases c16 : x47_6 = true
        · subst c16
          have H1 : (some true) = some r := by rw [if_pos rfl] at H; exact H
          clear H
          have H := H1
          clear H1
          obtain rfl := Option.some.inj H
          go_wp2
          go_ret
          exact ⟨by first | rfl | (simp [errW_none, errW_some] <;> rfl) | (simp [*, errW_none, errW_some] <;> rfl), by repeat (first | (with_reducible first | exact HB.out | apply below_alloc | apply pw_below_drewN | apply below_drew1) | exact HB.out)⟩
        · replace c16 := Bool.eq_false_iff.mpr c16
          subst c16
          have H1 : ((shift_Extract.f a0 a1 (wrap64 (a2 + a3)) false).bind fun t126 => ((shift_Extract.f a0 a1 a2 false).bind fun t127 => ((shift_Extract.f a0 (wrap64 (a1 + a2)) a3 false).bind fun t128 => (if 0 ≤ (IntKind.u64.wrap (a2)) then ((shift_Span.f a1 (wrap64 (a2 + a3))).bind fun t129 => (if (IntKind.u64.wrap (t126)) = (IntKind.u64.wrap ((IntKind.u64.wrap (t127)) + (shl .u64 (IntKind.u64.wrap (t128)) (IntKind.u64.wrap (a2))))) then (if (wrap64 (a2 + a3)) = 0 then (if t129 = 0 then (some true) else (if (wrap64 (a2 + a3)) > 0 then (if (wrap64 (8 * t129)) ≥ (wrap64 ((wrap64 ((Int.tmod a1 8) + a2)) + a3)) then (some (decide ((wrap64 (8 * (wrap64 (t129 - 1)))) < (wrap64 ((wrap64 ((Int.tmod a1 8) + a2)) + a3))))) else (some false)) else (some false))) else (if (wrap64 (a2 + a3)) > 0 then (if (wrap64 (8 * t129)) ≥ (wrap64 ((wrap64 ((Int.tmod a1 8) + a2)) + a3)) then (some (decide ((wrap64 (8 * (wrap64 (t129 - 1)))) < (wrap64 ((wrap64 ((Int.tmod a1 8) + a2)) + a3))))) else (some false)) else (some false))) else (some false))) else (none))))) = some r := by rw [if_neg (show ¬ (false = true) by decide)] at H; exact H
          clear H
          have H := H1
          clear H1
          replace H := Option.bind_eq_some_iff.mp H
          obtain ⟨t126, A170, H⟩ := H
          replace H : ((shift_Extract.f a0 a1 a2 false).bind fun t127 => ((shift_Extract.f a0 (wrap64 (a1 + a2)) a3 false).bind fun t128 => (if 0 ≤ (IntKind.u64.wrap (a2)) then ((shift_Span.f a1 (wrap64 (a2 + a3))).bind fun t129 => (if (IntKind.u64.wrap (t126)) = (IntKind.u64.wrap ((IntKind.u64.wrap (t127)) + (shl .u64 (IntKind.u64.wrap (t128)) (IntKind.u64.wrap (a2))))) then (if (wrap64 (a2 + a3)) = 0 then (if t129 = 0 then (some true) else (if (wrap64 (a2 + a3)) > 0 then (if (wrap64 (8 * t129)) ≥ (wrap64 ((wrap64 ((Int.tmod a1 8) + a2)) + a3)) then (some (decide ((wrap64 (8 * (wrap64 (t129 - 1)))) < (wrap64 ((wrap64 ((Int.tmod a1 8) + a2)) + a3))))) else (some false)) else (some false))) else (if (wrap64 (a2 + a3)) > 0 then (if (wrap64 (8 * t129)) ≥ (wrap64 ((wrap64 ((Int.tmod a1 8) + a2)) + a3)) then (some (decide ((wrap64 (8 * (wrap64 (t129 - 1)))) < (wrap64 ((wrap64 ((Int.tmod a1 8) + a2)) + a3))))) else (some false)) else (some false))) else (some false))) else (none)))) = some r := H
          have A17 := Aside0.mk A170
          clear A170
          replace H := Option.bind_eq_some_iff.mp H
          obtain ⟨t127, A180, H⟩ := H
          replace H : ((shift_Extract.f a0 (wrap64 (a1 + a2)) a3 false).bind fun t128 => (if 0 ≤ (IntKind.u64.wrap (a2)) then ((shift_Span.f a1 (wrap64 (a2 + a3))).bind fun t129 => (if (IntKind.u64.wrap (t126)) = (IntKind.u64.wrap ((IntKind.u64.wrap (t127)) + (shl .u64 (IntKind.u64.wrap (t128)) (IntKind.u64.wrap (a2))))) then (if (wrap64 (a2 + a3)) = 0 then (if t129 = 0 then (some true) else (if (wrap64 (a2 + a3)) > 0 then (if (wrap64 (8 * t129)) ≥ (wrap64 ((wrap64 ((Int.tmod a1 8) + a2)) + a3)) then (some (decide ((wrap64 (8 * (wrap64 (t129 - 1)))) < (wrap64 ((wrap64 ((Int.tmod a1 8) + a2)) + a3))))) else (some false)) else (some false))) else (if (wrap64 (a2 + a3)) > 0 then (if (wrap64 (8 * t129)) ≥ (wrap64 ((wrap64 ((Int.tmod a1 8) + a2)) + a3)) then (some (decide ((wrap64 (8 * (wrap64 (t129 - 1)))) < (wrap64 ((wrap64 ((Int.tmod a1 8) + a2)) + a3))))) else (some false)) else (some false))) else (some false))) else (none))) = some r := H
          have A18 := Aside0.mk A180
          clear A180
          replace H := Option.bind_eq_some_iff.mp H
          obtain ⟨t128, A190, H⟩ := H
          replace H : (if 0 ≤ (IntKind.u64.wrap (a2)) then ((shift_Span.f a1 (wrap64 (a2 + a3))).bind fun t129 => (if (IntKind.u64.wrap (t126)) = (IntKind.u64.wrap ((IntKind.u64.wrap (t127)) + (shl .u64 (IntKind.u64.wrap (t128)) (IntKind.u64.wrap (a2))))) then (if (wrap64 (a2 + a3)) = 0 then (if t129 = 0 then (some true) else (if (wrap64 (a2 + a3)) > 0 then (if (wrap64 (8 * t129)) ≥ (wrap64 ((wrap64 ((Int.tmod a1 8) + a2)) + a3)) then (some (decide ((wrap64 (8 * (wrap64 (t129 - 1)))) < (wrap64 ((wrap64 ((Int.tmod a1 8) + a2)) + a3))))) else (some false)) else (some false))) else (if (wrap64 (a2 + a3)) > 0 then (if (wrap64 (8 * t129)) ≥ (wrap64 ((wrap64 ((Int.tmod a1 8) + a2)) + a3)) then (some (decide ((wrap64 (8 * (wrap64 (t129 - 1)))) < (wrap64 ((wrap64 ((Int.tmod a1 8) + a2)) + a3))))) else (some false)) else (some false))) else (some false))) else (none)) = some r := H
          have A19 := Aside0.mk A190
          clear A190
          obtain ⟨ji20, hji20⟩ : ∃ j_ : Int, (IntKind.u64.wrap (a2)) = j_ := ⟨_, rfl⟩
          replace H : (if 0 ≤ (ji20) then ((shift_Span.f a1 (wrap64 (a2 + a3))).bind fun t129 => (if (IntKind.u64.wrap (t126)) = (IntKind.u64.wrap ((IntKind.u64.wrap (t127)) + (shl .u64 (IntKind.u64.wrap (t128)) (ji20)))) then (if (wrap64 (a2 + a3)) = 0 then (if t129 = 0 then (some true) else (if (wrap64 (a2 + a3)) > 0 then (if (wrap64 (8 * t129)) ≥ (wrap64 ((wrap64 ((Int.tmod a1 8) + a2)) + a3)) then (some (decide ((wrap64 (8 * (wrap64 (t129 - 1)))) < (wrap64 ((wrap64 ((Int.tmod a1 8) + a2)) + a3))))) else (some false)) else (some false))) else (if (wrap64 (a2 + a3)) > 0 then (if (wrap64 (8 * t129)) ≥ (wrap64 ((wrap64 ((Int.tmod a1 8) + a2)) + a3)) then (some (decide ((wrap64 (8 * (wrap64 (t129 - 1)))) < (wrap64 ((wrap64 ((Int.tmod a1 8) + a2)) + a3))))) else (some false)) else (some false))) else (some false))) else (none)) = some r := by first | (rw [hji20] at H; exact H) | (simp only [hji20] at H ⊢; exact H)
          (try rw [hji20] at A17)
          (try rw [hji20] at A18)
          (try rw [hji20] at A19)
          by_cases c21 : 0 ≤ (ji20)
          · rw [if_pos c21] at H
            have c21b0 := eq_true c21
            have c21b1 : decide (0 ≤ (ji20)) = true := decide_eq_true c21
            clear c21
            obtain ⟨ji22, hji22⟩ : ∃ j_ : Int, (shl .u64 (IntKind.u64.wrap (t128)) (ji20)) = j_ := ⟨_, rfl⟩
            replace H : ((shift_Span.f a1 (wrap64 (a2 + a3))).bind fun t129 => (if (IntKind.u64.wrap (t126)) = (IntKind.u64.wrap ((IntKind.u64.wrap (t127)) + (ji22))) then (if (wrap64 (a2 + a3)) = 0 then (if t129 = 0 then (some true) else (if (wrap64 (a2 + a3)) > 0 then (if (wrap64 (8 * t129)) ≥ (wrap64 ((wrap64 ((Int.tmod a1 8) + a2)) + a3)) then (some (decide ((wrap64 (8 * (wrap64 (t129 - 1)))) < (wrap64 ((wrap64 ((Int.tmod a1 8) + a2)) + a3))))) else (some false)) else (some false))) else (if (wrap64 (a2 + a3)) > 0 then (if (wrap64 (8 * t129)) ≥ (wrap64 ((wrap64 ((Int.tmod a1 8) + a2)) + a3)) then (some (decide ((wrap64 (8 * (wrap64 (t129 - 1)))) < (wrap64 ((wrap64 ((Int.tmod a1 8) + a2)) + a3))))) else (some false)) else (some false))) else (some false))) = some r := by first | (rw [hji22] at H; exact H) | (simp only [hji22] at H ⊢; exact H)
            (try rw [hji22] at A17)
            (try rw [hji22] at A18)
            (try rw [hji22] at A19)
            have hji22_ : (IntKind.u64.wrap ((IntKind.u64.wrap (t128)) * 2 ^ min (ji20).toNat 64)) = ji22 := hji22
            have hji22z : (ji20) ≤ 64 → (IntKind.u64.wrap ((IntKind.u64.wrap (t128)) * 2 ^ (ji20).toNat)) = ji22 := shl_small hji22
            replace H := Option.bind_eq_some_iff.mp H
            obtain ⟨t129, A230, H⟩ := H
            replace H : (if (IntKind.u64.wrap (t126)) = (IntKind.u64.wrap ((IntKind.u64.wrap (t127)) + (ji22))) then (if (wrap64 (a2 + a3)) = 0 then (if t129 = 0 then (some true) else (if (wrap64 (a2 + a3)) > 0 then (if (wrap64 (8 * t129)) ≥ (wrap64 ((wrap64 ((Int.tmod a1 8) + a2)) + a3)) then (some (decide ((wrap64 (8 * (wrap64 (t129 - 1)))) < (wrap64 ((wrap64 ((Int.tmod a1 8) + a2)) + a3))))) else (some false)) else (some false))) else (if (wrap64 (a2 + a3)) > 0 then (if (wrap64 (8 * t129)) ≥ (wrap64 ((wrap64 ((Int.tmod a1 8) + a2)) + a3)) then (some (decide ((wrap64 (8 * (wrap64 (t129 - 1)))) < (wrap64 ((wrap64 ((Int.tmod a1 8) + a2)) + a3))))) else (some false)) else (some false))) else (some false)) = some r := H
            have A23 := Aside0.mk A230
            clear A230
            by_cases c24 : (IntKind.u64.wrap (t126)) = (IntKind.u64.wrap ((IntKind.u64.wrap (t127)) + (ji22)))
            · rw [if_pos c24] at H
              have c24b0 : ((IntKind.u64.wrap (t126)) == (IntKind.u64.wrap ((IntKind.u64.wrap (t127)) + (ji22)))) = true := beq_iff_eq.mpr c24
              have c24b1 : ((IntKind.u64.wrap (t126)) != (IntKind.u64.wrap ((IntKind.u64.wrap (t127)) + (ji22)))) = false := bne_eq_false_iff_eq.mpr c24
              clear c24
              by_cases c25 : (wrap64 (a2 + a3)) = 0
              · rw [if_pos c25] at H
                have c25b0 : ((wrap64 (a2 + a3)) == 0) = true := beq_iff_eq.mpr c25
                have c25b1 : ((wrap64 (a2 + a3)) != 0) = false := bne_eq_false_iff_eq.mpr c25
                clear c25
                by_cases c26 : t129 = 0
                · rw [if_pos c26] at H
                  have c26b0 : (t129 == 0) = true := beq_iff_eq.mpr c26
                  have c26b1 : (t129 != 0) = false := bne_eq_false_iff_eq.mpr c26
                  clear c26
                  obtain rfl := Option.some.inj H
                  go_wp2_with (first | ((with_reducible refine gate_callee (f := 14) rfl ?_); refine goesL_ (some 53) rfl rfl Try.func14 (by kernel_rfl) rfl #[.int .u64 a0, .int .i64 a1, .int .i64 (wrap64 (a2 + a3)), .bool false] rfl (by (try simp only [List.map_toArray, List.map_cons, List.map_nil]); first | done | rfl | (simp only [List.length_drop, List.length_take]; rfl)) ?_; (with_reducible refine (shift_Extract.calls a0 a1 (wrap64 (a2 + a3)) false t126 _ A17.out).mono ?_); rintro e w27 ⟨rfl, hb⟩; refine ⟨_, rfl, ?_⟩; have n0_ := Aside0.mk (below_step (by repeat (first | (with_reducible first | exact HB.out | apply below_alloc | apply pw_below_drewN | apply below_drew1) | exact HB.out)) hb); clear HB; have HB := n0_; clear n0_; (try clear hb); (try clear hb2); (try clear hk); (try clear hi)) | ((with_reducible refine gate_callee (f := 14) rfl ?_); refine goesL_ (some 57) rfl rfl Try.func14 (by kernel_rfl) rfl #[.int .u64 a0, .int .i64 a1, .int .i64 a2, .bool false] rfl (by (try simp only [List.map_toArray, List.map_cons, List.map_nil]); first | done | rfl | (simp only [List.length_drop, List.length_take]; rfl)) ?_; (with_reducible refine (shift_Extract.calls a0 a1 a2 false t127 _ A18.out).mono ?_); rintro e w28 ⟨rfl, hb⟩; refine ⟨_, rfl, ?_⟩; have n0_ := Aside0.mk (below_step (by repeat (first | (with_reducible first | exact HB.out | apply below_alloc | apply pw_below_drewN | apply below_drew1) | exact HB.out)) hb); clear HB; have HB := n0_; clear n0_; (try clear hb); (try clear hb2); (try clear hk); (try clear hi)) | ((with_reducible refine gate_callee (f := 14) rfl ?_); refine goesL_ (some 64) rfl rfl Try.func14 (by kernel_rfl) rfl #[.int .u64 a0, .int .i64 (wrap64 (a1 + a2)), .int .i64 a3, .bool false] rfl (by (try simp only [List.map_toArray, List.map_cons, List.map_nil]); first | done | rfl | (simp only [List.length_drop, List.length_take]; rfl)) ?_; (with_reducible refine (shift_Extract.calls a0 (wrap64 (a1 + a2)) a3 false t128 _ A19.out).mono ?_); rintro e w29 ⟨rfl, hb⟩; refine ⟨_, rfl, ?_⟩; have n0_ := Aside0.mk (below_step (by repeat (first | (with_reducible first | exact HB.out | apply below_alloc | apply pw_below_drewN | apply below_drew1) | exact HB.out)) hb); clear HB; have HB := n0_; clear n0_; (try clear hb); (try clear hb2); (try clear hk); (try clear hi)) | ((with_reducible refine gate_callee (f := 15) rfl ?_); refine goesL_ (some 74) rfl rfl Try.func15 (by kernel_rfl) rfl #[.int .i64 a1, .int .i64 (wrap64 (a2 + a3))] rfl (by (try simp only [List.map_toArray, List.map_cons, List.map_nil]); first | done | rfl | (simp only [List.length_drop, List.length_take]; rfl)) ?_; (with_reducible refine (shift_Span.calls a1 (wrap64 (a2 + a3)) t129 _ A23.out).mono ?_); rintro e w' ⟨rfl, ⟨nd, rfl⟩⟩; refine ⟨_, rfl, ?_⟩))
                  go_ret
                  exact ⟨by first | rfl | (simp [errW_none, errW_some] <;> rfl) | (simp only [← hji20, ← hji22]; first | rfl | (simp [errW_none, errW_some] <;> rfl)) | (simp [*, errW_none, errW_some] <;> rfl), by repeat (first | (with_reducible first | exact HB.out | apply below_alloc | apply pw_below_drewN | apply below_drew1) | exact HB.out)⟩
                · rw [if_neg c26] at H
                  have c26b0 : (t129 == 0) = false := beq_eq_false_iff_ne.mpr c26
                  have c26b1 : (t129 != 0) = true := bne_iff_ne.mpr c26
                  by_cases c30 : (wrap64 (a2 + a3)) > 0
                  · rw [if_pos c30] at H
                    have c30b0 : decide (0 < (wrap64 (a2 + a3))) = true := decide_eq_true c30
                    clear c30
                    by_cases c31 : (wrap64 (8 * t129)) ≥ (wrap64 ((wrap64 ((Int.tmod a1 8) + a2)) + a3))
                    · rw [if_pos c31] at H
                      have c31b0 : decide ((wrap64 ((wrap64 ((Int.tmod a1 8) + a2)) + a3)) ≤ (wrap64 (8 * t129))) = true := decide_eq_true c31
                      clear c31
                      obtain rfl := Option.some.inj H
                      go_wp2_with (first | ((with_reducible refine gate_callee (f := 14) rfl ?_); refine goesL_ (some 53) rfl rfl Try.func14 (by kernel_rfl) rfl #[.int .u64 a0, .int .i64 a1, .int .i64 (wrap64 (a2 + a3)), .bool false] rfl (by (try simp only [List.map_toArray, List.map_cons, List.map_nil]); first | done | rfl | (simp only [List.length_drop, List.length_take]; rfl)) ?_; (with_reducible refine (shift_Extract.calls a0 a1 (wrap64 (a2 + a3)) false t126 _ A17.out).mono ?_); rintro e w32 ⟨rfl, hb⟩; refine ⟨_, rfl, ?_⟩; have n0_ := Aside0.mk (below_step (by repeat (first | (with_reducible first | exact HB.out | apply below_alloc | apply pw_below_drewN | apply below_drew1) | exact HB.out)) hb); clear HB; have HB := n0_; clear n0_; (try clear hb); (try clear hb2); (try clear hk); (try clear hi)) | ((with_reducible refine gate_callee (f := 14) rfl ?_); refine goesL_ (some 57) rfl rfl Try.func14 (by kernel_rfl) rfl #[.int .u64 a0, .int .i64 a1, .int .i64 a2, .bool false] rfl (by (try simp only [List.map_toArray, List.map_cons, List.map_nil]); first | done | rfl | (simp only [List.length_drop, List.length_take]; rfl)) ?_; (with_reducible refine (shift_Extract.calls a0 a1 a2 false t127 _ A18.out).mono ?_); rintro e w33 ⟨rfl, hb⟩; refine ⟨_, rfl, ?_⟩; have n0_ := Aside0.mk (below_step (by repeat (first | (with_reducible first | exact HB.out | apply below_alloc | apply pw_below_drewN | apply below_drew1) | exact HB.out)) hb); clear HB; have HB := n0_; clear n0_; (try clear hb); (try clear hb2); (try clear hk); (try clear hi)) | ((with_reducible refine gate_callee (f := 14) rfl ?_); refine goesL_ (some 64) rfl rfl Try.func14 (by kernel_rfl) rfl #[.int .u64 a0, .int .i64 (wrap64 (a1 + a2)), .int .i64 a3, .bool false] rfl (by (try simp only [List.map_toArray, List.map_cons, List.map_nil]); first | done | rfl | (simp only [List.length_drop, List.length_take]; rfl)) ?_; (with_reducible refine (shift_Extract.calls a0 (wrap64 (a1 + a2)) a3 false t128 _ A19.out).mono ?_); rintro e w34 ⟨rfl, hb⟩; refine ⟨_, rfl, ?_⟩; have n0_ := Aside0.mk (below_step (by repeat (first | (with_reducible first | exact HB.out | apply below_alloc | apply pw_below_drewN | apply below_drew1) | exact HB.out)) hb); clear HB; have HB := n0_; clear n0_; (try clear hb); (try clear hb2); (try clear hk); (try clear hi)) | ((with_reducible refine gate_callee (f := 15) rfl ?_); refine goesL_ (some 74) rfl rfl Try.func15 (by kernel_rfl) rfl #[.int .i64 a1, .int .i64 (wrap64 (a2 + a3))] rfl (by (try simp only [List.map_toArray, List.map_cons, List.map_nil]); first | done | rfl | (simp only [List.length_drop, List.length_take]; rfl)) ?_; (with_reducible refine (shift_Span.calls a1 (wrap64 (a2 + a3)) t129 _ A23.out).mono ?_); rintro e w' ⟨rfl, ⟨nd, rfl⟩⟩; refine ⟨_, rfl, ?_⟩))
                      go_ret
                      exact ⟨by first | rfl | (simp [errW_none, errW_some] <;> rfl) | (simp only [← hji20, ← hji22]; first | rfl | (simp [errW_none, errW_some] <;> rfl)) | (simp [*, errW_none, errW_some] <;> rfl), by repeat (first | (with_reducible first | exact HB.out | apply below_alloc | apply pw_below_drewN | apply below_drew1) | exact HB.out)⟩
                    · rw [if_neg c31] at H
                      have c31b0 : decide ((wrap64 ((wrap64 ((Int.tmod a1 8) + a2)) + a3)) ≤ (wrap64 (8 * t129))) = false := decide_eq_false c31
                      clear c31
                      obtain rfl := Option.some.inj H
                      go_wp2_with (first | ((with_reducible refine gate_callee (f := 14) rfl ?_); refine goesL_ (some 53) rfl rfl Try.func14 (by kernel_rfl) rfl #[.int .u64 a0, .int .i64 a1, .int .i64 (wrap64 (a2 + a3)), .bool false] rfl (by (try simp only [List.map_toArray, List.map_cons, List.map_nil]); first | done | rfl | (simp only [List.length_drop, List.length_take]; rfl)) ?_; (with_reducible refine (shift_Extract.calls a0 a1 (wrap64 (a2 + a3)) false t126 _ A17.out).mono ?_); rintro e w35 ⟨rfl, hb⟩; refine ⟨_, rfl, ?_⟩; have n0_ := Aside0.mk (below_step (by repeat (first | (with_reducible first | exact HB.out | apply below_alloc | apply pw_below_drewN | apply below_drew1) | exact HB.out)) hb); clear HB; have HB := n0_; clear n0_; (try clear hb); (try clear hb2); (try clear hk); (try clear hi)) | ((with_reducible refine gate_callee (f := 14) rfl ?_); refine goesL_ (some 57) rfl rfl Try.func14 (by kernel_rfl) rfl #[.int .u64 a0, .int .i64 a1, .int .i64 a2, .bool false] rfl (by (try simp only [List.map_toArray, List.map_cons, List.map_nil]); first | done | rfl | (simp only [List.length_drop, List.length_take]; rfl)) ?_; (with_reducible refine (shift_Extract.calls a0 a1 a2 false t127 _ A18.out).mono ?_); rintro e w36 ⟨rfl, hb⟩; refine ⟨_, rfl, ?_⟩; have n0_ := Aside0.mk (below_step (by repeat (first | (with_reducible first | exact HB.out | apply below_alloc | apply pw_below_drewN | apply below_drew1) | exact HB.out)) hb); clear HB; have HB := n0_; clear n0_; (try clear hb); (try clear hb2); (try clear hk); (try clear hi)) | ((with_reducible refine gate_callee (f := 14) rfl ?_); refine goesL_ (some 64) rfl rfl Try.func14 (by kernel_rfl) rfl #[.int .u64 a0, .int .i64 (wrap64 (a1 + a2)), .int .i64 a3, .bool false] rfl (by (try simp only [List.map_toArray, List.map_cons, List.map_nil]); first | done | rfl | (simp only [List.length_drop, List.length_take]; rfl)) ?_; (with_reducible refine (shift_Extract.calls a0 (wrap64 (a1 + a2)) a3 false t128 _ A19.out).mono ?_); rintro e w37 ⟨rfl, hb⟩; refine ⟨_, rfl, ?_⟩; have n0_ := Aside0.mk (below_step (by repeat (first | (with_reducible first | exact HB.out | apply below_alloc | apply pw_below_drewN | apply below_drew1) | exact HB.out)) hb); clear HB; have HB := n0_; clear n0_; (try clear hb); (try clear hb2); (try clear hk); (try clear hi)) | ((with_reducible refine gate_callee (f := 15) rfl ?_); refine goesL_ (some 74) rfl rfl Try.func15 (by kernel_rfl) rfl #[.int .i64 a1, .int .i64 (wrap64 (a2 + a3))] rfl (by (try simp only [List.map_toArray, List.map_cons, List.map_nil]); first | done | rfl | (simp only [List.length_drop, List.length_take]; rfl)) ?_; (with_reducible refine (shift_Span.calls a1 (wrap64 (a2 + a3)) t129 _ A23.out).mono ?_); rintro e w' ⟨rfl, ⟨nd, rfl⟩⟩; refine ⟨_, rfl, ?_⟩))
                      go_ret
                      exact ⟨by first | rfl | (simp [errW_none, errW_some] <;> rfl) | (simp only [← hji20, ← hji22]; first | rfl | (simp [errW_none, errW_some] <;> rfl)) | (simp [*, errW_none, errW_some] <;> rfl), by repeat (first | (with_reducible first | exact HB.out | apply below_alloc | apply pw_below_drewN | apply below_drew1) | exact HB.out)⟩
                  · rw [if_neg c30] at H
                    have c30b0 : decide (0 < (wrap64 (a2 + a3))) = false := decide_eq_false c30
                    clear c30
                    obtain rfl := Option.some.inj H
                    go_wp2_with (first | ((with_reducible refine gate_callee (f := 14) rfl ?_); refine goesL_ (some 53) rfl rfl Try.func14 (by kernel_rfl) rfl #[.int .u64 a0, .int .i64 a1, .int .i64 (wrap64 (a2 + a3)), .bool false] rfl (by (try simp only [List.map_toArray, List.map_cons, List.map_nil]); first | done | rfl | (simp only [List.length_drop, List.length_take]; rfl)) ?_; (with_reducible refine (shift_Extract.calls a0 a1 (wrap64 (a2 + a3)) false t126 _ A17.out).mono ?_); rintro e w38 ⟨rfl, hb⟩; refine ⟨_, rfl, ?_⟩; have n0_ := Aside0.mk (below_step (by repeat (first | (with_reducible first | exact HB.out | apply below_alloc | apply pw_below_drewN | apply below_drew1) | exact HB.out)) hb); clear HB; have HB := n0_; clear n0_; (try clear hb); (try clear hb2); (try clear hk); (try clear hi)) | ((with_reducible refine gate_callee (f := 14) rfl ?_); refine goesL_ (some 57) rfl rfl Try.func14 (by kernel_rfl) rfl #[.int .u64 a0, .int .i64 a1, .int .i64 a2, .bool false] rfl (by (try simp only [List.map_toArray, List.map_cons, List.map_nil]); first | done | rfl | (simp only [List.length_drop, List.length_take]; rfl)) ?_; (with_reducible refine (shift_Extract.calls a0 a1 a2 false t127 _ A18.out).mono ?_); rintro e w39 ⟨rfl, hb⟩; refine ⟨_, rfl, ?_⟩; have n0_ := Aside0.mk (below_step (by repeat (first | (with_reducible first | exact HB.out | apply below_alloc | apply pw_below_drewN | apply below_drew1) | exact HB.out)) hb); clear HB; have HB := n0_; clear n0_; (try clear hb); (try clear hb2); (try clear hk); (try clear hi)) | ((with_reducible refine gate_callee (f := 14) rfl ?_); refine goesL_ (some 64) rfl rfl Try.func14 (by kernel_rfl) rfl #[.int .u64 a0, .int .i64 (wrap64 (a1 + a2)), .int .i64 a3, .bool false] rfl (by (try simp only [List.map_toArray, List.map_cons, List.map_nil]); first | done | rfl | (simp only [List.length_drop, List.length_take]; rfl)) ?_; (with_reducible refine (shift_Extract.calls a0 (wrap64 (a1 + a2)) a3 false t128 _ A19.out).mono ?_); rintro e w40 ⟨rfl, hb⟩; refine ⟨_, rfl, ?_⟩; have n0_ := Aside0.mk (below_step (by repeat (first | (with_reducible first | exact HB.out | apply below_alloc | apply pw_below_drewN | apply below_drew1) | exact HB.out)) hb); clear HB; have HB := n0_; clear n0_; (try clear hb); (try clear hb2); (try clear hk); (try clear hi)) | ((with_reducible refine gate_callee (f := 15) rfl ?_); refine goesL_ (some 74) rfl rfl Try.func15 (by kernel_rfl) rfl #[.int .i64 a1, .int .i64 (wrap64 (a2 + a3))] rfl (by (try simp only [List.map_toArray, List.map_cons, List.map_nil]); first | done | rfl | (simp only [List.length_drop, List.length_take]; rfl)) ?_; (with_reducible refine (shift_Span.calls a1 (wrap64 (a2 + a3)) t129 _ A23.out).mono ?_); rintro e w' ⟨rfl, ⟨nd, rfl⟩⟩; refine ⟨_, rfl, ?_⟩))
                    go_ret
                    exact ⟨by first | rfl | (simp [errW_none, errW_some] <;> rfl) | (simp only [← hji20, ← hji22]; first | rfl | (simp [errW_none, errW_some] <;> rfl)) | (simp [*, errW_none, errW_some] <;> rfl), by repeat (first | (with_reducible first | exact HB.out | apply below_alloc | apply pw_below_drewN | apply below_drew1) | exact HB.out)⟩
              · rw [if_neg c25] at H
                have c25b0 : ((wrap64 (a2 + a3)) == 0) = false := beq_eq_false_iff_ne.mpr c25
                have c25b1 : ((wrap64 (a2 + a3)) != 0) = true := bne_iff_ne.mpr c25
                by_cases c41 : (wrap64 (a2 + a3)) > 0
                · rw [if_pos c41] at H
                  have c41b0 : decide (0 < (wrap64 (a2 + a3))) = true := decide_eq_true c41
                  clear c41
                  by_cases c42 : (wrap64 (8 * t129)) ≥ (wrap64 ((wrap64 ((Int.tmod a1 8) + a2)) + a3))
                  · rw [if_pos c42] at H
                    have c42b0 : decide ((wrap64 ((wrap64 ((Int.tmod a1 8) + a2)) + a3)) ≤ (wrap64 (8 * t129))) = true := decide_eq_true c42
                    clear c42
                    obtain rfl := Option.some.inj H
                    go_wp2_with (first | ((with_reducible refine gate_callee (f := 14) rfl ?_); refine goesL_ (some 53) rfl rfl Try.func14 (by kernel_rfl) rfl #[.int .u64 a0, .int .i64 a1, .int .i64 (wrap64 (a2 + a3)), .bool false] rfl (by (try simp only [List.map_toArray, List.map_cons, List.map_nil]); first | done | rfl | (simp only [List.length_drop, List.length_take]; rfl)) ?_; (with_reducible refine (shift_Extract.calls a0 a1 (wrap64 (a2 + a3)) false t126 _ A17.out).mono ?_); rintro e w43 ⟨rfl, hb⟩; refine ⟨_, rfl, ?_⟩; have n0_ := Aside0.mk (below_step (by repeat (first | (with_reducible first | exact HB.out | apply below_alloc | apply pw_below_drewN | apply below_drew1) | exact HB.out)) hb); clear HB; have HB := n0_; clear n0_; (try clear hb); (try clear hb2); (try clear hk); (try clear hi)) | ((with_reducible refine gate_callee (f := 14) rfl ?_); refine goesL_ (some 57) rfl rfl Try.func14 (by kernel_rfl) rfl #[.int .u64 a0, .int .i64 a1, .int .i64 a2, .bool false] rfl (by (try simp only [List.map_toArray, List.map_cons, List.map_nil]); first | done | rfl | (simp only [List.length_drop, List.length_take]; rfl)) ?_; (with_reducible refine (shift_Extract.calls a0 a1 a2 false t127 _ A18.out).mono ?_); rintro e w44 ⟨rfl, hb⟩; refine ⟨_, rfl, ?_⟩; have n0_ := Aside0.mk (below_step (by repeat (first | (with_reducible first | exact HB.out | apply below_alloc | apply pw_below_drewN | apply below_drew1) | exact HB.out)) hb); clear HB; have HB := n0_; clear n0_; (try clear hb); (try clear hb2); (try clear hk); (try clear hi)) | ((with_reducible refine gate_callee (f := 14) rfl ?_); refine goesL_ (some 64) rfl rfl Try.func14 (by kernel_rfl) rfl #[.int .u64 a0, .int .i64 (wrap64 (a1 + a2)), .int .i64 a3, .bool false] rfl (by (try simp only [List.map_toArray, List.map_cons, List.map_nil]); first | done | rfl | (simp only [List.length_drop, List.length_take]; rfl)) ?_; (with_reducible refine (shift_Extract.calls a0 (wrap64 (a1 + a2)) a3 false t128 _ A19.out).mono ?_); rintro e w45 ⟨rfl, hb⟩; refine ⟨_, rfl, ?_⟩; have n0_ := Aside0.mk (below_step (by repeat (first | (with_reducible first | exact HB.out | apply below_alloc | apply pw_below_drewN | apply below_drew1) | exact HB.out)) hb); clear HB; have HB := n0_; clear n0_; (try clear hb); (try clear hb2); (try clear hk); (try clear hi)) | ((with_reducible refine gate_callee (f := 15) rfl ?_); refine goesL_ (some 74) rfl rfl Try.func15 (by kernel_rfl) rfl #[.int .i64 a1, .int .i64 (wrap64 (a2 + a3))] rfl (by (try simp only [List.map_toArray, List.map_cons, List.map_nil]); first | done | rfl | (simp only [List.length_drop, List.length_take]; rfl)) ?_; (with_reducible refine (shift_Span.calls a1 (wrap64 (a2 + a3)) t129 _ A23.out).mono ?_); rintro e w' ⟨rfl, ⟨nd, rfl⟩⟩; refine ⟨_, rfl, ?_⟩))
                    go_ret
                    exact ⟨by first | rfl | (simp [errW_none, errW_some] <;> rfl) | (simp only [← hji20, ← hji22]; first | rfl | (simp [errW_none, errW_some] <;> rfl)) | (simp [*, errW_none, errW_some] <;> rfl), by repeat (first | (with_reducible first | exact HB.out | apply below_alloc | apply pw_below_drewN | apply below_drew1) | exact HB.out)⟩
                  · rw [if_neg c42] at H
                    have c42b0 : decide ((wrap64 ((wrap64 ((Int.tmod a1 8) + a2)) + a3)) ≤ (wrap64 (8 * t129))) = false := decide_eq_false c42
                    clear c42
                    obtain rfl := Option.some.inj H
                    go_wp2_with (first | ((with_reducible refine gate_callee (f := 14) rfl ?_); refine goesL_ (some 53) rfl rfl Try.func14 (by kernel_rfl) rfl #[.int .u64 a0, .int .i64 a1, .int .i64 (wrap64 (a2 + a3)), .bool false] rfl (by (try simp only [List.map_toArray, List.map_cons, List.map_nil]); first | done | rfl | (simp only [List.length_drop, List.length_take]; rfl)) ?_; (with_reducible refine (shift_Extract.calls a0 a1 (wrap64 (a2 + a3)) false t126 _ A17.out).mono ?_); rintro e w46 ⟨rfl, hb⟩; refine ⟨_, rfl, ?_⟩; have n0_ := Aside0.mk (below_step (by repeat (first | (with_reducible first | exact HB.out | apply below_alloc | apply pw_below_drewN | apply below_drew1) | exact HB.out)) hb); clear HB; have HB := n0_; clear n0_; (try clear hb); (try clear hb2); (try clear hk); (try clear hi)) | ((with_reducible refine gate_callee (f := 14) rfl ?_); refine goesL_ (some 57) rfl rfl Try.func14 (by kernel_rfl) rfl #[.int .u64 a0, .int .i64 a1, .int .i64 a2, .bool false] rfl (by (try simp only [List.map_toArray, List.map_cons, List.map_nil]); first | done | rfl | (simp only [List.length_drop, List.length_take]; rfl)) ?_; (with_reducible refine (shift_Extract.calls a0 a1 a2 false t127 _ A18.out).mono ?_); rintro e w47 ⟨rfl, hb⟩; refine ⟨_, rfl, ?_⟩; have n0_ := Aside0.mk (below_step (by repeat (first | (with_reducible first | exact HB.out | apply below_alloc | apply pw_below_drewN | apply below_drew1) | exact HB.out)) hb); clear HB; have HB := n0_; clear n0_; (try clear hb); (try clear hb2); (try clear hk); (try clear hi)) | ((with_reducible refine gate_callee (f := 14) rfl ?_); refine goesL_ (some 64) rfl rfl Try.func14 (by kernel_rfl) rfl #[.int .u64 a0, .int .i64 (wrap64 (a1 + a2)), .int .i64 a3, .bool false] rfl (by (try simp only [List.map_toArray, List.map_cons, List.map_nil]); first | done | rfl | (simp only [List.length_drop, List.length_take]; rfl)) ?_; (with_reducible refine (shift_Extract.calls a0 (wrap64 (a1 + a2)) a3 false t128 _ A19.out).mono ?_); rintro e w48 ⟨rfl, hb⟩; refine ⟨_, rfl, ?_⟩; have n0_ := Aside0.mk (below_step (by repeat (first | (with_reducible first | exact HB.out | apply below_alloc | apply pw_below_drewN | apply below_drew1) | exact HB.out)) hb); clear HB; have HB := n0_; clear n0_; (try clear hb); (try clear hb2); (try clear hk); (try clear hi)) | ((with_reducible refine gate_callee (f := 15) rfl ?_); refine goesL_ (some 74) rfl rfl Try.func15 (by kernel_rfl) rfl #[.int .i64 a1, .int .i64 (wrap64 (a2 + a3))] rfl (by (try simp only [List.map_toArray, List.map_cons, List.map_nil]); first | done | rfl | (simp only [List.length_drop, List.length_take]; rfl)) ?_; (with_reducible refine (shift_Span.calls a1 (wrap64 (a2 + a3)) t129 _ A23.out).mono ?_); rintro e w' ⟨rfl, ⟨nd, rfl⟩⟩; refine ⟨_, rfl, ?_⟩))
                    go_ret
                    exact ⟨by first | rfl | (simp [errW_none, errW_some] <;> rfl) | (simp only [← hji20, ← hji22]; first | rfl | (simp [errW_none, errW_some] <;> rfl)) | (simp [*, errW_none, errW_some] <;> rfl), by repeat (first | (with_reducible first | exact HB.out | apply below_alloc | apply pw_below_drewN | apply below_drew1) | exact HB.out)⟩
                · rw [if_neg c41] at H
                  have c41b0 : decide (0 < (wrap64 (a2 + a3))) = false := decide_eq_false c41
                  clear c41
                  obtain rfl := Option.some.inj H
                  go_wp2_with (first | ((with_reducible refine gate_callee (f := 14) rfl ?_); refine goesL_ (some 53) rfl rfl Try.func14 (by kernel_rfl) rfl #[.int .u64 a0, .int .i64 a1, .int .i64 (wrap64 (a2 + a3)), .bool false] rfl (by (try simp only [List.map_toArray, List.map_cons, List.map_nil]); first | done | rfl | (simp only [List.length_drop, List.length_take]; rfl)) ?_; (with_reducible refine (shift_Extract.calls a0 a1 (wrap64 (a2 + a3)) false t126 _ A17.out).mono ?_); rintro e w49 ⟨rfl, hb⟩; refine ⟨_, rfl, ?_⟩; have n0_ := Aside0.mk (below_step (by repeat (first | (with_reducible first | exact HB.out | apply below_alloc | apply pw_below_drewN | apply below_drew1) | exact HB.out)) hb); clear HB; have HB := n0_; clear n0_; (try clear hb); (try clear hb2); (try clear hk); (try clear hi)) | ((with_reducible refine gate_callee (f := 14) rfl ?_); refine goesL_ (some 57) rfl rfl Try.func14 (by kernel_rfl) rfl #[.int .u64 a0, .int .i64 a1, .int .i64 a2, .bool false] rfl (by (try simp only [List.map_toArray, List.map_cons, List.map_nil]); first | done | rfl | (simp only [List.length_drop, List.length_take]; rfl)) ?_; (with_reducible refine (shift_Extract.calls a0 a1 a2 false t127 _ A18.out).mono ?_); rintro e w50 ⟨rfl, hb⟩; refine ⟨_, rfl, ?_⟩; have n0_ := Aside0.mk (below_step (by repeat (first | (with_reducible first | exact HB.out | apply below_alloc | apply pw_below_drewN | apply below_drew1) | exact HB.out)) hb); clear HB; have HB := n0_; clear n0_; (try clear hb); (try clear hb2); (try clear hk); (try clear hi)) | ((with_reducible refine gate_callee (f := 14) rfl ?_); refine goesL_ (some 64) rfl rfl Try.func14 (by kernel_rfl) rfl #[.int .u64 a0, .int .i64 (wrap64 (a1 + a2)), .int .i64 a3, .bool false] rfl (by (try simp only [List.map_toArray, List.map_cons, List.map_nil]); first | done | rfl | (simp only [List.length_drop, List.length_take]; rfl)) ?_; (with_reducible refine (shift_Extract.calls a0 (wrap64 (a1 + a2)) a3 false t128 _ A19.out).mono ?_); rintro e w51 ⟨rfl, hb⟩; refine ⟨_, rfl, ?_⟩; have n0_ := Aside0.mk (below_step (by repeat (first | (with_reducible first | exact HB.out | apply below_alloc | apply pw_below_drewN | apply below_drew1) | exact HB.out)) hb); clear HB; have HB := n0_; clear n0_; (try clear hb); (try clear hb2); (try clear hk); (try clear hi)) | ((with_reducible refine gate_callee (f := 15) rfl ?_); refine goesL_ (some 74) rfl rfl Try.func15 (by kernel_rfl) rfl #[.int .i64 a1, .int .i64 (wrap64 (a2 + a3))] rfl (by (try simp only [List.map_toArray, List.map_cons, List.map_nil]); first | done | rfl | (simp only [List.length_drop, List.length_take]; rfl)) ?_; (with_reducible refine (shift_Span.calls a1 (wrap64 (a2 + a3)) t129 _ A23.out).mono ?_); rintro e w' ⟨rfl, ⟨nd, rfl⟩⟩; refine ⟨_, rfl, ?_⟩))
                  go_ret
                  exact ⟨by first | rfl | (simp [errW_none, errW_some] <;> rfl) | (simp only [← hji20, ← hji22]; first | rfl | (simp [errW_none, errW_some] <;> rfl)) | (simp [*, errW_none, errW_some] <;> rfl), by repeat (first | (with_reducible first | exact HB.out | apply below_alloc | apply pw_below_drewN | apply below_drew1) | exact HB.out)⟩
            · rw [if_neg c24] at H
              have c24b0 : ((IntKind.u64.wrap (t126)) == (IntKind.u64.wrap ((IntKind.u64.wrap (t127)) + (ji22)))) = false := beq_eq_false_iff_ne.mpr c24
              have c24b1 : ((IntKind.u64.wrap (t126)) != (IntKind.u64.wrap ((IntKind.u64.wrap (t127)) + (ji22)))) = true := bne_iff_ne.mpr c24
              obtain rfl := Option.some.inj H
              go_wp2_with (first | ((with_reducible refine gate_callee (f := 14) rfl ?_); refine goesL_ (some 53) rfl rfl Try.func14 (by kernel_rfl) rfl #[.int .u64 a0, .int .i64 a1, .int .i64 (wrap64 (a2 + a3)), .bool false] rfl (by (try simp only [List.map_toArray, List.map_cons, List.map_nil]); first | done | rfl | (simp only [List.length_drop, List.length_take]; rfl)) ?_; (with_reducible refine (shift_Extract.calls a0 a1 (wrap64 (a2 + a3)) false t126 _ A17.out).mono ?_); rintro e w52 ⟨rfl, hb⟩; refine ⟨_, rfl, ?_⟩; have n0_ := Aside0.mk (below_step (by repeat (first | (with_reducible first | exact HB.out | apply below_alloc | apply pw_below_drewN | apply below_drew1) | exact HB.out)) hb); clear HB; have HB := n0_; clear n0_; (try clear hb); (try clear hb2); (try clear hk); (try clear hi)) | ((with_reducible refine gate_callee (f := 14) rfl ?_); refine goesL_ (some 57) rfl rfl Try.func14 (by kernel_rfl) rfl #[.int .u64 a0, .int .i64 a1, .int .i64 a2, .bool false] rfl (by (try simp only [List.map_toArray, List.map_cons, List.map_nil]); first | done | rfl | (simp only [List.length_drop, List.length_take]; rfl)) ?_; (with_reducible refine (shift_Extract.calls a0 a1 a2 false t127 _ A18.out).mono ?_); rintro e w53 ⟨rfl, hb⟩; refine ⟨_, rfl, ?_⟩; have n0_ := Aside0.mk (below_step (by repeat (first | (with_reducible first | exact HB.out | apply below_alloc | apply pw_below_drewN | apply below_drew1) | exact HB.out)) hb); clear HB; have HB := n0_; clear n0_; (try clear hb); (try clear hb2); (try clear hk); (try clear hi)) | ((with_reducible refine gate_callee (f := 14) rfl ?_); refine goesL_ (some 64) rfl rfl Try.func14 (by kernel_rfl) rfl #[.int .u64 a0, .int .i64 (wrap64 (a1 + a2)), .int .i64 a3, .bool false] rfl (by (try simp only [List.map_toArray, List.map_cons, List.map_nil]); first | done | rfl | (simp only [List.length_drop, List.length_take]; rfl)) ?_; (with_reducible refine (shift_Extract.calls a0 (wrap64 (a1 + a2)) a3 false t128 _ A19.out).mono ?_); rintro e w54 ⟨rfl, hb⟩; refine ⟨_, rfl, ?_⟩; have n0_ := Aside0.mk (below_step (by repeat (first | (with_reducible first | exact HB.out | apply below_alloc | apply pw_below_drewN | apply below_drew1) | exact HB.out)) hb); clear HB; have HB := n0_; clear n0_; (try clear hb); (try clear hb2); (try clear hk); (try clear hi)) | ((with_reducible refine gate_callee (f := 15) rfl ?_); refine goesL_ (some 74) rfl rfl Try.func15 (by kernel_rfl) rfl #[.int .i64 a1, .int .i64 (wrap64 (a2 + a3))] rfl (by (try simp only [List.map_toArray, List.map_cons, List.map_nil]); first | done | rfl | (simp only [List.length_drop, List.length_take]; rfl)) ?_; (with_reducible refine (shift_Span.calls a1 (wrap64 (a2 + a3)) t129 _ A23.out).mono ?_); rintro e w' ⟨rfl, ⟨nd, rfl⟩⟩; refine ⟨_, rfl, ?_⟩))
              go_ret
              exact ⟨by first | rfl | (simp [errW_none, errW_some] <;> rfl) | (simp only [← hji20, ← hji22]; first | rfl | (simp [errW_none, errW_some] <;> rfl)) | (simp [*, errW_none, errW_some] <;> rfl), by repeat (first | (with_reducible first | exact HB.out | apply below_alloc | apply pw_below_drewN | apply below_drew1) | exact HB.out)⟩
          · rw [if_neg c21] at H
            exact absurd H (by simp)
  · replace c6 := Bool.eq_false_iff.mpr c6
    subst c6
    have H1 : (some false) = some r := by rw [if_neg (show ¬ (false = true) by decide)] at H; exact H
    clear H
    have H := H1
    clear H1
    obtain rfl := Option.some.inj H
    go_enter Try.func6, Try.ntmps6
    go_wp2_with (first | ((with_reducible refine gate_callee (f := 9) rfl ?_); refine goesL_ (some 12) rfl rfl Try.func9 (by kernel_rfl) rfl #[] rfl (by (try simp only [List.map_toArray, List.map_cons, List.map_nil]); first | done | rfl | (simp only [List.length_drop, List.length_take]; rfl)) ?_; (with_reducible refine (camshaftlaw09_alive.calls  false _ A5.out).mono ?_); rintro e w55 ⟨rfl, hb⟩; refine ⟨_, rfl, ?_⟩; have n0_ := Aside0.mk (below_step (by repeat (first | (with_reducible first | exact HB.out | apply below_alloc | apply pw_below_drewN | apply below_drew1) | exact HB.out)) hb); clear HB; have HB := n0_; clear n0_; (try clear hb); (try clear hb2); (try clear hk); (try clear hi)))
    go_ret
    exact ⟨by first | rfl | (simp [errW_none, errW_some] <;> rfl) | (simp [*, errW_none, errW_some] <;> rfl), by repeat (first | (with_reducible first | exact HB.out | apply below_alloc | apply pw_below_drewN | apply below_drew1) | exact HB.out)⟩

/-- THE ONE PURE STATEMENT of camshaftlaw09_ShiftJoins: yours. -/
def camshaftlaw09_ShiftJoins.Pure : Prop := ∀ (a0 : Int) (a1 : Int) (a2 : Int) (a3 : Int), (Lit.int .u64 a0).wf = true → (Lit.int .i64 a1).wf = true → (Lit.int .i64 a2).wf = true → (Lit.int .i64 a3).wf = true → ∃ k, camshaftlaw09_ShiftJoins.f k a0 a1 a2 a3 = some true
theorem camshaftlaw09_ShiftJoins.walk (P : camshaftlaw09_ShiftJoins.Pure) (a0 : Int) (a1 : Int) (a2 : Int) (a3 : Int) (w : World) (w0 : (Lit.int .u64 a0).wf = true) (w1 : (Lit.int .i64 a1).wf = true) (w2 : (Lit.int .i64 a2).wf = true) (w3 : (Lit.int .i64 a3).wf = true) :
    Calls Try.prog 6 #[.int .u64 a0, .int .i64 a1, .int .i64 a2, .int .i64 a3] w fun e w' => e = .returned (.bool true) ∧ Below w.heap.size w w' := by
  obtain ⟨k, h⟩ := P a0 a1 a2 a3 w0 w1 w2 w3
  refine (camshaftlaw09_ShiftJoins.calls k a0 a1 a2 a3 true w h).mono ?_
  rintro e w' ⟨rfl, hd⟩
  exact ⟨rfl, hd⟩

end Go.Proofs.Ytpjgklpppiongaa.GShiftJoins
