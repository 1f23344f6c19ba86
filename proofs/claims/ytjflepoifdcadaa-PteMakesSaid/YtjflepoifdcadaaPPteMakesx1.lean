-- PRINTED BY print.sh 35421559b90ae4d0a3588c463048766b98c2df88dd9212a6774a882060cdf62d: not written by this session
import Derived.Test.YtjflepoifdcadaaPPteMakesx0
namespace Go.Proofs.Ytjflepoifdcadaa.PPteMakes
open Go.RowKit Go.Proofs.YtjflepoifdcadaaW.PrintWords Go.Proofs.YtjflepoifdcadaaW.PrintLast Go.Proofs.YtjflepoifdcadaaW.PrintMore
attribute [local go_sem] max2_int min2_int max_two min_two max_three min_three max_four min_four   -- for this text's walks alone
set_option linter.unusedVariables false
set_option linter.unusedSimpArgs false

/-! ### pte_Frame: function 16 -/
def pte_Frame.f (a0 : Int) : Option (Int) := some (Go.bits .and .u32 a0 2097151)
set_option maxHeartbeats 8000000 in
set_option maxRecDepth 100000 in
theorem pte_Frame.calls (a0 : Int) (r : Int) (w : World) (h : pte_Frame.f a0 = some r) :
    Calls Try.prog 16 #[.int .u32 a0] w fun e w' => e = .returned (.int .u32 r) ∧ Drawn0 w w' := by
  have H : (some (Go.bits .and .u32 a0 2097151)) = some r := h
  clear h
  obtain rfl := Option.some.inj H
  go_enter Try.func16, Try.ntmps16
  go_wp2
  go_ret
  exact ⟨by first | rfl | (simp; done) | (simp [*]; done), by repeat (first | exact Drawn0.refl _ | apply Drawn0.step)⟩

/-! ### pte_Place: function 15 -/
def pte_Place.f (a0 : Int) (a1 : Int) : Option (Int) := (pte_Frame.f a0).bind fun t101 => (some (Go.bits .or .u32 ((t101 * 512) % 4294967296) (Go.bits .and .u32 a1 511)))
set_option maxHeartbeats 8000000 in
set_option maxRecDepth 100000 in
theorem pte_Place.calls (a0 : Int) (a1 : Int) (r : Int) (w : World) (h : pte_Place.f a0 a1 = some r) :
    Calls Try.prog 15 #[.int .u32 a0, .int .u32 a1] w fun e w' => e = .returned (.int .u32 r) ∧ Drawn0 w w' := by
  have H : ((pte_Frame.f a0).bind fun t101 => (some (Go.bits .or .u32 ((t101 * 512) % 4294967296) (Go.bits .and .u32 a1 511)))) = some r := h
  clear h
  replace H := Option.bind_eq_some_iff.mp H
  obtain ⟨t101, A30, H⟩ := H
  replace H : (some (Go.bits .or .u32 ((t101 * 512) % 4294967296) (Go.bits .and .u32 a1 511))) = some r := H
  have A3 := Aside0.mk A30
  clear A30
  obtain rfl := Option.some.inj H
  go_enter Try.func15, Try.ntmps15
  go_wp2_with (first | ((with_reducible refine gate_callee (f := 16) rfl ?_); refine goesL_ (some 6) rfl rfl Try.func16 (by kernel_rfl) rfl #[.int .u32 a0] rfl (by (try simp only [List.map_toArray, List.map_cons, List.map_nil]); first | done | rfl | (simp only [List.length_drop, List.length_take]; rfl)) ?_; (with_reducible refine (pte_Frame.calls a0 t101 _ A3.out).mono ?_); rintro e w' ⟨rfl, ⟨nd, rfl⟩⟩; refine ⟨_, rfl, ?_⟩))
  go_ret
  exact ⟨by first | rfl | (simp; done) | (simp [*]; done), by repeat (first | exact Drawn0.refl _ | apply Drawn0.step)⟩

/-! ### pte_Make: function 17 -/
def pte_Make.f (a0 : Bool) (a1 : Int) (a2 : Bool) (a3 : Int) : Option (Int) := if a0 = true then (if a2 = true then (some (Go.bits .or .u32 (Go.bits .or .u32 (Go.bits .or .u32 (Go.bits .and .u32 a3 2097151) ((((Go.bits .and .i64 a1 3) % 4294967296) * 134217728) % 4294967296)) 2147483648) 67108864)) else (some (Go.bits .or .u32 (Go.bits .or .u32 (Go.bits .and .u32 a3 2097151) ((((Go.bits .and .i64 a1 3) % 4294967296) * 134217728) % 4294967296)) 2147483648))) else (if a2 = true then (some (Go.bits .or .u32 (Go.bits .or .u32 (Go.bits .and .u32 a3 2097151) ((((Go.bits .and .i64 a1 3) % 4294967296) * 134217728) % 4294967296)) 67108864)) else (some (Go.bits .or .u32 (Go.bits .and .u32 a3 2097151) ((((Go.bits .and .i64 a1 3) % 4294967296) * 134217728) % 4294967296))))
set_option maxHeartbeats 8000000 in
set_option maxRecDepth 100000 in
theorem pte_Make.calls (a0 : Bool) (a1 : Int) (a2 : Bool) (a3 : Int) (r : Int) (w : World) (h : pte_Make.f a0 a1 a2 a3 = some r) :
    Calls Try.prog 17 #[.bool a0, .int .i64 a1, .bool a2, .int .u32 a3] w fun e w' => e = .returned (.int .u32 r) ∧ Drawn0 w w' := by
  have H : (if a0 = true then (if a2 = true then (some (Go.bits .or .u32 (Go.bits .or .u32 (Go.bits .or .u32 (Go.bits .and .u32 a3 2097151) ((((Go.bits .and .i64 a1 3) % 4294967296) * 134217728) % 4294967296)) 2147483648) 67108864)) else (some (Go.bits .or .u32 (Go.bits .or .u32 (Go.bits .and .u32 a3 2097151) ((((Go.bits .and .i64 a1 3) % 4294967296) * 134217728) % 4294967296)) 2147483648))) else (if a2 = true then (some (Go.bits .or .u32 (Go.bits .or .u32 (Go.bits .and .u32 a3 2097151) ((((Go.bits .and .i64 a1 3) % 4294967296) * 134217728) % 4294967296)) 67108864)) else (some (Go.bits .or .u32 (Go.bits .and .u32 a3 2097151) ((((Go.bits .and .i64 a1 3) % 4294967296) * 134217728) % 4294967296))))) = some r := h
  clear h
  by_cases c5 : a0 = true
  · subst c5
    have H1 : (if a2 = true then (some (Go.bits .or .u32 (Go.bits .or .u32 (Go.bits .or .u32 (Go.bits .and .u32 a3 2097151) ((((Go.bits .and .i64 a1 3) % 4294967296) * 134217728) % 4294967296)) 2147483648) 67108864)) else (some (Go.bits .or .u32 (Go.bits .or .u32 (Go.bits .and .u32 a3 2097151) ((((Go.bits .and .i64 a1 3) % 4294967296) * 134217728) % 4294967296)) 2147483648))) = some r := by rw [if_pos rfl] at H; exact H
    clear H
    have H := H1
    clear H1
    by_cases c6 : a2 = true
    · subst c6
      have H1 : (some (Go.bits .or .u32 (Go.bits .or .u32 (Go.bits .or .u32 (Go.bits .and .u32 a3 2097151) ((((Go.bits .and .i64 a1 3) % 4294967296) * 134217728) % 4294967296)) 2147483648) 67108864)) = some r := by rw [if_pos rfl] at H; exact H
      clear H
      have H := H1
      clear H1
      obtain rfl := Option.some.inj H
      go_enter Try.func17, Try.ntmps17
      go_wp2
      go_ret
      exact ⟨by first | rfl | (simp; done) | (simp [*]; done), by repeat (first | exact Drawn0.refl _ | apply Drawn0.step)⟩
    · replace c6 := Bool.eq_false_iff.mpr c6
      subst c6
      have H1 : (some (Go.bits .or .u32 (Go.bits .or .u32 (Go.bits .and .u32 a3 2097151) ((((Go.bits .and .i64 a1 3) % 4294967296) * 134217728) % 4294967296)) 2147483648)) = some r := by rw [if_neg (show ¬ (false = true) by decide)] at H; exact H
      clear H
      have H := H1
      clear H1
      obtain rfl := Option.some.inj H
      go_enter Try.func17, Try.ntmps17
      go_wp2
      go_ret
      exact ⟨by first | rfl | (simp; done) | (simp [*]; done), by repeat (first | exact Drawn0.refl _ | apply Drawn0.step)⟩
  · replace c5 := Bool.eq_false_iff.mpr c5
    subst c5
    have H1 : (if a2 = true then (some (Go.bits .or .u32 (Go.bits .or .u32 (Go.bits .and .u32 a3 2097151) ((((Go.bits .and .i64 a1 3) % 4294967296) * 134217728) % 4294967296)) 67108864)) else (some (Go.bits .or .u32 (Go.bits .and .u32 a3 2097151) ((((Go.bits .and .i64 a1 3) % 4294967296) * 134217728) % 4294967296)))) = some r := by rw [if_neg (show ¬ (false = true) by decide)] at H; exact H
    clear H
    have H := H1
    clear H1
    by_cases c7 : a2 = true
    · subst c7
      have H1 : (some (Go.bits .or .u32 (Go.bits .or .u32 (Go.bits .and .u32 a3 2097151) ((((Go.bits .and .i64 a1 3) % 4294967296) * 134217728) % 4294967296)) 67108864)) = some r := by rw [if_pos rfl] at H; exact H
      clear H
      have H := H1
      clear H1
      obtain rfl := Option.some.inj H
      go_enter Try.func17, Try.ntmps17
      go_wp2
      go_ret
      exact ⟨by first | rfl | (simp; done) | (simp [*]; done), by repeat (first | exact Drawn0.refl _ | apply Drawn0.step)⟩
    · replace c7 := Bool.eq_false_iff.mpr c7
      subst c7
      have H1 : (some (Go.bits .or .u32 (Go.bits .and .u32 a3 2097151) ((((Go.bits .and .i64 a1 3) % 4294967296) * 134217728) % 4294967296))) = some r := by rw [if_neg (show ¬ (false = true) by decide)] at H; exact H
      clear H
      have H := H1
      clear H1
      obtain rfl := Option.some.inj H
      go_enter Try.func17, Try.ntmps17
      go_wp2
      go_ret
      exact ⟨by first | rfl | (simp; done) | (simp [*]; done), by repeat (first | exact Drawn0.refl _ | apply Drawn0.step)⟩

/-! ### camshaftlaw03_alive: function 14 -/
def camshaftlaw03_alive.f  : Option (Bool) := (pte_Make.f true 3 false 3).bind fun t102 => (if t102 = 2550136835 then ((pte_Place.f t102 511).bind fun t103 => (if t103 = 2047 then (some true) else (some false))) else (some false))
set_option maxHeartbeats 8000000 in
set_option maxRecDepth 100000 in
theorem camshaftlaw03_alive.calls  (r : Bool) (w : World) (h : camshaftlaw03_alive.f  = some r) :
    Calls Try.prog 14 #[] w fun e w' => e = .returned (.bool r) ∧ Drawn0 w w' := by
  have H : ((pte_Make.f true 3 false 3).bind fun t102 => (if t102 = 2550136835 then ((pte_Place.f t102 511).bind fun t103 => (if t103 = 2047 then (some true) else (some false))) else (some false))) = some r := h
  clear h
  replace H := Option.bind_eq_some_iff.mp H
  obtain ⟨t102, A10, H⟩ := H
  replace H : (if t102 = 2550136835 then ((pte_Place.f t102 511).bind fun t103 => (if t103 = 2047 then (some true) else (some false))) else (some false)) = some r := H
  have A1 := Aside0.mk A10
  clear A10
  by_cases c2 : t102 = 2550136835
  · rw [if_pos c2] at H
    have c2b0 : (t102 == 2550136835) = true := beq_iff_eq.mpr c2
    have c2b1 : (t102 != 2550136835) = false := bne_eq_false_iff_eq.mpr c2
    clear c2
    replace H := Option.bind_eq_some_iff.mp H
    obtain ⟨t103, A30, H⟩ := H
    replace H : (if t103 = 2047 then (some true) else (some false)) = some r := H
    have A3 := Aside0.mk A30
    clear A30
    by_cases c4 : t103 = 2047
    · rw [if_pos c4] at H
      have c4b0 : (t103 == 2047) = true := beq_iff_eq.mpr c4
      have c4b1 : (t103 != 2047) = false := bne_eq_false_iff_eq.mpr c4
      clear c4
      obtain rfl := Option.some.inj H
      go_enter Try.func14, Try.ntmps14
      go_wp2_with (first | ((with_reducible refine gate_callee (f := 17) rfl ?_); refine goesL_ (some 2) rfl rfl Try.func17 (by kernel_rfl) rfl #[.bool true, .int .i64 3, .bool false, .int .u32 3] rfl (by (try simp only [List.map_toArray, List.map_cons, List.map_nil]); first | done | rfl | (simp only [List.length_drop, List.length_take]; rfl)) ?_; (with_reducible refine (pte_Make.calls true 3 false 3 t102 _ A1.out).mono ?_); rintro e w' ⟨rfl, ⟨nd, rfl⟩⟩; refine ⟨_, rfl, ?_⟩) | (go_at_call 15; (with_reducible refine (pte_Place.calls t102 511 t103 _ A3.out).mono ?_); rintro e w' ⟨rfl, ⟨nd, rfl⟩⟩))
      go_ret
      exact ⟨by first | rfl | (simp; done) | (simp [*]; done), by repeat (first | exact Drawn0.refl _ | apply Drawn0.step)⟩
    · rw [if_neg c4] at H
      have c4b0 : (t103 == 2047) = false := beq_eq_false_iff_ne.mpr c4
      have c4b1 : (t103 != 2047) = true := bne_iff_ne.mpr c4
      obtain rfl := Option.some.inj H
      go_enter Try.func14, Try.ntmps14
      go_wp2_with (first | ((with_reducible refine gate_callee (f := 17) rfl ?_); refine goesL_ (some 2) rfl rfl Try.func17 (by kernel_rfl) rfl #[.bool true, .int .i64 3, .bool false, .int .u32 3] rfl (by (try simp only [List.map_toArray, List.map_cons, List.map_nil]); first | done | rfl | (simp only [List.length_drop, List.length_take]; rfl)) ?_; (with_reducible refine (pte_Make.calls true 3 false 3 t102 _ A1.out).mono ?_); rintro e w' ⟨rfl, ⟨nd, rfl⟩⟩; refine ⟨_, rfl, ?_⟩) | (go_at_call 15; (with_reducible refine (pte_Place.calls t102 511 t103 _ A3.out).mono ?_); rintro e w' ⟨rfl, ⟨nd, rfl⟩⟩))
      go_ret
      exact ⟨by first | rfl | (simp; done) | (simp [*]; done), by repeat (first | exact Drawn0.refl _ | apply Drawn0.step)⟩
  · rw [if_neg c2] at H
    have c2b0 : (t102 == 2550136835) = false := beq_eq_false_iff_ne.mpr c2
    have c2b1 : (t102 != 2550136835) = true := bne_iff_ne.mpr c2
    obtain rfl := Option.some.inj H
    go_enter Try.func14, Try.ntmps14
    go_wp2_with (first | ((with_reducible refine gate_callee (f := 17) rfl ?_); refine goesL_ (some 2) rfl rfl Try.func17 (by kernel_rfl) rfl #[.bool true, .int .i64 3, .bool false, .int .u32 3] rfl (by (try simp only [List.map_toArray, List.map_cons, List.map_nil]); first | done | rfl | (simp only [List.length_drop, List.length_take]; rfl)) ?_; (with_reducible refine (pte_Make.calls true 3 false 3 t102 _ A1.out).mono ?_); rintro e w' ⟨rfl, ⟨nd, rfl⟩⟩; refine ⟨_, rfl, ?_⟩))
    go_ret
    exact ⟨by first | rfl | (simp; done) | (simp [*]; done), by repeat (first | exact Drawn0.refl _ | apply Drawn0.step)⟩

/-! ### camshaftref03_one: function 46 -/
def camshaftref03_one.f (a0 : Bool) (a1 : Int) : Option (Int) := if a0 = true then (some a1) else (some 0)
set_option maxHeartbeats 8000000 in
set_option maxRecDepth 100000 in
theorem camshaftref03_one.calls (a0 : Bool) (a1 : Int) (r : Int) (w : World) (h : camshaftref03_one.f a0 a1 = some r) :
    Calls Try.prog 46 #[.bool a0, .int .u32 a1] w fun e w' => e = .returned (.int .u32 r) ∧ Drawn0 w w' := by
  have H : (if a0 = true then (some a1) else (some 0)) = some r := h
  clear h
  by_cases c3 : a0 = true
  · subst c3
    have H1 : (some a1) = some r := by rw [if_pos rfl] at H; exact H
    clear H
    have H := H1
    clear H1
    obtain rfl := Option.some.inj H
    go_enter Try.func46, Try.ntmps46
    go_wp2
    go_ret
    exact ⟨by first | rfl | (simp; done) | (simp [*]; done), by repeat (first | exact Drawn0.refl _ | apply Drawn0.step)⟩
  · replace c3 := Bool.eq_false_iff.mpr c3
    subst c3
    have H1 : (some 0) = some r := by rw [if_neg (show ¬ (false = true) by decide)] at H; exact H
    clear H
    have H := H1
    clear H1
    obtain rfl := Option.some.inj H
    go_enter Try.func46, Try.ntmps46
    go_wp2
    go_ret
    exact ⟨by first | rfl | (simp; done) | (simp [*]; done), by repeat (first | exact Drawn0.refl _ | apply Drawn0.step)⟩

/-! ### camshaftref03_Make: function 18 -/
def camshaftref03_Make.f (a0 : Bool) (a1 : Int) (a2 : Bool) (a3 : Int) : Option (Int) := (camshaftref03_one.f a0 2147483648).bind fun t104 => ((camshaftref03_one.f a2 67108864).bind fun t105 => (some ((((((t104 + ((((wrap64 ((Int.tmod a1 4) + 4)) % 4294967296) % 4) * 134217728)) % 4294967296) + t105) % 4294967296) + (Int.tmod a3 2097152)) % 4294967296)))
set_option maxHeartbeats 8000000 in
set_option maxRecDepth 100000 in
theorem camshaftref03_Make.calls (a0 : Bool) (a1 : Int) (a2 : Bool) (a3 : Int) (r : Int) (w : World) (h : camshaftref03_Make.f a0 a1 a2 a3 = some r) :
    Calls Try.prog 18 #[.bool a0, .int .i64 a1, .bool a2, .int .u32 a3] w fun e w' => e = .returned (.int .u32 r) ∧ Drawn0 w w' := by
  have H : ((camshaftref03_one.f a0 2147483648).bind fun t104 => ((camshaftref03_one.f a2 67108864).bind fun t105 => (some ((((((t104 + ((((wrap64 ((Int.tmod a1 4) + 4)) % 4294967296) % 4) * 134217728)) % 4294967296) + t105) % 4294967296) + (Int.tmod a3 2097152)) % 4294967296)))) = some r := h
  clear h
  replace H := Option.bind_eq_some_iff.mp H
  obtain ⟨t104, A50, H⟩ := H
  replace H : ((camshaftref03_one.f a2 67108864).bind fun t105 => (some ((((((t104 + ((((wrap64 ((Int.tmod a1 4) + 4)) % 4294967296) % 4) * 134217728)) % 4294967296) + t105) % 4294967296) + (Int.tmod a3 2097152)) % 4294967296))) = some r := H
  have A5 := Aside0.mk A50
  clear A50
  replace H := Option.bind_eq_some_iff.mp H
  obtain ⟨t105, A60, H⟩ := H
  replace H : (some ((((((t104 + ((((wrap64 ((Int.tmod a1 4) + 4)) % 4294967296) % 4) * 134217728)) % 4294967296) + t105) % 4294967296) + (Int.tmod a3 2097152)) % 4294967296)) = some r := H
  have A6 := Aside0.mk A60
  clear A60
  obtain rfl := Option.some.inj H
  go_enter Try.func18, Try.ntmps18
  go_wp2_with (first | ((with_reducible refine gate_callee (f := 46) rfl ?_); refine goesL_ (some 16) rfl rfl Try.func46 (by kernel_rfl) rfl #[.bool a0, .int .u32 2147483648] rfl (by (try simp only [List.map_toArray, List.map_cons, List.map_nil]); first | done | rfl | (simp only [List.length_drop, List.length_take]; rfl)) ?_; (with_reducible refine (camshaftref03_one.calls a0 2147483648 t104 _ A5.out).mono ?_); rintro e w' ⟨rfl, ⟨nd, rfl⟩⟩; refine ⟨_, rfl, ?_⟩) | ((with_reducible refine gate_callee (f := 46) rfl ?_); refine goesL_ (some 21) rfl rfl Try.func46 (by kernel_rfl) rfl #[.bool a2, .int .u32 67108864] rfl (by (try simp only [List.map_toArray, List.map_cons, List.map_nil]); first | done | rfl | (simp only [List.length_drop, List.length_take]; rfl)) ?_; (with_reducible refine (camshaftref03_one.calls a2 67108864 t105 _ A6.out).mono ?_); rintro e w' ⟨rfl, ⟨nd, rfl⟩⟩; refine ⟨_, rfl, ?_⟩))
  go_ret
  exact ⟨by first | rfl | (simp; done) | (simp [*]; done), by repeat (first | exact Drawn0.refl _ | apply Drawn0.step)⟩

/-! ### pte_Is: function 19 -/
def pte_Is.f (a0 : Int) : Option (Bool) := some ((Go.bits .and .u32 a0 2147483648) != 0)
set_option maxHeartbeats 8000000 in
set_option maxRecDepth 100000 in
theorem pte_Is.calls (a0 : Int) (r : Bool) (w : World) (h : pte_Is.f a0 = some r) :
    Calls Try.prog 19 #[.int .u32 a0] w fun e w' => e = .returned (.bool r) ∧ Drawn0 w w' := by
  have H : (some ((Go.bits .and .u32 a0 2147483648) != 0)) = some r := h
  clear h
  obtain rfl := Option.some.inj H
  go_enter Try.func19, Try.ntmps19
  go_wp2
  go_ret
  exact ⟨by first | rfl | (simp; done) | (simp [*]; done), by repeat (first | exact Drawn0.refl _ | apply Drawn0.step)⟩

/-! ### pte_Written: function 20 -/
def pte_Written.f (a0 : Int) : Option (Bool) := some ((Go.bits .and .u32 a0 67108864) != 0)
set_option maxHeartbeats 8000000 in
set_option maxRecDepth 100000 in
theorem pte_Written.calls (a0 : Int) (r : Bool) (w : World) (h : pte_Written.f a0 = some r) :
    Calls Try.prog 20 #[.int .u32 a0] w fun e w' => e = .returned (.bool r) ∧ Drawn0 w w' := by
  have H : (some ((Go.bits .and .u32 a0 67108864) != 0)) = some r := h
  clear h
  obtain rfl := Option.some.inj H
  go_enter Try.func20, Try.ntmps20
  go_wp2
  go_ret
  exact ⟨by first | rfl | (simp; done) | (simp [*]; done), by repeat (first | exact Drawn0.refl _ | apply Drawn0.step)⟩

/-! ### pte_Prot: function 21 -/
def pte_Prot.f (a0 : Int) : Option (Int) := some (wrap64 (Go.bits .and .u32 (a0 / 134217728) 3))
set_option maxHeartbeats 8000000 in
set_option maxRecDepth 100000 in
theorem pte_Prot.calls (a0 : Int) (r : Int) (w : World) (h : pte_Prot.f a0 = some r) :
    Calls Try.prog 21 #[.int .u32 a0] w fun e w' => e = .returned (.int .i64 r) ∧ Drawn0 w w' := by
  have H : (some (wrap64 (Go.bits .and .u32 (a0 / 134217728) 3))) = some r := h
  clear h
  obtain rfl := Option.some.inj H
  go_enter Try.func21, Try.ntmps21
  go_wp2
  go_ret
  exact ⟨by first | rfl | (simp; done) | (simp [*]; done), by repeat (first | exact Drawn0.refl _ | apply Drawn0.step)⟩

/-! ### camshaftlaw03_PteMakes: function 4 -/
def camshaftlaw03_PteMakes.f (a0 : Bool) (a1 : Int) (a2 : Bool) (a3 : Int) : Option (Bool) := (camshaftlaw03_alive.f).bind fun t106 => (if t106 = true then ((pte_Make.f a0 a1 a2 a3).bind fun t107 => ((camshaftref03_Make.f a0 a1 a2 a3).bind fun t108 => (if t107 = t108 then ((pte_Is.f t107).bind fun t109 => (if (t109 == a0) = true then ((pte_Written.f t107).bind fun t110 => (if (t110 == a2) = true then ((pte_Frame.f t107).bind fun t111 => (if t111 = (Int.tmod a3 2097152) then ((pte_Prot.f t107).bind fun t112 => (some (t112 == (Int.tmod (wrap64 ((Int.tmod a1 4) + 4)) 4)))) else (some false))) else (some false))) else (some false))) else (some false)))) else (some false))
set_option maxHeartbeats 8000000 in
set_option maxRecDepth 100000 in
theorem camshaftlaw03_PteMakes.calls (a0 : Bool) (a1 : Int) (a2 : Bool) (a3 : Int) (r : Bool) (w : World) (h : camshaftlaw03_PteMakes.f a0 a1 a2 a3 = some r) :
    Calls Try.prog 4 #[.bool a0, .int .i64 a1, .bool a2, .int .u32 a3] w fun e w' => e = .returned (.bool r) ∧ Drawn0 w w' := by
  have H : ((camshaftlaw03_alive.f).bind fun t106 => (if t106 = true then ((pte_Make.f a0 a1 a2 a3).bind fun t107 => ((camshaftref03_Make.f a0 a1 a2 a3).bind fun t108 => (if t107 = t108 then ((pte_Is.f t107).bind fun t109 => (if (t109 == a0) = true then ((pte_Written.f t107).bind fun t110 => (if (t110 == a2) = true then ((pte_Frame.f t107).bind fun t111 => (if t111 = (Int.tmod a3 2097152) then ((pte_Prot.f t107).bind fun t112 => (some (t112 == (Int.tmod (wrap64 ((Int.tmod a1 4) + 4)) 4)))) else (some false))) else (some false))) else (some false))) else (some false)))) else (some false))) = some r := h
  clear h
  replace H := Option.bind_eq_some_iff.mp H
  obtain ⟨t106, A50, H⟩ := H
  replace H : (if t106 = true then ((pte_Make.f a0 a1 a2 a3).bind fun t107 => ((camshaftref03_Make.f a0 a1 a2 a3).bind fun t108 => (if t107 = t108 then ((pte_Is.f t107).bind fun t109 => (if (t109 == a0) = true then ((pte_Written.f t107).bind fun t110 => (if (t110 == a2) = true then ((pte_Frame.f t107).bind fun t111 => (if t111 = (Int.tmod a3 2097152) then ((pte_Prot.f t107).bind fun t112 => (some (t112 == (Int.tmod (wrap64 ((Int.tmod a1 4) + 4)) 4)))) else (some false))) else (some false))) else (some false))) else (some false)))) else (some false)) = some r := H
  have A5 := Aside0.mk A50
  clear A50
  by_cases c6 : t106 = true
  · subst c6
    have H1 : ((pte_Make.f a0 a1 a2 a3).bind fun t107 => ((camshaftref03_Make.f a0 a1 a2 a3).bind fun t108 => (if t107 = t108 then ((pte_Is.f t107).bind fun t109 => (if (t109 == a0) = true then ((pte_Written.f t107).bind fun t110 => (if (t110 == a2) = true then ((pte_Frame.f t107).bind fun t111 => (if t111 = (Int.tmod a3 2097152) then ((pte_Prot.f t107).bind fun t112 => (some (t112 == (Int.tmod (wrap64 ((Int.tmod a1 4) + 4)) 4)))) else (some false))) else (some false))) else (some false))) else (some false)))) = some r := by rw [if_pos rfl] at H; exact H
    clear H
    have H := H1
    clear H1
    replace H := Option.bind_eq_some_iff.mp H
    obtain ⟨t107, A70, H⟩ := H
    replace H : ((camshaftref03_Make.f a0 a1 a2 a3).bind fun t108 => (if t107 = t108 then ((pte_Is.f t107).bind fun t109 => (if (t109 == a0) = true then ((pte_Written.f t107).bind fun t110 => (if (t110 == a2) = true then ((pte_Frame.f t107).bind fun t111 => (if t111 = (Int.tmod a3 2097152) then ((pte_Prot.f t107).bind fun t112 => (some (t112 == (Int.tmod (wrap64 ((Int.tmod a1 4) + 4)) 4)))) else (some false))) else (some false))) else (some false))) else (some false))) = some r := H
    have A7 := Aside0.mk A70
    clear A70
    replace H := Option.bind_eq_some_iff.mp H
    obtain ⟨t108, A80, H⟩ := H
    replace H : (if t107 = t108 then ((pte_Is.f t107).bind fun t109 => (if (t109 == a0) = true then ((pte_Written.f t107).bind fun t110 => (if (t110 == a2) = true then ((pte_Frame.f t107).bind fun t111 => (if t111 = (Int.tmod a3 2097152) then ((pte_Prot.f t107).bind fun t112 => (some (t112 == (Int.tmod (wrap64 ((Int.tmod a1 4) + 4)) 4)))) else (some false))) else (some false))) else (some false))) else (some false)) = some r := H
    have A8 := Aside0.mk A80
    clear A80
    by_cases c9 : t107 = t108
    · rw [if_pos c9] at H
      have c9b0 : (t107 == t108) = true := beq_iff_eq.mpr c9
      have c9b1 : (t107 != t108) = false := bne_eq_false_iff_eq.mpr c9
      clear c9
      replace H := Option.bind_eq_some_iff.mp H
      obtain ⟨t109, A100, H⟩ := H
      replace H : (if (t109 == a0) = true then ((pte_Written.f t107).bind fun t110 => (if (t110 == a2) = true then ((pte_Frame.f t107).bind fun t111 => (if t111 = (Int.tmod a3 2097152) then ((pte_Prot.f t107).bind fun t112 => (some (t112 == (Int.tmod (wrap64 ((Int.tmod a1 4) + 4)) 4)))) else (some false))) else (some false))) else (some false)) = some r := H
      have A10 := Aside0.mk A100
      clear A100
      by_cases c11 : (t109 == a0) = true
      · rw [if_pos c11] at H
        have c11b0 : (t109 == a0) = true := c11
        (try (have c11b1 : decide (t109 = a0) = true := by simpa using c11))
        (try (have c11b2 : (t109 == a0) = true := by simpa using c11))
        clear c11
        replace H := Option.bind_eq_some_iff.mp H
        obtain ⟨t110, A120, H⟩ := H
        replace H : (if (t110 == a2) = true then ((pte_Frame.f t107).bind fun t111 => (if t111 = (Int.tmod a3 2097152) then ((pte_Prot.f t107).bind fun t112 => (some (t112 == (Int.tmod (wrap64 ((Int.tmod a1 4) + 4)) 4)))) else (some false))) else (some false)) = some r := H
        have A12 := Aside0.mk A120
        clear A120
        by_cases c13 : (t110 == a2) = true
        · rw [if_pos c13] at H
          have c13b0 : (t110 == a2) = true := c13
          (try (have c13b1 : decide (t110 = a2) = true := by simpa using c13))
          (try (have c13b2 : (t110 == a2) = true := by simpa using c13))
          clear c13
          replace H := Option.bind_eq_some_iff.mp H
          obtain ⟨t111, A140, H⟩ := H
          replace H : (if t111 = (Int.tmod a3 2097152) then ((pte_Prot.f t107).bind fun t112 => (some (t112 == (Int.tmod (wrap64 ((Int.tmod a1 4) + 4)) 4)))) else (some false)) = some r := H
          have A14 := Aside0.mk A140
          clear A140
          by_cases c15 : t111 = (Int.tmod a3 2097152)
          · rw [if_pos c15] at H
            have c15b0 : (t111 == (Int.tmod a3 2097152)) = true := beq_iff_eq.mpr c15
            have c15b1 : (t111 != (Int.tmod a3 2097152)) = false := bne_eq_false_iff_eq.mpr c15
            clear c15
            replace H := Option.bind_eq_some_iff.mp H
            obtain ⟨t112, A160, H⟩ := H
            replace H : (some (t112 == (Int.tmod (wrap64 ((Int.tmod a1 4) + 4)) 4))) = some r := H
            have A16 := Aside0.mk A160
            clear A160
            obtain rfl := Option.some.inj H
            go_enter Try.func4, Try.ntmps4
            go_wp2_with (first | ((with_reducible refine gate_callee (f := 14) rfl ?_); refine goesL_ (some 10) rfl rfl Try.func14 (by kernel_rfl) rfl #[] rfl (by (try simp only [List.map_toArray, List.map_cons, List.map_nil]); first | done | rfl | (simp only [List.length_drop, List.length_take]; rfl)) ?_; (with_reducible refine (camshaftlaw03_alive.calls  true _ A5.out).mono ?_); rintro e w' ⟨rfl, ⟨nd, rfl⟩⟩; refine ⟨_, rfl, ?_⟩) | ((with_reducible refine gate_callee (f := 17) rfl ?_); refine goesL_ (some 16) rfl rfl Try.func17 (by kernel_rfl) rfl #[.bool a0, .int .i64 a1, .bool a2, .int .u32 a3] rfl (by (try simp only [List.map_toArray, List.map_cons, List.map_nil]); first | done | rfl | (simp only [List.length_drop, List.length_take]; rfl)) ?_; (with_reducible refine (pte_Make.calls a0 a1 a2 a3 t107 _ A7.out).mono ?_); rintro e w' ⟨rfl, ⟨nd, rfl⟩⟩; refine ⟨_, rfl, ?_⟩) | ((with_reducible refine gate_callee (f := 18) rfl ?_); refine goesL_ (some 22) rfl rfl Try.func18 (by kernel_rfl) rfl #[.bool a0, .int .i64 a1, .bool a2, .int .u32 a3] rfl (by (try simp only [List.map_toArray, List.map_cons, List.map_nil]); first | done | rfl | (simp only [List.length_drop, List.length_take]; rfl)) ?_; (with_reducible refine (camshaftref03_Make.calls a0 a1 a2 a3 t108 _ A8.out).mono ?_); rintro e w' ⟨rfl, ⟨nd, rfl⟩⟩; refine ⟨_, rfl, ?_⟩) | (go_at_call 19; (with_reducible refine (pte_Is.calls t107 t109 _ A10.out).mono ?_); rintro e w' ⟨rfl, ⟨nd, rfl⟩⟩) | (go_at_call 20; (with_reducible refine (pte_Written.calls t107 t110 _ A12.out).mono ?_); rintro e w' ⟨rfl, ⟨nd, rfl⟩⟩) | (go_at_call 16; (with_reducible refine (pte_Frame.calls t107 t111 _ A14.out).mono ?_); rintro e w' ⟨rfl, ⟨nd, rfl⟩⟩) | (go_at_call 21; (with_reducible refine (pte_Prot.calls t107 t112 _ A16.out).mono ?_); rintro e w' ⟨rfl, ⟨nd, rfl⟩⟩))
            go_ret
            exact ⟨by first | rfl | (simp; done) | (simp [*]; done), by repeat (first | exact Drawn0.refl _ | apply Drawn0.step)⟩
          · rw [if_neg c15] at H
            have c15b0 : (t111 == (Int.tmod a3 2097152)) = false := beq_eq_false_iff_ne.mpr c15
            have c15b1 : (t111 != (Int.tmod a3 2097152)) = true := bne_iff_ne.mpr c15
            obtain rfl := Option.some.inj H
            go_enter Try.func4, Try.ntmps4
            go_wp2_with (first | ((with_reducible refine gate_callee (f := 14) rfl ?_); refine goesL_ (some 10) rfl rfl Try.func14 (by kernel_rfl) rfl #[] rfl (by (try simp only [List.map_toArray, List.map_cons, List.map_nil]); first | done | rfl | (simp only [List.length_drop, List.length_take]; rfl)) ?_; (with_reducible refine (camshaftlaw03_alive.calls  true _ A5.out).mono ?_); rintro e w' ⟨rfl, ⟨nd, rfl⟩⟩; refine ⟨_, rfl, ?_⟩) | ((with_reducible refine gate_callee (f := 17) rfl ?_); refine goesL_ (some 16) rfl rfl Try.func17 (by kernel_rfl) rfl #[.bool a0, .int .i64 a1, .bool a2, .int .u32 a3] rfl (by (try simp only [List.map_toArray, List.map_cons, List.map_nil]); first | done | rfl | (simp only [List.length_drop, List.length_take]; rfl)) ?_; (with_reducible refine (pte_Make.calls a0 a1 a2 a3 t107 _ A7.out).mono ?_); rintro e w' ⟨rfl, ⟨nd, rfl⟩⟩; refine ⟨_, rfl, ?_⟩) | ((with_reducible refine gate_callee (f := 18) rfl ?_); refine goesL_ (some 22) rfl rfl Try.func18 (by kernel_rfl) rfl #[.bool a0, .int .i64 a1, .bool a2, .int .u32 a3] rfl (by (try simp only [List.map_toArray, List.map_cons, List.map_nil]); first | done | rfl | (simp only [List.length_drop, List.length_take]; rfl)) ?_; (with_reducible refine (camshaftref03_Make.calls a0 a1 a2 a3 t108 _ A8.out).mono ?_); rintro e w' ⟨rfl, ⟨nd, rfl⟩⟩; refine ⟨_, rfl, ?_⟩) | (go_at_call 19; (with_reducible refine (pte_Is.calls t107 t109 _ A10.out).mono ?_); rintro e w' ⟨rfl, ⟨nd, rfl⟩⟩) | (go_at_call 20; (with_reducible refine (pte_Written.calls t107 t110 _ A12.out).mono ?_); rintro e w' ⟨rfl, ⟨nd, rfl⟩⟩) | (go_at_call 16; (with_reducible refine (pte_Frame.calls t107 t111 _ A14.out).mono ?_); rintro e w' ⟨rfl, ⟨nd, rfl⟩⟩))
            go_ret
            exact ⟨by first | rfl | (simp; done) | (simp [*]; done), by repeat (first | exact Drawn0.refl _ | apply Drawn0.step)⟩
        · rw [if_neg c13] at H
          have c13b0 : (t110 == a2) = false := by simpa using c13
          (try (have c13b1 : decide (t110 = a2) = false := by simpa using c13))
          (try (have c13b2 : (t110 == a2) = false := by simpa using c13))
          (try (have c13b3 : ¬ (t110 = a2) := by simpa using c13))
          clear c13
          obtain rfl := Option.some.inj H
          go_enter Try.func4, Try.ntmps4
          go_wp2_with (first | ((with_reducible refine gate_callee (f := 14) rfl ?_); refine goesL_ (some 10) rfl rfl Try.func14 (by kernel_rfl) rfl #[] rfl (by (try simp only [List.map_toArray, List.map_cons, List.map_nil]); first | done | rfl | (simp only [List.length_drop, List.length_take]; rfl)) ?_; (with_reducible refine (camshaftlaw03_alive.calls  true _ A5.out).mono ?_); rintro e w' ⟨rfl, ⟨nd, rfl⟩⟩; refine ⟨_, rfl, ?_⟩) | ((with_reducible refine gate_callee (f := 17) rfl ?_); refine goesL_ (some 16) rfl rfl Try.func17 (by kernel_rfl) rfl #[.bool a0, .int .i64 a1, .bool a2, .int .u32 a3] rfl (by (try simp only [List.map_toArray, List.map_cons, List.map_nil]); first | done | rfl | (simp only [List.length_drop, List.length_take]; rfl)) ?_; (with_reducible refine (pte_Make.calls a0 a1 a2 a3 t107 _ A7.out).mono ?_); rintro e w' ⟨rfl, ⟨nd, rfl⟩⟩; refine ⟨_, rfl, ?_⟩) | ((with_reducible refine gate_callee (f := 18) rfl ?_); refine goesL_ (some 22) rfl rfl Try.func18 (by kernel_rfl) rfl #[.bool a0, .int .i64 a1, .bool a2, .int .u32 a3] rfl (by (try simp only [List.map_toArray, List.map_cons, List.map_nil]); first | done | rfl | (simp only [List.length_drop, List.length_take]; rfl)) ?_; (with_reducible refine (camshaftref03_Make.calls a0 a1 a2 a3 t108 _ A8.out).mono ?_); rintro e w' ⟨rfl, ⟨nd, rfl⟩⟩; refine ⟨_, rfl, ?_⟩) | (go_at_call 19; (with_reducible refine (pte_Is.calls t107 t109 _ A10.out).mono ?_); rintro e w' ⟨rfl, ⟨nd, rfl⟩⟩) | (go_at_call 20; (with_reducible refine (pte_Written.calls t107 t110 _ A12.out).mono ?_); rintro e w' ⟨rfl, ⟨nd, rfl⟩⟩))
          go_ret
          exact ⟨by first | rfl | (simp; done) | (simp [*]; done), by repeat (first | exact Drawn0.refl _ | apply Drawn0.step)⟩
      · rw [if_neg c11] at H
        have c11b0 : (t109 == a0) = false := by simpa using c11
        (try (have c11b1 : decide (t109 = a0) = false := by simpa using c11))
        (try (have c11b2 : (t109 == a0) = false := by simpa using c11))
        (try (have c11b3 : ¬ (t109 = a0) := by simpa using c11))
        clear c11
        obtain rfl := Option.some.inj H
        go_enter Try.func4, Try.ntmps4
        go_wp2_with (first | ((with_reducible refine gate_callee (f := 14) rfl ?_); refine goesL_ (some 10) rfl rfl Try.func14 (by kernel_rfl) rfl #[] rfl (by (try simp only [List.map_toArray, List.map_cons, List.map_nil]); first | done | rfl | (simp only [List.length_drop, List.length_take]; rfl)) ?_; (with_reducible refine (camshaftlaw03_alive.calls  true _ A5.out).mono ?_); rintro e w' ⟨rfl, ⟨nd, rfl⟩⟩; refine ⟨_, rfl, ?_⟩) | ((with_reducible refine gate_callee (f := 17) rfl ?_); refine goesL_ (some 16) rfl rfl Try.func17 (by kernel_rfl) rfl #[.bool a0, .int .i64 a1, .bool a2, .int .u32 a3] rfl (by (try simp only [List.map_toArray, List.map_cons, List.map_nil]); first | done | rfl | (simp only [List.length_drop, List.length_take]; rfl)) ?_; (with_reducible refine (pte_Make.calls a0 a1 a2 a3 t107 _ A7.out).mono ?_); rintro e w' ⟨rfl, ⟨nd, rfl⟩⟩; refine ⟨_, rfl, ?_⟩) | ((with_reducible refine gate_callee (f := 18) rfl ?_); refine goesL_ (some 22) rfl rfl Try.func18 (by kernel_rfl) rfl #[.bool a0, .int .i64 a1, .bool a2, .int .u32 a3] rfl (by (try simp only [List.map_toArray, List.map_cons, List.map_nil]); first | done | rfl | (simp only [List.length_drop, List.length_take]; rfl)) ?_; (with_reducible refine (camshaftref03_Make.calls a0 a1 a2 a3 t108 _ A8.out).mono ?_); rintro e w' ⟨rfl, ⟨nd, rfl⟩⟩; refine ⟨_, rfl, ?_⟩) | (go_at_call 19; (with_reducible refine (pte_Is.calls t107 t109 _ A10.out).mono ?_); rintro e w' ⟨rfl, ⟨nd, rfl⟩⟩))
        go_ret
        exact ⟨by first | rfl | (simp; done) | (simp [*]; done), by repeat (first | exact Drawn0.refl _ | apply Drawn0.step)⟩
    · rw [if_neg c9] at H
      have c9b0 : (t107 == t108) = false := beq_eq_false_iff_ne.mpr c9
      have c9b1 : (t107 != t108) = true := bne_iff_ne.mpr c9
      obtain rfl := Option.some.inj H
      go_enter Try.func4, Try.ntmps4
      go_wp2_with (first | ((with_reducible refine gate_callee (f := 14) rfl ?_); refine goesL_ (some 10) rfl rfl Try.func14 (by kernel_rfl) rfl #[] rfl (by (try simp only [List.map_toArray, List.map_cons, List.map_nil]); first | done | rfl | (simp only [List.length_drop, List.length_take]; rfl)) ?_; (with_reducible refine (camshaftlaw03_alive.calls  true _ A5.out).mono ?_); rintro e w' ⟨rfl, ⟨nd, rfl⟩⟩; refine ⟨_, rfl, ?_⟩) | ((with_reducible refine gate_callee (f := 17) rfl ?_); refine goesL_ (some 16) rfl rfl Try.func17 (by kernel_rfl) rfl #[.bool a0, .int .i64 a1, .bool a2, .int .u32 a3] rfl (by (try simp only [List.map_toArray, List.map_cons, List.map_nil]); first | done | rfl | (simp only [List.length_drop, List.length_take]; rfl)) ?_; (with_reducible refine (pte_Make.calls a0 a1 a2 a3 t107 _ A7.out).mono ?_); rintro e w' ⟨rfl, ⟨nd, rfl⟩⟩; refine ⟨_, rfl, ?_⟩) | ((with_reducible refine gate_callee (f := 18) rfl ?_); refine goesL_ (some 22) rfl rfl Try.func18 (by kernel_rfl) rfl #[.bool a0, .int .i64 a1, .bool a2, .int .u32 a3] rfl (by (try simp only [List.map_toArray, List.map_cons, List.map_nil]); first | done | rfl | (simp only [List.length_drop, List.length_take]; rfl)) ?_; (with_reducible refine (camshaftref03_Make.calls a0 a1 a2 a3 t108 _ A8.out).mono ?_); rintro e w' ⟨rfl, ⟨nd, rfl⟩⟩; refine ⟨_, rfl, ?_⟩))
      go_ret
      exact ⟨by first | rfl | (simp; done) | (simp [*]; done), by repeat (first | exact Drawn0.refl _ | apply Drawn0.step)⟩
  · replace c6 := Bool.eq_false_iff.mpr c6
    subst c6
    have H1 : (some false) = some r := by rw [if_neg (show ¬ (false = true) by decide)] at H; exact H
    clear H
    have H := H1
    clear H1
    obtain rfl := Option.some.inj H
    go_enter Try.func4, Try.ntmps4
    go_wp2_with (first | ((with_reducible refine gate_callee (f := 14) rfl ?_); refine goesL_ (some 10) rfl rfl Try.func14 (by kernel_rfl) rfl #[] rfl (by (try simp only [List.map_toArray, List.map_cons, List.map_nil]); first | done | rfl | (simp only [List.length_drop, List.length_take]; rfl)) ?_; (with_reducible refine (camshaftlaw03_alive.calls  false _ A5.out).mono ?_); rintro e w' ⟨rfl, ⟨nd, rfl⟩⟩; refine ⟨_, rfl, ?_⟩))
    go_ret
    exact ⟨by first | rfl | (simp; done) | (simp [*]; done), by repeat (first | exact Drawn0.refl _ | apply Drawn0.step)⟩

/-- THE ONE PURE STATEMENT of camshaftlaw03_PteMakes: yours. -/
def camshaftlaw03_PteMakes.Pure : Prop := ∀ (a0 : Bool) (a1 : Int) (a2 : Bool) (a3 : Int), (Lit.int .i64 a1).wf = true → (Lit.int .u32 a3).wf = true → camshaftlaw03_PteMakes.f a0 a1 a2 a3 = some true
theorem camshaftlaw03_PteMakes.walk (P : camshaftlaw03_PteMakes.Pure) (a0 : Bool) (a1 : Int) (a2 : Bool) (a3 : Int) (w : World) (w1 : (Lit.int .i64 a1).wf = true) (w3 : (Lit.int .u32 a3).wf = true) :
    Calls Try.prog 4 #[.bool a0, .int .i64 a1, .bool a2, .int .u32 a3] w fun e w' => e = .returned (.bool true) ∧ Below w.heap.size w w' := by
  have h := P a0 a1 a2 a3 w1 w3
  refine (camshaftlaw03_PteMakes.calls a0 a1 a2 a3 true w h).mono ?_
  rintro e w' ⟨rfl, hd⟩
  exact ⟨rfl, hd.below⟩

end Go.Proofs.Ytjflepoifdcadaa.PPteMakes
