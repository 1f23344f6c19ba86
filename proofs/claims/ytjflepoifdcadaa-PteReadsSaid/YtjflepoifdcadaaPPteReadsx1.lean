-- PRINTED BY print.sh 35421559b90ae4d0a3588c463048766b98c2df88dd9212a6774a882060cdf62d: not written by this session
import Derived.Test.YtjflepoifdcadaaPPteReadsx0
namespace Go.Proofs.Ytjflepoifdcadaa.PPteReads
open Go.RowKit Go.Proofs.YtjflepoifdcadaaW.PrintWords Go.Proofs.YtjflepoifdcadaaW.PrintLast Go.Proofs.YtjflepoifdcadaaW.PrintMore
attribute [local go_sem] max2_int min2_int max_two min_two max_three min_three max_four min_four   -- for this text's walks alone
set_option linter.unusedVariables false
set_option linter.unusedSimpArgs false

/-! ### pte_Frame: function 16 -/
def pte_Frame.f (a0 : Int) : Option (Int) := some (Go.bits .and .u32 a0 2097151)
set_option maxHeartbeats 8000000 in
set_option maxRecDepth 100000 in
theorem pte_Frame.calls (a0 : Int) (r : Int) (w : World) (h : pte_Frame.f a0 = some r) :
    Calls Try.prog 16 #[.int .u32 a0] w fun e w' => e = .returned (.int .u32 r) ∧ Drawn0 w w' := by
  have H : (some (Go.bits .and .u32 a0 2097151)) = some r := h
  clear h
  obtain rfl := Option.some.inj H
  go_enter Try.func16, Try.ntmps16
  go_wp2
  go_ret
  exact ⟨by first | rfl | (simp; done) | (simp [*]; done), by repeat (first | exact Drawn0.refl _ | apply Drawn0.step)⟩

/-! ### pte_Place: function 15 -/
def pte_Place.f (a0 : Int) (a1 : Int) : Option (Int) := (pte_Frame.f a0).bind fun t101 => (some (Go.bits .or .u32 ((t101 * 512) % 4294967296) (Go.bits .and .u32 a1 511)))
set_option maxHeartbeats 8000000 in
set_option maxRecDepth 100000 in
theorem pte_Place.calls (a0 : Int) (a1 : Int) (r : Int) (w : World) (h : pte_Place.f a0 a1 = some r) :
    Calls Try.prog 15 #[.int .u32 a0, .int .u32 a1] w fun e w' => e = .returned (.int .u32 r) ∧ Drawn0 w w' := by
  have H : ((pte_Frame.f a0).bind fun t101 => (some (Go.bits .or .u32 ((t101 * 512) % 4294967296) (Go.bits .and .u32 a1 511)))) = some r := h
  clear h
  replace H := Option.bind_eq_some_iff.mp H
  obtain ⟨t101, A30, H⟩ := H
  replace H : (some (Go.bits .or .u32 ((t101 * 512) % 4294967296) (Go.bits .and .u32 a1 511))) = some r := H
  have A3 := Aside0.mk A30
  clear A30
  obtain rfl := Option.some.inj H
  go_enter Try.func15, Try.ntmps15
  go_wp2_with (first | ((with_reducible refine gate_callee (f := 16) rfl ?_); refine goesL_ (some 6) rfl rfl Try.func16 (by kernel_rfl) rfl #[.int .u32 a0] rfl (by (try simp only [List.map_toArray, List.map_cons, List.map_nil]); first | done | rfl | (simp only [List.length_drop, List.length_take]; rfl)) ?_; (with_reducible refine (pte_Frame.calls a0 t101 _ A3.out).mono ?_); rintro e w' ⟨rfl, ⟨nd, rfl⟩⟩; refine ⟨_, rfl, ?_⟩))
  go_ret
  exact ⟨by first | rfl | (simp; done) | (simp [*]; done), by repeat (first | exact Drawn0.refl _ | apply Drawn0.step)⟩

/-! ### pte_Make: function 17 -/
def pte_Make.f (a0 : Bool) (a1 : Int) (a2 : Bool) (a3 : Int) : Option (Int) := if a0 = true then (if a2 = true then (some (Go.bits .or .u32 (Go.bits .or .u32 (Go.bits .or .u32 (Go.bits .and .u32 a3 2097151) ((((Go.bits .and .i64 a1 3) % 4294967296) * 134217728) % 4294967296)) 2147483648) 67108864)) else (some (Go.bits .or .u32 (Go.bits .or .u32 (Go.bits .and .u32 a3 2097151) ((((Go.bits .and .i64 a1 3) % 4294967296) * 134217728) % 4294967296)) 2147483648))) else (if a2 = true then (some (Go.bits .or .u32 (Go.bits .or .u32 (Go.bits .and .u32 a3 2097151) ((((Go.bits .and .i64 a1 3) % 4294967296) * 134217728) % 4294967296)) 67108864)) else (some (Go.bits .or .u32 (Go.bits .and .u32 a3 2097151) ((((Go.bits .and .i64 a1 3) % 4294967296) * 134217728) % 4294967296))))
set_option maxHeartbeats 8000000 in
set_option maxRecDepth 100000 in
theorem pte_Make.calls (a0 : Bool) (a1 : Int) (a2 : Bool) (a3 : Int) (r : Int) (w : World) (h : pte_Make.f a0 a1 a2 a3 = some r) :
    Calls Try.prog 17 #[.bool a0, .int .i64 a1, .bool a2, .int .u32 a3] w fun e w' => e = .returned (.int .u32 r) ∧ Drawn0 w w' := by
  have H : (if a0 = true then (if a2 = true then (some (Go.bits .or .u32 (Go.bits .or .u32 (Go.bits .or .u32 (Go.bits .and .u32 a3 2097151) ((((Go.bits .and .i64 a1 3) % 4294967296) * 134217728) % 4294967296)) 2147483648) 67108864)) else (some (Go.bits .or .u32 (Go.bits .or .u32 (Go.bits .and .u32 a3 2097151) ((((Go.bits .and .i64 a1 3) % 4294967296) * 134217728) % 4294967296)) 2147483648))) else (if a2 = true then (some (Go.bits .or .u32 (Go.bits .or .u32 (Go.bits .and .u32 a3 2097151) ((((Go.bits .and .i64 a1 3) % 4294967296) * 134217728) % 4294967296)) 67108864)) else (some (Go.bits .or .u32 (Go.bits .and .u32 a3 2097151) ((((Go.bits .and .i64 a1 3) % 4294967296) * 134217728) % 4294967296))))) = some r := h
  clear h
  by_cases c5 : a0 = true
  · subst c5
    have H1 : (if a2 = true then (some (Go.bits .or .u32 (Go.bits .or .u32 (Go.bits .or .u32 (Go.bits .and .u32 a3 2097151) ((((Go.bits .and .i64 a1 3) % 4294967296) * 134217728) % 4294967296)) 2147483648) 67108864)) else (some (Go.bits .or .u32 (Go.bits .or .u32 (Go.bits .and .u32 a3 2097151) ((((Go.bits .and .i64 a1 3) % 4294967296) * 134217728) % 4294967296)) 2147483648))) = some r := by rw [if_pos rfl] at H; exact H
    clear H
    have H := H1
    clear H1
    by_cases c6 : a2 = true
    · subst c6
      have H1 : (some (Go.bits .or .u32 (Go.bits .or .u32 (Go.bits .or .u32 (Go.bits .and .u32 a3 2097151) ((((Go.bits .and .i64 a1 3) % 4294967296) * 134217728) % 4294967296)) 2147483648) 67108864)) = some r := by rw [if_pos rfl] at H; exact H
      clear H
      have H := H1
      clear H1
      obtain rfl := Option.some.inj H
      go_enter Try.func17, Try.ntmps17
      go_wp2
      go_ret
      exact ⟨by first | rfl | (simp; done) | (simp [*]; done), by repeat (first | exact Drawn0.refl _ | apply Drawn0.step)⟩
    · replace c6 := Bool.eq_false_iff.mpr c6
      subst c6
      have H1 : (some (Go.bits .or .u32 (Go.bits .or .u32 (Go.bits .and .u32 a3 2097151) ((((Go.bits .and .i64 a1 3) % 4294967296) * 134217728) % 4294967296)) 2147483648)) = some r := by rw [if_neg (show ¬ (false = true) by decide)] at H; exact H
      clear H
      have H := H1
      clear H1
      obtain rfl := Option.some.inj H
      go_enter Try.func17, Try.ntmps17
      go_wp2
      go_ret
      exact ⟨by first | rfl | (simp; done) | (simp [*]; done), by repeat (first | exact Drawn0.refl _ | apply Drawn0.step)⟩
  · replace c5 := Bool.eq_false_iff.mpr c5
    subst c5
    have H1 : (if a2 = true then (some (Go.bits .or .u32 (Go.bits .or .u32 (Go.bits .and .u32 a3 2097151) ((((Go.bits .and .i64 a1 3) % 4294967296) * 134217728) % 4294967296)) 67108864)) else (some (Go.bits .or .u32 (Go.bits .and .u32 a3 2097151) ((((Go.bits .and .i64 a1 3) % 4294967296) * 134217728) % 4294967296)))) = some r := by rw [if_neg (show ¬ (false = true) by decide)] at H; exact H
    clear H
    have H := H1
    clear H1
    by_cases c7 : a2 = true
    · subst c7
      have H1 : (some (Go.bits .or .u32 (Go.bits .or .u32 (Go.bits .and .u32 a3 2097151) ((((Go.bits .and .i64 a1 3) % 4294967296) * 134217728) % 4294967296)) 67108864)) = some r := by rw [if_pos rfl] at H; exact H
      clear H
      have H := H1
      clear H1
      obtain rfl := Option.some.inj H
      go_enter Try.func17, Try.ntmps17
      go_wp2
      go_ret
      exact ⟨by first | rfl | (simp; done) | (simp [*]; done), by repeat (first | exact Drawn0.refl _ | apply Drawn0.step)⟩
    · replace c7 := Bool.eq_false_iff.mpr c7
      subst c7
      have H1 : (some (Go.bits .or .u32 (Go.bits .and .u32 a3 2097151) ((((Go.bits .and .i64 a1 3) % 4294967296) * 134217728) % 4294967296))) = some r := by rw [if_neg (show ¬ (false = true) by decide)] at H; exact H
      clear H
      have H := H1
      clear H1
      obtain rfl := Option.some.inj H
      go_enter Try.func17, Try.ntmps17
      go_wp2
      go_ret
      exact ⟨by first | rfl | (simp; done) | (simp [*]; done), by repeat (first | exact Drawn0.refl _ | apply Drawn0.step)⟩

/-! ### camshaftlaw03_alive: function 14 -/
def camshaftlaw03_alive.f  : Option (Bool) := (pte_Make.f true 3 false 3).bind fun t102 => (if t102 = 2550136835 then ((pte_Place.f t102 511).bind fun t103 => (if t103 = 2047 then (some true) else (some false))) else (some false))
set_option maxHeartbeats 8000000 in
set_option maxRecDepth 100000 in
theorem camshaftlaw03_alive.calls  (r : Bool) (w : World) (h : camshaftlaw03_alive.f  = some r) :
    Calls Try.prog 14 #[] w fun e w' => e = .returned (.bool r) ∧ Drawn0 w w' := by
  have H : ((pte_Make.f true 3 false 3).bind fun t102 => (if t102 = 2550136835 then ((pte_Place.f t102 511).bind fun t103 => (if t103 = 2047 then (some true) else (some false))) else (some false))) = some r := h
  clear h
  replace H := Option.bind_eq_some_iff.mp H
  obtain ⟨t102, A10, H⟩ := H
  replace H : (if t102 = 2550136835 then ((pte_Place.f t102 511).bind fun t103 => (if t103 = 2047 then (some true) else (some false))) else (some false)) = some r := H
  have A1 := Aside0.mk A10
  clear A10
  by_cases c2 : t102 = 2550136835
  · rw [if_pos c2] at H
    have c2b0 : (t102 == 2550136835) = true := beq_iff_eq.mpr c2
    have c2b1 : (t102 != 2550136835) = false := bne_eq_false_iff_eq.mpr c2
    clear c2
    replace H := Option.bind_eq_some_iff.mp H
    obtain ⟨t103, A30, H⟩ := H
    replace H : (if t103 = 2047 then (some true) else (some false)) = some r := H
    have A3 := Aside0.mk A30
    clear A30
    by_cases c4 : t103 = 2047
    · rw [if_pos c4] at H
      have c4b0 : (t103 == 2047) = true := beq_iff_eq.mpr c4
      have c4b1 : (t103 != 2047) = false := bne_eq_false_iff_eq.mpr c4
      clear c4
      obtain rfl := Option.some.inj H
      go_enter Try.func14, Try.ntmps14
      go_wp2_with (first | ((with_reducible refine gate_callee (f := 17) rfl ?_); refine goesL_ (some 2) rfl rfl Try.func17 (by kernel_rfl) rfl #[.bool true, .int .i64 3, .bool false, .int .u32 3] rfl (by (try simp only [List.map_toArray, List.map_cons, List.map_nil]); first | done | rfl | (simp only [List.length_drop, List.length_take]; rfl)) ?_; (with_reducible refine (pte_Make.calls true 3 false 3 t102 _ A1.out).mono ?_); rintro e w' ⟨rfl, ⟨nd, rfl⟩⟩; refine ⟨_, rfl, ?_⟩) | (go_at_call 15; (with_reducible refine (pte_Place.calls t102 511 t103 _ A3.out).mono ?_); rintro e w' ⟨rfl, ⟨nd, rfl⟩⟩))
      go_ret
      exact ⟨by first | rfl | (simp; done) | (simp [*]; done), by repeat (first | exact Drawn0.refl _ | apply Drawn0.step)⟩
    · rw [if_neg c4] at H
      have c4b0 : (t103 == 2047) = false := beq_eq_false_iff_ne.mpr c4
      have c4b1 : (t103 != 2047) = true := bne_iff_ne.mpr c4
      obtain rfl := Option.some.inj H
      go_enter Try.func14, Try.ntmps14
      go_wp2_with (first | ((with_reducible refine gate_callee (f := 17) rfl ?_); refine goesL_ (some 2) rfl rfl Try.func17 (by kernel_rfl) rfl #[.bool true, .int .i64 3, .bool false, .int .u32 3] rfl (by (try simp only [List.map_toArray, List.map_cons, List.map_nil]); first | done | rfl | (simp only [List.length_drop, List.length_take]; rfl)) ?_; (with_reducible refine (pte_Make.calls true 3 false 3 t102 _ A1.out).mono ?_); rintro e w' ⟨rfl, ⟨nd, rfl⟩⟩; refine ⟨_, rfl, ?_⟩) | (go_at_call 15; (with_reducible refine (pte_Place.calls t102 511 t103 _ A3.out).mono ?_); rintro e w' ⟨rfl, ⟨nd, rfl⟩⟩))
      go_ret
      exact ⟨by first | rfl | (simp; done) | (simp [*]; done), by repeat (first | exact Drawn0.refl _ | apply Drawn0.step)⟩
  · rw [if_neg c2] at H
    have c2b0 : (t102 == 2550136835) = false := beq_eq_false_iff_ne.mpr c2
    have c2b1 : (t102 != 2550136835) = true := bne_iff_ne.mpr c2
    obtain rfl := Option.some.inj H
    go_enter Try.func14, Try.ntmps14
    go_wp2_with (first | ((with_reducible refine gate_callee (f := 17) rfl ?_); refine goesL_ (some 2) rfl rfl Try.func17 (by kernel_rfl) rfl #[.bool true, .int .i64 3, .bool false, .int .u32 3] rfl (by (try simp only [List.map_toArray, List.map_cons, List.map_nil]); first | done | rfl | (simp only [List.length_drop, List.length_take]; rfl)) ?_; (with_reducible refine (pte_Make.calls true 3 false 3 t102 _ A1.out).mono ?_); rintro e w' ⟨rfl, ⟨nd, rfl⟩⟩; refine ⟨_, rfl, ?_⟩))
    go_ret
    exact ⟨by first | rfl | (simp; done) | (simp [*]; done), by repeat (first | exact Drawn0.refl _ | apply Drawn0.step)⟩

/-! ### pte_Is: function 19 -/
def pte_Is.f (a0 : Int) : Option (Bool) := some ((Go.bits .and .u32 a0 2147483648) != 0)
set_option maxHeartbeats 8000000 in
set_option maxRecDepth 100000 in
theorem pte_Is.calls (a0 : Int) (r : Bool) (w : World) (h : pte_Is.f a0 = some r) :
    Calls Try.prog 19 #[.int .u32 a0] w fun e w' => e = .returned (.bool r) ∧ Drawn0 w w' := by
  have H : (some ((Go.bits .and .u32 a0 2147483648) != 0)) = some r := h
  clear h
  obtain rfl := Option.some.inj H
  go_enter Try.func19, Try.ntmps19
  go_wp2
  go_ret
  exact ⟨by first | rfl | (simp; done) | (simp [*]; done), by repeat (first | exact Drawn0.refl _ | apply Drawn0.step)⟩

/-! ### pte_Written: function 20 -/
def pte_Written.f (a0 : Int) : Option (Bool) := some ((Go.bits .and .u32 a0 67108864) != 0)
set_option maxHeartbeats 8000000 in
set_option maxRecDepth 100000 in
theorem pte_Written.calls (a0 : Int) (r : Bool) (w : World) (h : pte_Written.f a0 = some r) :
    Calls Try.prog 20 #[.int .u32 a0] w fun e w' => e = .returned (.bool r) ∧ Drawn0 w w' := by
  have H : (some ((Go.bits .and .u32 a0 67108864) != 0)) = some r := h
  clear h
  obtain rfl := Option.some.inj H
  go_enter Try.func20, Try.ntmps20
  go_wp2
  go_ret
  exact ⟨by first | rfl | (simp; done) | (simp [*]; done), by repeat (first | exact Drawn0.refl _ | apply Drawn0.step)⟩

/-! ### pte_Prot: function 21 -/
def pte_Prot.f (a0 : Int) : Option (Int) := some (wrap64 (Go.bits .and .u32 (a0 / 134217728) 3))
set_option maxHeartbeats 8000000 in
set_option maxRecDepth 100000 in
theorem pte_Prot.calls (a0 : Int) (r : Int) (w : World) (h : pte_Prot.f a0 = some r) :
    Calls Try.prog 21 #[.int .u32 a0] w fun e w' => e = .returned (.int .i64 r) ∧ Drawn0 w w' := by
  have H : (some (wrap64 (Go.bits .and .u32 (a0 / 134217728) 3))) = some r := h
  clear h
  obtain rfl := Option.some.inj H
  go_enter Try.func21, Try.ntmps21
  go_wp2
  go_ret
  exact ⟨by first | rfl | (simp; done) | (simp [*]; done), by repeat (first | exact Drawn0.refl _ | apply Drawn0.step)⟩

/-! ### pte_May: function 32 -/
def pte_May.f (a0 : Int) (a1 : Bool) (a2 : Bool) : Option (Bool) := (pte_Prot.f a0).bind fun t104 => (if a1 = true then (if a2 = true then (some (t104 == 3)) else (some (decide (t104 ≥ 2)))) else (some (t104 != 0)))
set_option maxHeartbeats 8000000 in
set_option maxRecDepth 100000 in
theorem pte_May.calls (a0 : Int) (a1 : Bool) (a2 : Bool) (r : Bool) (w : World) (h : pte_May.f a0 a1 a2 = some r) :
    Calls Try.prog 32 #[.int .u32 a0, .bool a1, .bool a2] w fun e w' => e = .returned (.bool r) ∧ Drawn0 w w' := by
  have H : ((pte_Prot.f a0).bind fun t104 => (if a1 = true then (if a2 = true then (some (t104 == 3)) else (some (decide (t104 ≥ 2)))) else (some (t104 != 0)))) = some r := h
  clear h
  replace H := Option.bind_eq_some_iff.mp H
  obtain ⟨t104, A40, H⟩ := H
  replace H : (if a1 = true then (if a2 = true then (some (t104 == 3)) else (some (decide (t104 ≥ 2)))) else (some (t104 != 0))) = some r := H
  have A4 := Aside0.mk A40
  clear A40
  by_cases c5 : a1 = true
  · subst c5
    have H1 : (if a2 = true then (some (t104 == 3)) else (some (decide (t104 ≥ 2)))) = some r := by rw [if_pos rfl] at H; exact H
    clear H
    have H := H1
    clear H1
    by_cases c6 : a2 = true
    · subst c6
      have H1 : (some (t104 == 3)) = some r := by rw [if_pos rfl] at H; exact H
      clear H
      have H := H1
      clear H1
      obtain rfl := Option.some.inj H
      go_enter Try.func32, Try.ntmps32
      go_wp2_with (first | ((with_reducible refine gate_callee (f := 21) rfl ?_); refine goesL_ (some 9) rfl rfl Try.func21 (by kernel_rfl) rfl #[.int .u32 a0] rfl (by (try simp only [List.map_toArray, List.map_cons, List.map_nil]); first | done | rfl | (simp only [List.length_drop, List.length_take]; rfl)) ?_; (with_reducible refine (pte_Prot.calls a0 t104 _ A4.out).mono ?_); rintro e w' ⟨rfl, ⟨nd, rfl⟩⟩; refine ⟨_, rfl, ?_⟩))
      go_ret
      exact ⟨by first | rfl | (simp; done) | (simp [*]; done), by repeat (first | exact Drawn0.refl _ | apply Drawn0.step)⟩
    · replace c6 := Bool.eq_false_iff.mpr c6
      subst c6
      have H1 : (some (decide (t104 ≥ 2))) = some r := by rw [if_neg (show ¬ (false = true) by decide)] at H; exact H
      clear H
      have H := H1
      clear H1
      obtain rfl := Option.some.inj H
      go_enter Try.func32, Try.ntmps32
      go_wp2_with (first | ((with_reducible refine gate_callee (f := 21) rfl ?_); refine goesL_ (some 9) rfl rfl Try.func21 (by kernel_rfl) rfl #[.int .u32 a0] rfl (by (try simp only [List.map_toArray, List.map_cons, List.map_nil]); first | done | rfl | (simp only [List.length_drop, List.length_take]; rfl)) ?_; (with_reducible refine (pte_Prot.calls a0 t104 _ A4.out).mono ?_); rintro e w' ⟨rfl, ⟨nd, rfl⟩⟩; refine ⟨_, rfl, ?_⟩))
      go_ret
      exact ⟨by first | rfl | (simp; done) | (simp [*]; done), by repeat (first | exact Drawn0.refl _ | apply Drawn0.step)⟩
  · replace c5 := Bool.eq_false_iff.mpr c5
    subst c5
    have H1 : (some (t104 != 0)) = some r := by rw [if_neg (show ¬ (false = true) by decide)] at H; exact H
    clear H
    have H := H1
    clear H1
    obtain rfl := Option.some.inj H
    go_enter Try.func32, Try.ntmps32
    go_wp2_with (first | ((with_reducible refine gate_callee (f := 21) rfl ?_); refine goesL_ (some 9) rfl rfl Try.func21 (by kernel_rfl) rfl #[.int .u32 a0] rfl (by (try simp only [List.map_toArray, List.map_cons, List.map_nil]); first | done | rfl | (simp only [List.length_drop, List.length_take]; rfl)) ?_; (with_reducible refine (pte_Prot.calls a0 t104 _ A4.out).mono ?_); rintro e w' ⟨rfl, ⟨nd, rfl⟩⟩; refine ⟨_, rfl, ?_⟩))
    go_ret
    exact ⟨by first | rfl | (simp; done) | (simp [*]; done), by repeat (first | exact Drawn0.refl _ | apply Drawn0.step)⟩

/-! ### camshaftref03_Bit: function 41 -/
def camshaftref03_Bit.l0 : Nat → Int → Int → Int → Option (Bool)
  | 0, _, _, _ => none
  | k + 1, x0, x1, x5 => if x5 < x1 then (camshaftref03_Bit.l0 k ((Int.tdiv x0 2) % 4294967296) x1 (wrap64 (x5 + 1))) else (some ((Int.tmod x0 2) == 1))
def camshaftref03_Bit.f (k : Nat) (a0 : Int) (a1 : Int) : Option (Bool) := camshaftref03_Bit.l0 k a0 a1 0
theorem camshaftref03_Bit.mono_l : ∀ k, (∀ y0 y1 y2, LeO (camshaftref03_Bit.l0 k y0 y1 y2) (camshaftref03_Bit.l0 (k + 1) y0 y1 y2))
  | 0 => fun _ _ _ r h => by simp [camshaftref03_Bit.l0] at h
  | k + 1 => by
    have ih0 := camshaftref03_Bit.mono_l k
    · intro y0 y1 y2
      unfold camshaftref03_Bit.l0
      repeat' first
      | (with_reducible exact ih0 _ _ _)
      | (with_reducible exact LeO.refl _)
      | (with_reducible exact LeO.none _)
      | (with_reducible refine LeO.ite ?_ ?_)
      | (with_reducible refine LeO.bind ?_ (fun _ => ?_))
      | exact ih0 _ _ _
      | exact LeO.none _
      | refine LeO.ite ?_ ?_
      | refine LeO.bind ?_ (fun _ => ?_)
theorem camshaftref03_Bit.mono : ∀ a0 a1 k, LeO (camshaftref03_Bit.f k a0 a1) (camshaftref03_Bit.f (k + 1) a0 a1) := by
  intro a0 a1 k
  have ih0 := camshaftref03_Bit.mono_l k
  unfold camshaftref03_Bit.f
  repeat' first
      | (with_reducible exact ih0 _ _ _)
      | (with_reducible exact LeO.refl _)
      | (with_reducible exact LeO.none _)
      | (with_reducible refine LeO.ite ?_ ?_)
      | (with_reducible refine LeO.bind ?_ (fun _ => ?_))
      | exact ih0 _ _ _
      | exact LeO.none _
      | refine LeO.ite ?_ ?_
      | refine LeO.bind ?_ (fun _ => ?_)
set_option maxHeartbeats 8000000 in
set_option maxRecDepth 100000 in
theorem camshaftref03_Bit.calls (k : Nat) (a0 : Int) (a1 : Int) (r : Bool) (w : World) (h : camshaftref03_Bit.f k a0 a1 = some r) :
    Calls Try.prog 41 #[.int .u32 a0, .int .i64 a1] w fun e w' => e = .returned (.bool r) ∧ Drawn0 w w' := by
  have H : (camshaftref03_Bit.l0 k a0 a1 0) = some r := h
  clear h
  have H' := Aside0.mk H
  clear H
  go_enter Try.func41, Try.ntmps41
  go_wp2
  go_loopg [0, 5] k (fun kq v0 v5 w' => ∃ (x0_1 : Int) (x5_1 : Int), v0 = .int .u32 x0_1 ∧ v5 = .int .i64 x5_1 ∧ Aside0 (camshaftref03_Bit.l0 kq x0_1 a1 x5_1 = some r) ∧ Aside0 (kq ≤ k) ∧ Drawn0 w w')
  case atStart => exact ⟨(a0), (0), (by first | rfl | (simp; done) | (simp [*]; done)), (by first | rfl | (simp; done) | (simp [*]; done)), H', ⟨Nat.le_refl _⟩, by repeat (first | exact Drawn0.refl _ | apply Drawn0.step)⟩
  case round =>
    clear H'
    try clear p2
    obtain ⟨x0_1, x5_1, rfl, rfl, HA, HK1, ⟨m1, rfl⟩⟩ := hrel
    cases gk with
    | zero => exact absurd HA.out (by simp [camshaftref03_Bit.l0])
    | succ k1 =>
      have H := HA.out
      clear HA
      simp only [camshaftref03_Bit.l0] at H
      by_cases c3 : x5_1 < a1
      · rw [if_pos c3] at H
        have c3b0 : decide (x5_1 < a1) = true := decide_eq_true c3
        clear c3
        have H' := Aside0.mk H
        clear H
        go_wp2
        go_roundg k1
        case measure => have := HK1.out; omega
        case rel => exact ⟨((Int.tdiv x0_1 2) % 4294967296), (wrap64 (x5_1 + 1)), (by first | rfl | (simp; done) | (simp [*]; done)), (by first | rfl | (simp; done) | (simp [*]; done)), H', ⟨by have := HK1.out; omega⟩, by repeat (first | exact Drawn0.refl _ | apply Drawn0.step)⟩
      · rw [if_neg c3] at H
        have c3b0 : decide (x5_1 < a1) = false := decide_eq_false c3
        clear c3
        obtain rfl := Option.some.inj H
        go_wp2
        go_ret
        exact ⟨by first | rfl | (simp; done) | (simp [*]; done), by repeat (first | exact Drawn0.refl _ | apply Drawn0.step)⟩

/-! ### camshaftref03_Prot: function 40 -/
def camshaftref03_Prot.f (k : Nat) (a0 : Int) : Option (Int) := (camshaftref03_Bit.f k a0 27).bind fun t105 => (if t105 = true then ((camshaftref03_Bit.f k a0 28).bind fun t106 => (if t106 = true then (some (1 + 2)) else (some 1))) else ((camshaftref03_Bit.f k a0 28).bind fun t107 => (if t107 = true then (some (0 + 2)) else (some 0))))
theorem camshaftref03_Prot.mono : ∀ a0 k, LeO (camshaftref03_Prot.f k a0) (camshaftref03_Prot.f (k + 1) a0) := by
  intro a0 k
  unfold camshaftref03_Prot.f
  repeat' first
      | (with_reducible exact camshaftref03_Bit.mono _ _ _)
      | (with_reducible exact LeO.refl _)
      | (with_reducible exact LeO.none _)
      | (with_reducible refine LeO.ite ?_ ?_)
      | (with_reducible refine LeO.bind ?_ (fun _ => ?_))
      | exact camshaftref03_Bit.mono _ _ _
      | exact LeO.none _
      | refine LeO.ite ?_ ?_
      | refine LeO.bind ?_ (fun _ => ?_)
set_option maxHeartbeats 8000000 in
set_option maxRecDepth 100000 in
theorem camshaftref03_Prot.calls (k : Nat) (a0 : Int) (r : Int) (w : World) (h : camshaftref03_Prot.f k a0 = some r) :
    Calls Try.prog 40 #[.int .u32 a0] w fun e w' => e = .returned (.int .i64 r) ∧ Drawn0 w w' := by
  have H : ((camshaftref03_Bit.f k a0 27).bind fun t105 => (if t105 = true then ((camshaftref03_Bit.f k a0 28).bind fun t106 => (if t106 = true then (some (1 + 2)) else (some 1))) else ((camshaftref03_Bit.f k a0 28).bind fun t107 => (if t107 = true then (some (0 + 2)) else (some 0))))) = some r := h
  clear h
  replace H := Option.bind_eq_some_iff.mp H
  obtain ⟨t105, A20, H⟩ := H
  replace H : (if t105 = true then ((camshaftref03_Bit.f k a0 28).bind fun t106 => (if t106 = true then (some (1 + 2)) else (some 1))) else ((camshaftref03_Bit.f k a0 28).bind fun t107 => (if t107 = true then (some (0 + 2)) else (some 0)))) = some r := H
  have A2 := Aside0.mk A20
  clear A20
  by_cases c3 : t105 = true
  · subst c3
    have H1 : ((camshaftref03_Bit.f k a0 28).bind fun t106 => (if t106 = true then (some (1 + 2)) else (some 1))) = some r := by rw [if_pos rfl] at H; exact H
    clear H
    have H := H1
    clear H1
    replace H := Option.bind_eq_some_iff.mp H
    obtain ⟨t106, A40, H⟩ := H
    replace H : (if t106 = true then (some (1 + 2)) else (some 1)) = some r := H
    have A4 := Aside0.mk A40
    clear A40
    by_cases c5 : t106 = true
    · subst c5
      have H1 : (some (1 + 2)) = some r := by rw [if_pos rfl] at H; exact H
      clear H
      have H := H1
      clear H1
      obtain rfl := Option.some.inj H
      go_enter Try.func40, Try.ntmps40
      go_wp2_with (first | ((with_reducible refine gate_callee (f := 41) rfl ?_); refine goesL_ (some 5) rfl rfl Try.func41 (by kernel_rfl) rfl #[.int .u32 a0, .int .i64 27] rfl (by (try simp only [List.map_toArray, List.map_cons, List.map_nil]); first | done | rfl | (simp only [List.length_drop, List.length_take]; rfl)) ?_; (with_reducible refine (camshaftref03_Bit.calls k a0 27 true _ A2.out).mono ?_); rintro e w' ⟨rfl, ⟨nd, rfl⟩⟩; refine ⟨_, rfl, ?_⟩) | ((with_reducible refine gate_callee (f := 41) rfl ?_); refine goesL_ (some 7) rfl rfl Try.func41 (by kernel_rfl) rfl #[.int .u32 a0, .int .i64 28] rfl (by (try simp only [List.map_toArray, List.map_cons, List.map_nil]); first | done | rfl | (simp only [List.length_drop, List.length_take]; rfl)) ?_; (with_reducible refine (camshaftref03_Bit.calls k a0 28 true _ A4.out).mono ?_); rintro e w' ⟨rfl, ⟨nd, rfl⟩⟩; refine ⟨_, rfl, ?_⟩))
      go_ret
      exact ⟨by first | rfl | (simp; done) | (simp [*]; done), by repeat (first | exact Drawn0.refl _ | apply Drawn0.step)⟩
    · replace c5 := Bool.eq_false_iff.mpr c5
      subst c5
      have H1 : (some 1) = some r := by rw [if_neg (show ¬ (false = true) by decide)] at H; exact H
      clear H
      have H := H1
      clear H1
      obtain rfl := Option.some.inj H
      go_enter Try.func40, Try.ntmps40
      go_wp2_with (first | ((with_reducible refine gate_callee (f := 41) rfl ?_); refine goesL_ (some 5) rfl rfl Try.func41 (by kernel_rfl) rfl #[.int .u32 a0, .int .i64 27] rfl (by (try simp only [List.map_toArray, List.map_cons, List.map_nil]); first | done | rfl | (simp only [List.length_drop, List.length_take]; rfl)) ?_; (with_reducible refine (camshaftref03_Bit.calls k a0 27 true _ A2.out).mono ?_); rintro e w' ⟨rfl, ⟨nd, rfl⟩⟩; refine ⟨_, rfl, ?_⟩) | ((with_reducible refine gate_callee (f := 41) rfl ?_); refine goesL_ (some 7) rfl rfl Try.func41 (by kernel_rfl) rfl #[.int .u32 a0, .int .i64 28] rfl (by (try simp only [List.map_toArray, List.map_cons, List.map_nil]); first | done | rfl | (simp only [List.length_drop, List.length_take]; rfl)) ?_; (with_reducible refine (camshaftref03_Bit.calls k a0 28 false _ A4.out).mono ?_); rintro e w' ⟨rfl, ⟨nd, rfl⟩⟩; refine ⟨_, rfl, ?_⟩))
      go_ret
      exact ⟨by first | rfl | (simp; done) | (simp [*]; done), by repeat (first | exact Drawn0.refl _ | apply Drawn0.step)⟩
  · replace c3 := Bool.eq_false_iff.mpr c3
    subst c3
    have H1 : ((camshaftref03_Bit.f k a0 28).bind fun t107 => (if t107 = true then (some (0 + 2)) else (some 0))) = some r := by rw [if_neg (show ¬ (false = true) by decide)] at H; exact H
    clear H
    have H := H1
    clear H1
    replace H := Option.bind_eq_some_iff.mp H
    obtain ⟨t107, A60, H⟩ := H
    replace H : (if t107 = true then (some (0 + 2)) else (some 0)) = some r := H
    have A6 := Aside0.mk A60
    clear A60
    by_cases c7 : t107 = true
    · subst c7
      have H1 : (some (0 + 2)) = some r := by rw [if_pos rfl] at H; exact H
      clear H
      have H := H1
      clear H1
      obtain rfl := Option.some.inj H
      go_enter Try.func40, Try.ntmps40
      go_wp2_with (first | ((with_reducible refine gate_callee (f := 41) rfl ?_); refine goesL_ (some 5) rfl rfl Try.func41 (by kernel_rfl) rfl #[.int .u32 a0, .int .i64 27] rfl (by (try simp only [List.map_toArray, List.map_cons, List.map_nil]); first | done | rfl | (simp only [List.length_drop, List.length_take]; rfl)) ?_; (with_reducible refine (camshaftref03_Bit.calls k a0 27 false _ A2.out).mono ?_); rintro e w' ⟨rfl, ⟨nd, rfl⟩⟩; refine ⟨_, rfl, ?_⟩) | ((with_reducible refine gate_callee (f := 41) rfl ?_); refine goesL_ (some 7) rfl rfl Try.func41 (by kernel_rfl) rfl #[.int .u32 a0, .int .i64 28] rfl (by (try simp only [List.map_toArray, List.map_cons, List.map_nil]); first | done | rfl | (simp only [List.length_drop, List.length_take]; rfl)) ?_; (with_reducible refine (camshaftref03_Bit.calls k a0 28 true _ A6.out).mono ?_); rintro e w' ⟨rfl, ⟨nd, rfl⟩⟩; refine ⟨_, rfl, ?_⟩))
      go_ret
      exact ⟨by first | rfl | (simp; done) | (simp [*]; done), by repeat (first | exact Drawn0.refl _ | apply Drawn0.step)⟩
    · replace c7 := Bool.eq_false_iff.mpr c7
      subst c7
      have H1 : (some 0) = some r := by rw [if_neg (show ¬ (false = true) by decide)] at H; exact H
      clear H
      have H := H1
      clear H1
      obtain rfl := Option.some.inj H
      go_enter Try.func40, Try.ntmps40
      go_wp2_with (first | ((with_reducible refine gate_callee (f := 41) rfl ?_); refine goesL_ (some 5) rfl rfl Try.func41 (by kernel_rfl) rfl #[.int .u32 a0, .int .i64 27] rfl (by (try simp only [List.map_toArray, List.map_cons, List.map_nil]); first | done | rfl | (simp only [List.length_drop, List.length_take]; rfl)) ?_; (with_reducible refine (camshaftref03_Bit.calls k a0 27 false _ A2.out).mono ?_); rintro e w' ⟨rfl, ⟨nd, rfl⟩⟩; refine ⟨_, rfl, ?_⟩) | ((with_reducible refine gate_callee (f := 41) rfl ?_); refine goesL_ (some 7) rfl rfl Try.func41 (by kernel_rfl) rfl #[.int .u32 a0, .int .i64 28] rfl (by (try simp only [List.map_toArray, List.map_cons, List.map_nil]); first | done | rfl | (simp only [List.length_drop, List.length_take]; rfl)) ?_; (with_reducible refine (camshaftref03_Bit.calls k a0 28 false _ A6.out).mono ?_); rintro e w' ⟨rfl, ⟨nd, rfl⟩⟩; refine ⟨_, rfl, ?_⟩))
      go_ret
      exact ⟨by first | rfl | (simp; done) | (simp [*]; done), by repeat (first | exact Drawn0.refl _ | apply Drawn0.step)⟩

/-! ### camshaftref03_May: function 42 -/
def camshaftref03_May.f (k : Nat) (a0 : Int) (a1 : Bool) (a2 : Bool) : Option (Bool) := (camshaftref03_Prot.f k a0).bind fun t108 => (if a1 = true then (if t108 = 3 then (some true) else (if t108 = 2 then (some (!a2)) else (some false))) else (some (decide (t108 > 0))))
theorem camshaftref03_May.mono : ∀ a0 a1 a2 k, LeO (camshaftref03_May.f k a0 a1 a2) (camshaftref03_May.f (k + 1) a0 a1 a2) := by
  intro a0 a1 a2 k
  unfold camshaftref03_May.f
  repeat' first
      | (with_reducible exact camshaftref03_Prot.mono _ _)
      | (with_reducible exact LeO.refl _)
      | (with_reducible exact LeO.none _)
      | (with_reducible refine LeO.ite ?_ ?_)
      | (with_reducible refine LeO.bind ?_ (fun _ => ?_))
      | exact camshaftref03_Prot.mono _ _
      | exact LeO.none _
      | refine LeO.ite ?_ ?_
      | refine LeO.bind ?_ (fun _ => ?_)
set_option maxHeartbeats 8000000 in
set_option maxRecDepth 100000 in
theorem camshaftref03_May.calls (k : Nat) (a0 : Int) (a1 : Bool) (a2 : Bool) (r : Bool) (w : World) (h : camshaftref03_May.f k a0 a1 a2 = some r) :
    Calls Try.prog 42 #[.int .u32 a0, .bool a1, .bool a2] w fun e w' => e = .returned (.bool r) ∧ Drawn0 w w' := by
  have H : ((camshaftref03_Prot.f k a0).bind fun t108 => (if a1 = true then (if t108 = 3 then (some true) else (if t108 = 2 then (some (!a2)) else (some false))) else (some (decide (t108 > 0))))) = some r := h
  clear h
  replace H := Option.bind_eq_some_iff.mp H
  obtain ⟨t108, A40, H⟩ := H
  replace H : (if a1 = true then (if t108 = 3 then (some true) else (if t108 = 2 then (some (!a2)) else (some false))) else (some (decide (t108 > 0)))) = some r := H
  have A4 := Aside0.mk A40
  clear A40
  by_cases c5 : a1 = true
  · subst c5
    have H1 : (if t108 = 3 then (some true) else (if t108 = 2 then (some (!a2)) else (some false))) = some r := by rw [if_pos rfl] at H; exact H
    clear H
    have H := H1
    clear H1
    by_cases c6 : t108 = 3
    · rw [if_pos c6] at H
      have c6b0 : (t108 == 3) = true := beq_iff_eq.mpr c6
      have c6b1 : (t108 != 3) = false := bne_eq_false_iff_eq.mpr c6
      clear c6
      obtain rfl := Option.some.inj H
      go_enter Try.func42, Try.ntmps42
      go_wp2_with (first | ((with_reducible refine gate_callee (f := 40) rfl ?_); refine goesL_ (some 9) rfl rfl Try.func40 (by kernel_rfl) rfl #[.int .u32 a0] rfl (by (try simp only [List.map_toArray, List.map_cons, List.map_nil]); first | done | rfl | (simp only [List.length_drop, List.length_take]; rfl)) ?_; (with_reducible refine (camshaftref03_Prot.calls k a0 t108 _ A4.out).mono ?_); rintro e w' ⟨rfl, ⟨nd, rfl⟩⟩; refine ⟨_, rfl, ?_⟩))
      go_ret
      exact ⟨by first | rfl | (simp; done) | (simp [*]; done), by repeat (first | exact Drawn0.refl _ | apply Drawn0.step)⟩
    · rw [if_neg c6] at H
      have c6b0 : (t108 == 3) = false := beq_eq_false_iff_ne.mpr c6
      have c6b1 : (t108 != 3) = true := bne_iff_ne.mpr c6
      by_cases c7 : t108 = 2
      · rw [if_pos c7] at H
        have c7b0 : (t108 == 2) = true := beq_iff_eq.mpr c7
        have c7b1 : (t108 != 2) = false := bne_eq_false_iff_eq.mpr c7
        clear c7
        obtain rfl := Option.some.inj H
        go_enter Try.func42, Try.ntmps42
        go_wp2_with (first | ((with_reducible refine gate_callee (f := 40) rfl ?_); refine goesL_ (some 9) rfl rfl Try.func40 (by kernel_rfl) rfl #[.int .u32 a0] rfl (by (try simp only [List.map_toArray, List.map_cons, List.map_nil]); first | done | rfl | (simp only [List.length_drop, List.length_take]; rfl)) ?_; (with_reducible refine (camshaftref03_Prot.calls k a0 t108 _ A4.out).mono ?_); rintro e w' ⟨rfl, ⟨nd, rfl⟩⟩; refine ⟨_, rfl, ?_⟩))
        go_ret
        exact ⟨by first | rfl | (simp; done) | (simp [*]; done), by repeat (first | exact Drawn0.refl _ | apply Drawn0.step)⟩
      · rw [if_neg c7] at H
        have c7b0 : (t108 == 2) = false := beq_eq_false_iff_ne.mpr c7
        have c7b1 : (t108 != 2) = true := bne_iff_ne.mpr c7
        obtain rfl := Option.some.inj H
        go_enter Try.func42, Try.ntmps42
        go_wp2_with (first | ((with_reducible refine gate_callee (f := 40) rfl ?_); refine goesL_ (some 9) rfl rfl Try.func40 (by kernel_rfl) rfl #[.int .u32 a0] rfl (by (try simp only [List.map_toArray, List.map_cons, List.map_nil]); first | done | rfl | (simp only [List.length_drop, List.length_take]; rfl)) ?_; (with_reducible refine (camshaftref03_Prot.calls k a0 t108 _ A4.out).mono ?_); rintro e w' ⟨rfl, ⟨nd, rfl⟩⟩; refine ⟨_, rfl, ?_⟩))
        go_ret
        exact ⟨by first | rfl | (simp; done) | (simp [*]; done), by repeat (first | exact Drawn0.refl _ | apply Drawn0.step)⟩
  · replace c5 := Bool.eq_false_iff.mpr c5
    subst c5
    have H1 : (some (decide (t108 > 0))) = some r := by rw [if_neg (show ¬ (false = true) by decide)] at H; exact H
    clear H
    have H := H1
    clear H1
    obtain rfl := Option.some.inj H
    go_enter Try.func42, Try.ntmps42
    go_wp2_with (first | ((with_reducible refine gate_callee (f := 40) rfl ?_); refine goesL_ (some 9) rfl rfl Try.func40 (by kernel_rfl) rfl #[.int .u32 a0] rfl (by (try simp only [List.map_toArray, List.map_cons, List.map_nil]); first | done | rfl | (simp only [List.length_drop, List.length_take]; rfl)) ?_; (with_reducible refine (camshaftref03_Prot.calls k a0 t108 _ A4.out).mono ?_); rintro e w' ⟨rfl, ⟨nd, rfl⟩⟩; refine ⟨_, rfl, ?_⟩))
    go_ret
    exact ⟨by first | rfl | (simp; done) | (simp [*]; done), by repeat (first | exact Drawn0.refl _ | apply Drawn0.step)⟩

/-! ### camshaftref03_Place: function 43 -/
def camshaftref03_Place.f (a0 : Int) (a1 : Int) : Option (Int) := some (((((Int.tmod a0 2097152) * 512) % 4294967296) + (Int.tmod a1 512)) % 4294967296)
set_option maxHeartbeats 8000000 in
set_option maxRecDepth 100000 in
theorem camshaftref03_Place.calls (a0 : Int) (a1 : Int) (r : Int) (w : World) (h : camshaftref03_Place.f a0 a1 = some r) :
    Calls Try.prog 43 #[.int .u32 a0, .int .u32 a1] w fun e w' => e = .returned (.int .u32 r) ∧ Drawn0 w w' := by
  have H : (some (((((Int.tmod a0 2097152) * 512) % 4294967296) + (Int.tmod a1 512)) % 4294967296)) = some r := h
  clear h
  obtain rfl := Option.some.inj H
  go_enter Try.func43, Try.ntmps43
  go_wp2
  go_ret
  exact ⟨by first | rfl | (simp; done) | (simp [*]; done), by repeat (first | exact Drawn0.refl _ | apply Drawn0.step)⟩

/-! ### camshaftlaw03_PteReads: function 10 -/
def camshaftlaw03_PteReads.f (k : Nat) (a0 : Int) (a1 : Int) (a2 : Bool) (a3 : Bool) : Option (Bool) := (camshaftlaw03_alive.f).bind fun t109 => (if t109 = true then ((pte_Prot.f a0).bind fun t110 => ((camshaftref03_Prot.f k a0).bind fun t111 => (if t110 = t111 then ((pte_Frame.f a0).bind fun t112 => (if t112 = (Int.tmod a0 2097152) then ((pte_Is.f a0).bind fun t113 => ((camshaftref03_Bit.f k a0 31).bind fun t114 => (if (t113 == t114) = true then ((pte_Written.f a0).bind fun t115 => ((camshaftref03_Bit.f k a0 26).bind fun t116 => (if (t115 == t116) = true then ((pte_May.f a0 a2 a3).bind fun t117 => ((camshaftref03_May.f k a0 a2 a3).bind fun t118 => (if (t117 == t118) = true then ((pte_Place.f a0 a1).bind fun t119 => ((camshaftref03_Place.f a0 a1).bind fun t120 => (some (t119 == t120)))) else (some false)))) else (some false)))) else (some false)))) else (some false))) else (some false)))) else (some false))
theorem camshaftlaw03_PteReads.mono : ∀ a0 a1 a2 a3 k, LeO (camshaftlaw03_PteReads.f k a0 a1 a2 a3) (camshaftlaw03_PteReads.f (k + 1) a0 a1 a2 a3) := by
  intro a0 a1 a2 a3 k
  unfold camshaftlaw03_PteReads.f
  repeat' first
      | (with_reducible exact camshaftref03_Bit.mono _ _ _)
      | (with_reducible exact camshaftref03_May.mono _ _ _ _)
      | (with_reducible exact camshaftref03_Prot.mono _ _)
      | (with_reducible exact LeO.refl _)
      | (with_reducible exact LeO.none _)
      | (with_reducible refine LeO.ite ?_ ?_)
      | (with_reducible refine LeO.bind ?_ (fun _ => ?_))
      | exact camshaftref03_Bit.mono _ _ _
      | exact camshaftref03_May.mono _ _ _ _
      | exact camshaftref03_Prot.mono _ _
      | exact LeO.none _
      | refine LeO.ite ?_ ?_
      | refine LeO.bind ?_ (fun _ => ?_)
set_option maxHeartbeats 8000000 in
set_option maxRecDepth 100000 in
theorem camshaftlaw03_PteReads.calls (k : Nat) (a0 : Int) (a1 : Int) (a2 : Bool) (a3 : Bool) (r : Bool) (w : World) (h : camshaftlaw03_PteReads.f k a0 a1 a2 a3 = some r) :
    Calls Try.prog 10 #[.int .u32 a0, .int .u32 a1, .bool a2, .bool a3] w fun e w' => e = .returned (.bool r) ∧ Drawn0 w w' := by
  have H : ((camshaftlaw03_alive.f).bind fun t109 => (if t109 = true then ((pte_Prot.f a0).bind fun t110 => ((camshaftref03_Prot.f k a0).bind fun t111 => (if t110 = t111 then ((pte_Frame.f a0).bind fun t112 => (if t112 = (Int.tmod a0 2097152) then ((pte_Is.f a0).bind fun t113 => ((camshaftref03_Bit.f k a0 31).bind fun t114 => (if (t113 == t114) = true then ((pte_Written.f a0).bind fun t115 => ((camshaftref03_Bit.f k a0 26).bind fun t116 => (if (t115 == t116) = true then ((pte_May.f a0 a2 a3).bind fun t117 => ((camshaftref03_May.f k a0 a2 a3).bind fun t118 => (if (t117 == t118) = true then ((pte_Place.f a0 a1).bind fun t119 => ((camshaftref03_Place.f a0 a1).bind fun t120 => (some (t119 == t120)))) else (some false)))) else (some false)))) else (some false)))) else (some false))) else (some false)))) else (some false))) = some r := h
  clear h
  replace H := Option.bind_eq_some_iff.mp H
  obtain ⟨t109, A50, H⟩ := H
  replace H : (if t109 = true then ((pte_Prot.f a0).bind fun t110 => ((camshaftref03_Prot.f k a0).bind fun t111 => (if t110 = t111 then ((pte_Frame.f a0).bind fun t112 => (if t112 = (Int.tmod a0 2097152) then ((pte_Is.f a0).bind fun t113 => ((camshaftref03_Bit.f k a0 31).bind fun t114 => (if (t113 == t114) = true then ((pte_Written.f a0).bind fun t115 => ((camshaftref03_Bit.f k a0 26).bind fun t116 => (if (t115 == t116) = true then ((pte_May.f a0 a2 a3).bind fun t117 => ((camshaftref03_May.f k a0 a2 a3).bind fun t118 => (if (t117 == t118) = true then ((pte_Place.f a0 a1).bind fun t119 => ((camshaftref03_Place.f a0 a1).bind fun t120 => (some (t119 == t120)))) else (some false)))) else (some false)))) else (some false)))) else (some false))) else (some false)))) else (some false)) = some r := H
  have A5 := Aside0.mk A50
  clear A50
  by_cases c6 : t109 = true
  · subst c6
    have H1 : ((pte_Prot.f a0).bind fun t110 => ((camshaftref03_Prot.f k a0).bind fun t111 => (if t110 = t111 then ((pte_Frame.f a0).bind fun t112 => (if t112 = (Int.tmod a0 2097152) then ((pte_Is.f a0).bind fun t113 => ((camshaftref03_Bit.f k a0 31).bind fun t114 => (if (t113 == t114) = true then ((pte_Written.f a0).bind fun t115 => ((camshaftref03_Bit.f k a0 26).bind fun t116 => (if (t115 == t116) = true then ((pte_May.f a0 a2 a3).bind fun t117 => ((camshaftref03_May.f k a0 a2 a3).bind fun t118 => (if (t117 == t118) = true then ((pte_Place.f a0 a1).bind fun t119 => ((camshaftref03_Place.f a0 a1).bind fun t120 => (some (t119 == t120)))) else (some false)))) else (some false)))) else (some false)))) else (some false))) else (some false)))) = some r := by rw [if_pos rfl] at H; exact H
    clear H
    have H := H1
    clear H1
    replace H := Option.bind_eq_some_iff.mp H
    obtain ⟨t110, A70, H⟩ := H
    replace H : ((camshaftref03_Prot.f k a0).bind fun t111 => (if t110 = t111 then ((pte_Frame.f a0).bind fun t112 => (if t112 = (Int.tmod a0 2097152) then ((pte_Is.f a0).bind fun t113 => ((camshaftref03_Bit.f k a0 31).bind fun t114 => (if (t113 == t114) = true then ((pte_Written.f a0).bind fun t115 => ((camshaftref03_Bit.f k a0 26).bind fun t116 => (if (t115 == t116) = true then ((pte_May.f a0 a2 a3).bind fun t117 => ((camshaftref03_May.f k a0 a2 a3).bind fun t118 => (if (t117 == t118) = true then ((pte_Place.f a0 a1).bind fun t119 => ((camshaftref03_Place.f a0 a1).bind fun t120 => (some (t119 == t120)))) else (some false)))) else (some false)))) else (some false)))) else (some false))) else (some false))) = some r := H
    have A7 := Aside0.mk A70
    clear A70
    replace H := Option.bind_eq_some_iff.mp H
    obtain ⟨t111, A80, H⟩ := H
    replace H : (if t110 = t111 then ((pte_Frame.f a0).bind fun t112 => (if t112 = (Int.tmod a0 2097152) then ((pte_Is.f a0).bind fun t113 => ((camshaftref03_Bit.f k a0 31).bind fun t114 => (if (t113 == t114) = true then ((pte_Written.f a0).bind fun t115 => ((camshaftref03_Bit.f k a0 26).bind fun t116 => (if (t115 == t116) = true then ((pte_May.f a0 a2 a3).bind fun t117 => ((camshaftref03_May.f k a0 a2 a3).bind fun t118 => (if (t117 == t118) = true then ((pte_Place.f a0 a1).bind fun t119 => ((camshaftref03_Place.f a0 a1).bind fun t120 => (some (t119 == t120)))) else (some false)))) else (some false)))) else (some false)))) else (some false))) else (some false)) = some r := H
    have A8 := Aside0.mk A80
    clear A80
    by_cases c9 : t110 = t111
    · rw [if_pos c9] at H
      have c9b0 : (t110 == t111) = true := beq_iff_eq.mpr c9
      have c9b1 : (t110 != t111) = false := bne_eq_false_iff_eq.mpr c9
      clear c9
      replace H := Option.bind_eq_some_iff.mp H
      obtain ⟨t112, A100, H⟩ := H
      replace H : (if t112 = (Int.tmod a0 2097152) then ((pte_Is.f a0).bind fun t113 => ((camshaftref03_Bit.f k a0 31).bind fun t114 => (if (t113 == t114) = true then ((pte_Written.f a0).bind fun t115 => ((camshaftref03_Bit.f k a0 26).bind fun t116 => (if (t115 == t116) = true then ((pte_May.f a0 a2 a3).bind fun t117 => ((camshaftref03_May.f k a0 a2 a3).bind fun t118 => (if (t117 == t118) = true then ((pte_Place.f a0 a1).bind fun t119 => ((camshaftref03_Place.f a0 a1).bind fun t120 => (some (t119 == t120)))) else (some false)))) else (some false)))) else (some false)))) else (some false)) = some r := H
      have A10 := Aside0.mk A100
      clear A100
      by_cases c11 : t112 = (Int.tmod a0 2097152)
      · rw [if_pos c11] at H
        have c11b0 : (t112 == (Int.tmod a0 2097152)) = true := beq_iff_eq.mpr c11
        have c11b1 : (t112 != (Int.tmod a0 2097152)) = false := bne_eq_false_iff_eq.mpr c11
        clear c11
        replace H := Option.bind_eq_some_iff.mp H
        obtain ⟨t113, A120, H⟩ := H
        replace H : ((camshaftref03_Bit.f k a0 31).bind fun t114 => (if (t113 == t114) = true then ((pte_Written.f a0).bind fun t115 => ((camshaftref03_Bit.f k a0 26).bind fun t116 => (if (t115 == t116) = true then ((pte_May.f a0 a2 a3).bind fun t117 => ((camshaftref03_May.f k a0 a2 a3).bind fun t118 => (if (t117 == t118) = true then ((pte_Place.f a0 a1).bind fun t119 => ((camshaftref03_Place.f a0 a1).bind fun t120 => (some (t119 == t120)))) else (some false)))) else (some false)))) else (some false))) = some r := H
        have A12 := Aside0.mk A120
        clear A120
        replace H := Option.bind_eq_some_iff.mp H
        obtain ⟨t114, A130, H⟩ := H
        replace H : (if (t113 == t114) = true then ((pte_Written.f a0).bind fun t115 => ((camshaftref03_Bit.f k a0 26).bind fun t116 => (if (t115 == t116) = true then ((pte_May.f a0 a2 a3).bind fun t117 => ((camshaftref03_May.f k a0 a2 a3).bind fun t118 => (if (t117 == t118) = true then ((pte_Place.f a0 a1).bind fun t119 => ((camshaftref03_Place.f a0 a1).bind fun t120 => (some (t119 == t120)))) else (some false)))) else (some false)))) else (some false)) = some r := H
        have A13 := Aside0.mk A130
        clear A130
        by_cases c14 : (t113 == t114) = true
        · rw [if_pos c14] at H
          have c14b0 : (t113 == t114) = true := c14
          (try (have c14b1 : decide (t113 = t114) = true := by simpa using c14))
          (try (have c14b2 : (t113 == t114) = true := by simpa using c14))
          clear c14
          replace H := Option.bind_eq_some_iff.mp H
          obtain ⟨t115, A150, H⟩ := H
          replace H : ((camshaftref03_Bit.f k a0 26).bind fun t116 => (if (t115 == t116) = true then ((pte_May.f a0 a2 a3).bind fun t117 => ((camshaftref03_May.f k a0 a2 a3).bind fun t118 => (if (t117 == t118) = true then ((pte_Place.f a0 a1).bind fun t119 => ((camshaftref03_Place.f a0 a1).bind fun t120 => (some (t119 == t120)))) else (some false)))) else (some false))) = some r := H
          have A15 := Aside0.mk A150
          clear A150
          replace H := Option.bind_eq_some_iff.mp H
          obtain ⟨t116, A160, H⟩ := H
          replace H : (if (t115 == t116) = true then ((pte_May.f a0 a2 a3).bind fun t117 => ((camshaftref03_May.f k a0 a2 a3).bind fun t118 => (if (t117 == t118) = true then ((pte_Place.f a0 a1).bind fun t119 => ((camshaftref03_Place.f a0 a1).bind fun t120 => (some (t119 == t120)))) else (some false)))) else (some false)) = some r := H
          have A16 := Aside0.mk A160
          clear A160
          by_cases c17 : (t115 == t116) = true
          · rw [if_pos c17] at H
            have c17b0 : (t115 == t116) = true := c17
            (try (have c17b1 : decide (t115 = t116) = true := by simpa using c17))
            (try (have c17b2 : (t115 == t116) = true := by simpa using c17))
            clear c17
            replace H := Option.bind_eq_some_iff.mp H
            obtain ⟨t117, A180, H⟩ := H
            replace H : ((camshaftref03_May.f k a0 a2 a3).bind fun t118 => (if (t117 == t118) = true then ((pte_Place.f a0 a1).bind fun t119 => ((camshaftref03_Place.f a0 a1).bind fun t120 => (some (t119 == t120)))) else (some false))) = some r := H
            have A18 := Aside0.mk A180
            clear A180
            replace H := Option.bind_eq_some_iff.mp H
            obtain ⟨t118, A190, H⟩ := H
            replace H : (if (t117 == t118) = true then ((pte_Place.f a0 a1).bind fun t119 => ((camshaftref03_Place.f a0 a1).bind fun t120 => (some (t119 == t120)))) else (some false)) = some r := H
            have A19 := Aside0.mk A190
            clear A190
            by_cases c20 : (t117 == t118) = true
            · rw [if_pos c20] at H
              have c20b0 : (t117 == t118) = true := c20
              (try (have c20b1 : decide (t117 = t118) = true := by simpa using c20))
              (try (have c20b2 : (t117 == t118) = true := by simpa using c20))
              clear c20
              replace H := Option.bind_eq_some_iff.mp H
              obtain ⟨t119, A210, H⟩ := H
              replace H : ((camshaftref03_Place.f a0 a1).bind fun t120 => (some (t119 == t120))) = some r := H
              have A21 := Aside0.mk A210
              clear A210
              replace H := Option.bind_eq_some_iff.mp H
              obtain ⟨t120, A220, H⟩ := H
              replace H : (some (t119 == t120)) = some r := H
              have A22 := Aside0.mk A220
              clear A220
              obtain rfl := Option.some.inj H
              go_enter Try.func10, Try.ntmps10
              go_wp2_with (first | ((with_reducible refine gate_callee (f := 14) rfl ?_); refine goesL_ (some 9) rfl rfl Try.func14 (by kernel_rfl) rfl #[] rfl (by (try simp only [List.map_toArray, List.map_cons, List.map_nil]); first | done | rfl | (simp only [List.length_drop, List.length_take]; rfl)) ?_; (with_reducible refine (camshaftlaw03_alive.calls  true _ A5.out).mono ?_); rintro e w' ⟨rfl, ⟨nd, rfl⟩⟩; refine ⟨_, rfl, ?_⟩) | ((with_reducible refine gate_callee (f := 21) rfl ?_); refine goesL_ (some 12) rfl rfl Try.func21 (by kernel_rfl) rfl #[.int .u32 a0] rfl (by (try simp only [List.map_toArray, List.map_cons, List.map_nil]); first | done | rfl | (simp only [List.length_drop, List.length_take]; rfl)) ?_; (with_reducible refine (pte_Prot.calls a0 t110 _ A7.out).mono ?_); rintro e w' ⟨rfl, ⟨nd, rfl⟩⟩; refine ⟨_, rfl, ?_⟩) | ((with_reducible refine gate_callee (f := 40) rfl ?_); refine goesL_ (some 14) rfl rfl Try.func40 (by kernel_rfl) rfl #[.int .u32 a0] rfl (by (try simp only [List.map_toArray, List.map_cons, List.map_nil]); first | done | rfl | (simp only [List.length_drop, List.length_take]; rfl)) ?_; (with_reducible refine (camshaftref03_Prot.calls k a0 t111 _ A8.out).mono ?_); rintro e w' ⟨rfl, ⟨nd, rfl⟩⟩; refine ⟨_, rfl, ?_⟩) | (go_at_call 16; (with_reducible refine (pte_Frame.calls a0 t112 _ A10.out).mono ?_); rintro e w' ⟨rfl, ⟨nd, rfl⟩⟩) | (go_at_call 19; (with_reducible refine (pte_Is.calls a0 t113 _ A12.out).mono ?_); rintro e w' ⟨rfl, ⟨nd, rfl⟩⟩) | (go_at_call 41; (with_reducible refine (camshaftref03_Bit.calls k a0 31 t114 _ A13.out).mono ?_); rintro e w' ⟨rfl, ⟨nd, rfl⟩⟩) | (go_at_call 20; (with_reducible refine (pte_Written.calls a0 t115 _ A15.out).mono ?_); rintro e w' ⟨rfl, ⟨nd, rfl⟩⟩) | (go_at_call 41; (with_reducible refine (camshaftref03_Bit.calls k a0 26 t116 _ A16.out).mono ?_); rintro e w' ⟨rfl, ⟨nd, rfl⟩⟩) | (go_at_call 32; (with_reducible refine (pte_May.calls a0 a2 a3 t117 _ A18.out).mono ?_); rintro e w' ⟨rfl, ⟨nd, rfl⟩⟩) | (go_at_call 42; (with_reducible refine (camshaftref03_May.calls k a0 a2 a3 t118 _ A19.out).mono ?_); rintro e w' ⟨rfl, ⟨nd, rfl⟩⟩) | (go_at_call 15; (with_reducible refine (pte_Place.calls a0 a1 t119 _ A21.out).mono ?_); rintro e w' ⟨rfl, ⟨nd, rfl⟩⟩) | (go_at_call 43; (with_reducible refine (camshaftref03_Place.calls a0 a1 t120 _ A22.out).mono ?_); rintro e w' ⟨rfl, ⟨nd, rfl⟩⟩))
              go_ret
              exact ⟨by first | rfl | (simp; done) | (simp [*]; done), by repeat (first | exact Drawn0.refl _ | apply Drawn0.step)⟩
            · rw [if_neg c20] at H
              have c20b0 : (t117 == t118) = false := by simpa using c20
              (try (have c20b1 : decide (t117 = t118) = false := by simpa using c20))
              (try (have c20b2 : (t117 == t118) = false := by simpa using c20))
              (try (have c20b3 : ¬ (t117 = t118) := by simpa using c20))
              clear c20
              obtain rfl := Option.some.inj H
              go_enter Try.func10, Try.ntmps10
              go_wp2_with (first | ((with_reducible refine gate_callee (f := 14) rfl ?_); refine goesL_ (some 9) rfl rfl Try.func14 (by kernel_rfl) rfl #[] rfl (by (try simp only [List.map_toArray, List.map_cons, List.map_nil]); first | done | rfl | (simp only [List.length_drop, List.length_take]; rfl)) ?_; (with_reducible refine (camshaftlaw03_alive.calls  true _ A5.out).mono ?_); rintro e w' ⟨rfl, ⟨nd, rfl⟩⟩; refine ⟨_, rfl, ?_⟩) | ((with_reducible refine gate_callee (f := 21) rfl ?_); refine goesL_ (some 12) rfl rfl Try.func21 (by kernel_rfl) rfl #[.int .u32 a0] rfl (by (try simp only [List.map_toArray, List.map_cons, List.map_nil]); first | done | rfl | (simp only [List.length_drop, List.length_take]; rfl)) ?_; (with_reducible refine (pte_Prot.calls a0 t110 _ A7.out).mono ?_); rintro e w' ⟨rfl, ⟨nd, rfl⟩⟩; refine ⟨_, rfl, ?_⟩) | ((with_reducible refine gate_callee (f := 40) rfl ?_); refine goesL_ (some 14) rfl rfl Try.func40 (by kernel_rfl) rfl #[.int .u32 a0] rfl (by (try simp only [List.map_toArray, List.map_cons, List.map_nil]); first | done | rfl | (simp only [List.length_drop, List.length_take]; rfl)) ?_; (with_reducible refine (camshaftref03_Prot.calls k a0 t111 _ A8.out).mono ?_); rintro e w' ⟨rfl, ⟨nd, rfl⟩⟩; refine ⟨_, rfl, ?_⟩) | (go_at_call 16; (with_reducible refine (pte_Frame.calls a0 t112 _ A10.out).mono ?_); rintro e w' ⟨rfl, ⟨nd, rfl⟩⟩) | (go_at_call 19; (with_reducible refine (pte_Is.calls a0 t113 _ A12.out).mono ?_); rintro e w' ⟨rfl, ⟨nd, rfl⟩⟩) | (go_at_call 41; (with_reducible refine (camshaftref03_Bit.calls k a0 31 t114 _ A13.out).mono ?_); rintro e w' ⟨rfl, ⟨nd, rfl⟩⟩) | (go_at_call 20; (with_reducible refine (pte_Written.calls a0 t115 _ A15.out).mono ?_); rintro e w' ⟨rfl, ⟨nd, rfl⟩⟩) | (go_at_call 41; (with_reducible refine (camshaftref03_Bit.calls k a0 26 t116 _ A16.out).mono ?_); rintro e w' ⟨rfl, ⟨nd, rfl⟩⟩) | (go_at_call 32; (with_reducible refine (pte_May.calls a0 a2 a3 t117 _ A18.out).mono ?_); rintro e w' ⟨rfl, ⟨nd, rfl⟩⟩) | (go_at_call 42; (with_reducible refine (camshaftref03_May.calls k a0 a2 a3 t118 _ A19.out).mono ?_); rintro e w' ⟨rfl, ⟨nd, rfl⟩⟩))
              go_ret
              exact ⟨by first | rfl | (simp; done) | (simp [*]; done), by repeat (first | exact Drawn0.refl _ | apply Drawn0.step)⟩
          · rw [if_neg c17] at H
            have c17b0 : (t115 == t116) = false := by simpa using c17
            (try (have c17b1 : decide (t115 = t116) = false := by simpa using c17))
            (try (have c17b2 : (t115 == t116) = false := by simpa using c17))
            (try (have c17b3 : ¬ (t115 = t116) := by simpa using c17))
            clear c17
            obtain rfl := Option.some.inj H
            go_enter Try.func10, Try.ntmps10
            go_wp2_with (first | ((with_reducible refine gate_callee (f := 14) rfl ?_); refine goesL_ (some 9) rfl rfl Try.func14 (by kernel_rfl) rfl #[] rfl (by (try simp only [List.map_toArray, List.map_cons, List.map_nil]); first | done | rfl | (simp only [List.length_drop, List.length_take]; rfl)) ?_; (with_reducible refine (camshaftlaw03_alive.calls  true _ A5.out).mono ?_); rintro e w' ⟨rfl, ⟨nd, rfl⟩⟩; refine ⟨_, rfl, ?_⟩) | ((with_reducible refine gate_callee (f := 21) rfl ?_); refine goesL_ (some 12) rfl rfl Try.func21 (by kernel_rfl) rfl #[.int .u32 a0] rfl (by (try simp only [List.map_toArray, List.map_cons, List.map_nil]); first | done | rfl | (simp only [List.length_drop, List.length_take]; rfl)) ?_; (with_reducible refine (pte_Prot.calls a0 t110 _ A7.out).mono ?_); rintro e w' ⟨rfl, ⟨nd, rfl⟩⟩; refine ⟨_, rfl, ?_⟩) | ((with_reducible refine gate_callee (f := 40) rfl ?_); refine goesL_ (some 14) rfl rfl Try.func40 (by kernel_rfl) rfl #[.int .u32 a0] rfl (by (try simp only [List.map_toArray, List.map_cons, List.map_nil]); first | done | rfl | (simp only [List.length_drop, List.length_take]; rfl)) ?_; (with_reducible refine (camshaftref03_Prot.calls k a0 t111 _ A8.out).mono ?_); rintro e w' ⟨rfl, ⟨nd, rfl⟩⟩; refine ⟨_, rfl, ?_⟩) | (go_at_call 16; (with_reducible refine (pte_Frame.calls a0 t112 _ A10.out).mono ?_); rintro e w' ⟨rfl, ⟨nd, rfl⟩⟩) | (go_at_call 19; (with_reducible refine (pte_Is.calls a0 t113 _ A12.out).mono ?_); rintro e w' ⟨rfl, ⟨nd, rfl⟩⟩) | (go_at_call 41; (with_reducible refine (camshaftref03_Bit.calls k a0 31 t114 _ A13.out).mono ?_); rintro e w' ⟨rfl, ⟨nd, rfl⟩⟩) | (go_at_call 20; (with_reducible refine (pte_Written.calls a0 t115 _ A15.out).mono ?_); rintro e w' ⟨rfl, ⟨nd, rfl⟩⟩) | (go_at_call 41; (with_reducible refine (camshaftref03_Bit.calls k a0 26 t116 _ A16.out).mono ?_); rintro e w' ⟨rfl, ⟨nd, rfl⟩⟩))
            go_ret
            exact ⟨by first | rfl | (simp; done) | (simp [*]; done), by repeat (first | exact Drawn0.refl _ | apply Drawn0.step)⟩
        · rw [if_neg c14] at H
          have c14b0 : (t113 == t114) = false := by simpa using c14
          (try (have c14b1 : decide (t113 = t114) = false := by simpa using c14))
          (try (have c14b2 : (t113 == t114) = false := by simpa using c14))
          (try (have c14b3 : ¬ (t113 = t114) := by simpa using c14))
          clear c14
          obtain rfl := Option.some.inj H
          go_enter Try.func10, Try.ntmps10
          go_wp2_with (first | ((with_reducible refine gate_callee (f := 14) rfl ?_); refine goesL_ (some 9) rfl rfl Try.func14 (by kernel_rfl) rfl #[] rfl (by (try simp only [List.map_toArray, List.map_cons, List.map_nil]); first | done | rfl | (simp only [List.length_drop, List.length_take]; rfl)) ?_; (with_reducible refine (camshaftlaw03_alive.calls  true _ A5.out).mono ?_); rintro e w' ⟨rfl, ⟨nd, rfl⟩⟩; refine ⟨_, rfl, ?_⟩) | ((with_reducible refine gate_callee (f := 21) rfl ?_); refine goesL_ (some 12) rfl rfl Try.func21 (by kernel_rfl) rfl #[.int .u32 a0] rfl (by (try simp only [List.map_toArray, List.map_cons, List.map_nil]); first | done | rfl | (simp only [List.length_drop, List.length_take]; rfl)) ?_; (with_reducible refine (pte_Prot.calls a0 t110 _ A7.out).mono ?_); rintro e w' ⟨rfl, ⟨nd, rfl⟩⟩; refine ⟨_, rfl, ?_⟩) | ((with_reducible refine gate_callee (f := 40) rfl ?_); refine goesL_ (some 14) rfl rfl Try.func40 (by kernel_rfl) rfl #[.int .u32 a0] rfl (by (try simp only [List.map_toArray, List.map_cons, List.map_nil]); first | done | rfl | (simp only [List.length_drop, List.length_take]; rfl)) ?_; (with_reducible refine (camshaftref03_Prot.calls k a0 t111 _ A8.out).mono ?_); rintro e w' ⟨rfl, ⟨nd, rfl⟩⟩; refine ⟨_, rfl, ?_⟩) | (go_at_call 16; (with_reducible refine (pte_Frame.calls a0 t112 _ A10.out).mono ?_); rintro e w' ⟨rfl, ⟨nd, rfl⟩⟩) | (go_at_call 19; (with_reducible refine (pte_Is.calls a0 t113 _ A12.out).mono ?_); rintro e w' ⟨rfl, ⟨nd, rfl⟩⟩) | (go_at_call 41; (with_reducible refine (camshaftref03_Bit.calls k a0 31 t114 _ A13.out).mono ?_); rintro e w' ⟨rfl, ⟨nd, rfl⟩⟩))
          go_ret
          exact ⟨by first | rfl | (simp; done) | (simp [*]; done), by repeat (first | exact Drawn0.refl _ | apply Drawn0.step)⟩
      · rw [if_neg c11] at H
        have c11b0 : (t112 == (Int.tmod a0 2097152)) = false := beq_eq_false_iff_ne.mpr c11
        have c11b1 : (t112 != (Int.tmod a0 2097152)) = true := bne_iff_ne.mpr c11
        obtain rfl := Option.some.inj H
        go_enter Try.func10, Try.ntmps10
        go_wp2_with (first | ((with_reducible refine gate_callee (f := 14) rfl ?_); refine goesL_ (some 9) rfl rfl Try.func14 (by kernel_rfl) rfl #[] rfl (by (try simp only [List.map_toArray, List.map_cons, List.map_nil]); first | done | rfl | (simp only [List.length_drop, List.length_take]; rfl)) ?_; (with_reducible refine (camshaftlaw03_alive.calls  true _ A5.out).mono ?_); rintro e w' ⟨rfl, ⟨nd, rfl⟩⟩; refine ⟨_, rfl, ?_⟩) | ((with_reducible refine gate_callee (f := 21) rfl ?_); refine goesL_ (some 12) rfl rfl Try.func21 (by kernel_rfl) rfl #[.int .u32 a0] rfl (by (try simp only [List.map_toArray, List.map_cons, List.map_nil]); first | done | rfl | (simp only [List.length_drop, List.length_take]; rfl)) ?_; (with_reducible refine (pte_Prot.calls a0 t110 _ A7.out).mono ?_); rintro e w' ⟨rfl, ⟨nd, rfl⟩⟩; refine ⟨_, rfl, ?_⟩) | ((with_reducible refine gate_callee (f := 40) rfl ?_); refine goesL_ (some 14) rfl rfl Try.func40 (by kernel_rfl) rfl #[.int .u32 a0] rfl (by (try simp only [List.map_toArray, List.map_cons, List.map_nil]); first | done | rfl | (simp only [List.length_drop, List.length_take]; rfl)) ?_; (with_reducible refine (camshaftref03_Prot.calls k a0 t111 _ A8.out).mono ?_); rintro e w' ⟨rfl, ⟨nd, rfl⟩⟩; refine ⟨_, rfl, ?_⟩) | (go_at_call 16; (with_reducible refine (pte_Frame.calls a0 t112 _ A10.out).mono ?_); rintro e w' ⟨rfl, ⟨nd, rfl⟩⟩))
        go_ret
        exact ⟨by first | rfl | (simp; done) | (simp [*]; done), by repeat (first | exact Drawn0.refl _ | apply Drawn0.step)⟩
    · rw [if_neg c9] at H
      have c9b0 : (t110 == t111) = false := beq_eq_false_iff_ne.mpr c9
      have c9b1 : (t110 != t111) = true := bne_iff_ne.mpr c9
      obtain rfl := Option.some.inj H
      go_enter Try.func10, Try.ntmps10
      go_wp2_with (first | ((with_reducible refine gate_callee (f := 14) rfl ?_); refine goesL_ (some 9) rfl rfl Try.func14 (by kernel_rfl) rfl #[] rfl (by (try simp only [List.map_toArray, List.map_cons, List.map_nil]); first | done | rfl | (simp only [List.length_drop, List.length_take]; rfl)) ?_; (with_reducible refine (camshaftlaw03_alive.calls  true _ A5.out).mono ?_); rintro e w' ⟨rfl, ⟨nd, rfl⟩⟩; refine ⟨_, rfl, ?_⟩) | ((with_reducible refine gate_callee (f := 21) rfl ?_); refine goesL_ (some 12) rfl rfl Try.func21 (by kernel_rfl) rfl #[.int .u32 a0] rfl (by (try simp only [List.map_toArray, List.map_cons, List.map_nil]); first | done | rfl | (simp only [List.length_drop, List.length_take]; rfl)) ?_; (with_reducible refine (pte_Prot.calls a0 t110 _ A7.out).mono ?_); rintro e w' ⟨rfl, ⟨nd, rfl⟩⟩; refine ⟨_, rfl, ?_⟩) | ((with_reducible refine gate_callee (f := 40) rfl ?_); refine goesL_ (some 14) rfl rfl Try.func40 (by kernel_rfl) rfl #[.int .u32 a0] rfl (by (try simp only [List.map_toArray, List.map_cons, List.map_nil]); first | done | rfl | (simp only [List.length_drop, List.length_take]; rfl)) ?_; (with_reducible refine (camshaftref03_Prot.calls k a0 t111 _ A8.out).mono ?_); rintro e w' ⟨rfl, ⟨nd, rfl⟩⟩; refine ⟨_, rfl, ?_⟩))
      go_ret
      exact ⟨by first | rfl | (simp; done) | (simp [*]; done), by repeat (first | exact Drawn0.refl _ | apply Drawn0.step)⟩
  · replace c6 := Bool.eq_false_iff.mpr c6
    subst c6
    have H1 : (some false) = some r := by rw [if_neg (show ¬ (false = true) by decide)] at H; exact H
    clear H
    have H := H1
    clear H1
    obtain rfl := Option.some.inj H
    go_enter Try.func10, Try.ntmps10
    go_wp2_with (first | ((with_reducible refine gate_callee (f := 14) rfl ?_); refine goesL_ (some 9) rfl rfl Try.func14 (by kernel_rfl) rfl #[] rfl (by (try simp only [List.map_toArray, List.map_cons, List.map_nil]); first | done | rfl | (simp only [List.length_drop, List.length_take]; rfl)) ?_; (with_reducible refine (camshaftlaw03_alive.calls  false _ A5.out).mono ?_); rintro e w' ⟨rfl, ⟨nd, rfl⟩⟩; refine ⟨_, rfl, ?_⟩))
    go_ret
    exact ⟨by first | rfl | (simp; done) | (simp [*]; done), by repeat (first | exact Drawn0.refl _ | apply Drawn0.step)⟩

/-- THE ONE PURE STATEMENT of camshaftlaw03_PteReads: yours. -/
def camshaftlaw03_PteReads.Pure : Prop := ∀ (a0 : Int) (a1 : Int) (a2 : Bool) (a3 : Bool), (Lit.int .u32 a0).wf = true → (Lit.int .u32 a1).wf = true → ∃ k, camshaftlaw03_PteReads.f k a0 a1 a2 a3 = some true
theorem camshaftlaw03_PteReads.walk (P : camshaftlaw03_PteReads.Pure) (a0 : Int) (a1 : Int) (a2 : Bool) (a3 : Bool) (w : World) (w0 : (Lit.int .u32 a0).wf = true) (w1 : (Lit.int .u32 a1).wf = true) :
    Calls Try.prog 10 #[.int .u32 a0, .int .u32 a1, .bool a2, .bool a3] w fun e w' => e = .returned (.bool true) ∧ Below w.heap.size w w' := by
  obtain ⟨k, h⟩ := P a0 a1 a2 a3 w0 w1
  refine (camshaftlaw03_PteReads.calls k a0 a1 a2 a3 true w h).mono ?_
  rintro e w' ⟨rfl, hd⟩
  exact ⟨rfl, hd.below⟩

end Go.Proofs.Ytjflepoifdcadaa.PPteReads
