-- Written by gprint.py, a program of this session: its own text.
import Derived.Test.YtjflepoifdcadaaGPslBranchesx0
namespace Go.Proofs.Ytjflepoifdcadaa.GPslBranches
open Go.RowKit Go.Proofs.YtjflepoifdcadaaW.PrintWords Go.Proofs.YtjflepoifdcadaaW.PrintLast Go.Proofs.YtjflepoifdcadaaW.PrintMore
attribute [local go_sem] max2_int min2_int max_two min_two max_three min_three max_four min_four   -- for this text's walks alone
set_option linter.unusedVariables false
set_option linter.unusedSimpArgs false

/-! ### psl_Ipl: function 25 -/
def psl_Ipl.f (a0 : Int) : Option (Int) := some (wrap64 (Go.bits .and .u32 (a0 / 65536) 31))
set_option maxHeartbeats 8000000 in
set_option maxRecDepth 100000 in
theorem psl_Ipl.calls (a0 : Int) (r : Int) (w : World) (h : psl_Ipl.f a0 = some r) :
    Calls Try.prog 25 #[.int .u32 a0] w fun e w' => e = .returned (.int .i64 r) ∧ Drawn0 w w' := by
  have H : (some (wrap64 (Go.bits .and .u32 (a0 / 65536) 31))) = some r := h
  clear h
  obtain rfl := Option.some.inj H
  go_enter Try.func25, Try.ntmps25
  go_wp2
  go_ret
  exact ⟨by first | rfl | (simp; done) | (simp [*]; done), by repeat (first | exact Drawn0.refl _ | apply Drawn0.step)⟩

/-! ### psl_IsUser: function 26 -/
def psl_IsUser.f (a0 : Int) : Option (Bool) := some ((Go.bits .and .u32 a0 16777216) != 0)
set_option maxHeartbeats 8000000 in
set_option maxRecDepth 100000 in
theorem psl_IsUser.calls (a0 : Int) (r : Bool) (w : World) (h : psl_IsUser.f a0 = some r) :
    Calls Try.prog 26 #[.int .u32 a0] w fun e w' => e = .returned (.bool r) ∧ Drawn0 w w' := by
  have H : (some ((Go.bits .and .u32 a0 16777216) != 0)) = some r := h
  clear h
  obtain rfl := Option.some.inj H
  go_enter Try.func26, Try.ntmps26
  go_wp2
  go_ret
  exact ⟨by first | rfl | (simp; done) | (simp [*]; done), by repeat (first | exact Drawn0.refl _ | apply Drawn0.step)⟩

/-! ### psl_Good: function 27 -/
def psl_Good.f (a0 : Int) : Option (Bool) := if (Go.bits .andNot .u32 a0 157220879) = 0 then ((psl_IsUser.f a0).bind fun t101 => (if t101 = true then ((psl_Ipl.f a0).bind fun t102 => (if t102 = 0 then (some ((Go.bits .and .u32 a0 4194304) != 0)) else (some false))) else (some true))) else (some false)
set_option maxHeartbeats 8000000 in
set_option maxRecDepth 100000 in
theorem psl_Good.calls (a0 : Int) (r : Bool) (w : World) (h : psl_Good.f a0 = some r) :
    Calls Try.prog 27 #[.int .u32 a0] w fun e w' => e = .returned (.bool r) ∧ Drawn0 w w' := by
  have H : (if (Go.bits .andNot .u32 a0 157220879) = 0 then ((psl_IsUser.f a0).bind fun t101 => (if t101 = true then ((psl_Ipl.f a0).bind fun t102 => (if t102 = 0 then (some ((Go.bits .and .u32 a0 4194304) != 0)) else (some false))) else (some true))) else (some false)) = some r := h
  clear h
  by_cases c2 : (Go.bits .andNot .u32 a0 157220879) = 0
  · rw [if_pos c2] at H
    have c2b0 : ((Go.bits .andNot .u32 a0 157220879) == 0) = true := beq_iff_eq.mpr c2
    have c2b1 : ((Go.bits .andNot .u32 a0 157220879) != 0) = false := bne_eq_false_iff_eq.mpr c2
    clear c2
    replace H := Option.bind_eq_some_iff.mp H
    obtain ⟨t101, A30, H⟩ := H
    replace H : (if t101 = true then ((psl_Ipl.f a0).bind fun t102 => (if t102 = 0 then (some ((Go.bits .and .u32 a0 4194304) != 0)) else (some false))) else (some true)) = some r := H
    have A3 := Aside0.mk A30
    clear A30
    by_cases c4 : t101 = true
    · subst c4
      have H1 : ((psl_Ipl.f a0).bind fun t102 => (if t102 = 0 then (some ((Go.bits .and .u32 a0 4194304) != 0)) else (some false))) = some r := by rw [if_pos rfl] at H; exact H
      clear H
      have H := H1
      clear H1
      replace H := Option.bind_eq_some_iff.mp H
      obtain ⟨t102, A50, H⟩ := H
      replace H : (if t102 = 0 then (some ((Go.bits .and .u32 a0 4194304) != 0)) else (some false)) = some r := H
      have A5 := Aside0.mk A50
      clear A50
      by_cases c6 : t102 = 0
      · rw [if_pos c6] at H
        have c6b0 : (t102 == 0) = true := beq_iff_eq.mpr c6
        have c6b1 : (t102 != 0) = false := bne_eq_false_iff_eq.mpr c6
        clear c6
        obtain rfl := Option.some.inj H
        go_enter Try.func27, Try.ntmps27
        go_wp2_with (first | (go_at_call 26; (with_reducible refine (psl_IsUser.calls a0 true _ A3.out).mono ?_); rintro e w' ⟨rfl, ⟨nd, rfl⟩⟩) | (go_at_call 25; (with_reducible refine (psl_Ipl.calls a0 t102 _ A5.out).mono ?_); rintro e w' ⟨rfl, ⟨nd, rfl⟩⟩))
        go_ret
        exact ⟨by first | rfl | (simp; done) | (simp [*]; done), by repeat (first | exact Drawn0.refl _ | apply Drawn0.step)⟩
      · rw [if_neg c6] at H
        have c6b0 : (t102 == 0) = false := beq_eq_false_iff_ne.mpr c6
        have c6b1 : (t102 != 0) = true := bne_iff_ne.mpr c6
        obtain rfl := Option.some.inj H
        go_enter Try.func27, Try.ntmps27
        go_wp2_with (first | (go_at_call 26; (with_reducible refine (psl_IsUser.calls a0 true _ A3.out).mono ?_); rintro e w' ⟨rfl, ⟨nd, rfl⟩⟩) | (go_at_call 25; (with_reducible refine (psl_Ipl.calls a0 t102 _ A5.out).mono ?_); rintro e w' ⟨rfl, ⟨nd, rfl⟩⟩))
        go_ret
        exact ⟨by first | rfl | (simp; done) | (simp [*]; done), by repeat (first | exact Drawn0.refl _ | apply Drawn0.step)⟩
    · replace c4 := Bool.eq_false_iff.mpr c4
      subst c4
      have H1 : (some true) = some r := by rw [if_neg (show ¬ (false = true) by decide)] at H; exact H
      clear H
      have H := H1
      clear H1
      obtain rfl := Option.some.inj H
      go_enter Try.func27, Try.ntmps27
      go_wp2_with (first | (go_at_call 26; (with_reducible refine (psl_IsUser.calls a0 false _ A3.out).mono ?_); rintro e w' ⟨rfl, ⟨nd, rfl⟩⟩))
      go_ret
      exact ⟨by first | rfl | (simp; done) | (simp [*]; done), by repeat (first | exact Drawn0.refl _ | apply Drawn0.step)⟩
  · rw [if_neg c2] at H
    have c2b0 : ((Go.bits .andNot .u32 a0 157220879) == 0) = false := beq_eq_false_iff_ne.mpr c2
    have c2b1 : ((Go.bits .andNot .u32 a0 157220879) != 0) = true := bne_iff_ne.mpr c2
    obtain rfl := Option.some.inj H
    go_enter Try.func27, Try.ntmps27
    go_wp2
    go_ret
    exact ⟨by first | rfl | (simp; done) | (simp [*]; done), by repeat (first | exact Drawn0.refl _ | apply Drawn0.step)⟩

/-! ### psl_At: function 37 -/
def psl_At.f (a0 : Int) (a1 : Int) : Option (Int) := some (Go.bits .or .u32 (Go.bits .andNot .u32 a0 2031616) ((((Go.bits .and .i64 a1 31) % 4294967296) * 65536) % 4294967296))
set_option maxHeartbeats 8000000 in
set_option maxRecDepth 100000 in
theorem psl_At.calls (a0 : Int) (a1 : Int) (r : Int) (w : World) (h : psl_At.f a0 a1 = some r) :
    Calls Try.prog 37 #[.int .u32 a0, .int .i64 a1] w fun e w' => e = .returned (.int .u32 r) ∧ Drawn0 w w' := by
  have H : (some (Go.bits .or .u32 (Go.bits .andNot .u32 a0 2031616) ((((Go.bits .and .i64 a1 31) % 4294967296) * 65536) % 4294967296))) = some r := h
  clear h
  obtain rfl := Option.some.inj H
  go_enter Try.func37, Try.ntmps37
  go_wp2
  go_ret
  exact ⟨by first | rfl | (simp; done) | (simp [*]; done), by repeat (first | exact Drawn0.refl _ | apply Drawn0.step)⟩

/-! ### psl_Enter: function 31 -/
def psl_Enter.f (a0 : Int) (a1 : Int) : Option (Int) := (psl_At.f 0 a1).bind fun t103 => ((psl_IsUser.f a0).bind fun t104 => (if t104 = true then (some (Go.bits .or .u32 t103 4194304)) else (some t103)))
set_option maxHeartbeats 8000000 in
set_option maxRecDepth 100000 in
theorem psl_Enter.calls (a0 : Int) (a1 : Int) (r : Int) (w : World) (h : psl_Enter.f a0 a1 = some r) :
    Calls Try.prog 31 #[.int .u32 a0, .int .i64 a1] w fun e w' => e = .returned (.int .u32 r) ∧ Drawn0 w w' := by
  have H : ((psl_At.f 0 a1).bind fun t103 => ((psl_IsUser.f a0).bind fun t104 => (if t104 = true then (some (Go.bits .or .u32 t103 4194304)) else (some t103)))) = some r := h
  clear h
  replace H := Option.bind_eq_some_iff.mp H
  obtain ⟨t103, A30, H⟩ := H
  replace H : ((psl_IsUser.f a0).bind fun t104 => (if t104 = true then (some (Go.bits .or .u32 t103 4194304)) else (some t103))) = some r := H
  have A3 := Aside0.mk A30
  clear A30
  replace H := Option.bind_eq_some_iff.mp H
  obtain ⟨t104, A40, H⟩ := H
  replace H : (if t104 = true then (some (Go.bits .or .u32 t103 4194304)) else (some t103)) = some r := H
  have A4 := Aside0.mk A40
  clear A40
  by_cases c5 : t104 = true
  · subst c5
    have H1 : (some (Go.bits .or .u32 t103 4194304)) = some r := by rw [if_pos rfl] at H; exact H
    clear H
    have H := H1
    clear H1
    obtain rfl := Option.some.inj H
    go_enter Try.func31, Try.ntmps31
    go_wp2_with (first | ((with_reducible refine gate_callee (f := 37) rfl ?_); refine goesL_ (some 7) rfl rfl Try.func37 (by kernel_rfl) rfl #[.int .u32 0, .int .i64 a1] rfl (by (try simp only [List.map_toArray, List.map_cons, List.map_nil]); first | done | rfl | (simp only [List.length_drop, List.length_take]; rfl)) ?_; (with_reducible refine (psl_At.calls 0 a1 t103 _ A3.out).mono ?_); rintro e w' ⟨rfl, ⟨nd, rfl⟩⟩; refine ⟨_, rfl, ?_⟩) | ((with_reducible refine gate_callee (f := 26) rfl ?_); refine goesL_ (some 9) rfl rfl Try.func26 (by kernel_rfl) rfl #[.int .u32 a0] rfl (by (try simp only [List.map_toArray, List.map_cons, List.map_nil]); first | done | rfl | (simp only [List.length_drop, List.length_take]; rfl)) ?_; (with_reducible refine (psl_IsUser.calls a0 true _ A4.out).mono ?_); rintro e w' ⟨rfl, ⟨nd, rfl⟩⟩; refine ⟨_, rfl, ?_⟩))
    go_ret
    exact ⟨by first | rfl | (simp; done) | (simp [*]; done), by repeat (first | exact Drawn0.refl _ | apply Drawn0.step)⟩
  · replace c5 := Bool.eq_false_iff.mpr c5
    subst c5
    have H1 : (some t103) = some r := by rw [if_neg (show ¬ (false = true) by decide)] at H; exact H
    clear H
    have H := H1
    clear H1
    obtain rfl := Option.some.inj H
    go_enter Try.func31, Try.ntmps31
    go_wp2_with (first | ((with_reducible refine gate_callee (f := 37) rfl ?_); refine goesL_ (some 7) rfl rfl Try.func37 (by kernel_rfl) rfl #[.int .u32 0, .int .i64 a1] rfl (by (try simp only [List.map_toArray, List.map_cons, List.map_nil]); first | done | rfl | (simp only [List.length_drop, List.length_take]; rfl)) ?_; (with_reducible refine (psl_At.calls 0 a1 t103 _ A3.out).mono ?_); rintro e w' ⟨rfl, ⟨nd, rfl⟩⟩; refine ⟨_, rfl, ?_⟩) | ((with_reducible refine gate_callee (f := 26) rfl ?_); refine goesL_ (some 9) rfl rfl Try.func26 (by kernel_rfl) rfl #[.int .u32 a0] rfl (by (try simp only [List.map_toArray, List.map_cons, List.map_nil]); first | done | rfl | (simp only [List.length_drop, List.length_take]; rfl)) ?_; (with_reducible refine (psl_IsUser.calls a0 false _ A4.out).mono ?_); rintro e w' ⟨rfl, ⟨nd, rfl⟩⟩; refine ⟨_, rfl, ?_⟩))
    go_ret
    exact ⟨by first | rfl | (simp; done) | (simp [*]; done), by repeat (first | exact Drawn0.refl _ | apply Drawn0.step)⟩

/-! ### camshaftlaw06_alive: function 22 -/
def camshaftlaw06_alive.f  : Option (Bool) := (psl_Enter.f 155189252 20).bind fun t105 => (if t105 = 5505024 then ((psl_Good.f 20971520).bind fun t106 => (if t106 = true then ((psl_Good.f 16777216).bind fun t107 => (if t107 = true then (some false) else (some true))) else (some false))) else (some false))
set_option maxHeartbeats 8000000 in
set_option maxRecDepth 100000 in
theorem camshaftlaw06_alive.calls  (r : Bool) (w : World) (h : camshaftlaw06_alive.f  = some r) :
    Calls Try.prog 22 #[] w fun e w' => e = .returned (.bool r) ∧ Drawn0 w w' := by
  have H : ((psl_Enter.f 155189252 20).bind fun t105 => (if t105 = 5505024 then ((psl_Good.f 20971520).bind fun t106 => (if t106 = true then ((psl_Good.f 16777216).bind fun t107 => (if t107 = true then (some false) else (some true))) else (some false))) else (some false))) = some r := h
  clear h
  replace H := Option.bind_eq_some_iff.mp H
  obtain ⟨t105, A10, H⟩ := H
  replace H : (if t105 = 5505024 then ((psl_Good.f 20971520).bind fun t106 => (if t106 = true then ((psl_Good.f 16777216).bind fun t107 => (if t107 = true then (some false) else (some true))) else (some false))) else (some false)) = some r := H
  have A1 := Aside0.mk A10
  clear A10
  by_cases c2 : t105 = 5505024
  · rw [if_pos c2] at H
    have c2b0 : (t105 == 5505024) = true := beq_iff_eq.mpr c2
    have c2b1 : (t105 != 5505024) = false := bne_eq_false_iff_eq.mpr c2
    clear c2
    replace H := Option.bind_eq_some_iff.mp H
    obtain ⟨t106, A30, H⟩ := H
    replace H : (if t106 = true then ((psl_Good.f 16777216).bind fun t107 => (if t107 = true then (some false) else (some true))) else (some false)) = some r := H
    have A3 := Aside0.mk A30
    clear A30
    by_cases c4 : t106 = true
    · subst c4
      have H1 : ((psl_Good.f 16777216).bind fun t107 => (if t107 = true then (some false) else (some true))) = some r := by rw [if_pos rfl] at H; exact H
      clear H
      have H := H1
      clear H1
      replace H := Option.bind_eq_some_iff.mp H
      obtain ⟨t107, A50, H⟩ := H
      replace H : (if t107 = true then (some false) else (some true)) = some r := H
      have A5 := Aside0.mk A50
      clear A50
      by_cases c6 : t107 = true
      · subst c6
        have H1 : (some false) = some r := by rw [if_pos rfl] at H; exact H
        clear H
        have H := H1
        clear H1
        obtain rfl := Option.some.inj H
        go_enter Try.func22, Try.ntmps22
        go_wp2_with (first | ((with_reducible refine gate_callee (f := 31) rfl ?_); refine goesL_ (some 1) rfl rfl Try.func31 (by kernel_rfl) rfl #[.int .u32 155189252, .int .i64 20] rfl (by (try simp only [List.map_toArray, List.map_cons, List.map_nil]); first | done | rfl | (simp only [List.length_drop, List.length_take]; rfl)) ?_; (with_reducible refine (psl_Enter.calls 155189252 20 t105 _ A1.out).mono ?_); rintro e w' ⟨rfl, ⟨nd, rfl⟩⟩; refine ⟨_, rfl, ?_⟩) | (go_at_call 27; (with_reducible refine (psl_Good.calls 20971520 true _ A3.out).mono ?_); rintro e w' ⟨rfl, ⟨nd, rfl⟩⟩) | (go_at_call 27; (with_reducible refine (psl_Good.calls 16777216 true _ A5.out).mono ?_); rintro e w' ⟨rfl, ⟨nd, rfl⟩⟩))
        go_ret
        exact ⟨by first | rfl | (simp; done) | (simp [*]; done), by repeat (first | exact Drawn0.refl _ | apply Drawn0.step)⟩
      · replace c6 := Bool.eq_false_iff.mpr c6
        subst c6
        have H1 : (some true) = some r := by rw [if_neg (show ¬ (false = true) by decide)] at H; exact H
        clear H
        have H := H1
        clear H1
        obtain rfl := Option.some.inj H
        go_enter Try.func22, Try.ntmps22
        go_wp2_with (first | ((with_reducible refine gate_callee (f := 31) rfl ?_); refine goesL_ (some 1) rfl rfl Try.func31 (by kernel_rfl) rfl #[.int .u32 155189252, .int .i64 20] rfl (by (try simp only [List.map_toArray, List.map_cons, List.map_nil]); first | done | rfl | (simp only [List.length_drop, List.length_take]; rfl)) ?_; (with_reducible refine (psl_Enter.calls 155189252 20 t105 _ A1.out).mono ?_); rintro e w' ⟨rfl, ⟨nd, rfl⟩⟩; refine ⟨_, rfl, ?_⟩) | (go_at_call 27; (with_reducible refine (psl_Good.calls 20971520 true _ A3.out).mono ?_); rintro e w' ⟨rfl, ⟨nd, rfl⟩⟩) | (go_at_call 27; (with_reducible refine (psl_Good.calls 16777216 false _ A5.out).mono ?_); rintro e w' ⟨rfl, ⟨nd, rfl⟩⟩))
        go_ret
        exact ⟨by first | rfl | (simp; done) | (simp [*]; done), by repeat (first | exact Drawn0.refl _ | apply Drawn0.step)⟩
    · replace c4 := Bool.eq_false_iff.mpr c4
      subst c4
      have H1 : (some false) = some r := by rw [if_neg (show ¬ (false = true) by decide)] at H; exact H
      clear H
      have H := H1
      clear H1
      obtain rfl := Option.some.inj H
      go_enter Try.func22, Try.ntmps22
      go_wp2_with (first | ((with_reducible refine gate_callee (f := 31) rfl ?_); refine goesL_ (some 1) rfl rfl Try.func31 (by kernel_rfl) rfl #[.int .u32 155189252, .int .i64 20] rfl (by (try simp only [List.map_toArray, List.map_cons, List.map_nil]); first | done | rfl | (simp only [List.length_drop, List.length_take]; rfl)) ?_; (with_reducible refine (psl_Enter.calls 155189252 20 t105 _ A1.out).mono ?_); rintro e w' ⟨rfl, ⟨nd, rfl⟩⟩; refine ⟨_, rfl, ?_⟩) | (go_at_call 27; (with_reducible refine (psl_Good.calls 20971520 false _ A3.out).mono ?_); rintro e w' ⟨rfl, ⟨nd, rfl⟩⟩))
      go_ret
      exact ⟨by first | rfl | (simp; done) | (simp [*]; done), by repeat (first | exact Drawn0.refl _ | apply Drawn0.step)⟩
  · rw [if_neg c2] at H
    have c2b0 : (t105 == 5505024) = false := beq_eq_false_iff_ne.mpr c2
    have c2b1 : (t105 != 5505024) = true := bne_iff_ne.mpr c2
    obtain rfl := Option.some.inj H
    go_enter Try.func22, Try.ntmps22
    go_wp2_with (first | ((with_reducible refine gate_callee (f := 31) rfl ?_); refine goesL_ (some 1) rfl rfl Try.func31 (by kernel_rfl) rfl #[.int .u32 155189252, .int .i64 20] rfl (by (try simp only [List.map_toArray, List.map_cons, List.map_nil]); first | done | rfl | (simp only [List.length_drop, List.length_take]; rfl)) ?_; (with_reducible refine (psl_Enter.calls 155189252 20 t105 _ A1.out).mono ?_); rintro e w' ⟨rfl, ⟨nd, rfl⟩⟩; refine ⟨_, rfl, ?_⟩))
    go_ret
    exact ⟨by first | rfl | (simp; done) | (simp [*]; done), by repeat (first | exact Drawn0.refl _ | apply Drawn0.step)⟩

/-! ### psl_Branch: function 44 -/
def psl_Branch.f (a0 : Int) (a1_0 : Bool) (a1_1 : Bool) (a1_2 : Bool) (a1_3 : Bool) : Option (Bool) := if (Go.bits .andNot .i64 a0 1) = 18 then (some ((!a1_1) != ((Go.bits .and .i64 a0 1) == 1))) else (if (Go.bits .andNot .i64 a0 1) = 20 then (if a1_0 = true then (some (false != ((Go.bits .and .i64 a0 1) == 1))) else (some ((!a1_1) != ((Go.bits .and .i64 a0 1) == 1)))) else (if (Go.bits .andNot .i64 a0 1) = 24 then (some ((!a1_0) != ((Go.bits .and .i64 a0 1) == 1))) else (if (Go.bits .andNot .i64 a0 1) = 26 then (if a1_3 = true then (some (false != ((Go.bits .and .i64 a0 1) == 1))) else (some ((!a1_1) != ((Go.bits .and .i64 a0 1) == 1)))) else (if (Go.bits .andNot .i64 a0 1) = 28 then (some ((!a1_2) != ((Go.bits .and .i64 a0 1) == 1))) else (if (Go.bits .andNot .i64 a0 1) = 30 then (some ((!a1_3) != ((Go.bits .and .i64 a0 1) == 1))) else (some false))))))
set_option maxHeartbeats 8000000 in
set_option maxRecDepth 100000 in
theorem psl_Branch.calls (a0 : Int) (a1_0 : Bool) (a1_1 : Bool) (a1_2 : Bool) (a1_3 : Bool) (r : Bool) (w : World) (h : psl_Branch.f a0 a1_0 a1_1 a1_2 a1_3 = some r) :
    Calls Try.prog 44 #[.int .i64 a0, .agg #[.bool a1_0, .bool a1_1, .bool a1_2, .bool a1_3]] w fun e w' => e = .returned (.bool r) ∧ Below w.heap.size w w' := by
  have hu32 := Try.underlying32
  have HB := Aside0.mk (Below.refl w.heap.size w)
  have H : (if (Go.bits .andNot .i64 a0 1) = 18 then (some ((!a1_1) != ((Go.bits .and .i64 a0 1) == 1))) else (if (Go.bits .andNot .i64 a0 1) = 20 then (if a1_0 = true then (some (false != ((Go.bits .and .i64 a0 1) == 1))) else (some ((!a1_1) != ((Go.bits .and .i64 a0 1) == 1)))) else (if (Go.bits .andNot .i64 a0 1) = 24 then (some ((!a1_0) != ((Go.bits .and .i64 a0 1) == 1))) else (if (Go.bits .andNot .i64 a0 1) = 26 then (if a1_3 = true then (some (false != ((Go.bits .and .i64 a0 1) == 1))) else (some ((!a1_1) != ((Go.bits .and .i64 a0 1) == 1)))) else (if (Go.bits .andNot .i64 a0 1) = 28 then (some ((!a1_2) != ((Go.bits .and .i64 a0 1) == 1))) else (if (Go.bits .andNot .i64 a0 1) = 30 then (some ((!a1_3) != ((Go.bits .and .i64 a0 1) == 1))) else (some false))))))) = some r := h
  clear h
  by_cases c3 : (Go.bits .andNot .i64 a0 1) = 18
  · rw [if_pos c3] at H
    have c3b0 : ((Go.bits .andNot .i64 a0 1) == 18) = true := beq_iff_eq.mpr c3
    have c3b1 : ((Go.bits .andNot .i64 a0 1) != 18) = false := bne_eq_false_iff_eq.mpr c3
    clear c3
    obtain rfl := Option.some.inj H
    go_enter Try.func44, Try.ntmps44
    go_wp2_with (first | ((with_reducible refine gate_dst (N := 3) rfl ?_); refine box_event ?hg (N := 3) ?hd (cs := #[.bool a1_0, .bool a1_1, .bool a1_2, .bool a1_3]) (t := 32) ?hr ?_; (case hd => rfl); (case hg => rfl); (case hr => first | (go_simp; done) | (go_simp; rfl)); intro gb108 hg w4 hbox hb; have n0_ := Aside0.mk (below_step (by repeat (first | (with_reducible first | exact HB.out | apply below_alloc | apply pw_below_drewN | apply below_drew1) | exact HB.out)) hb); have n1_ := Aside0.mk (hbox); have n2_ := Aside0.mk ((by rw [hg]; exact (below_size (by repeat (first | (with_reducible first | exact HB.out | apply below_alloc | apply pw_below_drewN | apply below_drew1) | exact HB.out))) : w.heap.size ≤ gb108)); have n3_ := Aside0.mk ((by rw [hg]; exact (below_size (by repeat (first | (with_reducible first | exact HB.out | apply below_alloc | apply pw_below_drewN | apply below_drew1) | exact HB.out))) : w.heap.size ≤ gb108)); clear HB; have HB := n0_; have BK108 := n1_; have GW108 := n2_; have GE108 := n3_; clear n0_ n1_ n2_ n3_; clear hb hbox hg; have hcz5_0 : w4.cell? ⟨gb108, 0, none⟩ = some (.bool a1_0) := (blk_cell BK108.out 0).trans rfl; have hcz5_1 : w4.cell? ⟨gb108, 1, none⟩ = some (.bool a1_1) := (blk_cell BK108.out 1).trans rfl; have hcz5_2 : w4.cell? ⟨gb108, 2, none⟩ = some (.bool a1_2) := (blk_cell BK108.out 2).trans rfl; have hcz5_3 : w4.cell? ⟨gb108, 3, none⟩ = some (.bool a1_3) := (blk_cell BK108.out 3).trans rfl; have hfz5_0 := blk_frozen BK108.out 0; have hfz5_1 := blk_frozen BK108.out 1; have hfz5_2 := blk_frozen BK108.out 2; have hfz5_3 := blk_frozen BK108.out 3))
    go_ret
    exact ⟨by first | rfl | (simp [errW_none, errW_some] <;> rfl) | (simp [*, errW_none, errW_some] <;> rfl) | (simp [errW_none, errW_some]; (try cases a1_0) <;> (try cases a1_1) <;> (try cases a1_2) <;> (try cases a1_3) <;> simp), by repeat (first | (with_reducible first | exact HB.out | apply below_alloc | apply pw_below_drewN | apply below_drew1 | refine below_set ?_ GE108.out) | exact HB.out)⟩
  · rw [if_neg c3] at H
    have c3b0 : ((Go.bits .andNot .i64 a0 1) == 18) = false := beq_eq_false_iff_ne.mpr c3
    have c3b1 : ((Go.bits .andNot .i64 a0 1) != 18) = true := bne_iff_ne.mpr c3
    by_cases c6 : (Go.bits .andNot .i64 a0 1) = 20
    · rw [if_pos c6] at H
      have c6b0 : ((Go.bits .andNot .i64 a0 1) == 20) = true := beq_iff_eq.mpr c6
      have c6b1 : ((Go.bits .andNot .i64 a0 1) != 20) = false := bne_eq_false_iff_eq.mpr c6
      clear c6
      by_cases c7 : a1_0 = true
      · subst c7
        have H1 : (some (false != ((Go.bits .and .i64 a0 1) == 1))) = some r := by rw [if_pos rfl] at H; exact H
        clear H
        have H := H1
        clear H1
        obtain rfl := Option.some.inj H
        go_enter Try.func44, Try.ntmps44
        go_wp2_with (first | ((with_reducible refine gate_dst (N := 3) rfl ?_); refine box_event ?hg (N := 3) ?hd (cs := #[.bool true, .bool a1_1, .bool a1_2, .bool a1_3]) (t := 32) ?hr ?_; (case hd => rfl); (case hg => rfl); (case hr => first | (go_simp; done) | (go_simp; rfl)); intro gb108 hg w8 hbox hb; have n0_ := Aside0.mk (below_step (by repeat (first | (with_reducible first | exact HB.out | apply below_alloc | apply pw_below_drewN | apply below_drew1) | exact HB.out)) hb); have n1_ := Aside0.mk (hbox); have n2_ := Aside0.mk ((by rw [hg]; exact (below_size (by repeat (first | (with_reducible first | exact HB.out | apply below_alloc | apply pw_below_drewN | apply below_drew1) | exact HB.out))) : w.heap.size ≤ gb108)); have n3_ := Aside0.mk ((by rw [hg]; exact (below_size (by repeat (first | (with_reducible first | exact HB.out | apply below_alloc | apply pw_below_drewN | apply below_drew1) | exact HB.out))) : w.heap.size ≤ gb108)); clear HB; have HB := n0_; have BK108 := n1_; have GW108 := n2_; have GE108 := n3_; clear n0_ n1_ n2_ n3_; clear hb hbox hg; have hcz9_0 : w8.cell? ⟨gb108, 0, none⟩ = some (.bool true) := (blk_cell BK108.out 0).trans rfl; have hcz9_1 : w8.cell? ⟨gb108, 1, none⟩ = some (.bool a1_1) := (blk_cell BK108.out 1).trans rfl; have hcz9_2 : w8.cell? ⟨gb108, 2, none⟩ = some (.bool a1_2) := (blk_cell BK108.out 2).trans rfl; have hcz9_3 : w8.cell? ⟨gb108, 3, none⟩ = some (.bool a1_3) := (blk_cell BK108.out 3).trans rfl; have hfz9_0 := blk_frozen BK108.out 0; have hfz9_1 := blk_frozen BK108.out 1; have hfz9_2 := blk_frozen BK108.out 2; have hfz9_3 := blk_frozen BK108.out 3))
        go_ret
        exact ⟨by first | rfl | (simp [errW_none, errW_some] <;> rfl) | (simp [*, errW_none, errW_some] <;> rfl) | (simp [errW_none, errW_some]; (try cases a1_0) <;> (try cases a1_1) <;> (try cases a1_2) <;> (try cases a1_3) <;> simp), by repeat (first | (with_reducible first | exact HB.out | apply below_alloc | apply pw_below_drewN | apply below_drew1 | refine below_set ?_ GE108.out) | exact HB.out)⟩
      · replace c7 := Bool.eq_false_iff.mpr c7
        subst c7
        have H1 : (some ((!a1_1) != ((Go.bits .and .i64 a0 1) == 1))) = some r := by rw [if_neg (show ¬ (false = true) by decide)] at H; exact H
        clear H
        have H := H1
        clear H1
        obtain rfl := Option.some.inj H
        go_enter Try.func44, Try.ntmps44
        go_wp2_with (first | ((with_reducible refine gate_dst (N := 3) rfl ?_); refine box_event ?hg (N := 3) ?hd (cs := #[.bool false, .bool a1_1, .bool a1_2, .bool a1_3]) (t := 32) ?hr ?_; (case hd => rfl); (case hg => rfl); (case hr => first | (go_simp; done) | (go_simp; rfl)); intro gb108 hg w10 hbox hb; have n0_ := Aside0.mk (below_step (by repeat (first | (with_reducible first | exact HB.out | apply below_alloc | apply pw_below_drewN | apply below_drew1) | exact HB.out)) hb); have n1_ := Aside0.mk (hbox); have n2_ := Aside0.mk ((by rw [hg]; exact (below_size (by repeat (first | (with_reducible first | exact HB.out | apply below_alloc | apply pw_below_drewN | apply below_drew1) | exact HB.out))) : w.heap.size ≤ gb108)); have n3_ := Aside0.mk ((by rw [hg]; exact (below_size (by repeat (first | (with_reducible first | exact HB.out | apply below_alloc | apply pw_below_drewN | apply below_drew1) | exact HB.out))) : w.heap.size ≤ gb108)); clear HB; have HB := n0_; have BK108 := n1_; have GW108 := n2_; have GE108 := n3_; clear n0_ n1_ n2_ n3_; clear hb hbox hg; have hcz11_0 : w10.cell? ⟨gb108, 0, none⟩ = some (.bool false) := (blk_cell BK108.out 0).trans rfl; have hcz11_1 : w10.cell? ⟨gb108, 1, none⟩ = some (.bool a1_1) := (blk_cell BK108.out 1).trans rfl; have hcz11_2 : w10.cell? ⟨gb108, 2, none⟩ = some (.bool a1_2) := (blk_cell BK108.out 2).trans rfl; have hcz11_3 : w10.cell? ⟨gb108, 3, none⟩ = some (.bool a1_3) := (blk_cell BK108.out 3).trans rfl; have hfz11_0 := blk_frozen BK108.out 0; have hfz11_1 := blk_frozen BK108.out 1; have hfz11_2 := blk_frozen BK108.out 2; have hfz11_3 := blk_frozen BK108.out 3))
        go_ret
        exact ⟨by first | rfl | (simp [errW_none, errW_some] <;> rfl) | (simp [*, errW_none, errW_some] <;> rfl) | (simp [errW_none, errW_some]; (try cases a1_0) <;> (try cases a1_1) <;> (try cases a1_2) <;> (try cases a1_3) <;> simp), by repeat (first | (with_reducible first | exact HB.out | apply below_alloc | apply pw_below_drewN | apply below_drew1 | refine below_set ?_ GE108.out) | exact HB.out)⟩
    · rw [if_neg c6] at H
      have c6b0 : ((Go.bits .andNot .i64 a0 1) == 20) = false := beq_eq_false_iff_ne.mpr c6
      have c6b1 : ((Go.bits .andNot .i64 a0 1) != 20) = true := bne_iff_ne.mpr c6
      by_cases c12 : (Go.bits .andNot .i64 a0 1) = 24
      · rw [if_pos c12] at H
        have c12b0 : ((Go.bits .andNot .i64 a0 1) == 24) = true := beq_iff_eq.mpr c12
        have c12b1 : ((Go.bits .andNot .i64 a0 1) != 24) = false := bne_eq_false_iff_eq.mpr c12
        clear c12
        obtain rfl := Option.some.inj H
        go_enter Try.func44, Try.ntmps44
        go_wp2_with (first | ((with_reducible refine gate_dst (N := 3) rfl ?_); refine box_event ?hg (N := 3) ?hd (cs := #[.bool a1_0, .bool a1_1, .bool a1_2, .bool a1_3]) (t := 32) ?hr ?_; (case hd => rfl); (case hg => rfl); (case hr => first | (go_simp; done) | (go_simp; rfl)); intro gb108 hg w13 hbox hb; have n0_ := Aside0.mk (below_step (by repeat (first | (with_reducible first | exact HB.out | apply below_alloc | apply pw_below_drewN | apply below_drew1) | exact HB.out)) hb); have n1_ := Aside0.mk (hbox); have n2_ := Aside0.mk ((by rw [hg]; exact (below_size (by repeat (first | (with_reducible first | exact HB.out | apply below_alloc | apply pw_below_drewN | apply below_drew1) | exact HB.out))) : w.heap.size ≤ gb108)); have n3_ := Aside0.mk ((by rw [hg]; exact (below_size (by repeat (first | (with_reducible first | exact HB.out | apply below_alloc | apply pw_below_drewN | apply below_drew1) | exact HB.out))) : w.heap.size ≤ gb108)); clear HB; have HB := n0_; have BK108 := n1_; have GW108 := n2_; have GE108 := n3_; clear n0_ n1_ n2_ n3_; clear hb hbox hg; have hcz14_0 : w13.cell? ⟨gb108, 0, none⟩ = some (.bool a1_0) := (blk_cell BK108.out 0).trans rfl; have hcz14_1 : w13.cell? ⟨gb108, 1, none⟩ = some (.bool a1_1) := (blk_cell BK108.out 1).trans rfl; have hcz14_2 : w13.cell? ⟨gb108, 2, none⟩ = some (.bool a1_2) := (blk_cell BK108.out 2).trans rfl; have hcz14_3 : w13.cell? ⟨gb108, 3, none⟩ = some (.bool a1_3) := (blk_cell BK108.out 3).trans rfl; have hfz14_0 := blk_frozen BK108.out 0; have hfz14_1 := blk_frozen BK108.out 1; have hfz14_2 := blk_frozen BK108.out 2; have hfz14_3 := blk_frozen BK108.out 3))
        go_ret
        exact ⟨by first | rfl | (simp [errW_none, errW_some] <;> rfl) | (simp [*, errW_none, errW_some] <;> rfl) | (simp [errW_none, errW_some]; (try cases a1_0) <;> (try cases a1_1) <;> (try cases a1_2) <;> (try cases a1_3) <;> simp), by repeat (first | (with_reducible first | exact HB.out | apply below_alloc | apply pw_below_drewN | apply below_drew1 | refine below_set ?_ GE108.out) | exact HB.out)⟩
      · rw [if_neg c12] at H
        have c12b0 : ((Go.bits .andNot .i64 a0 1) == 24) = false := beq_eq_false_iff_ne.mpr c12
        have c12b1 : ((Go.bits .andNot .i64 a0 1) != 24) = true := bne_iff_ne.mpr c12
        by_cases c15 : (Go.bits .andNot .i64 a0 1) = 26
        · rw [if_pos c15] at H
          have c15b0 : ((Go.bits .andNot .i64 a0 1) == 26) = true := beq_iff_eq.mpr c15
          have c15b1 : ((Go.bits .andNot .i64 a0 1) != 26) = false := bne_eq_false_iff_eq.mpr c15
          clear c15
          by_cases c16 : a1_3 = true
          · subst c16
            have H1 : (some (false != ((Go.bits .and .i64 a0 1) == 1))) = some r := by rw [if_pos rfl] at H; exact H
            clear H
            have H := H1
            clear H1
            obtain rfl := Option.some.inj H
            go_enter Try.func44, Try.ntmps44
            go_wp2_with (first | ((with_reducible refine gate_dst (N := 3) rfl ?_); refine box_event ?hg (N := 3) ?hd (cs := #[.bool a1_0, .bool a1_1, .bool a1_2, .bool true]) (t := 32) ?hr ?_; (case hd => rfl); (case hg => rfl); (case hr => first | (go_simp; done) | (go_simp; rfl)); intro gb108 hg w17 hbox hb; have n0_ := Aside0.mk (below_step (by repeat (first | (with_reducible first | exact HB.out | apply below_alloc | apply pw_below_drewN | apply below_drew1) | exact HB.out)) hb); have n1_ := Aside0.mk (hbox); have n2_ := Aside0.mk ((by rw [hg]; exact (below_size (by repeat (first | (with_reducible first | exact HB.out | apply below_alloc | apply pw_below_drewN | apply below_drew1) | exact HB.out))) : w.heap.size ≤ gb108)); have n3_ := Aside0.mk ((by rw [hg]; exact (below_size (by repeat (first | (with_reducible first | exact HB.out | apply below_alloc | apply pw_below_drewN | apply below_drew1) | exact HB.out))) : w.heap.size ≤ gb108)); clear HB; have HB := n0_; have BK108 := n1_; have GW108 := n2_; have GE108 := n3_; clear n0_ n1_ n2_ n3_; clear hb hbox hg; have hcz18_0 : w17.cell? ⟨gb108, 0, none⟩ = some (.bool a1_0) := (blk_cell BK108.out 0).trans rfl; have hcz18_1 : w17.cell? ⟨gb108, 1, none⟩ = some (.bool a1_1) := (blk_cell BK108.out 1).trans rfl; have hcz18_2 : w17.cell? ⟨gb108, 2, none⟩ = some (.bool a1_2) := (blk_cell BK108.out 2).trans rfl; have hcz18_3 : w17.cell? ⟨gb108, 3, none⟩ = some (.bool true) := (blk_cell BK108.out 3).trans rfl; have hfz18_0 := blk_frozen BK108.out 0; have hfz18_1 := blk_frozen BK108.out 1; have hfz18_2 := blk_frozen BK108.out 2; have hfz18_3 := blk_frozen BK108.out 3))
            go_ret
            exact ⟨by first | rfl | (simp [errW_none, errW_some] <;> rfl) | (simp [*, errW_none, errW_some] <;> rfl) | (simp [errW_none, errW_some]; (try cases a1_0) <;> (try cases a1_1) <;> (try cases a1_2) <;> (try cases a1_3) <;> simp), by repeat (first | (with_reducible first | exact HB.out | apply below_alloc | apply pw_below_drewN | apply below_drew1 | refine below_set ?_ GE108.out) | exact HB.out)⟩
          · replace c16 := Bool.eq_false_iff.mpr c16
            subst c16
            have H1 : (some ((!a1_1) != ((Go.bits .and .i64 a0 1) == 1))) = some r := by rw [if_neg (show ¬ (false = true) by decide)] at H; exact H
            clear H
            have H := H1
            clear H1
            obtain rfl := Option.some.inj H
            go_enter Try.func44, Try.ntmps44
            go_wp2_with (first | ((with_reducible refine gate_dst (N := 3) rfl ?_); refine box_event ?hg (N := 3) ?hd (cs := #[.bool a1_0, .bool a1_1, .bool a1_2, .bool false]) (t := 32) ?hr ?_; (case hd => rfl); (case hg => rfl); (case hr => first | (go_simp; done) | (go_simp; rfl)); intro gb108 hg w19 hbox hb; have n0_ := Aside0.mk (below_step (by repeat (first | (with_reducible first | exact HB.out | apply below_alloc | apply pw_below_drewN | apply below_drew1) | exact HB.out)) hb); have n1_ := Aside0.mk (hbox); have n2_ := Aside0.mk ((by rw [hg]; exact (below_size (by repeat (first | (with_reducible first | exact HB.out | apply below_alloc | apply pw_below_drewN | apply below_drew1) | exact HB.out))) : w.heap.size ≤ gb108)); have n3_ := Aside0.mk ((by rw [hg]; exact (below_size (by repeat (first | (with_reducible first | exact HB.out | apply below_alloc | apply pw_below_drewN | apply below_drew1) | exact HB.out))) : w.heap.size ≤ gb108)); clear HB; have HB := n0_; have BK108 := n1_; have GW108 := n2_; have GE108 := n3_; clear n0_ n1_ n2_ n3_; clear hb hbox hg; have hcz20_0 : w19.cell? ⟨gb108, 0, none⟩ = some (.bool a1_0) := (blk_cell BK108.out 0).trans rfl; have hcz20_1 : w19.cell? ⟨gb108, 1, none⟩ = some (.bool a1_1) := (blk_cell BK108.out 1).trans rfl; have hcz20_2 : w19.cell? ⟨gb108, 2, none⟩ = some (.bool a1_2) := (blk_cell BK108.out 2).trans rfl; have hcz20_3 : w19.cell? ⟨gb108, 3, none⟩ = some (.bool false) := (blk_cell BK108.out 3).trans rfl; have hfz20_0 := blk_frozen BK108.out 0; have hfz20_1 := blk_frozen BK108.out 1; have hfz20_2 := blk_frozen BK108.out 2; have hfz20_3 := blk_frozen BK108.out 3))
            go_ret
            exact ⟨by first | rfl | (simp [errW_none, errW_some] <;> rfl) | (simp [*, errW_none, errW_some] <;> rfl) | (simp [errW_none, errW_some]; (try cases a1_0) <;> (try cases a1_1) <;> (try cases a1_2) <;> (try cases a1_3) <;> simp), by repeat (first | (with_reducible first | exact HB.out | apply below_alloc | apply pw_below_drewN | apply below_drew1 | refine below_set ?_ GE108.out) | exact HB.out)⟩
        · rw [if_neg c15] at H
          have c15b0 : ((Go.bits .andNot .i64 a0 1) == 26) = false := beq_eq_false_iff_ne.mpr c15
          have c15b1 : ((Go.bits .andNot .i64 a0 1) != 26) = true := bne_iff_ne.mpr c15
          by_cases c21 : (Go.bits .andNot .i64 a0 1) = 28
          · rw [if_pos c21] at H
            have c21b0 : ((Go.bits .andNot .i64 a0 1) == 28) = true := beq_iff_eq.mpr c21
            have c21b1 : ((Go.bits .andNot .i64 a0 1) != 28) = false := bne_eq_false_iff_eq.mpr c21
            clear c21
            obtain rfl := Option.some.inj H
            go_enter Try.func44, Try.ntmps44
            go_wp2_with (first | ((with_reducible refine gate_dst (N := 3) rfl ?_); refine box_event ?hg (N := 3) ?hd (cs := #[.bool a1_0, .bool a1_1, .bool a1_2, .bool a1_3]) (t := 32) ?hr ?_; (case hd => rfl); (case hg => rfl); (case hr => first | (go_simp; done) | (go_simp; rfl)); intro gb108 hg w22 hbox hb; have n0_ := Aside0.mk (below_step (by repeat (first | (with_reducible first | exact HB.out | apply below_alloc | apply pw_below_drewN | apply below_drew1) | exact HB.out)) hb); have n1_ := Aside0.mk (hbox); have n2_ := Aside0.mk ((by rw [hg]; exact (below_size (by repeat (first | (with_reducible first | exact HB.out | apply below_alloc | apply pw_below_drewN | apply below_drew1) | exact HB.out))) : w.heap.size ≤ gb108)); have n3_ := Aside0.mk ((by rw [hg]; exact (below_size (by repeat (first | (with_reducible first | exact HB.out | apply below_alloc | apply pw_below_drewN | apply below_drew1) | exact HB.out))) : w.heap.size ≤ gb108)); clear HB; have HB := n0_; have BK108 := n1_; have GW108 := n2_; have GE108 := n3_; clear n0_ n1_ n2_ n3_; clear hb hbox hg; have hcz23_0 : w22.cell? ⟨gb108, 0, none⟩ = some (.bool a1_0) := (blk_cell BK108.out 0).trans rfl; have hcz23_1 : w22.cell? ⟨gb108, 1, none⟩ = some (.bool a1_1) := (blk_cell BK108.out 1).trans rfl; have hcz23_2 : w22.cell? ⟨gb108, 2, none⟩ = some (.bool a1_2) := (blk_cell BK108.out 2).trans rfl; have hcz23_3 : w22.cell? ⟨gb108, 3, none⟩ = some (.bool a1_3) := (blk_cell BK108.out 3).trans rfl; have hfz23_0 := blk_frozen BK108.out 0; have hfz23_1 := blk_frozen BK108.out 1; have hfz23_2 := blk_frozen BK108.out 2; have hfz23_3 := blk_frozen BK108.out 3))
            go_ret
            exact ⟨by first | rfl | (simp [errW_none, errW_some] <;> rfl) | (simp [*, errW_none, errW_some] <;> rfl) | (simp [errW_none, errW_some]; (try cases a1_0) <;> (try cases a1_1) <;> (try cases a1_2) <;> (try cases a1_3) <;> simp), by repeat (first | (with_reducible first | exact HB.out | apply below_alloc | apply pw_below_drewN | apply below_drew1 | refine below_set ?_ GE108.out) | exact HB.out)⟩
          · rw [if_neg c21] at H
            have c21b0 : ((Go.bits .andNot .i64 a0 1) == 28) = false := beq_eq_false_iff_ne.mpr c21
            have c21b1 : ((Go.bits .andNot .i64 a0 1) != 28) = true := bne_iff_ne.mpr c21
            by_cases c24 : (Go.bits .andNot .i64 a0 1) = 30
            · rw [if_pos c24] at H
              have c24b0 : ((Go.bits .andNot .i64 a0 1) == 30) = true := beq_iff_eq.mpr c24
              have c24b1 : ((Go.bits .andNot .i64 a0 1) != 30) = false := bne_eq_false_iff_eq.mpr c24
              clear c24
              obtain rfl := Option.some.inj H
              go_enter Try.func44, Try.ntmps44
              go_wp2_with (first | ((with_reducible refine gate_dst (N := 3) rfl ?_); refine box_event ?hg (N := 3) ?hd (cs := #[.bool a1_0, .bool a1_1, .bool a1_2, .bool a1_3]) (t := 32) ?hr ?_; (case hd => rfl); (case hg => rfl); (case hr => first | (go_simp; done) | (go_simp; rfl)); intro gb108 hg w25 hbox hb; have n0_ := Aside0.mk (below_step (by repeat (first | (with_reducible first | exact HB.out | apply below_alloc | apply pw_below_drewN | apply below_drew1) | exact HB.out)) hb); have n1_ := Aside0.mk (hbox); have n2_ := Aside0.mk ((by rw [hg]; exact (below_size (by repeat (first | (with_reducible first | exact HB.out | apply below_alloc | apply pw_below_drewN | apply below_drew1) | exact HB.out))) : w.heap.size ≤ gb108)); have n3_ := Aside0.mk ((by rw [hg]; exact (below_size (by repeat (first | (with_reducible first | exact HB.out | apply below_alloc | apply pw_below_drewN | apply below_drew1) | exact HB.out))) : w.heap.size ≤ gb108)); clear HB; have HB := n0_; have BK108 := n1_; have GW108 := n2_; have GE108 := n3_; clear n0_ n1_ n2_ n3_; clear hb hbox hg; have hcz26_0 : w25.cell? ⟨gb108, 0, none⟩ = some (.bool a1_0) := (blk_cell BK108.out 0).trans rfl; have hcz26_1 : w25.cell? ⟨gb108, 1, none⟩ = some (.bool a1_1) := (blk_cell BK108.out 1).trans rfl; have hcz26_2 : w25.cell? ⟨gb108, 2, none⟩ = some (.bool a1_2) := (blk_cell BK108.out 2).trans rfl; have hcz26_3 : w25.cell? ⟨gb108, 3, none⟩ = some (.bool a1_3) := (blk_cell BK108.out 3).trans rfl; have hfz26_0 := blk_frozen BK108.out 0; have hfz26_1 := blk_frozen BK108.out 1; have hfz26_2 := blk_frozen BK108.out 2; have hfz26_3 := blk_frozen BK108.out 3))
              go_ret
              exact ⟨by first | rfl | (simp [errW_none, errW_some] <;> rfl) | (simp [*, errW_none, errW_some] <;> rfl) | (simp [errW_none, errW_some]; (try cases a1_0) <;> (try cases a1_1) <;> (try cases a1_2) <;> (try cases a1_3) <;> simp), by repeat (first | (with_reducible first | exact HB.out | apply below_alloc | apply pw_below_drewN | apply below_drew1 | refine below_set ?_ GE108.out) | exact HB.out)⟩
            · rw [if_neg c24] at H
              have c24b0 : ((Go.bits .andNot .i64 a0 1) == 30) = false := beq_eq_false_iff_ne.mpr c24
              have c24b1 : ((Go.bits .andNot .i64 a0 1) != 30) = true := bne_iff_ne.mpr c24
              obtain rfl := Option.some.inj H
              go_enter Try.func44, Try.ntmps44
              go_wp2_with (first | ((with_reducible refine gate_dst (N := 3) rfl ?_); refine box_event ?hg (N := 3) ?hd (cs := #[.bool a1_0, .bool a1_1, .bool a1_2, .bool a1_3]) (t := 32) ?hr ?_; (case hd => rfl); (case hg => rfl); (case hr => first | (go_simp; done) | (go_simp; rfl)); intro gb108 hg w27 hbox hb; have n0_ := Aside0.mk (below_step (by repeat (first | (with_reducible first | exact HB.out | apply below_alloc | apply pw_below_drewN | apply below_drew1) | exact HB.out)) hb); have n1_ := Aside0.mk (hbox); have n2_ := Aside0.mk ((by rw [hg]; exact (below_size (by repeat (first | (with_reducible first | exact HB.out | apply below_alloc | apply pw_below_drewN | apply below_drew1) | exact HB.out))) : w.heap.size ≤ gb108)); have n3_ := Aside0.mk ((by rw [hg]; exact (below_size (by repeat (first | (with_reducible first | exact HB.out | apply below_alloc | apply pw_below_drewN | apply below_drew1) | exact HB.out))) : w.heap.size ≤ gb108)); clear HB; have HB := n0_; have BK108 := n1_; have GW108 := n2_; have GE108 := n3_; clear n0_ n1_ n2_ n3_; clear hb hbox hg))
              go_ret
              exact ⟨by first | rfl | (simp [errW_none, errW_some] <;> rfl) | (simp [*, errW_none, errW_some] <;> rfl) | (simp [errW_none, errW_some]; (try cases a1_0) <;> (try cases a1_1) <;> (try cases a1_2) <;> (try cases a1_3) <;> simp), by repeat (first | (with_reducible first | exact HB.out | apply below_alloc | apply pw_below_drewN | apply below_drew1 | refine below_set ?_ GE108.out) | exact HB.out)⟩

/-! ### camshaftref06_Branch: function 45 -/
def camshaftref06_Branch.f (a0 : Int) (a1_0 : Bool) (a1_1 : Bool) (a1_2 : Bool) (a1_3 : Bool) : Option (Bool) := if a0 = 18 then (some (!a1_1)) else (if a0 = 19 then (some a1_1) else (if a0 = 20 then (if a1_0 = true then (some false) else (some (!a1_1))) else (if a0 = 21 then (if a1_0 = true then (some true) else (some a1_1)) else (if a0 = 24 then (some (!a1_0)) else (if a0 = 25 then (some a1_0) else (if a0 = 26 then (if a1_3 = true then (some false) else (some (!a1_1))) else (if a0 = 27 then (if a1_3 = true then (some true) else (some a1_1)) else (if a0 = 28 then (some (!a1_2)) else (if a0 = 29 then (some a1_2) else (if a0 = 30 then (some (!a1_3)) else (if a0 = 31 then (some a1_3) else (some false))))))))))))
set_option maxHeartbeats 8000000 in
set_option maxRecDepth 100000 in
theorem camshaftref06_Branch.calls (a0 : Int) (a1_0 : Bool) (a1_1 : Bool) (a1_2 : Bool) (a1_3 : Bool) (r : Bool) (w : World) (h : camshaftref06_Branch.f a0 a1_0 a1_1 a1_2 a1_3 = some r) :
    Calls Try.prog 45 #[.int .i64 a0, .agg #[.bool a1_0, .bool a1_1, .bool a1_2, .bool a1_3]] w fun e w' => e = .returned (.bool r) ∧ Below w.heap.size w w' := by
  have hu32 := Try.underlying32
  have HB := Aside0.mk (Below.refl w.heap.size w)
  have H : (if a0 = 18 then (some (!a1_1)) else (if a0 = 19 then (some a1_1) else (if a0 = 20 then (if a1_0 = true then (some false) else (some (!a1_1))) else (if a0 = 21 then (if a1_0 = true then (some true) else (some a1_1)) else (if a0 = 24 then (some (!a1_0)) else (if a0 = 25 then (some a1_0) else (if a0 = 26 then (if a1_3 = true then (some false) else (some (!a1_1))) else (if a0 = 27 then (if a1_3 = true then (some true) else (some a1_1)) else (if a0 = 28 then (some (!a1_2)) else (if a0 = 29 then (some a1_2) else (if a0 = 30 then (some (!a1_3)) else (if a0 = 31 then (some a1_3) else (some false))))))))))))) = some r := h
  clear h
  by_cases c3 : a0 = 18
  · rw [if_pos c3] at H
    have c3b0 : (a0 == 18) = true := beq_iff_eq.mpr c3
    have c3b1 : (a0 != 18) = false := bne_eq_false_iff_eq.mpr c3
    clear c3
    obtain rfl := Option.some.inj H
    go_enter Try.func45, Try.ntmps45
    go_wp2_with (first | ((with_reducible refine gate_dst (N := 3) rfl ?_); refine box_event ?hg (N := 3) ?hd (cs := #[.bool a1_0, .bool a1_1, .bool a1_2, .bool a1_3]) (t := 32) ?hr ?_; (case hd => rfl); (case hg => rfl); (case hr => first | (go_simp; done) | (go_simp; rfl)); intro gb109 hg w4 hbox hb; have n0_ := Aside0.mk (below_step (by repeat (first | (with_reducible first | exact HB.out | apply below_alloc | apply pw_below_drewN | apply below_drew1) | exact HB.out)) hb); have n1_ := Aside0.mk (hbox); have n2_ := Aside0.mk ((by rw [hg]; exact (below_size (by repeat (first | (with_reducible first | exact HB.out | apply below_alloc | apply pw_below_drewN | apply below_drew1) | exact HB.out))) : w.heap.size ≤ gb109)); have n3_ := Aside0.mk ((by rw [hg]; exact (below_size (by repeat (first | (with_reducible first | exact HB.out | apply below_alloc | apply pw_below_drewN | apply below_drew1) | exact HB.out))) : w.heap.size ≤ gb109)); clear HB; have HB := n0_; have BK109 := n1_; have GW109 := n2_; have GE109 := n3_; clear n0_ n1_ n2_ n3_; clear hb hbox hg; have hcz5_0 : w4.cell? ⟨gb109, 0, none⟩ = some (.bool a1_0) := (blk_cell BK109.out 0).trans rfl; have hcz5_1 : w4.cell? ⟨gb109, 1, none⟩ = some (.bool a1_1) := (blk_cell BK109.out 1).trans rfl; have hcz5_2 : w4.cell? ⟨gb109, 2, none⟩ = some (.bool a1_2) := (blk_cell BK109.out 2).trans rfl; have hcz5_3 : w4.cell? ⟨gb109, 3, none⟩ = some (.bool a1_3) := (blk_cell BK109.out 3).trans rfl; have hfz5_0 := blk_frozen BK109.out 0; have hfz5_1 := blk_frozen BK109.out 1; have hfz5_2 := blk_frozen BK109.out 2; have hfz5_3 := blk_frozen BK109.out 3))
    go_ret
    exact ⟨by first | rfl | (simp [errW_none, errW_some] <;> rfl) | (simp [*, errW_none, errW_some] <;> rfl) | (simp [errW_none, errW_some]; (try cases a1_0) <;> (try cases a1_1) <;> (try cases a1_2) <;> (try cases a1_3) <;> simp), by repeat (first | (with_reducible first | exact HB.out | apply below_alloc | apply pw_below_drewN | apply below_drew1 | refine below_set ?_ GE109.out) | exact HB.out)⟩
  · rw [if_neg c3] at H
    have c3b0 : (a0 == 18) = false := beq_eq_false_iff_ne.mpr c3
    have c3b1 : (a0 != 18) = true := bne_iff_ne.mpr c3
    by_cases c6 : a0 = 19
    · rw [if_pos c6] at H
      have c6b0 : (a0 == 19) = true := beq_iff_eq.mpr c6
      have c6b1 : (a0 != 19) = false := bne_eq_false_iff_eq.mpr c6
      clear c6
      obtain rfl := Option.some.inj H
      go_enter Try.func45, Try.ntmps45
      go_wp2_with (first | ((with_reducible refine gate_dst (N := 3) rfl ?_); refine box_event ?hg (N := 3) ?hd (cs := #[.bool a1_0, .bool a1_1, .bool a1_2, .bool a1_3]) (t := 32) ?hr ?_; (case hd => rfl); (case hg => rfl); (case hr => first | (go_simp; done) | (go_simp; rfl)); intro gb109 hg w7 hbox hb; have n0_ := Aside0.mk (below_step (by repeat (first | (with_reducible first | exact HB.out | apply below_alloc | apply pw_below_drewN | apply below_drew1) | exact HB.out)) hb); have n1_ := Aside0.mk (hbox); have n2_ := Aside0.mk ((by rw [hg]; exact (below_size (by repeat (first | (with_reducible first | exact HB.out | apply below_alloc | apply pw_below_drewN | apply below_drew1) | exact HB.out))) : w.heap.size ≤ gb109)); have n3_ := Aside0.mk ((by rw [hg]; exact (below_size (by repeat (first | (with_reducible first | exact HB.out | apply below_alloc | apply pw_below_drewN | apply below_drew1) | exact HB.out))) : w.heap.size ≤ gb109)); clear HB; have HB := n0_; have BK109 := n1_; have GW109 := n2_; have GE109 := n3_; clear n0_ n1_ n2_ n3_; clear hb hbox hg; have hcz8_0 : w7.cell? ⟨gb109, 0, none⟩ = some (.bool a1_0) := (blk_cell BK109.out 0).trans rfl; have hcz8_1 : w7.cell? ⟨gb109, 1, none⟩ = some (.bool a1_1) := (blk_cell BK109.out 1).trans rfl; have hcz8_2 : w7.cell? ⟨gb109, 2, none⟩ = some (.bool a1_2) := (blk_cell BK109.out 2).trans rfl; have hcz8_3 : w7.cell? ⟨gb109, 3, none⟩ = some (.bool a1_3) := (blk_cell BK109.out 3).trans rfl; have hfz8_0 := blk_frozen BK109.out 0; have hfz8_1 := blk_frozen BK109.out 1; have hfz8_2 := blk_frozen BK109.out 2; have hfz8_3 := blk_frozen BK109.out 3))
      go_ret
      exact ⟨by first | rfl | (simp [errW_none, errW_some] <;> rfl) | (simp [*, errW_none, errW_some] <;> rfl) | (simp [errW_none, errW_some]; (try cases a1_0) <;> (try cases a1_1) <;> (try cases a1_2) <;> (try cases a1_3) <;> simp), by repeat (first | (with_reducible first | exact HB.out | apply below_alloc | apply pw_below_drewN | apply below_drew1 | refine below_set ?_ GE109.out) | exact HB.out)⟩
    · rw [if_neg c6] at H
      have c6b0 : (a0 == 19) = false := beq_eq_false_iff_ne.mpr c6
      have c6b1 : (a0 != 19) = true := bne_iff_ne.mpr c6
      by_cases c9 : a0 = 20
      · rw [if_pos c9] at H
        have c9b0 : (a0 == 20) = true := beq_iff_eq.mpr c9
        have c9b1 : (a0 != 20) = false := bne_eq_false_iff_eq.mpr c9
        clear c9
        by_cases c10 : a1_0 = true
        · subst c10
          have H1 : (some false) = some r := by rw [if_pos rfl] at H; exact H
          clear H
          have H := H1
          clear H1
          obtain rfl := Option.some.inj H
          go_enter Try.func45, Try.ntmps45
          go_wp2_with (first | ((with_reducible refine gate_dst (N := 3) rfl ?_); refine box_event ?hg (N := 3) ?hd (cs := #[.bool true, .bool a1_1, .bool a1_2, .bool a1_3]) (t := 32) ?hr ?_; (case hd => rfl); (case hg => rfl); (case hr => first | (go_simp; done) | (go_simp; rfl)); intro gb109 hg w11 hbox hb; have n0_ := Aside0.mk (below_step (by repeat (first | (with_reducible first | exact HB.out | apply below_alloc | apply pw_below_drewN | apply below_drew1) | exact HB.out)) hb); have n1_ := Aside0.mk (hbox); have n2_ := Aside0.mk ((by rw [hg]; exact (below_size (by repeat (first | (with_reducible first | exact HB.out | apply below_alloc | apply pw_below_drewN | apply below_drew1) | exact HB.out))) : w.heap.size ≤ gb109)); have n3_ := Aside0.mk ((by rw [hg]; exact (below_size (by repeat (first | (with_reducible first | exact HB.out | apply below_alloc | apply pw_below_drewN | apply below_drew1) | exact HB.out))) : w.heap.size ≤ gb109)); clear HB; have HB := n0_; have BK109 := n1_; have GW109 := n2_; have GE109 := n3_; clear n0_ n1_ n2_ n3_; clear hb hbox hg; have hcz12_0 : w11.cell? ⟨gb109, 0, none⟩ = some (.bool true) := (blk_cell BK109.out 0).trans rfl; have hcz12_1 : w11.cell? ⟨gb109, 1, none⟩ = some (.bool a1_1) := (blk_cell BK109.out 1).trans rfl; have hcz12_2 : w11.cell? ⟨gb109, 2, none⟩ = some (.bool a1_2) := (blk_cell BK109.out 2).trans rfl; have hcz12_3 : w11.cell? ⟨gb109, 3, none⟩ = some (.bool a1_3) := (blk_cell BK109.out 3).trans rfl; have hfz12_0 := blk_frozen BK109.out 0; have hfz12_1 := blk_frozen BK109.out 1; have hfz12_2 := blk_frozen BK109.out 2; have hfz12_3 := blk_frozen BK109.out 3))
          go_ret
          exact ⟨by first | rfl | (simp [errW_none, errW_some] <;> rfl) | (simp [*, errW_none, errW_some] <;> rfl) | (simp [errW_none, errW_some]; (try cases a1_0) <;> (try cases a1_1) <;> (try cases a1_2) <;> (try cases a1_3) <;> simp), by repeat (first | (with_reducible first | exact HB.out | apply below_alloc | apply pw_below_drewN | apply below_drew1 | refine below_set ?_ GE109.out) | exact HB.out)⟩
        · replace c10 := Bool.eq_false_iff.mpr c10
          subst c10
          have H1 : (some (!a1_1)) = some r := by rw [if_neg (show ¬ (false = true) by decide)] at H; exact H
          clear H
          have H := H1
          clear H1
          obtain rfl := Option.some.inj H
          go_enter Try.func45, Try.ntmps45
          go_wp2_with (first | ((with_reducible refine gate_dst (N := 3) rfl ?_); refine box_event ?hg (N := 3) ?hd (cs := #[.bool false, .bool a1_1, .bool a1_2, .bool a1_3]) (t := 32) ?hr ?_; (case hd => rfl); (case hg => rfl); (case hr => first | (go_simp; done) | (go_simp; rfl)); intro gb109 hg w13 hbox hb; have n0_ := Aside0.mk (below_step (by repeat (first | (with_reducible first | exact HB.out | apply below_alloc | apply pw_below_drewN | apply below_drew1) | exact HB.out)) hb); have n1_ := Aside0.mk (hbox); have n2_ := Aside0.mk ((by rw [hg]; exact (below_size (by repeat (first | (with_reducible first | exact HB.out | apply below_alloc | apply pw_below_drewN | apply below_drew1) | exact HB.out))) : w.heap.size ≤ gb109)); have n3_ := Aside0.mk ((by rw [hg]; exact (below_size (by repeat (first | (with_reducible first | exact HB.out | apply below_alloc | apply pw_below_drewN | apply below_drew1) | exact HB.out))) : w.heap.size ≤ gb109)); clear HB; have HB := n0_; have BK109 := n1_; have GW109 := n2_; have GE109 := n3_; clear n0_ n1_ n2_ n3_; clear hb hbox hg; have hcz14_0 : w13.cell? ⟨gb109, 0, none⟩ = some (.bool false) := (blk_cell BK109.out 0).trans rfl; have hcz14_1 : w13.cell? ⟨gb109, 1, none⟩ = some (.bool a1_1) := (blk_cell BK109.out 1).trans rfl; have hcz14_2 : w13.cell? ⟨gb109, 2, none⟩ = some (.bool a1_2) := (blk_cell BK109.out 2).trans rfl; have hcz14_3 : w13.cell? ⟨gb109, 3, none⟩ = some (.bool a1_3) := (blk_cell BK109.out 3).trans rfl; have hfz14_0 := blk_frozen BK109.out 0; have hfz14_1 := blk_frozen BK109.out 1; have hfz14_2 := blk_frozen BK109.out 2; have hfz14_3 := blk_frozen BK109.out 3))
          go_ret
          exact ⟨by first | rfl | (simp [errW_none, errW_some] <;> rfl) | (simp [*, errW_none, errW_some] <;> rfl) | (simp [errW_none, errW_some]; (try cases a1_0) <;> (try cases a1_1) <;> (try cases a1_2) <;> (try cases a1_3) <;> simp), by repeat (first | (with_reducible first | exact HB.out | apply below_alloc | apply pw_below_drewN | apply below_drew1 | refine below_set ?_ GE109.out) | exact HB.out)⟩
      · rw [if_neg c9] at H
        have c9b0 : (a0 == 20) = false := beq_eq_false_iff_ne.mpr c9
        have c9b1 : (a0 != 20) = true := bne_iff_ne.mpr c9
        by_cases c15 : a0 = 21
        · rw [if_pos c15] at H
          have c15b0 : (a0 == 21) = true := beq_iff_eq.mpr c15
          have c15b1 : (a0 != 21) = false := bne_eq_false_iff_eq.mpr c15
          clear c15
          by_cases c16 : a1_0 = true
          · subst c16
            have H1 : (some true) = some r := by rw [if_pos rfl] at H; exact H
            clear H
            have H := H1
            clear H1
            obtain rfl := Option.some.inj H
            go_enter Try.func45, Try.ntmps45
            go_wp2_with (first | ((with_reducible refine gate_dst (N := 3) rfl ?_); refine box_event ?hg (N := 3) ?hd (cs := #[.bool true, .bool a1_1, .bool a1_2, .bool a1_3]) (t := 32) ?hr ?_; (case hd => rfl); (case hg => rfl); (case hr => first | (go_simp; done) | (go_simp; rfl)); intro gb109 hg w17 hbox hb; have n0_ := Aside0.mk (below_step (by repeat (first | (with_reducible first | exact HB.out | apply below_alloc | apply pw_below_drewN | apply below_drew1) | exact HB.out)) hb); have n1_ := Aside0.mk (hbox); have n2_ := Aside0.mk ((by rw [hg]; exact (below_size (by repeat (first | (with_reducible first | exact HB.out | apply below_alloc | apply pw_below_drewN | apply below_drew1) | exact HB.out))) : w.heap.size ≤ gb109)); have n3_ := Aside0.mk ((by rw [hg]; exact (below_size (by repeat (first | (with_reducible first | exact HB.out | apply below_alloc | apply pw_below_drewN | apply below_drew1) | exact HB.out))) : w.heap.size ≤ gb109)); clear HB; have HB := n0_; have BK109 := n1_; have GW109 := n2_; have GE109 := n3_; clear n0_ n1_ n2_ n3_; clear hb hbox hg; have hcz18_0 : w17.cell? ⟨gb109, 0, none⟩ = some (.bool true) := (blk_cell BK109.out 0).trans rfl; have hcz18_1 : w17.cell? ⟨gb109, 1, none⟩ = some (.bool a1_1) := (blk_cell BK109.out 1).trans rfl; have hcz18_2 : w17.cell? ⟨gb109, 2, none⟩ = some (.bool a1_2) := (blk_cell BK109.out 2).trans rfl; have hcz18_3 : w17.cell? ⟨gb109, 3, none⟩ = some (.bool a1_3) := (blk_cell BK109.out 3).trans rfl; have hfz18_0 := blk_frozen BK109.out 0; have hfz18_1 := blk_frozen BK109.out 1; have hfz18_2 := blk_frozen BK109.out 2; have hfz18_3 := blk_frozen BK109.out 3))
            go_ret
            exact ⟨by first | rfl | (simp [errW_none, errW_some] <;> rfl) | (simp [*, errW_none, errW_some] <;> rfl) | (simp [errW_none, errW_some]; (try cases a1_0) <;> (try cases a1_1) <;> (try cases a1_2) <;> (try cases a1_3) <;> simp), by repeat (first | (with_reducible first | exact HB.out | apply below_alloc | apply pw_below_drewN | apply below_drew1 | refine below_set ?_ GE109.out) | exact HB.out)⟩
          · replace c16 := Bool.eq_false_iff.mpr c16
            subst c16
            have H1 : (some a1_1) = some r := by rw [if_neg (show ¬ (false = true) by decide)] at H; exact H
            clear H
            have H := H1
            clear H1
            obtain rfl := Option.some.inj H
            go_enter Try.func45, Try.ntmps45
            go_wp2_with (first | ((with_reducible refine gate_dst (N := 3) rfl ?_); refine box_event ?hg (N := 3) ?hd (cs := #[.bool false, .bool a1_1, .bool a1_2, .bool a1_3]) (t := 32) ?hr ?_; (case hd => rfl); (case hg => rfl); (case hr => first | (go_simp; done) | (go_simp; rfl)); intro gb109 hg w19 hbox hb; have n0_ := Aside0.mk (below_step (by repeat (first | (with_reducible first | exact HB.out | apply below_alloc | apply pw_below_drewN | apply below_drew1) | exact HB.out)) hb); have n1_ := Aside0.mk (hbox); have n2_ := Aside0.mk ((by rw [hg]; exact (below_size (by repeat (first | (with_reducible first | exact HB.out | apply below_alloc | apply pw_below_drewN | apply below_drew1) | exact HB.out))) : w.heap.size ≤ gb109)); have n3_ := Aside0.mk ((by rw [hg]; exact (below_size (by repeat (first | (with_reducible first | exact HB.out | apply below_alloc | apply pw_below_drewN | apply below_drew1) | exact HB.out))) : w.heap.size ≤ gb109)); clear HB; have HB := n0_; have BK109 := n1_; have GW109 := n2_; have GE109 := n3_; clear n0_ n1_ n2_ n3_; clear hb hbox hg; have hcz20_0 : w19.cell? ⟨gb109, 0, none⟩ = some (.bool false) := (blk_cell BK109.out 0).trans rfl; have hcz20_1 : w19.cell? ⟨gb109, 1, none⟩ = some (.bool a1_1) := (blk_cell BK109.out 1).trans rfl; have hcz20_2 : w19.cell? ⟨gb109, 2, none⟩ = some (.bool a1_2) := (blk_cell BK109.out 2).trans rfl; have hcz20_3 : w19.cell? ⟨gb109, 3, none⟩ = some (.bool a1_3) := (blk_cell BK109.out 3).trans rfl; have hfz20_0 := blk_frozen BK109.out 0; have hfz20_1 := blk_frozen BK109.out 1; have hfz20_2 := blk_frozen BK109.out 2; have hfz20_3 := blk_frozen BK109.out 3))
            go_ret
            exact ⟨by first | rfl | (simp [errW_none, errW_some] <;> rfl) | (simp [*, errW_none, errW_some] <;> rfl) | (simp [errW_none, errW_some]; (try cases a1_0) <;> (try cases a1_1) <;> (try cases a1_2) <;> (try cases a1_3) <;> simp), by repeat (first | (with_reducible first | exact HB.out | apply below_alloc | apply pw_below_drewN | apply below_drew1 | refine below_set ?_ GE109.out) | exact HB.out)⟩
        · rw [if_neg c15] at H
          have c15b0 : (a0 == 21) = false := beq_eq_false_iff_ne.mpr c15
          have c15b1 : (a0 != 21) = true := bne_iff_ne.mpr c15
          by_cases c21 : a0 = 24
          · rw [if_pos c21] at H
            have c21b0 : (a0 == 24) = true := beq_iff_eq.mpr c21
            have c21b1 : (a0 != 24) = false := bne_eq_false_iff_eq.mpr c21
            clear c21
            obtain rfl := Option.some.inj H
            go_enter Try.func45, Try.ntmps45
            go_wp2_with (first | ((with_reducible refine gate_dst (N := 3) rfl ?_); refine box_event ?hg (N := 3) ?hd (cs := #[.bool a1_0, .bool a1_1, .bool a1_2, .bool a1_3]) (t := 32) ?hr ?_; (case hd => rfl); (case hg => rfl); (case hr => first | (go_simp; done) | (go_simp; rfl)); intro gb109 hg w22 hbox hb; have n0_ := Aside0.mk (below_step (by repeat (first | (with_reducible first | exact HB.out | apply below_alloc | apply pw_below_drewN | apply below_drew1) | exact HB.out)) hb); have n1_ := Aside0.mk (hbox); have n2_ := Aside0.mk ((by rw [hg]; exact (below_size (by repeat (first | (with_reducible first | exact HB.out | apply below_alloc | apply pw_below_drewN | apply below_drew1) | exact HB.out))) : w.heap.size ≤ gb109)); have n3_ := Aside0.mk ((by rw [hg]; exact (below_size (by repeat (first | (with_reducible first | exact HB.out | apply below_alloc | apply pw_below_drewN | apply below_drew1) | exact HB.out))) : w.heap.size ≤ gb109)); clear HB; have HB := n0_; have BK109 := n1_; have GW109 := n2_; have GE109 := n3_; clear n0_ n1_ n2_ n3_; clear hb hbox hg; have hcz23_0 : w22.cell? ⟨gb109, 0, none⟩ = some (.bool a1_0) := (blk_cell BK109.out 0).trans rfl; have hcz23_1 : w22.cell? ⟨gb109, 1, none⟩ = some (.bool a1_1) := (blk_cell BK109.out 1).trans rfl; have hcz23_2 : w22.cell? ⟨gb109, 2, none⟩ = some (.bool a1_2) := (blk_cell BK109.out 2).trans rfl; have hcz23_3 : w22.cell? ⟨gb109, 3, none⟩ = some (.bool a1_3) := (blk_cell BK109.out 3).trans rfl; have hfz23_0 := blk_frozen BK109.out 0; have hfz23_1 := blk_frozen BK109.out 1; have hfz23_2 := blk_frozen BK109.out 2; have hfz23_3 := blk_frozen BK109.out 3))
            go_ret
            exact ⟨by first | rfl | (simp [errW_none, errW_some] <;> rfl) | (simp [*, errW_none, errW_some] <;> rfl) | (simp [errW_none, errW_some]; (try cases a1_0) <;> (try cases a1_1) <;> (try cases a1_2) <;> (try cases a1_3) <;> simp), by repeat (first | (with_reducible first | exact HB.out | apply below_alloc | apply pw_below_drewN | apply below_drew1 | refine below_set ?_ GE109.out) | exact HB.out)⟩
          · rw [if_neg c21] at H
            have c21b0 : (a0 == 24) = false := beq_eq_false_iff_ne.mpr c21
            have c21b1 : (a0 != 24) = true := bne_iff_ne.mpr c21
            by_cases c24 : a0 = 25
            · rw [if_pos c24] at H
              have c24b0 : (a0 == 25) = true := beq_iff_eq.mpr c24
              have c24b1 : (a0 != 25) = false := bne_eq_false_iff_eq.mpr c24
              clear c24
              obtain rfl := Option.some.inj H
              go_enter Try.func45, Try.ntmps45
              go_wp2_with (first | ((with_reducible refine gate_dst (N := 3) rfl ?_); refine box_event ?hg (N := 3) ?hd (cs := #[.bool a1_0, .bool a1_1, .bool a1_2, .bool a1_3]) (t := 32) ?hr ?_; (case hd => rfl); (case hg => rfl); (case hr => first | (go_simp; done) | (go_simp; rfl)); intro gb109 hg w25 hbox hb; have n0_ := Aside0.mk (below_step (by repeat (first | (with_reducible first | exact HB.out | apply below_alloc | apply pw_below_drewN | apply below_drew1) | exact HB.out)) hb); have n1_ := Aside0.mk (hbox); have n2_ := Aside0.mk ((by rw [hg]; exact (below_size (by repeat (first | (with_reducible first | exact HB.out | apply below_alloc | apply pw_below_drewN | apply below_drew1) | exact HB.out))) : w.heap.size ≤ gb109)); have n3_ := Aside0.mk ((by rw [hg]; exact (below_size (by repeat (first | (with_reducible first | exact HB.out | apply below_alloc | apply pw_below_drewN | apply below_drew1) | exact HB.out))) : w.heap.size ≤ gb109)); clear HB; have HB := n0_; have BK109 := n1_; have GW109 := n2_; have GE109 := n3_; clear n0_ n1_ n2_ n3_; clear hb hbox hg; have hcz26_0 : w25.cell? ⟨gb109, 0, none⟩ = some (.bool a1_0) := (blk_cell BK109.out 0).trans rfl; have hcz26_1 : w25.cell? ⟨gb109, 1, none⟩ = some (.bool a1_1) := (blk_cell BK109.out 1).trans rfl; have hcz26_2 : w25.cell? ⟨gb109, 2, none⟩ = some (.bool a1_2) := (blk_cell BK109.out 2).trans rfl; have hcz26_3 : w25.cell? ⟨gb109, 3, none⟩ = some (.bool a1_3) := (blk_cell BK109.out 3).trans rfl; have hfz26_0 := blk_frozen BK109.out 0; have hfz26_1 := blk_frozen BK109.out 1; have hfz26_2 := blk_frozen BK109.out 2; have hfz26_3 := blk_frozen BK109.out 3))
              go_ret
              exact ⟨by first | rfl | (simp [errW_none, errW_some] <;> rfl) | (simp [*, errW_none, errW_some] <;> rfl) | (simp [errW_none, errW_some]; (try cases a1_0) <;> (try cases a1_1) <;> (try cases a1_2) <;> (try cases a1_3) <;> simp), by repeat (first | (with_reducible first | exact HB.out | apply below_alloc | apply pw_below_drewN | apply below_drew1 | refine below_set ?_ GE109.out) | exact HB.out)⟩
            · rw [if_neg c24] at H
              have c24b0 : (a0 == 25) = false := beq_eq_false_iff_ne.mpr c24
              have c24b1 : (a0 != 25) = true := bne_iff_ne.mpr c24
              by_cases c27 : a0 = 26
              · rw [if_pos c27] at H
                have c27b0 : (a0 == 26) = true := beq_iff_eq.mpr c27
                have c27b1 : (a0 != 26) = false := bne_eq_false_iff_eq.mpr c27
                clear c27
                by_cases c28 : a1_3 = true
                · subst c28
                  have H1 : (some false) = some r := by rw [if_pos rfl] at H; exact H
                  clear H
                  have H := H1
                  clear H1
                  obtain rfl := Option.some.inj H
                  go_enter Try.func45, Try.ntmps45
                  go_wp2_with (first | ((with_reducible refine gate_dst (N := 3) rfl ?_); refine box_event ?hg (N := 3) ?hd (cs := #[.bool a1_0, .bool a1_1, .bool a1_2, .bool true]) (t := 32) ?hr ?_; (case hd => rfl); (case hg => rfl); (case hr => first | (go_simp; done) | (go_simp; rfl)); intro gb109 hg w29 hbox hb; have n0_ := Aside0.mk (below_step (by repeat (first | (with_reducible first | exact HB.out | apply below_alloc | apply pw_below_drewN | apply below_drew1) | exact HB.out)) hb); have n1_ := Aside0.mk (hbox); have n2_ := Aside0.mk ((by rw [hg]; exact (below_size (by repeat (first | (with_reducible first | exact HB.out | apply below_alloc | apply pw_below_drewN | apply below_drew1) | exact HB.out))) : w.heap.size ≤ gb109)); have n3_ := Aside0.mk ((by rw [hg]; exact (below_size (by repeat (first | (with_reducible first | exact HB.out | apply below_alloc | apply pw_below_drewN | apply below_drew1) | exact HB.out))) : w.heap.size ≤ gb109)); clear HB; have HB := n0_; have BK109 := n1_; have GW109 := n2_; have GE109 := n3_; clear n0_ n1_ n2_ n3_; clear hb hbox hg; have hcz30_0 : w29.cell? ⟨gb109, 0, none⟩ = some (.bool a1_0) := (blk_cell BK109.out 0).trans rfl; have hcz30_1 : w29.cell? ⟨gb109, 1, none⟩ = some (.bool a1_1) := (blk_cell BK109.out 1).trans rfl; have hcz30_2 : w29.cell? ⟨gb109, 2, none⟩ = some (.bool a1_2) := (blk_cell BK109.out 2).trans rfl; have hcz30_3 : w29.cell? ⟨gb109, 3, none⟩ = some (.bool true) := (blk_cell BK109.out 3).trans rfl; have hfz30_0 := blk_frozen BK109.out 0; have hfz30_1 := blk_frozen BK109.out 1; have hfz30_2 := blk_frozen BK109.out 2; have hfz30_3 := blk_frozen BK109.out 3))
                  go_ret
                  exact ⟨by first | rfl | (simp [errW_none, errW_some] <;> rfl) | (simp [*, errW_none, errW_some] <;> rfl) | (simp [errW_none, errW_some]; (try cases a1_0) <;> (try cases a1_1) <;> (try cases a1_2) <;> (try cases a1_3) <;> simp), by repeat (first | (with_reducible first | exact HB.out | apply below_alloc | apply pw_below_drewN | apply below_drew1 | refine below_set ?_ GE109.out) | exact HB.out)⟩
                · replace c28 := Bool.eq_false_iff.mpr c28
                  subst c28
                  have H1 : (some (!a1_1)) = some r := by rw [if_neg (show ¬ (false = true) by decide)] at H; exact H
                  clear H
                  have H := H1
                  clear H1
                  obtain rfl := Option.some.inj H
                  go_enter Try.func45, Try.ntmps45
                  go_wp2_with (first | ((with_reducible refine gate_dst (N := 3) rfl ?_); refine box_event ?hg (N := 3) ?hd (cs := #[.bool a1_0, .bool a1_1, .bool a1_2, .bool false]) (t := 32) ?hr ?_; (case hd => rfl); (case hg => rfl); (case hr => first | (go_simp; done) | (go_simp; rfl)); intro gb109 hg w31 hbox hb; have n0_ := Aside0.mk (below_step (by repeat (first | (with_reducible first | exact HB.out | apply below_alloc | apply pw_below_drewN | apply below_drew1) | exact HB.out)) hb); have n1_ := Aside0.mk (hbox); have n2_ := Aside0.mk ((by rw [hg]; exact (below_size (by repeat (first | (with_reducible first | exact HB.out | apply below_alloc | apply pw_below_drewN | apply below_drew1) | exact HB.out))) : w.heap.size ≤ gb109)); have n3_ := Aside0.mk ((by rw [hg]; exact (below_size (by repeat (first | (with_reducible first | exact HB.out | apply below_alloc | apply pw_below_drewN | apply below_drew1) | exact HB.out))) : w.heap.size ≤ gb109)); clear HB; have HB := n0_; have BK109 := n1_; have GW109 := n2_; have GE109 := n3_; clear n0_ n1_ n2_ n3_; clear hb hbox hg; have hcz32_0 : w31.cell? ⟨gb109, 0, none⟩ = some (.bool a1_0) := (blk_cell BK109.out 0).trans rfl; have hcz32_1 : w31.cell? ⟨gb109, 1, none⟩ = some (.bool a1_1) := (blk_cell BK109.out 1).trans rfl; have hcz32_2 : w31.cell? ⟨gb109, 2, none⟩ = some (.bool a1_2) := (blk_cell BK109.out 2).trans rfl; have hcz32_3 : w31.cell? ⟨gb109, 3, none⟩ = some (.bool false) := (blk_cell BK109.out 3).trans rfl; have hfz32_0 := blk_frozen BK109.out 0; have hfz32_1 := blk_frozen BK109.out 1; have hfz32_2 := blk_frozen BK109.out 2; have hfz32_3 := blk_frozen BK109.out 3))
                  go_ret
                  exact ⟨by first | rfl | (simp [errW_none, errW_some] <;> rfl) | (simp [*, errW_none, errW_some] <;> rfl) | (simp [errW_none, errW_some]; (try cases a1_0) <;> (try cases a1_1) <;> (try cases a1_2) <;> (try cases a1_3) <;> simp), by repeat (first | (with_reducible first | exact HB.out | apply below_alloc | apply pw_below_drewN | apply below_drew1 | refine below_set ?_ GE109.out) | exact HB.out)⟩
              · rw [if_neg c27] at H
                have c27b0 : (a0 == 26) = false := beq_eq_false_iff_ne.mpr c27
                have c27b1 : (a0 != 26) = true := bne_iff_ne.mpr c27
                by_cases c33 : a0 = 27
                · rw [if_pos c33] at H
                  have c33b0 : (a0 == 27) = true := beq_iff_eq.mpr c33
                  have c33b1 : (a0 != 27) = false := bne_eq_false_iff_eq.mpr c33
                  clear c33
                  by_cases c34 : a1_3 = true
                  · subst c34
                    have H1 : (some true) = some r := by rw [if_pos rfl] at H; exact H
                    clear H
                    have H := H1
                    clear H1
                    obtain rfl := Option.some.inj H
                    go_enter Try.func45, Try.ntmps45
                    go_wp2_with (first | ((with_reducible refine gate_dst (N := 3) rfl ?_); refine box_event ?hg (N := 3) ?hd (cs := #[.bool a1_0, .bool a1_1, .bool a1_2, .bool true]) (t := 32) ?hr ?_; (case hd => rfl); (case hg => rfl); (case hr => first | (go_simp; done) | (go_simp; rfl)); intro gb109 hg w35 hbox hb; have n0_ := Aside0.mk (below_step (by repeat (first | (with_reducible first | exact HB.out | apply below_alloc | apply pw_below_drewN | apply below_drew1) | exact HB.out)) hb); have n1_ := Aside0.mk (hbox); have n2_ := Aside0.mk ((by rw [hg]; exact (below_size (by repeat (first | (with_reducible first | exact HB.out | apply below_alloc | apply pw_below_drewN | apply below_drew1) | exact HB.out))) : w.heap.size ≤ gb109)); have n3_ := Aside0.mk ((by rw [hg]; exact (below_size (by repeat (first | (with_reducible first | exact HB.out | apply below_alloc | apply pw_below_drewN | apply below_drew1) | exact HB.out))) : w.heap.size ≤ gb109)); clear HB; have HB := n0_; have BK109 := n1_; have GW109 := n2_; have GE109 := n3_; clear n0_ n1_ n2_ n3_; clear hb hbox hg; have hcz36_0 : w35.cell? ⟨gb109, 0, none⟩ = some (.bool a1_0) := (blk_cell BK109.out 0).trans rfl; have hcz36_1 : w35.cell? ⟨gb109, 1, none⟩ = some (.bool a1_1) := (blk_cell BK109.out 1).trans rfl; have hcz36_2 : w35.cell? ⟨gb109, 2, none⟩ = some (.bool a1_2) := (blk_cell BK109.out 2).trans rfl; have hcz36_3 : w35.cell? ⟨gb109, 3, none⟩ = some (.bool true) := (blk_cell BK109.out 3).trans rfl; have hfz36_0 := blk_frozen BK109.out 0; have hfz36_1 := blk_frozen BK109.out 1; have hfz36_2 := blk_frozen BK109.out 2; have hfz36_3 := blk_frozen BK109.out 3))
                    go_ret
                    exact ⟨by first | rfl | (simp [errW_none, errW_some] <;> rfl) | (simp [*, errW_none, errW_some] <;> rfl) | (simp [errW_none, errW_some]; (try cases a1_0) <;> (try cases a1_1) <;> (try cases a1_2) <;> (try cases a1_3) <;> simp), by repeat (first | (with_reducible first | exact HB.out | apply below_alloc | apply pw_below_drewN | apply below_drew1 | refine below_set ?_ GE109.out) | exact HB.out)⟩
                  · replace c34 := Bool.eq_false_iff.mpr c34
                    subst c34
                    have H1 : (some a1_1) = some r := by rw [if_neg (show ¬ (false = true) by decide)] at H; exact H
                    clear H
                    have H := H1
                    clear H1
                    obtain rfl := Option.some.inj H
                    go_enter Try.func45, Try.ntmps45
                    go_wp2_with (first | ((with_reducible refine gate_dst (N := 3) rfl ?_); refine box_event ?hg (N := 3) ?hd (cs := #[.bool a1_0, .bool a1_1, .bool a1_2, .bool false]) (t := 32) ?hr ?_; (case hd => rfl); (case hg => rfl); (case hr => first | (go_simp; done) | (go_simp; rfl)); intro gb109 hg w37 hbox hb; have n0_ := Aside0.mk (below_step (by repeat (first | (with_reducible first | exact HB.out | apply below_alloc | apply pw_below_drewN | apply below_drew1) | exact HB.out)) hb); have n1_ := Aside0.mk (hbox); have n2_ := Aside0.mk ((by rw [hg]; exact (below_size (by repeat (first | (with_reducible first | exact HB.out | apply below_alloc | apply pw_below_drewN | apply below_drew1) | exact HB.out))) : w.heap.size ≤ gb109)); have n3_ := Aside0.mk ((by rw [hg]; exact (below_size (by repeat (first | (with_reducible first | exact HB.out | apply below_alloc | apply pw_below_drewN | apply below_drew1) | exact HB.out))) : w.heap.size ≤ gb109)); clear HB; have HB := n0_; have BK109 := n1_; have GW109 := n2_; have GE109 := n3_; clear n0_ n1_ n2_ n3_; clear hb hbox hg; have hcz38_0 : w37.cell? ⟨gb109, 0, none⟩ = some (.bool a1_0) := (blk_cell BK109.out 0).trans rfl; have hcz38_1 : w37.cell? ⟨gb109, 1, none⟩ = some (.bool a1_1) := (blk_cell BK109.out 1).trans rfl; have hcz38_2 : w37.cell? ⟨gb109, 2, none⟩ = some (.bool a1_2) := (blk_cell BK109.out 2).trans rfl; have hcz38_3 : w37.cell? ⟨gb109, 3, none⟩ = some (.bool false) := (blk_cell BK109.out 3).trans rfl; have hfz38_0 := blk_frozen BK109.out 0; have hfz38_1 := blk_frozen BK109.out 1; have hfz38_2 := blk_frozen BK109.out 2; have hfz38_3 := blk_frozen BK109.out 3))
                    go_ret
                    exact ⟨by first | rfl | (simp [errW_none, errW_some] <;> rfl) | (simp [*, errW_none, errW_some] <;> rfl) | (simp [errW_none, errW_some]; (try cases a1_0) <;> (try cases a1_1) <;> (try cases a1_2) <;> (try cases a1_3) <;> simp), by repeat (first | (with_reducible first | exact HB.out | apply below_alloc | apply pw_below_drewN | apply below_drew1 | refine below_set ?_ GE109.out) | exact HB.out)⟩
                · rw [if_neg c33] at H
                  have c33b0 : (a0 == 27) = false := beq_eq_false_iff_ne.mpr c33
                  have c33b1 : (a0 != 27) = true := bne_iff_ne.mpr c33
                  by_cases c39 : a0 = 28
                  · rw [if_pos c39] at H
                    have c39b0 : (a0 == 28) = true := beq_iff_eq.mpr c39
                    have c39b1 : (a0 != 28) = false := bne_eq_false_iff_eq.mpr c39
                    clear c39
                    obtain rfl := Option.some.inj H
                    go_enter Try.func45, Try.ntmps45
                    go_wp2_with (first | ((with_reducible refine gate_dst (N := 3) rfl ?_); refine box_event ?hg (N := 3) ?hd (cs := #[.bool a1_0, .bool a1_1, .bool a1_2, .bool a1_3]) (t := 32) ?hr ?_; (case hd => rfl); (case hg => rfl); (case hr => first | (go_simp; done) | (go_simp; rfl)); intro gb109 hg w40 hbox hb; have n0_ := Aside0.mk (below_step (by repeat (first | (with_reducible first | exact HB.out | apply below_alloc | apply pw_below_drewN | apply below_drew1) | exact HB.out)) hb); have n1_ := Aside0.mk (hbox); have n2_ := Aside0.mk ((by rw [hg]; exact (below_size (by repeat (first | (with_reducible first | exact HB.out | apply below_alloc | apply pw_below_drewN | apply below_drew1) | exact HB.out))) : w.heap.size ≤ gb109)); have n3_ := Aside0.mk ((by rw [hg]; exact (below_size (by repeat (first | (with_reducible first | exact HB.out | apply below_alloc | apply pw_below_drewN | apply below_drew1) | exact HB.out))) : w.heap.size ≤ gb109)); clear HB; have HB := n0_; have BK109 := n1_; have GW109 := n2_; have GE109 := n3_; clear n0_ n1_ n2_ n3_; clear hb hbox hg; have hcz41_0 : w40.cell? ⟨gb109, 0, none⟩ = some (.bool a1_0) := (blk_cell BK109.out 0).trans rfl; have hcz41_1 : w40.cell? ⟨gb109, 1, none⟩ = some (.bool a1_1) := (blk_cell BK109.out 1).trans rfl; have hcz41_2 : w40.cell? ⟨gb109, 2, none⟩ = some (.bool a1_2) := (blk_cell BK109.out 2).trans rfl; have hcz41_3 : w40.cell? ⟨gb109, 3, none⟩ = some (.bool a1_3) := (blk_cell BK109.out 3).trans rfl; have hfz41_0 := blk_frozen BK109.out 0; have hfz41_1 := blk_frozen BK109.out 1; have hfz41_2 := blk_frozen BK109.out 2; have hfz41_3 := blk_frozen BK109.out 3))
                    go_ret
                    exact ⟨by first | rfl | (simp [errW_none, errW_some] <;> rfl) | (simp [*, errW_none, errW_some] <;> rfl) | (simp [errW_none, errW_some]; (try cases a1_0) <;> (try cases a1_1) <;> (try cases a1_2) <;> (try cases a1_3) <;> simp), by repeat (first | (with_reducible first | exact HB.out | apply below_alloc | apply pw_below_drewN | apply below_drew1 | refine below_set ?_ GE109.out) | exact HB.out)⟩
                  · rw [if_neg c39] at H
                    have c39b0 : (a0 == 28) = false := beq_eq_false_iff_ne.mpr c39
                    have c39b1 : (a0 != 28) = true := bne_iff_ne.mpr c39
                    by_cases c42 : a0 = 29
                    · rw [if_pos c42] at H
                      have c42b0 : (a0 == 29) = true := beq_iff_eq.mpr c42
                      have c42b1 : (a0 != 29) = false := bne_eq_false_iff_eq.mpr c42
                      clear c42
                      obtain rfl := Option.some.inj H
                      go_enter Try.func45, Try.ntmps45
                      go_wp2_with (first | ((with_reducible refine gate_dst (N := 3) rfl ?_); refine box_event ?hg (N := 3) ?hd (cs := #[.bool a1_0, .bool a1_1, .bool a1_2, .bool a1_3]) (t := 32) ?hr ?_; (case hd => rfl); (case hg => rfl); (case hr => first | (go_simp; done) | (go_simp; rfl)); intro gb109 hg w43 hbox hb; have n0_ := Aside0.mk (below_step (by repeat (first | (with_reducible first | exact HB.out | apply below_alloc | apply pw_below_drewN | apply below_drew1) | exact HB.out)) hb); have n1_ := Aside0.mk (hbox); have n2_ := Aside0.mk ((by rw [hg]; exact (below_size (by repeat (first | (with_reducible first | exact HB.out | apply below_alloc | apply pw_below_drewN | apply below_drew1) | exact HB.out))) : w.heap.size ≤ gb109)); have n3_ := Aside0.mk ((by rw [hg]; exact (below_size (by repeat (first | (with_reducible first | exact HB.out | apply below_alloc | apply pw_below_drewN | apply below_drew1) | exact HB.out))) : w.heap.size ≤ gb109)); clear HB; have HB := n0_; have BK109 := n1_; have GW109 := n2_; have GE109 := n3_; clear n0_ n1_ n2_ n3_; clear hb hbox hg; have hcz44_0 : w43.cell? ⟨gb109, 0, none⟩ = some (.bool a1_0) := (blk_cell BK109.out 0).trans rfl; have hcz44_1 : w43.cell? ⟨gb109, 1, none⟩ = some (.bool a1_1) := (blk_cell BK109.out 1).trans rfl; have hcz44_2 : w43.cell? ⟨gb109, 2, none⟩ = some (.bool a1_2) := (blk_cell BK109.out 2).trans rfl; have hcz44_3 : w43.cell? ⟨gb109, 3, none⟩ = some (.bool a1_3) := (blk_cell BK109.out 3).trans rfl; have hfz44_0 := blk_frozen BK109.out 0; have hfz44_1 := blk_frozen BK109.out 1; have hfz44_2 := blk_frozen BK109.out 2; have hfz44_3 := blk_frozen BK109.out 3))
                      go_ret
                      exact ⟨by first | rfl | (simp [errW_none, errW_some] <;> rfl) | (simp [*, errW_none, errW_some] <;> rfl) | (simp [errW_none, errW_some]; (try cases a1_0) <;> (try cases a1_1) <;> (try cases a1_2) <;> (try cases a1_3) <;> simp), by repeat (first | (with_reducible first | exact HB.out | apply below_alloc | apply pw_below_drewN | apply below_drew1 | refine below_set ?_ GE109.out) | exact HB.out)⟩
                    · rw [if_neg c42] at H
                      have c42b0 : (a0 == 29) = false := beq_eq_false_iff_ne.mpr c42
                      have c42b1 : (a0 != 29) = true := bne_iff_ne.mpr c42
                      by_cases c45 : a0 = 30
                      · rw [if_pos c45] at H
                        have c45b0 : (a0 == 30) = true := beq_iff_eq.mpr c45
                        have c45b1 : (a0 != 30) = false := bne_eq_false_iff_eq.mpr c45
                        clear c45
                        obtain rfl := Option.some.inj H
                        go_enter Try.func45, Try.ntmps45
                        go_wp2_with (first | ((with_reducible refine gate_dst (N := 3) rfl ?_); refine box_event ?hg (N := 3) ?hd (cs := #[.bool a1_0, .bool a1_1, .bool a1_2, .bool a1_3]) (t := 32) ?hr ?_; (case hd => rfl); (case hg => rfl); (case hr => first | (go_simp; done) | (go_simp; rfl)); intro gb109 hg w46 hbox hb; have n0_ := Aside0.mk (below_step (by repeat (first | (with_reducible first | exact HB.out | apply below_alloc | apply pw_below_drewN | apply below_drew1) | exact HB.out)) hb); have n1_ := Aside0.mk (hbox); have n2_ := Aside0.mk ((by rw [hg]; exact (below_size (by repeat (first | (with_reducible first | exact HB.out | apply below_alloc | apply pw_below_drewN | apply below_drew1) | exact HB.out))) : w.heap.size ≤ gb109)); have n3_ := Aside0.mk ((by rw [hg]; exact (below_size (by repeat (first | (with_reducible first | exact HB.out | apply below_alloc | apply pw_below_drewN | apply below_drew1) | exact HB.out))) : w.heap.size ≤ gb109)); clear HB; have HB := n0_; have BK109 := n1_; have GW109 := n2_; have GE109 := n3_; clear n0_ n1_ n2_ n3_; clear hb hbox hg; have hcz47_0 : w46.cell? ⟨gb109, 0, none⟩ = some (.bool a1_0) := (blk_cell BK109.out 0).trans rfl; have hcz47_1 : w46.cell? ⟨gb109, 1, none⟩ = some (.bool a1_1) := (blk_cell BK109.out 1).trans rfl; have hcz47_2 : w46.cell? ⟨gb109, 2, none⟩ = some (.bool a1_2) := (blk_cell BK109.out 2).trans rfl; have hcz47_3 : w46.cell? ⟨gb109, 3, none⟩ = some (.bool a1_3) := (blk_cell BK109.out 3).trans rfl; have hfz47_0 := blk_frozen BK109.out 0; have hfz47_1 := blk_frozen BK109.out 1; have hfz47_2 := blk_frozen BK109.out 2; have hfz47_3 := blk_frozen BK109.out 3))
                        go_ret
                        exact ⟨by first | rfl | (simp [errW_none, errW_some] <;> rfl) | (simp [*, errW_none, errW_some] <;> rfl) | (simp [errW_none, errW_some]; (try cases a1_0) <;> (try cases a1_1) <;> (try cases a1_2) <;> (try cases a1_3) <;> simp), by repeat (first | (with_reducible first | exact HB.out | apply below_alloc | apply pw_below_drewN | apply below_drew1 | refine below_set ?_ GE109.out) | exact HB.out)⟩
                      · rw [if_neg c45] at H
                        have c45b0 : (a0 == 30) = false := beq_eq_false_iff_ne.mpr c45
                        have c45b1 : (a0 != 30) = true := bne_iff_ne.mpr c45
                        by_cases c48 : a0 = 31
                        · rw [if_pos c48] at H
                          have c48b0 : (a0 == 31) = true := beq_iff_eq.mpr c48
                          have c48b1 : (a0 != 31) = false := bne_eq_false_iff_eq.mpr c48
                          clear c48
                          obtain rfl := Option.some.inj H
                          go_enter Try.func45, Try.ntmps45
                          go_wp2_with (first | ((with_reducible refine gate_dst (N := 3) rfl ?_); refine box_event ?hg (N := 3) ?hd (cs := #[.bool a1_0, .bool a1_1, .bool a1_2, .bool a1_3]) (t := 32) ?hr ?_; (case hd => rfl); (case hg => rfl); (case hr => first | (go_simp; done) | (go_simp; rfl)); intro gb109 hg w49 hbox hb; have n0_ := Aside0.mk (below_step (by repeat (first | (with_reducible first | exact HB.out | apply below_alloc | apply pw_below_drewN | apply below_drew1) | exact HB.out)) hb); have n1_ := Aside0.mk (hbox); have n2_ := Aside0.mk ((by rw [hg]; exact (below_size (by repeat (first | (with_reducible first | exact HB.out | apply below_alloc | apply pw_below_drewN | apply below_drew1) | exact HB.out))) : w.heap.size ≤ gb109)); have n3_ := Aside0.mk ((by rw [hg]; exact (below_size (by repeat (first | (with_reducible first | exact HB.out | apply below_alloc | apply pw_below_drewN | apply below_drew1) | exact HB.out))) : w.heap.size ≤ gb109)); clear HB; have HB := n0_; have BK109 := n1_; have GW109 := n2_; have GE109 := n3_; clear n0_ n1_ n2_ n3_; clear hb hbox hg; have hcz50_0 : w49.cell? ⟨gb109, 0, none⟩ = some (.bool a1_0) := (blk_cell BK109.out 0).trans rfl; have hcz50_1 : w49.cell? ⟨gb109, 1, none⟩ = some (.bool a1_1) := (blk_cell BK109.out 1).trans rfl; have hcz50_2 : w49.cell? ⟨gb109, 2, none⟩ = some (.bool a1_2) := (blk_cell BK109.out 2).trans rfl; have hcz50_3 : w49.cell? ⟨gb109, 3, none⟩ = some (.bool a1_3) := (blk_cell BK109.out 3).trans rfl; have hfz50_0 := blk_frozen BK109.out 0; have hfz50_1 := blk_frozen BK109.out 1; have hfz50_2 := blk_frozen BK109.out 2; have hfz50_3 := blk_frozen BK109.out 3))
                          go_ret
                          exact ⟨by first | rfl | (simp [errW_none, errW_some] <;> rfl) | (simp [*, errW_none, errW_some] <;> rfl) | (simp [errW_none, errW_some]; (try cases a1_0) <;> (try cases a1_1) <;> (try cases a1_2) <;> (try cases a1_3) <;> simp), by repeat (first | (with_reducible first | exact HB.out | apply below_alloc | apply pw_below_drewN | apply below_drew1 | refine below_set ?_ GE109.out) | exact HB.out)⟩
                        · rw [if_neg c48] at H
                          have c48b0 : (a0 == 31) = false := beq_eq_false_iff_ne.mpr c48
                          have c48b1 : (a0 != 31) = true := bne_iff_ne.mpr c48
                          obtain rfl := Option.some.inj H
                          go_enter Try.func45, Try.ntmps45
                          go_wp2_with (first | ((with_reducible refine gate_dst (N := 3) rfl ?_); refine box_event ?hg (N := 3) ?hd (cs := #[.bool a1_0, .bool a1_1, .bool a1_2, .bool a1_3]) (t := 32) ?hr ?_; (case hd => rfl); (case hg => rfl); (case hr => first | (go_simp; done) | (go_simp; rfl)); intro gb109 hg w51 hbox hb; have n0_ := Aside0.mk (below_step (by repeat (first | (with_reducible first | exact HB.out | apply below_alloc | apply pw_below_drewN | apply below_drew1) | exact HB.out)) hb); have n1_ := Aside0.mk (hbox); have n2_ := Aside0.mk ((by rw [hg]; exact (below_size (by repeat (first | (with_reducible first | exact HB.out | apply below_alloc | apply pw_below_drewN | apply below_drew1) | exact HB.out))) : w.heap.size ≤ gb109)); have n3_ := Aside0.mk ((by rw [hg]; exact (below_size (by repeat (first | (with_reducible first | exact HB.out | apply below_alloc | apply pw_below_drewN | apply below_drew1) | exact HB.out))) : w.heap.size ≤ gb109)); clear HB; have HB := n0_; have BK109 := n1_; have GW109 := n2_; have GE109 := n3_; clear n0_ n1_ n2_ n3_; clear hb hbox hg))
                          go_ret
                          exact ⟨by first | rfl | (simp [errW_none, errW_some] <;> rfl) | (simp [*, errW_none, errW_some] <;> rfl) | (simp [errW_none, errW_some]; (try cases a1_0) <;> (try cases a1_1) <;> (try cases a1_2) <;> (try cases a1_3) <;> simp), by repeat (first | (with_reducible first | exact HB.out | apply below_alloc | apply pw_below_drewN | apply below_drew1 | refine below_set ?_ GE109.out) | exact HB.out)⟩

/-! ### camshaftlaw06_PslBranches: function 13 -/
def camshaftlaw06_PslBranches.f (a0 : Int) (a1_0 : Bool) (a1_1 : Bool) (a1_2 : Bool) (a1_3 : Bool) : Option (Bool) := (camshaftlaw06_alive.f).bind fun t111 => (if t111 = true then ((psl_Branch.f a0 a1_0 a1_1 a1_2 a1_3).bind fun t112 => ((camshaftref06_Branch.f a0 a1_0 a1_1 a1_2 a1_3).bind fun t113 => (if (t112 == t113) = true then (if t112 = true then ((psl_Branch.f (Go.bits .xor .i64 a0 1) a1_0 a1_1 a1_2 a1_3).bind fun t114 => (some (!t114))) else (some (!false))) else (some false)))) else (some false))
set_option maxHeartbeats 8000000 in
set_option maxRecDepth 100000 in
theorem camshaftlaw06_PslBranches.calls (a0 : Int) (a1_0 : Bool) (a1_1 : Bool) (a1_2 : Bool) (a1_3 : Bool) (r : Bool) (w : World) (h : camshaftlaw06_PslBranches.f a0 a1_0 a1_1 a1_2 a1_3 = some r) :
    Calls Try.prog 13 #[.int .i64 a0, .agg #[.bool a1_0, .bool a1_1, .bool a1_2, .bool a1_3]] w fun e w' => e = .returned (.bool r) ∧ Below w.heap.size w w' := by
  have hu32 := Try.underlying32
  have HB := Aside0.mk (Below.refl w.heap.size w)
  have H : ((camshaftlaw06_alive.f).bind fun t111 => (if t111 = true then ((psl_Branch.f a0 a1_0 a1_1 a1_2 a1_3).bind fun t112 => ((camshaftref06_Branch.f a0 a1_0 a1_1 a1_2 a1_3).bind fun t113 => (if (t112 == t113) = true then (if t112 = true then ((psl_Branch.f (Go.bits .xor .i64 a0 1) a1_0 a1_1 a1_2 a1_3).bind fun t114 => (some (!t114))) else (some (!false))) else (some false)))) else (some false))) = some r := h
  clear h
  replace H := Option.bind_eq_some_iff.mp H
  obtain ⟨t111, A30, H⟩ := H
  replace H : (if t111 = true then ((psl_Branch.f a0 a1_0 a1_1 a1_2 a1_3).bind fun t112 => ((camshaftref06_Branch.f a0 a1_0 a1_1 a1_2 a1_3).bind fun t113 => (if (t112 == t113) = true then (if t112 = true then ((psl_Branch.f (Go.bits .xor .i64 a0 1) a1_0 a1_1 a1_2 a1_3).bind fun t114 => (some (!t114))) else (some (!false))) else (some false)))) else (some false)) = some r := H
  have A3 := Aside0.mk A30
  clear A30
  by_cases c4 : t111 = true
  · subst c4
    have H1 : ((psl_Branch.f a0 a1_0 a1_1 a1_2 a1_3).bind fun t112 => ((camshaftref06_Branch.f a0 a1_0 a1_1 a1_2 a1_3).bind fun t113 => (if (t112 == t113) = true then (if t112 = true then ((psl_Branch.f (Go.bits .xor .i64 a0 1) a1_0 a1_1 a1_2 a1_3).bind fun t114 => (some (!t114))) else (some (!false))) else (some false)))) = some r := by rw [if_pos rfl] at H; exact H
    clear H
    have H := H1
    clear H1
    replace H := Option.bind_eq_some_iff.mp H
    obtain ⟨t112, A50, H⟩ := H
    replace H : ((camshaftref06_Branch.f a0 a1_0 a1_1 a1_2 a1_3).bind fun t113 => (if (t112 == t113) = true then (if t112 = true then ((psl_Branch.f (Go.bits .xor .i64 a0 1) a1_0 a1_1 a1_2 a1_3).bind fun t114 => (some (!t114))) else (some (!false))) else (some false))) = some r := H
    have A5 := Aside0.mk A50
    clear A50
    replace H := Option.bind_eq_some_iff.mp H
    obtain ⟨t113, A60, H⟩ := H
    replace H : (if (t112 == t113) = true then (if t112 = true then ((psl_Branch.f (Go.bits .xor .i64 a0 1) a1_0 a1_1 a1_2 a1_3).bind fun t114 => (some (!t114))) else (some (!false))) else (some false)) = some r := H
    have A6 := Aside0.mk A60
    clear A60
    by_cases c7 : (t112 == t113) = true
    · rw [if_pos c7] at H
      have c7b0 : (t112 == t113) = true := c7
      (try (have c7b1 : decide (t112 = t113) = true := by simpa using c7))
      (try (have c7b2 : (t112 == t113) = true := by simpa using c7))
      clear c7
      by_cases c8 : t112 = true
      · subst c8
        have H1 : ((psl_Branch.f (Go.bits .xor .i64 a0 1) a1_0 a1_1 a1_2 a1_3).bind fun t114 => (some (!t114))) = some r := by rw [if_pos rfl] at H; exact H
        clear H
        have H := H1
        clear H1
        replace H := Option.bind_eq_some_iff.mp H
        obtain ⟨t114, A90, H⟩ := H
        replace H : (some (!t114)) = some r := H
        have A9 := Aside0.mk A90
        clear A90
        obtain rfl := Option.some.inj H
        go_enter Try.func13, Try.ntmps13
        go_wp2_with (first | ((with_reducible refine gate_dst (N := 3) rfl ?_); refine box_event ?hg (N := 3) ?hd (cs := #[.bool a1_0, .bool a1_1, .bool a1_2, .bool a1_3]) (t := 32) ?hr ?_; (case hd => rfl); (case hg => rfl); (case hr => first | (go_simp; done) | (go_simp; rfl)); intro gb110 hg w10 hbox hb; have n0_ := Aside0.mk (below_step (by repeat (first | (with_reducible first | exact HB.out | apply below_alloc | apply pw_below_drewN | apply below_drew1) | exact HB.out)) hb); have n1_ := Aside0.mk (hbox); have n2_ := Aside0.mk ((by rw [hg]; exact (below_size (by repeat (first | (with_reducible first | exact HB.out | apply below_alloc | apply pw_below_drewN | apply below_drew1) | exact HB.out))) : w.heap.size ≤ gb110)); have n3_ := Aside0.mk ((by rw [hg]; exact (below_size (by repeat (first | (with_reducible first | exact HB.out | apply below_alloc | apply pw_below_drewN | apply below_drew1) | exact HB.out))) : w.heap.size ≤ gb110)); clear HB; have HB := n0_; have BK110 := n1_; have GW110 := n2_; have GE110 := n3_; clear n0_ n1_ n2_ n3_; clear hb hbox hg) | ((with_reducible refine gate_callee (f := 22) rfl ?_); refine goesL_ (some 6) rfl rfl Try.func22 (by kernel_rfl) rfl #[] rfl (by (try simp only [List.map_toArray, List.map_cons, List.map_nil]); first | done | rfl | (simp only [List.length_drop, List.length_take]; rfl)) ?_; (with_reducible refine (camshaftlaw06_alive.calls  true _ A3.out).mono ?_); rintro e w' ⟨rfl, ⟨nd, rfl⟩⟩; refine ⟨_, rfl, ?_⟩; have hcz11_0 : w10.cell? ⟨gb110, 0, none⟩ = some (.bool a1_0) := (blk_cell BK110.out 0).trans rfl; have hcz11_1 : w10.cell? ⟨gb110, 1, none⟩ = some (.bool a1_1) := (blk_cell BK110.out 1).trans rfl; have hcz11_2 : w10.cell? ⟨gb110, 2, none⟩ = some (.bool a1_2) := (blk_cell BK110.out 2).trans rfl; have hcz11_3 : w10.cell? ⟨gb110, 3, none⟩ = some (.bool a1_3) := (blk_cell BK110.out 3).trans rfl; have hfz11_0 := blk_frozen BK110.out 0; have hfz11_1 := blk_frozen BK110.out 1; have hfz11_2 := blk_frozen BK110.out 2; have hfz11_3 := blk_frozen BK110.out 3) | ((with_reducible refine gate_callee (f := 44) rfl ?_); refine goesL_ (some 10) rfl rfl Try.func44 (by kernel_rfl) rfl #[.int .i64 a0, .agg #[.bool a1_0, .bool a1_1, .bool a1_2, .bool a1_3]] rfl (by (try simp only [List.map_toArray, List.map_cons, List.map_nil]); first | done | rfl | (simp only [List.length_drop, List.length_take]; rfl)) ?_; (with_reducible refine (psl_Branch.calls a0 a1_0 a1_1 a1_2 a1_3 true _ A5.out).mono ?_); rintro e w12 ⟨rfl, hb⟩; refine ⟨_, rfl, ?_⟩; have n0_ := Aside0.mk (blk_below (g := gb110) (o := .cells #[.bool a1_0, .bool a1_1, .bool a1_2, .bool a1_3] 32 (0, 0)) (by (with_reducible repeat (first | refine blk_drewN ?_ _ | refine blk_drew ?_ | refine blk_alloc ?_ _)); exact BK110.out) hb); have n1_ := Aside0.mk (below_step (by repeat (first | (with_reducible first | exact HB.out | apply below_alloc | apply pw_below_drewN | apply below_drew1 | refine below_set ?_ GE110.out) | exact HB.out)) hb); clear BK110; clear HB; have BK110 := n0_; have HB := n1_; clear n0_ n1_; (try clear hb); (try clear hb2); (try clear hk); (try clear hi); have hcz13_0 : w12.cell? ⟨gb110, 0, none⟩ = some (.bool a1_0) := (blk_cell BK110.out 0).trans rfl; have hcz13_1 : w12.cell? ⟨gb110, 1, none⟩ = some (.bool a1_1) := (blk_cell BK110.out 1).trans rfl; have hcz13_2 : w12.cell? ⟨gb110, 2, none⟩ = some (.bool a1_2) := (blk_cell BK110.out 2).trans rfl; have hcz13_3 : w12.cell? ⟨gb110, 3, none⟩ = some (.bool a1_3) := (blk_cell BK110.out 3).trans rfl; have hfz13_0 := blk_frozen BK110.out 0; have hfz13_1 := blk_frozen BK110.out 1; have hfz13_2 := blk_frozen BK110.out 2; have hfz13_3 := blk_frozen BK110.out 3) | ((with_reducible refine gate_callee (f := 45) rfl ?_); refine goesL_ (some 14) rfl rfl Try.func45 (by kernel_rfl) rfl #[.int .i64 a0, .agg #[.bool a1_0, .bool a1_1, .bool a1_2, .bool a1_3]] rfl (by (try simp only [List.map_toArray, List.map_cons, List.map_nil]); first | done | rfl | (simp only [List.length_drop, List.length_take]; rfl)) ?_; (with_reducible refine (camshaftref06_Branch.calls a0 a1_0 a1_1 a1_2 a1_3 t113 _ A6.out).mono ?_); rintro e w14 ⟨rfl, hb⟩; refine ⟨_, rfl, ?_⟩; have n0_ := Aside0.mk (blk_below (g := gb110) (o := .cells #[.bool a1_0, .bool a1_1, .bool a1_2, .bool a1_3] 32 (0, 0)) (by (with_reducible repeat (first | refine blk_drewN ?_ _ | refine blk_drew ?_ | refine blk_alloc ?_ _)); exact BK110.out) hb); have n1_ := Aside0.mk (below_step (by repeat (first | (with_reducible first | exact HB.out | apply below_alloc | apply pw_below_drewN | apply below_drew1 | refine below_set ?_ GE110.out) | exact HB.out)) hb); clear BK110; clear HB; have BK110 := n0_; have HB := n1_; clear n0_ n1_; (try clear hb); (try clear hb2); (try clear hk); (try clear hi); have hcz15_0 : w14.cell? ⟨gb110, 0, none⟩ = some (.bool a1_0) := (blk_cell BK110.out 0).trans rfl; have hcz15_1 : w14.cell? ⟨gb110, 1, none⟩ = some (.bool a1_1) := (blk_cell BK110.out 1).trans rfl; have hcz15_2 : w14.cell? ⟨gb110, 2, none⟩ = some (.bool a1_2) := (blk_cell BK110.out 2).trans rfl; have hcz15_3 : w14.cell? ⟨gb110, 3, none⟩ = some (.bool a1_3) := (blk_cell BK110.out 3).trans rfl; have hfz15_0 := blk_frozen BK110.out 0; have hfz15_1 := blk_frozen BK110.out 1; have hfz15_2 := blk_frozen BK110.out 2; have hfz15_3 := blk_frozen BK110.out 3) | (go_at_call 44; (with_reducible refine (psl_Branch.calls (Go.bits .xor .i64 a0 1) a1_0 a1_1 a1_2 a1_3 t114 _ A9.out).mono ?_); rintro e w16 ⟨rfl, hb⟩; have n0_ := Aside0.mk (blk_below (g := gb110) (o := .cells #[.bool a1_0, .bool a1_1, .bool a1_2, .bool a1_3] 32 (0, 0)) (by (with_reducible repeat (first | refine blk_drewN ?_ _ | refine blk_drew ?_ | refine blk_alloc ?_ _)); exact BK110.out) hb); have n1_ := Aside0.mk (below_step (by repeat (first | (with_reducible first | exact HB.out | apply below_alloc | apply pw_below_drewN | apply below_drew1 | refine below_set ?_ GE110.out) | exact HB.out)) hb); clear BK110; clear HB; have BK110 := n0_; have HB := n1_; clear n0_ n1_; (try clear hb); (try clear hb2); (try clear hk); (try clear hi)))
        go_ret
        exact ⟨by first | rfl | (simp [errW_none, errW_some] <;> rfl) | (simp [*, errW_none, errW_some] <;> rfl) | (simp [errW_none, errW_some]; (try cases a1_0) <;> (try cases a1_1) <;> (try cases a1_2) <;> (try cases a1_3) <;> simp), by repeat (first | (with_reducible first | exact HB.out | apply below_alloc | apply pw_below_drewN | apply below_drew1 | refine below_set ?_ GE110.out) | exact HB.out)⟩
      · replace c8 := Bool.eq_false_iff.mpr c8
        subst c8
        have H1 : (some (!false)) = some r := by rw [if_neg (show ¬ (false = true) by decide)] at H; exact H
        clear H
        have H := H1
        clear H1
        obtain rfl := Option.some.inj H
        go_enter Try.func13, Try.ntmps13
        go_wp2_with (first | ((with_reducible refine gate_dst (N := 3) rfl ?_); refine box_event ?hg (N := 3) ?hd (cs := #[.bool a1_0, .bool a1_1, .bool a1_2, .bool a1_3]) (t := 32) ?hr ?_; (case hd => rfl); (case hg => rfl); (case hr => first | (go_simp; done) | (go_simp; rfl)); intro gb110 hg w17 hbox hb; have n0_ := Aside0.mk (below_step (by repeat (first | (with_reducible first | exact HB.out | apply below_alloc | apply pw_below_drewN | apply below_drew1) | exact HB.out)) hb); have n1_ := Aside0.mk (hbox); have n2_ := Aside0.mk ((by rw [hg]; exact (below_size (by repeat (first | (with_reducible first | exact HB.out | apply below_alloc | apply pw_below_drewN | apply below_drew1) | exact HB.out))) : w.heap.size ≤ gb110)); have n3_ := Aside0.mk ((by rw [hg]; exact (below_size (by repeat (first | (with_reducible first | exact HB.out | apply below_alloc | apply pw_below_drewN | apply below_drew1) | exact HB.out))) : w.heap.size ≤ gb110)); clear HB; have HB := n0_; have BK110 := n1_; have GW110 := n2_; have GE110 := n3_; clear n0_ n1_ n2_ n3_; clear hb hbox hg) | ((with_reducible refine gate_callee (f := 22) rfl ?_); refine goesL_ (some 6) rfl rfl Try.func22 (by kernel_rfl) rfl #[] rfl (by (try simp only [List.map_toArray, List.map_cons, List.map_nil]); first | done | rfl | (simp only [List.length_drop, List.length_take]; rfl)) ?_; (with_reducible refine (camshaftlaw06_alive.calls  true _ A3.out).mono ?_); rintro e w' ⟨rfl, ⟨nd, rfl⟩⟩; refine ⟨_, rfl, ?_⟩; have hcz18_0 : w17.cell? ⟨gb110, 0, none⟩ = some (.bool a1_0) := (blk_cell BK110.out 0).trans rfl; have hcz18_1 : w17.cell? ⟨gb110, 1, none⟩ = some (.bool a1_1) := (blk_cell BK110.out 1).trans rfl; have hcz18_2 : w17.cell? ⟨gb110, 2, none⟩ = some (.bool a1_2) := (blk_cell BK110.out 2).trans rfl; have hcz18_3 : w17.cell? ⟨gb110, 3, none⟩ = some (.bool a1_3) := (blk_cell BK110.out 3).trans rfl; have hfz18_0 := blk_frozen BK110.out 0; have hfz18_1 := blk_frozen BK110.out 1; have hfz18_2 := blk_frozen BK110.out 2; have hfz18_3 := blk_frozen BK110.out 3) | ((with_reducible refine gate_callee (f := 44) rfl ?_); refine goesL_ (some 10) rfl rfl Try.func44 (by kernel_rfl) rfl #[.int .i64 a0, .agg #[.bool a1_0, .bool a1_1, .bool a1_2, .bool a1_3]] rfl (by (try simp only [List.map_toArray, List.map_cons, List.map_nil]); first | done | rfl | (simp only [List.length_drop, List.length_take]; rfl)) ?_; (with_reducible refine (psl_Branch.calls a0 a1_0 a1_1 a1_2 a1_3 false _ A5.out).mono ?_); rintro e w19 ⟨rfl, hb⟩; refine ⟨_, rfl, ?_⟩; have n0_ := Aside0.mk (blk_below (g := gb110) (o := .cells #[.bool a1_0, .bool a1_1, .bool a1_2, .bool a1_3] 32 (0, 0)) (by (with_reducible repeat (first | refine blk_drewN ?_ _ | refine blk_drew ?_ | refine blk_alloc ?_ _)); exact BK110.out) hb); have n1_ := Aside0.mk (below_step (by repeat (first | (with_reducible first | exact HB.out | apply below_alloc | apply pw_below_drewN | apply below_drew1 | refine below_set ?_ GE110.out) | exact HB.out)) hb); clear BK110; clear HB; have BK110 := n0_; have HB := n1_; clear n0_ n1_; (try clear hb); (try clear hb2); (try clear hk); (try clear hi); have hcz20_0 : w19.cell? ⟨gb110, 0, none⟩ = some (.bool a1_0) := (blk_cell BK110.out 0).trans rfl; have hcz20_1 : w19.cell? ⟨gb110, 1, none⟩ = some (.bool a1_1) := (blk_cell BK110.out 1).trans rfl; have hcz20_2 : w19.cell? ⟨gb110, 2, none⟩ = some (.bool a1_2) := (blk_cell BK110.out 2).trans rfl; have hcz20_3 : w19.cell? ⟨gb110, 3, none⟩ = some (.bool a1_3) := (blk_cell BK110.out 3).trans rfl; have hfz20_0 := blk_frozen BK110.out 0; have hfz20_1 := blk_frozen BK110.out 1; have hfz20_2 := blk_frozen BK110.out 2; have hfz20_3 := blk_frozen BK110.out 3) | ((with_reducible refine gate_callee (f := 45) rfl ?_); refine goesL_ (some 14) rfl rfl Try.func45 (by kernel_rfl) rfl #[.int .i64 a0, .agg #[.bool a1_0, .bool a1_1, .bool a1_2, .bool a1_3]] rfl (by (try simp only [List.map_toArray, List.map_cons, List.map_nil]); first | done | rfl | (simp only [List.length_drop, List.length_take]; rfl)) ?_; (with_reducible refine (camshaftref06_Branch.calls a0 a1_0 a1_1 a1_2 a1_3 t113 _ A6.out).mono ?_); rintro e w21 ⟨rfl, hb⟩; refine ⟨_, rfl, ?_⟩; have n0_ := Aside0.mk (blk_below (g := gb110) (o := .cells #[.bool a1_0, .bool a1_1, .bool a1_2, .bool a1_3] 32 (0, 0)) (by (with_reducible repeat (first | refine blk_drewN ?_ _ | refine blk_drew ?_ | refine blk_alloc ?_ _)); exact BK110.out) hb); have n1_ := Aside0.mk (below_step (by repeat (first | (with_reducible first | exact HB.out | apply below_alloc | apply pw_below_drewN | apply below_drew1 | refine below_set ?_ GE110.out) | exact HB.out)) hb); clear BK110; clear HB; have BK110 := n0_; have HB := n1_; clear n0_ n1_; (try clear hb); (try clear hb2); (try clear hk); (try clear hi)))
        go_ret
        exact ⟨by first | rfl | (simp [errW_none, errW_some] <;> rfl) | (simp [*, errW_none, errW_some] <;> rfl) | (simp [errW_none, errW_some]; (try cases a1_0) <;> (try cases a1_1) <;> (try cases a1_2) <;> (try cases a1_3) <;> simp), by repeat (first | (with_reducible first | exact HB.out | apply below_alloc | apply pw_below_drewN | apply below_drew1 | refine below_set ?_ GE110.out) | exact HB.out)⟩
    · rw [if_neg c7] at H
      have c7b0 : (t112 == t113) = false := by simpa using c7
      (try (have c7b1 : decide (t112 = t113) = false := by simpa using c7))
      (try (have c7b2 : (t112 == t113) = false := by simpa using c7))
      (try (have c7b3 : ¬ (t112 = t113) := by simpa using c7))
      clear c7
      obtain rfl := Option.some.inj H
      go_enter Try.func13, Try.ntmps13
      go_wp2_with (first | ((with_reducible refine gate_dst (N := 3) rfl ?_); refine box_event ?hg (N := 3) ?hd (cs := #[.bool a1_0, .bool a1_1, .bool a1_2, .bool a1_3]) (t := 32) ?hr ?_; (case hd => rfl); (case hg => rfl); (case hr => first | (go_simp; done) | (go_simp; rfl)); intro gb110 hg w22 hbox hb; have n0_ := Aside0.mk (below_step (by repeat (first | (with_reducible first | exact HB.out | apply below_alloc | apply pw_below_drewN | apply below_drew1) | exact HB.out)) hb); have n1_ := Aside0.mk (hbox); have n2_ := Aside0.mk ((by rw [hg]; exact (below_size (by repeat (first | (with_reducible first | exact HB.out | apply below_alloc | apply pw_below_drewN | apply below_drew1) | exact HB.out))) : w.heap.size ≤ gb110)); have n3_ := Aside0.mk ((by rw [hg]; exact (below_size (by repeat (first | (with_reducible first | exact HB.out | apply below_alloc | apply pw_below_drewN | apply below_drew1) | exact HB.out))) : w.heap.size ≤ gb110)); clear HB; have HB := n0_; have BK110 := n1_; have GW110 := n2_; have GE110 := n3_; clear n0_ n1_ n2_ n3_; clear hb hbox hg) | ((with_reducible refine gate_callee (f := 22) rfl ?_); refine goesL_ (some 6) rfl rfl Try.func22 (by kernel_rfl) rfl #[] rfl (by (try simp only [List.map_toArray, List.map_cons, List.map_nil]); first | done | rfl | (simp only [List.length_drop, List.length_take]; rfl)) ?_; (with_reducible refine (camshaftlaw06_alive.calls  true _ A3.out).mono ?_); rintro e w' ⟨rfl, ⟨nd, rfl⟩⟩; refine ⟨_, rfl, ?_⟩; have hcz23_0 : w22.cell? ⟨gb110, 0, none⟩ = some (.bool a1_0) := (blk_cell BK110.out 0).trans rfl; have hcz23_1 : w22.cell? ⟨gb110, 1, none⟩ = some (.bool a1_1) := (blk_cell BK110.out 1).trans rfl; have hcz23_2 : w22.cell? ⟨gb110, 2, none⟩ = some (.bool a1_2) := (blk_cell BK110.out 2).trans rfl; have hcz23_3 : w22.cell? ⟨gb110, 3, none⟩ = some (.bool a1_3) := (blk_cell BK110.out 3).trans rfl; have hfz23_0 := blk_frozen BK110.out 0; have hfz23_1 := blk_frozen BK110.out 1; have hfz23_2 := blk_frozen BK110.out 2; have hfz23_3 := blk_frozen BK110.out 3) | ((with_reducible refine gate_callee (f := 44) rfl ?_); refine goesL_ (some 10) rfl rfl Try.func44 (by kernel_rfl) rfl #[.int .i64 a0, .agg #[.bool a1_0, .bool a1_1, .bool a1_2, .bool a1_3]] rfl (by (try simp only [List.map_toArray, List.map_cons, List.map_nil]); first | done | rfl | (simp only [List.length_drop, List.length_take]; rfl)) ?_; (with_reducible refine (psl_Branch.calls a0 a1_0 a1_1 a1_2 a1_3 t112 _ A5.out).mono ?_); rintro e w24 ⟨rfl, hb⟩; refine ⟨_, rfl, ?_⟩; have n0_ := Aside0.mk (blk_below (g := gb110) (o := .cells #[.bool a1_0, .bool a1_1, .bool a1_2, .bool a1_3] 32 (0, 0)) (by (with_reducible repeat (first | refine blk_drewN ?_ _ | refine blk_drew ?_ | refine blk_alloc ?_ _)); exact BK110.out) hb); have n1_ := Aside0.mk (below_step (by repeat (first | (with_reducible first | exact HB.out | apply below_alloc | apply pw_below_drewN | apply below_drew1 | refine below_set ?_ GE110.out) | exact HB.out)) hb); clear BK110; clear HB; have BK110 := n0_; have HB := n1_; clear n0_ n1_; (try clear hb); (try clear hb2); (try clear hk); (try clear hi); have hcz25_0 : w24.cell? ⟨gb110, 0, none⟩ = some (.bool a1_0) := (blk_cell BK110.out 0).trans rfl; have hcz25_1 : w24.cell? ⟨gb110, 1, none⟩ = some (.bool a1_1) := (blk_cell BK110.out 1).trans rfl; have hcz25_2 : w24.cell? ⟨gb110, 2, none⟩ = some (.bool a1_2) := (blk_cell BK110.out 2).trans rfl; have hcz25_3 : w24.cell? ⟨gb110, 3, none⟩ = some (.bool a1_3) := (blk_cell BK110.out 3).trans rfl; have hfz25_0 := blk_frozen BK110.out 0; have hfz25_1 := blk_frozen BK110.out 1; have hfz25_2 := blk_frozen BK110.out 2; have hfz25_3 := blk_frozen BK110.out 3) | ((with_reducible refine gate_callee (f := 45) rfl ?_); refine goesL_ (some 14) rfl rfl Try.func45 (by kernel_rfl) rfl #[.int .i64 a0, .agg #[.bool a1_0, .bool a1_1, .bool a1_2, .bool a1_3]] rfl (by (try simp only [List.map_toArray, List.map_cons, List.map_nil]); first | done | rfl | (simp only [List.length_drop, List.length_take]; rfl)) ?_; (with_reducible refine (camshaftref06_Branch.calls a0 a1_0 a1_1 a1_2 a1_3 t113 _ A6.out).mono ?_); rintro e w26 ⟨rfl, hb⟩; refine ⟨_, rfl, ?_⟩; have n0_ := Aside0.mk (blk_below (g := gb110) (o := .cells #[.bool a1_0, .bool a1_1, .bool a1_2, .bool a1_3] 32 (0, 0)) (by (with_reducible repeat (first | refine blk_drewN ?_ _ | refine blk_drew ?_ | refine blk_alloc ?_ _)); exact BK110.out) hb); have n1_ := Aside0.mk (below_step (by repeat (first | (with_reducible first | exact HB.out | apply below_alloc | apply pw_below_drewN | apply below_drew1 | refine below_set ?_ GE110.out) | exact HB.out)) hb); clear BK110; clear HB; have BK110 := n0_; have HB := n1_; clear n0_ n1_; (try clear hb); (try clear hb2); (try clear hk); (try clear hi)))
      go_ret
      exact ⟨by first | rfl | (simp [errW_none, errW_some] <;> rfl) | (simp [*, errW_none, errW_some] <;> rfl) | (simp [errW_none, errW_some]; (try cases a1_0) <;> (try cases a1_1) <;> (try cases a1_2) <;> (try cases a1_3) <;> simp), by repeat (first | (with_reducible first | exact HB.out | apply below_alloc | apply pw_below_drewN | apply below_drew1 | refine below_set ?_ GE110.out) | exact HB.out)⟩
  · replace c4 := Bool.eq_false_iff.mpr c4
    subst c4
    have H1 : (some false) = some r := by rw [if_neg (show ¬ (false = true) by decide)] at H; exact H
    clear H
    have H := H1
    clear H1
    obtain rfl := Option.some.inj H
    go_enter Try.func13, Try.ntmps13
    go_wp2_with (first | ((with_reducible refine gate_dst (N := 3) rfl ?_); refine box_event ?hg (N := 3) ?hd (cs := #[.bool a1_0, .bool a1_1, .bool a1_2, .bool a1_3]) (t := 32) ?hr ?_; (case hd => rfl); (case hg => rfl); (case hr => first | (go_simp; done) | (go_simp; rfl)); intro gb110 hg w27 hbox hb; have n0_ := Aside0.mk (below_step (by repeat (first | (with_reducible first | exact HB.out | apply below_alloc | apply pw_below_drewN | apply below_drew1) | exact HB.out)) hb); have n1_ := Aside0.mk (hbox); have n2_ := Aside0.mk ((by rw [hg]; exact (below_size (by repeat (first | (with_reducible first | exact HB.out | apply below_alloc | apply pw_below_drewN | apply below_drew1) | exact HB.out))) : w.heap.size ≤ gb110)); have n3_ := Aside0.mk ((by rw [hg]; exact (below_size (by repeat (first | (with_reducible first | exact HB.out | apply below_alloc | apply pw_below_drewN | apply below_drew1) | exact HB.out))) : w.heap.size ≤ gb110)); clear HB; have HB := n0_; have BK110 := n1_; have GW110 := n2_; have GE110 := n3_; clear n0_ n1_ n2_ n3_; clear hb hbox hg) | ((with_reducible refine gate_callee (f := 22) rfl ?_); refine goesL_ (some 6) rfl rfl Try.func22 (by kernel_rfl) rfl #[] rfl (by (try simp only [List.map_toArray, List.map_cons, List.map_nil]); first | done | rfl | (simp only [List.length_drop, List.length_take]; rfl)) ?_; (with_reducible refine (camshaftlaw06_alive.calls  false _ A3.out).mono ?_); rintro e w' ⟨rfl, ⟨nd, rfl⟩⟩; refine ⟨_, rfl, ?_⟩))
    go_ret
    exact ⟨by first | rfl | (simp [errW_none, errW_some] <;> rfl) | (simp [*, errW_none, errW_some] <;> rfl) | (simp [errW_none, errW_some]; (try cases a1_0) <;> (try cases a1_1) <;> (try cases a1_2) <;> (try cases a1_3) <;> simp), by repeat (first | (with_reducible first | exact HB.out | apply below_alloc | apply pw_below_drewN | apply below_drew1 | refine below_set ?_ GE110.out) | exact HB.out)⟩

end Go.Proofs.Ytjflepoifdcadaa.GPslBranches
