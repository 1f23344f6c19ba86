-- PRINTED BY print.sh 35421559b90ae4d0a3588c463048766b98c2df88dd9212a6774a882060cdf62d: not written by this session
import Derived.Test.YtjflepoifdcadaaPPteRightsx0
namespace Go.Proofs.Ytjflepoifdcadaa.PPteRights
open Go.RowKit Go.Proofs.YtjflepoifdcadaaW.PrintWords Go.Proofs.YtjflepoifdcadaaW.PrintLast Go.Proofs.YtjflepoifdcadaaW.PrintMore
attribute [local go_sem] max2_int min2_int max_two min_two max_three min_three max_four min_four   -- for this text's walks alone
set_option linter.unusedVariables false
set_option linter.unusedSimpArgs false

/-! ### pte_Frame: function 16 -/
def pte_Frame.f (a0 : Int) : Option (Int) := some (Go.bits .and .u32 a0 2097151)
set_option maxHeartbeats 8000000 in
set_option maxRecDepth 100000 in
theorem pte_Frame.calls (a0 : Int) (r : Int) (w : World) (h : pte_Frame.f a0 = some r) :
    Calls Try.prog 16 #[.int .u32 a0] w fun e w' => e = .returned (.int .u32 r) ∧ Drawn0 w w' := by
  have H : (some (Go.bits .and .u32 a0 2097151)) = some r := h
  clear h
  obtain rfl := Option.some.inj H
  go_enter Try.func16, Try.ntmps16
  go_wp2
  go_ret
  exact ⟨by first | rfl | (simp; done) | (simp [*]; done), by repeat (first | exact Drawn0.refl _ | apply Drawn0.step)⟩

/-! ### pte_Place: function 15 -/
def pte_Place.f (a0 : Int) (a1 : Int) : Option (Int) := (pte_Frame.f a0).bind fun t101 => (some (Go.bits .or .u32 ((t101 * 512) % 4294967296) (Go.bits .and .u32 a1 511)))
set_option maxHeartbeats 8000000 in
set_option maxRecDepth 100000 in
theorem pte_Place.calls (a0 : Int) (a1 : Int) (r : Int) (w : World) (h : pte_Place.f a0 a1 = some r) :
    Calls Try.prog 15 #[.int .u32 a0, .int .u32 a1] w fun e w' => e = .returned (.int .u32 r) ∧ Drawn0 w w' := by
  have H : ((pte_Frame.f a0).bind fun t101 => (some (Go.bits .or .u32 ((t101 * 512) % 4294967296) (Go.bits .and .u32 a1 511)))) = some r := h
  clear h
  replace H := Option.bind_eq_some_iff.mp H
  obtain ⟨t101, A30, H⟩ := H
  replace H : (some (Go.bits .or .u32 ((t101 * 512) % 4294967296) (Go.bits .and .u32 a1 511))) = some r := H
  have A3 := Aside0.mk A30
  clear A30
  obtain rfl := Option.some.inj H
  go_enter Try.func15, Try.ntmps15
  go_wp2_with (first | ((with_reducible refine gate_callee (f := 16) rfl ?_); refine goesL_ (some 6) rfl rfl Try.func16 (by kernel_rfl) rfl #[.int .u32 a0] rfl (by (try simp only [List.map_toArray, List.map_cons, List.map_nil]); first | done | rfl | (simp only [List.length_drop, List.length_take]; rfl)) ?_; (with_reducible refine (pte_Frame.calls a0 t101 _ A3.out).mono ?_); rintro e w' ⟨rfl, ⟨nd, rfl⟩⟩; refine ⟨_, rfl, ?_⟩))
  go_ret
  exact ⟨by first | rfl | (simp; done) | (simp [*]; done), by repeat (first | exact Drawn0.refl _ | apply Drawn0.step)⟩

/-! ### pte_Make: function 17 -/
def pte_Make.f (a0 : Bool) (a1 : Int) (a2 : Bool) (a3 : Int) : Option (Int) := if a0 = true then (if a2 = true then (some (Go.bits .or .u32 (Go.bits .or .u32 (Go.bits .or .u32 (Go.bits .and .u32 a3 2097151) ((((Go.bits .and .i64 a1 3) % 4294967296) * 134217728) % 4294967296)) 2147483648) 67108864)) else (some (Go.bits .or .u32 (Go.bits .or .u32 (Go.bits .and .u32 a3 2097151) ((((Go.bits .and .i64 a1 3) % 4294967296) * 134217728) % 4294967296)) 2147483648))) else (if a2 = true then (some (Go.bits .or .u32 (Go.bits .or .u32 (Go.bits .and .u32 a3 2097151) ((((Go.bits .and .i64 a1 3) % 4294967296) * 134217728) % 4294967296)) 67108864)) else (some (Go.bits .or .u32 (Go.bits .and .u32 a3 2097151) ((((Go.bits .and .i64 a1 3) % 4294967296) * 134217728) % 4294967296))))
set_option maxHeartbeats 8000000 in
set_option maxRecDepth 100000 in
theorem pte_Make.calls (a0 : Bool) (a1 : Int) (a2 : Bool) (a3 : Int) (r : Int) (w : World) (h : pte_Make.f a0 a1 a2 a3 = some r) :
    Calls Try.prog 17 #[.bool a0, .int .i64 a1, .bool a2, .int .u32 a3] w fun e w' => e = .returned (.int .u32 r) ∧ Drawn0 w w' := by
  have H : (if a0 = true then (if a2 = true then (some (Go.bits .or .u32 (Go.bits .or .u32 (Go.bits .or .u32 (Go.bits .and .u32 a3 2097151) ((((Go.bits .and .i64 a1 3) % 4294967296) * 134217728) % 4294967296)) 2147483648) 67108864)) else (some (Go.bits .or .u32 (Go.bits .or .u32 (Go.bits .and .u32 a3 2097151) ((((Go.bits .and .i64 a1 3) % 4294967296) * 134217728) % 4294967296)) 2147483648))) else (if a2 = true then (some (Go.bits .or .u32 (Go.bits .or .u32 (Go.bits .and .u32 a3 2097151) ((((Go.bits .and .i64 a1 3) % 4294967296) * 134217728) % 4294967296)) 67108864)) else (some (Go.bits .or .u32 (Go.bits .and .u32 a3 2097151) ((((Go.bits .and .i64 a1 3) % 4294967296) * 134217728) % 4294967296))))) = some r := h
  clear h
  by_cases c5 : a0 = true
  · subst c5
    have H1 : (if a2 = true then (some (Go.bits .or .u32 (Go.bits .or .u32 (Go.bits .or .u32 (Go.bits .and .u32 a3 2097151) ((((Go.bits .and .i64 a1 3) % 4294967296) * 134217728) % 4294967296)) 2147483648) 67108864)) else (some (Go.bits .or .u32 (Go.bits .or .u32 (Go.bits .and .u32 a3 2097151) ((((Go.bits .and .i64 a1 3) % 4294967296) * 134217728) % 4294967296)) 2147483648))) = some r := by rw [if_pos rfl] at H; exact H
    clear H
    have H := H1
    clear H1
    by_cases c6 : a2 = true
    · subst c6
      have H1 : (some (Go.bits .or .u32 (Go.bits .or .u32 (Go.bits .or .u32 (Go.bits .and .u32 a3 2097151) ((((Go.bits .and .i64 a1 3) % 4294967296) * 134217728) % 4294967296)) 2147483648) 67108864)) = some r := by rw [if_pos rfl] at H; exact H
      clear H
      have H := H1
      clear H1
      obtain rfl := Option.some.inj H
      go_enter Try.func17, Try.ntmps17
      go_wp2
      go_ret
      exact ⟨by first | rfl | (simp; done) | (simp [*]; done), by repeat (first | exact Drawn0.refl _ | apply Drawn0.step)⟩
    · replace c6 := Bool.eq_false_iff.mpr c6
      subst c6
      have H1 : (some (Go.bits .or .u32 (Go.bits .or .u32 (Go.bits .and .u32 a3 2097151) ((((Go.bits .and .i64 a1 3) % 4294967296) * 134217728) % 4294967296)) 2147483648)) = some r := by rw [if_neg (show ¬ (false = true) by decide)] at H; exact H
      clear H
      have H := H1
      clear H1
      obtain rfl := Option.some.inj H
      go_enter Try.func17, Try.ntmps17
      go_wp2
      go_ret
      exact ⟨by first | rfl | (simp; done) | (simp [*]; done), by repeat (first | exact Drawn0.refl _ | apply Drawn0.step)⟩
  · replace c5 := Bool.eq_false_iff.mpr c5
    subst c5
    have H1 : (if a2 = true then (some (Go.bits .or .u32 (Go.bits .or .u32 (Go.bits .and .u32 a3 2097151) ((((Go.bits .and .i64 a1 3) % 4294967296) * 134217728) % 4294967296)) 67108864)) else (some (Go.bits .or .u32 (Go.bits .and .u32 a3 2097151) ((((Go.bits .and .i64 a1 3) % 4294967296) * 134217728) % 4294967296)))) = some r := by rw [if_neg (show ¬ (false = true) by decide)] at H; exact H
    clear H
    have H := H1
    clear H1
    by_cases c7 : a2 = true
    · subst c7
      have H1 : (some (Go.bits .or .u32 (Go.bits .or .u32 (Go.bits .and .u32 a3 2097151) ((((Go.bits .and .i64 a1 3) % 4294967296) * 134217728) % 4294967296)) 67108864)) = some r := by rw [if_pos rfl] at H; exact H
      clear H
      have H := H1
      clear H1
      obtain rfl := Option.some.inj H
      go_enter Try.func17, Try.ntmps17
      go_wp2
      go_ret
      exact ⟨by first | rfl | (simp; done) | (simp [*]; done), by repeat (first | exact Drawn0.refl _ | apply Drawn0.step)⟩
    · replace c7 := Bool.eq_false_iff.mpr c7
      subst c7
      have H1 : (some (Go.bits .or .u32 (Go.bits .and .u32 a3 2097151) ((((Go.bits .and .i64 a1 3) % 4294967296) * 134217728) % 4294967296))) = some r := by rw [if_neg (show ¬ (false = true) by decide)] at H; exact H
      clear H
      have H := H1
      clear H1
      obtain rfl := Option.some.inj H
      go_enter Try.func17, Try.ntmps17
      go_wp2
      go_ret
      exact ⟨by first | rfl | (simp; done) | (simp [*]; done), by repeat (first | exact Drawn0.refl _ | apply Drawn0.step)⟩

/-! ### camshaftlaw03_alive: function 14 -/
def camshaftlaw03_alive.f  : Option (Bool) := (pte_Make.f true 3 false 3).bind fun t102 => (if t102 = 2550136835 then ((pte_Place.f t102 511).bind fun t103 => (if t103 = 2047 then (some true) else (some false))) else (some false))
set_option maxHeartbeats 8000000 in
set_option maxRecDepth 100000 in
theorem camshaftlaw03_alive.calls  (r : Bool) (w : World) (h : camshaftlaw03_alive.f  = some r) :
    Calls Try.prog 14 #[] w fun e w' => e = .returned (.bool r) ∧ Drawn0 w w' := by
  have H : ((pte_Make.f true 3 false 3).bind fun t102 => (if t102 = 2550136835 then ((pte_Place.f t102 511).bind fun t103 => (if t103 = 2047 then (some true) else (some false))) else (some false))) = some r := h
  clear h
  replace H := Option.bind_eq_some_iff.mp H
  obtain ⟨t102, A10, H⟩ := H
  replace H : (if t102 = 2550136835 then ((pte_Place.f t102 511).bind fun t103 => (if t103 = 2047 then (some true) else (some false))) else (some false)) = some r := H
  have A1 := Aside0.mk A10
  clear A10
  by_cases c2 : t102 = 2550136835
  · rw [if_pos c2] at H
    have c2b0 : (t102 == 2550136835) = true := beq_iff_eq.mpr c2
    have c2b1 : (t102 != 2550136835) = false := bne_eq_false_iff_eq.mpr c2
    clear c2
    replace H := Option.bind_eq_some_iff.mp H
    obtain ⟨t103, A30, H⟩ := H
    replace H : (if t103 = 2047 then (some true) else (some false)) = some r := H
    have A3 := Aside0.mk A30
    clear A30
    by_cases c4 : t103 = 2047
    · rw [if_pos c4] at H
      have c4b0 : (t103 == 2047) = true := beq_iff_eq.mpr c4
      have c4b1 : (t103 != 2047) = false := bne_eq_false_iff_eq.mpr c4
      clear c4
      obtain rfl := Option.some.inj H
      go_enter Try.func14, Try.ntmps14
      go_wp2_with (first | ((with_reducible refine gate_callee (f := 17) rfl ?_); refine goesL_ (some 2) rfl rfl Try.func17 (by kernel_rfl) rfl #[.bool true, .int .i64 3, .bool false, .int .u32 3] rfl (by (try simp only [List.map_toArray, List.map_cons, List.map_nil]); first | done | rfl | (simp only [List.length_drop, List.length_take]; rfl)) ?_; (with_reducible refine (pte_Make.calls true 3 false 3 t102 _ A1.out).mono ?_); rintro e w' ⟨rfl, ⟨nd, rfl⟩⟩; refine ⟨_, rfl, ?_⟩) | (go_at_call 15; (with_reducible refine (pte_Place.calls t102 511 t103 _ A3.out).mono ?_); rintro e w' ⟨rfl, ⟨nd, rfl⟩⟩))
      go_ret
      exact ⟨by first | rfl | (simp; done) | (simp [*]; done), by repeat (first | exact Drawn0.refl _ | apply Drawn0.step)⟩
    · rw [if_neg c4] at H
      have c4b0 : (t103 == 2047) = false := beq_eq_false_iff_ne.mpr c4
      have c4b1 : (t103 != 2047) = true := bne_iff_ne.mpr c4
      obtain rfl := Option.some.inj H
      go_enter Try.func14, Try.ntmps14
      go_wp2_with (first | ((with_reducible refine gate_callee (f := 17) rfl ?_); refine goesL_ (some 2) rfl rfl Try.func17 (by kernel_rfl) rfl #[.bool true, .int .i64 3, .bool false, .int .u32 3] rfl (by (try simp only [List.map_toArray, List.map_cons, List.map_nil]); first | done | rfl | (simp only [List.length_drop, List.length_take]; rfl)) ?_; (with_reducible refine (pte_Make.calls true 3 false 3 t102 _ A1.out).mono ?_); rintro e w' ⟨rfl, ⟨nd, rfl⟩⟩; refine ⟨_, rfl, ?_⟩) | (go_at_call 15; (with_reducible refine (pte_Place.calls t102 511 t103 _ A3.out).mono ?_); rintro e w' ⟨rfl, ⟨nd, rfl⟩⟩))
      go_ret
      exact ⟨by first | rfl | (simp; done) | (simp [*]; done), by repeat (first | exact Drawn0.refl _ | apply Drawn0.step)⟩
  · rw [if_neg c2] at H
    have c2b0 : (t102 == 2550136835) = false := beq_eq_false_iff_ne.mpr c2
    have c2b1 : (t102 != 2550136835) = true := bne_iff_ne.mpr c2
    obtain rfl := Option.some.inj H
    go_enter Try.func14, Try.ntmps14
    go_wp2_with (first | ((with_reducible refine gate_callee (f := 17) rfl ?_); refine goesL_ (some 2) rfl rfl Try.func17 (by kernel_rfl) rfl #[.bool true, .int .i64 3, .bool false, .int .u32 3] rfl (by (try simp only [List.map_toArray, List.map_cons, List.map_nil]); first | done | rfl | (simp only [List.length_drop, List.length_take]; rfl)) ?_; (with_reducible refine (pte_Make.calls true 3 false 3 t102 _ A1.out).mono ?_); rintro e w' ⟨rfl, ⟨nd, rfl⟩⟩; refine ⟨_, rfl, ?_⟩))
    go_ret
    exact ⟨by first | rfl | (simp; done) | (simp [*]; done), by repeat (first | exact Drawn0.refl _ | apply Drawn0.step)⟩

/-! ### pte_Prot: function 21 -/
def pte_Prot.f (a0 : Int) : Option (Int) := some (wrap64 (Go.bits .and .u32 (a0 / 134217728) 3))
set_option maxHeartbeats 8000000 in
set_option maxRecDepth 100000 in
theorem pte_Prot.calls (a0 : Int) (r : Int) (w : World) (h : pte_Prot.f a0 = some r) :
    Calls Try.prog 21 #[.int .u32 a0] w fun e w' => e = .returned (.int .i64 r) ∧ Drawn0 w w' := by
  have H : (some (wrap64 (Go.bits .and .u32 (a0 / 134217728) 3))) = some r := h
  clear h
  obtain rfl := Option.some.inj H
  go_enter Try.func21, Try.ntmps21
  go_wp2
  go_ret
  exact ⟨by first | rfl | (simp; done) | (simp [*]; done), by repeat (first | exact Drawn0.refl _ | apply Drawn0.step)⟩

/-! ### pte_May: function 32 -/
def pte_May.f (a0 : Int) (a1 : Bool) (a2 : Bool) : Option (Bool) := (pte_Prot.f a0).bind fun t104 => (if a1 = true then (if a2 = true then (some (t104 == 3)) else (some (decide (t104 ≥ 2)))) else (some (t104 != 0)))
set_option maxHeartbeats 8000000 in
set_option maxRecDepth 100000 in
theorem pte_May.calls (a0 : Int) (a1 : Bool) (a2 : Bool) (r : Bool) (w : World) (h : pte_May.f a0 a1 a2 = some r) :
    Calls Try.prog 32 #[.int .u32 a0, .bool a1, .bool a2] w fun e w' => e = .returned (.bool r) ∧ Drawn0 w w' := by
  have H : ((pte_Prot.f a0).bind fun t104 => (if a1 = true then (if a2 = true then (some (t104 == 3)) else (some (decide (t104 ≥ 2)))) else (some (t104 != 0)))) = some r := h
  clear h
  replace H := Option.bind_eq_some_iff.mp H
  obtain ⟨t104, A40, H⟩ := H
  replace H : (if a1 = true then (if a2 = true then (some (t104 == 3)) else (some (decide (t104 ≥ 2)))) else (some (t104 != 0))) = some r := H
  have A4 := Aside0.mk A40
  clear A40
  by_cases c5 : a1 = true
  · subst c5
    have H1 : (if a2 = true then (some (t104 == 3)) else (some (decide (t104 ≥ 2)))) = some r := by rw [if_pos rfl] at H; exact H
    clear H
    have H := H1
    clear H1
    by_cases c6 : a2 = true
    · subst c6
      have H1 : (some (t104 == 3)) = some r := by rw [if_pos rfl] at H; exact H
      clear H
      have H := H1
      clear H1
      obtain rfl := Option.some.inj H
      go_enter Try.func32, Try.ntmps32
      go_wp2_with (first | ((with_reducible refine gate_callee (f := 21) rfl ?_); refine goesL_ (some 9) rfl rfl Try.func21 (by kernel_rfl) rfl #[.int .u32 a0] rfl (by (try simp only [List.map_toArray, List.map_cons, List.map_nil]); first | done | rfl | (simp only [List.length_drop, List.length_take]; rfl)) ?_; (with_reducible refine (pte_Prot.calls a0 t104 _ A4.out).mono ?_); rintro e w' ⟨rfl, ⟨nd, rfl⟩⟩; refine ⟨_, rfl, ?_⟩))
      go_ret
      exact ⟨by first | rfl | (simp; done) | (simp [*]; done), by repeat (first | exact Drawn0.refl _ | apply Drawn0.step)⟩
    · replace c6 := Bool.eq_false_iff.mpr c6
      subst c6
      have H1 : (some (decide (t104 ≥ 2))) = some r := by rw [if_neg (show ¬ (false = true) by decide)] at H; exact H
      clear H
      have H := H1
      clear H1
      obtain rfl := Option.some.inj H
      go_enter Try.func32, Try.ntmps32
      go_wp2_with (first | ((with_reducible refine gate_callee (f := 21) rfl ?_); refine goesL_ (some 9) rfl rfl Try.func21 (by kernel_rfl) rfl #[.int .u32 a0] rfl (by (try simp only [List.map_toArray, List.map_cons, List.map_nil]); first | done | rfl | (simp only [List.length_drop, List.length_take]; rfl)) ?_; (with_reducible refine (pte_Prot.calls a0 t104 _ A4.out).mono ?_); rintro e w' ⟨rfl, ⟨nd, rfl⟩⟩; refine ⟨_, rfl, ?_⟩))
      go_ret
      exact ⟨by first | rfl | (simp; done) | (simp [*]; done), by repeat (first | exact Drawn0.refl _ | apply Drawn0.step)⟩
  · replace c5 := Bool.eq_false_iff.mpr c5
    subst c5
    have H1 : (some (t104 != 0)) = some r := by rw [if_neg (show ¬ (false = true) by decide)] at H; exact H
    clear H
    have H := H1
    clear H1
    obtain rfl := Option.some.inj H
    go_enter Try.func32, Try.ntmps32
    go_wp2_with (first | ((with_reducible refine gate_callee (f := 21) rfl ?_); refine goesL_ (some 9) rfl rfl Try.func21 (by kernel_rfl) rfl #[.int .u32 a0] rfl (by (try simp only [List.map_toArray, List.map_cons, List.map_nil]); first | done | rfl | (simp only [List.length_drop, List.length_take]; rfl)) ?_; (with_reducible refine (pte_Prot.calls a0 t104 _ A4.out).mono ?_); rintro e w' ⟨rfl, ⟨nd, rfl⟩⟩; refine ⟨_, rfl, ?_⟩))
    go_ret
    exact ⟨by first | rfl | (simp; done) | (simp [*]; done), by repeat (first | exact Drawn0.refl _ | apply Drawn0.step)⟩

-- NOT PRINTED: function 8 (camshaftlaw03_PteRights)

end Go.Proofs.Ytjflepoifdcadaa.PPteRights
