/- SpecBack: first as one contract; which functions Encode calls besides. -/
import Derived.Test.YtbgcbnlpjjhmhaaSpecU
namespace Go.Proofs.Ytbgcbnlpjjhmhaa.SpecWalk
open Go.RowKit Go.Proofs.Ytbgcbnlpjjhmhaa.Aid Go.Proofs.Ytbgcbnlpjjhmhaa.Pure Go.Proofs.Ytbgcbnlpjjhmhaa.GSpecSizes Go.Proofs.YtbgcbnlpjjhmhaaW.PrintWords Go.Proofs.YtbgcbnlpjjhmhaaW.PrintLast Go.Proofs.YtbgcbnlpjjhmhaaW.PrintMore
attribute [local go_sem] max2_int min2_int max_two min_two max_three min_three max_four min_four   -- for this text's walks alone
set_option linter.unusedVariables false
set_option linter.unusedSimpArgs false
theorem low4 (reg : Int) : ∃ r : Nat, r < 16 ∧ Go.bits .and .i64 reg 15 = r ∧ (0 ≤ reg → reg ≤ 15 → (r : Int) = reg) := by
  have h : Go.bits .and .i64 reg 15 = reg % 16 := i64_mask 4 (by decide) reg 15 rfl
  exact ⟨(reg % 16).toNat, by omega, by rw [h]; omega, fun _ _ => by omega⟩
/-- first, whatever the kind. -/
theorem first_ex (kd reg idx by_ : Int) (val n : Nat) (hv : val < 4294967296) (hn : Sz n) : ∃ (l : List Int) (b : Bool), (0 ≤ reg → reg ≤ 15 → firstD kd reg val n = if b = true then some l else none) ∧ l.length ≤ 5 ∧ Bys l ∧
    ∀ w, Calls Try.prog 48 #[.agg #[.int .i64 kd, .int .i64 reg, .int .i64 idx, .int .u32 val, .int .i64 by_], .int .i64 n] w (FPost w l b) := by
  obtain ⟨r, hr, h, hrr⟩ := low4 reg
  have hn4 : n ≤ 4 := by rcases hn with rfl | rfl | rfl <;> decide
  have bys1 : ∀ x : Nat, x < 256 → Bys [(x : Int)] := fun x hx y hy => by
    rw [List.mem_singleton] at hy
    subst hy
    omega
  have bysc : ∀ (x : Nat) (l : List Int), x < 256 → Bys l → Bys ((x : Int) :: l) := fun x l hx hl y hy => by
    rcases List.mem_cons.1 hy with rfl | hy
    · omega
    · exact hl y hy
  by_cases k0 : kd = 0
  · subst k0
    refine ⟨[(val : Int) % 256], decide ((val : Int) < 64), fun _ _ => ?_, by simp, ?_, fun w => first_0 w reg idx val by_ n ⟨by omega, by omega⟩⟩
    · unfold firstD
      rw [if_pos rfl]
      by_cases hv64 : (val : Int) < 64
      · rw [if_pos hv64, decide_eq_true hv64, if_pos rfl, show (val : Int) % 256 = val from by omega]
      · rw [if_neg hv64, decide_eq_false hv64, if_neg (by decide)]
    · rw [show (val : Int) % 256 = ((val % 256 : Nat) : Int) from by omega]; exact bys1 _ (by omega)
  by_cases k5 : 5 ≤ kd ∧ kd ≤ 9
  · obtain ⟨k, rfl⟩ : ∃ k : Nat, kd = k := ⟨kd.toNat, by omega⟩
    refine ⟨[((k * 16 + r : Nat) : Int)], true, fun h0 h1 => ?_, by simp, bys1 _ (by omega), fun w => first_5 w k r reg idx val by_ n (by omega) hr h⟩
    unfold firstD
    rw [if_neg k0, if_pos k5, if_pos rfl, ← hrr h0 h1]
    congr 2
  have near : ∀ (k : Nat), kd = k → (k = 10 ∨ k = 11) → ∃ (j0 : Nat), j0 < 3 ∧ extD val (szAt j0) = val ∧ (∀ j, j < j0 → extD val (szAt j) ≠ val) ∧ (0 ≤ reg → reg ≤ 15 → firstD kd reg val n = some ((((k + 2 * j0) * 16 + r : Nat) : Int) :: putS val (szAt j0))) := by
    intro k hk hkk
    have f : firstD kd reg val n = (if ((extD ((val : Int)).toNat 1 : Nat) : Int) = (val : Int) then some ((kd * 16 + reg) :: putS val 1) else if ((extD ((val : Int)).toNat 2 : Nat) : Int) = (val : Int) then some (((kd + 2) * 16 + reg) :: putS val 2) else some (((kd + 4) * 16 + reg) :: putS val 4)) := by
      unfold firstD
      rw [if_neg k0, if_neg k5, if_pos (by omega)]
    rw [Int.toNat_natCast] at f
    by_cases h1 : extD val 1 = val
    · refine ⟨0, by omega, h1, fun j hj => by omega, fun h0 h15 => ?_⟩
      rw [f, if_pos (by omega), hk, ← hrr h0 h15]
      show some (_ :: putS (val : Int) 1) = some (_ :: putS (val : Int) 1)
      congr 2
    by_cases h2 : extD val 2 = val
    · refine ⟨1, by omega, h2, fun j hj => ?_, fun h0 h15 => ?_⟩
      · obtain rfl : j = 0 := by omega
        exact h1
      · rw [f, if_neg (by omega), if_pos (by omega), hk, ← hrr h0 h15]
        show some (_ :: putS (val : Int) 2) = some (_ :: putS (val : Int) 2)
        congr 2
    · refine ⟨2, by omega, extD_four val hv, fun j hj => ?_, fun h0 h15 => ?_⟩
      · rcases (by omega : j = 0 ∨ j = 1) with rfl | rfl
        · exact h1
        · exact h2
      · rw [f, if_neg (by omega), if_neg (by omega), hk, ← hrr h0 h15]
        show some (_ :: putS (val : Int) 4) = some (_ :: putS (val : Int) 4)
        congr 2
  have szl : ∀ j, j < 3 → szAt j ≤ 4 := fun j hj => by rcases szAt_sz hj with h | h | h <;> omega
  by_cases k10 : kd = 10
  · subst k10
    obtain ⟨j0, h1, h2, h3, h4⟩ := near 10 rfl (.inl rfl)
    exact ⟨_, true, fun a b => by rw [h4 a b, if_pos rfl], by rw [List.length_cons, putS_length]; have := szl j0 h1; omega, bysc _ _ (by omega) (putS_bys _ _), fun w => first_10 w r val j0 reg idx by_ n hr h hv h1 h2 h3⟩
  by_cases k11 : kd = 11
  · subst k11
    obtain ⟨j0, h1, h2, h3, h4⟩ := near 11 rfl (.inr rfl)
    exact ⟨_, true, fun a b => by rw [h4 a b, if_pos rfl], by rw [List.length_cons, putS_length]; have := szl j0 h1; omega, bysc _ _ (by omega) (putS_bys _ _), fun w => first_11 w r val j0 reg idx by_ n hr h hv h1 h2 h3⟩
  by_cases k12 : kd = 12
  · subst k12
    refine ⟨143 :: putS val n, true, fun _ _ => ?_, by rw [List.length_cons, putS_length]; omega, bysc 143 _ (by decide) (putS_bys _ _), fun w => first_12 w val n reg idx by_ hv hn4⟩
    unfold firstD
    rw [if_neg (by decide), if_neg (by omega), if_neg (by omega), if_pos rfl, if_pos rfl]
  by_cases k13 : kd = 13
  · subst k13
    refine ⟨159 :: putS val 4, true, fun _ _ => ?_, by rw [List.length_cons, putS_length]; omega, bysc 159 _ (by decide) (putS_bys _ _), fun w => first_13 w val n reg idx by_ hv⟩
    unfold firstD
    rw [if_neg (by decide), if_neg (by omega), if_neg (by omega), if_neg (by decide), if_pos rfl, if_pos rfl]
  · refine ⟨[], false, fun _ _ => ?_, by simp, (fun x hx => by cases hx), fun w => first_none w kd reg idx val by_ n (by omega)⟩
    unfold firstD
    rw [if_neg k0, if_neg k5, if_neg (by omega), if_neg k12, if_neg k13, if_neg (by decide)]
theorem mask_call (w : World) (n : Nat) (hn : Sz n) : ∃ m : Int, (m == 0) = false ∧ ∀ w, Calls Try.prog 41 #[.int .i64 n] w fun e w' => e = .returned (.int .u32 m) ∧ Below w.heap.size w w' := by
  rcases hn with rfl | rfl | rfl
  · exact ⟨255, rfl, fun w => (bits_Mask.calls 1 255 w rfl).mono fun e w' h => ⟨h.1, h.2.below⟩⟩
  · exact ⟨65535, rfl, fun w => (bits_Mask.calls 2 65535 w rfl).mono fun e w' h => ⟨h.1, h.2.below⟩⟩
  · exact ⟨4294967295, rfl, fun w => (bits_Mask.calls 4 4294967295 w rfl).mono fun e w' h => ⟨h.1, h.2.below⟩⟩
theorem or_idx : ∀ i : Fin 16, Go.bits .or .u8 64 (i.val : Int) = ((64 + i.val : Nat) : Int) := by decide +kernel
end Go.Proofs.Ytbgcbnlpjjhmhaa.SpecWalk
