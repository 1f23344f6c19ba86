/- Rom: an entry's name by the program, walked. -/
import Derived.Test.YtnljnccfpkpgfaaDoorRomD
namespace Go.Proofs.YtnljnccfpkpgfaaDoor.RomWalk
open Go.RowKit Go.Proofs.YtnljnccfpkpgfaaDoor.Aid Go.Proofs.YtnljnccfpkpgfaaDoorW.PrintWords Go.Proofs.YtnljnccfpkpgfaaDoorW.PrintLast Go.Proofs.YtnljnccfpkpgfaaDoorW.PrintMore
attribute [local go_sem] max2_int min2_int max_two min_two max_three min_three max_four min_four   -- for this text's walks alone
set_option linter.unusedVariables false
set_option linter.unusedSimpArgs false
def csB : ByteArray := ⟨#[97, 98, 99, 100, 101, 102, 103, 104, 105, 106, 107, 108, 109, 110, 111, 112, 113, 114, 115, 116, 117, 118, 119, 120, 121, 122, 65, 66, 67, 68, 69, 70, 71, 72, 73, 74, 75, 76, 77, 78, 79, 80, 81, 82, 83, 84, 85, 86, 87, 88, 89, 90, 95, 48, 49, 50, 51, 52, 53, 54, 55, 56, 57]⟩
set_option maxRecDepth 100000 in
set_option maxHeartbeats 1000000 in
theorem trim_call (w : World) (s : ByteArray) (hs : s.size ≤ 9223372036854775807) :
    Calls Tryd.prog 26 #[.string s, .string ⟨#[97, 98, 99, 100, 101, 102, 103, 104, 105, 106, 107, 108, 109, 110, 111, 112, 113, 114, 115, 116, 117, 118, 119, 120, 121, 122, 65, 66, 67, 68, 69, 70, 71, 72, 73, 74, 75, 76, 77, 78, 79, 80, 81, 82, 83, 84, 85, 86, 87, 88, 89, 90, 95, 48, 49, 50, 51, 52, 53, 54, 55, 56, 57]⟩] w fun e w' => e = .returned (.string ⟨(Lib.trimS s.data.toList csL).toArray⟩) ∧ Below w.heap.size w w' :=
  Any.strings_Trim_laid Tryd.lays160 (by kernel_rfl) s ⟨#[97, 98, 99, 100, 101, 102, 103, 104, 105, 106, 107, 108, 109, 110, 111, 112, 113, 114, 115, 116, 117, 118, 119, 120, 121, 122, 65, 66, 67, 68, 69, 70, 71, 72, 73, 74, 75, 76, 77, 78, 79, 80, 81, 82, 83, 84, 85, 86, 87, 88, 89, 90, 95, 48, 49, 50, 51, 52, 53, 54, 55, 56, 57]⟩ w hs (by decide) (Go.Proofs.ascii_of_all (by decide))
theorem all_ok (s : ByteArray) : (∀ b ∈ s.data.toList, csL.contains b = true) ↔ (nmB s).all (fun b => letC b || digC b) = true := by
  unfold nmB
  rw [List.all_map, List.all_eq_true]
  constructor
  · intro h b hb
    have := h b hb
    rw [cs_of] at this
    exact this
  · intro h b hb
    rw [cs_of]
    exact h b hb
set_option maxRecDepth 100000 in
set_option maxHeartbeats 8000000 in
theorem name_call (w : World) (s : ByteArray) (hs : s.size ≤ maxLen) :
    Calls Tryd.prog 13 #[.string s] w fun e w' => e = .returned (.bool (nameS s)) ∧ Below w.heap.size w w' := by
  have hsz : s.size ≤ 9223372036854775807 := by unfold maxLen at hs; omega
  have TR := Aside0.mk (fun w => trim_call w s hsz)
  by_cases h0 : s.size = 0
  · obtain rfl : s = ⟨#[]⟩ := by
      obtain ⟨d⟩ := s
      have : d = #[] := Array.eq_empty_of_size_eq_zero h0
      rw [this]
    clear TR
    go_enter Tryd.func13, Tryd.ntmps13
    go_wp2
    go_ret
    exact ⟨rfl, Below.refl _ _⟩
  have hemp : s.toList.isEmpty = false := by
    rw [Lib.toList_data]
    cases h : s.data.toList with
    | nil => have := Lib.size_eq s; rw [h, List.length_nil] at this; omega
    | cons _ _ => rfl
  by_cases h24 : 24 < s.size
  · have h1 : ¬ (s.size : Int) ≤ 24 := by omega
    have h2 : (24 : Int) < s.size := by omega
    clear TR
    go_enter Tryd.func13, Tryd.ntmps13
    go_wp2
    go_ret
    refine ⟨congrArg (fun q => Ending.returned (Value.bool q)) ?_, Below.refl _ _⟩
    unfold nameS
    rw [decide_eq_false (by omega : ¬ s.size ≤ 24)]
    simp
  have h1 : (s.size : Int) ≤ 24 := by omega
  have h3 : (0 : Int) < s.size := by omega
  have hp : 0 < s.size := by omega
  have HN := Aside0.mk (nm_at s 0 hp)
  by_cases hall : Lib.trimS s.data.toList csL = []
  · have HA := Aside0.mk ((all_ok s).1 ((trim_nil _ _).1 hall))
    rw [hall] at TR
    have hne : ∀ b : Bool, digC ((nmB s).getD 0 0) = !b → nameS s = b := fun b hb => by
      unfold nameS
      rw [HA.out, hb, decide_eq_true (by omega : 1 ≤ s.size), decide_eq_true (by omega : s.size ≤ 24)]
      simp
    have HE := Aside0.mk hne
    clear hall hne
    go_enter Tryd.func13, Tryd.ntmps13
    go_wp2_with (first
      | (go_at_call 26; (with_reducible refine (TR.out _).mono ?_); rintro e w1 ⟨rfl, hb⟩))
    all_goals
      go_ret
      refine ⟨congrArg (fun q => Ending.returned (Value.bool q)) (HE.out _ ?_).symm, hb⟩
      rw [HN.out]
      unfold digC
      generalize ((s[0]'hp).toNat : Int) = B at *
      by_cases qa : 48 ≤ B
      · by_cases qb : B ≤ 57
        · simp [qa, qb] <;> omega
        · simp [qa, qb] <;> omega
      · simp [qa] <;> omega
  · have HA := Aside0.mk (fun q => hall ((trim_nil _ _).2 ((all_ok s).2 q)))
    obtain ⟨r, hr⟩ : ∃ r : ByteArray, (⟨(Lib.trimS s.data.toList csL).toArray⟩ : ByteArray) = r := ⟨_, rfl⟩
    have hre : r.toList.isEmpty = false := by
      rw [Lib.toList_data, ← hr]
      cases h : Lib.trimS s.data.toList csL with
      | nil => exact absurd h hall
      | cons _ _ => rfl
    rw [hr] at TR
    clear hr hall
    go_enter Tryd.func13, Tryd.ntmps13
    go_wp2_with (first
      | (go_at_call 26; (with_reducible refine (TR.out _).mono ?_); rintro e w1 ⟨rfl, hb⟩))
    go_ret
    refine ⟨congrArg (fun q => Ending.returned (Value.bool q)) ?_, hb⟩
    unfold nameS
    rw [Bool.eq_false_iff.2 HA.out]
    simp
end Go.Proofs.YtnljnccfpkpgfaaDoor.RomWalk
