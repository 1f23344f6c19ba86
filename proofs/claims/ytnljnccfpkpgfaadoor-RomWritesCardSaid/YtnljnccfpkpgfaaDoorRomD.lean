/- Rom: an entry's name, walked. -/
import Derived.Test.YtnljnccfpkpgfaaDoorRomC
import Derived.Test.YtnljnccfpkpgfaaDoorRomShelf
namespace Go.Proofs.YtnljnccfpkpgfaaDoor.RomWalk
open Go.RowKit Go.Proofs.YtnljnccfpkpgfaaDoor.Aid Go.Proofs.YtnljnccfpkpgfaaDoorW.PrintWords Go.Proofs.YtnljnccfpkpgfaaDoorW.PrintLast Go.Proofs.YtnljnccfpkpgfaaDoorW.PrintMore
attribute [local go_sem] max2_int min2_int max_two min_two max_three min_three max_four min_four   -- for this text's walks alone
set_option linter.unusedVariables false
set_option linter.unusedSimpArgs false
def csL : List UInt8 := [97, 98, 99, 100, 101, 102, 103, 104, 105, 106, 107, 108, 109, 110, 111, 112, 113, 114, 115, 116, 117, 118, 119, 120, 121, 122, 65, 66, 67, 68, 69, 70, 71, 72, 73, 74, 75, 76, 77, 78, 79, 80, 81, 82, 83, 84, 85, 86, 87, 88, 89, 90, 95, 48, 49, 50, 51, 52, 53, 54, 55, 56, 57]
theorem cs_all : ∀ b : Fin 256, csL.contains (UInt8.ofNat b.val) = (letC (b.val : Int) || digC (b.val : Int)) := by decide +kernel
theorem cs_of (b : UInt8) : csL.contains b = (letC (b.toNat : Int) || digC (b.toNat : Int)) := by
  have := cs_all ⟨b.toNat, b.toNat_lt⟩
  simpa using this
theorem dropWhile_nil {α : Type} (p : α → Bool) : ∀ l : List α, l.dropWhile p = [] ↔ ∀ x ∈ l, p x = true
  | [] => by simp
  | a :: t => by
    rw [List.dropWhile_cons]
    by_cases h : p a = true
    · rw [if_pos h, dropWhile_nil p t]
      simp [h]
    · rw [if_neg h]
      simp [h]
theorem trim_nil (l cs : List UInt8) : Lib.trimS l cs = [] ↔ ∀ b ∈ l, cs.contains b = true := by
  have hR : Lib.trimRightS l cs = [] ↔ ∀ b ∈ l, cs.contains b = true := by
    unfold Lib.trimRightS
    rw [List.reverse_eq_nil_iff, dropWhile_nil]
    simp
  unfold Lib.trimS Lib.trimLeftS
  rw [dropWhile_nil]
  constructor
  · intro h
    rw [← hR]
    by_cases hn : Lib.trimRightS l cs = []
    · exact hn
    exfalso
    unfold Lib.trimRightS at hn h
    have hd : ∃ x t, l.reverse.dropWhile (cs.contains ·) = x :: t := by
      cases q : l.reverse.dropWhile (cs.contains ·) with
      | nil => rw [q] at hn; exact absurd rfl hn
      | cons x t => exact ⟨x, t, rfl⟩
    obtain ⟨x, t, hx⟩ := hd
    have h1 : ¬ cs.contains x = true := by
      have := List.head_dropWhile_not (p := (cs.contains ·)) (l := l.reverse) (by rw [hx]; simp)
      simp only [hx, List.head_cons] at this
      rw [this]; decide
    exact h1 (h x (by rw [hx]; simp))
  · intro h b hb
    unfold Lib.trimRightS at hb
    rw [List.mem_reverse] at hb
    exact h b (List.mem_reverse.1 ((List.dropWhile_sublist _).mem hb))
/-- May a byte stand at this place of a name? -/
def okc (i : Nat) (b : Int) : Bool := letC b || (digC b && decide (i ≠ 0))
theorem name_okc (s : ByteArray) : nameS s = (decide (1 ≤ s.size) && decide (s.size ≤ 24) && decide (∀ i, i < s.size → okc i ((nmB s).getD i 0) = true)) := by
  have hl := nmB_length s
  unfold nameS
  by_cases h1 : 1 ≤ s.size
  · by_cases h24 : s.size ≤ 24
    · rw [decide_eq_true h1, decide_eq_true h24]
      simp only [Bool.true_and, Bool.and_true]
      rw [Bool.eq_iff_iff]
      simp only [Bool.and_eq_true, List.all_eq_true, decide_eq_true_eq, Bool.not_eq_true']
      constructor
      · rintro ⟨hall, hd⟩ i hi
        have hm := hall ((nmB s).getD i 0) (by rw [List.getD_eq_getElem?_getD, List.getElem?_eq_getElem (by omega)]; exact List.getElem_mem _)
        unfold okc
        simp only [Bool.or_eq_true, Bool.and_eq_true, decide_eq_true_eq] at hm ⊢
        rcases hm with hm | hm
        · exact .inl hm
        · refine .inr ⟨hm, fun e => ?_⟩
          subst e
          rw [hd] at hm
          exact absurd hm (by decide)
      · intro h
        refine ⟨fun x hx => ?_, ?_⟩
        · obtain ⟨i, hi, rfl⟩ := List.mem_iff_getElem.1 hx
          have := h i (by omega)
          rw [List.getD_eq_getElem?_getD, List.getElem?_eq_getElem hi] at this
          unfold okc at this
          simp only [Bool.or_eq_true, Bool.and_eq_true, decide_eq_true_eq] at this ⊢
          exact this.imp id (fun q => q.1)
        · have := h 0 (by omega)
          unfold okc at this
          simp only [ne_eq, not_true_eq_false, decide_false, Bool.and_false, Bool.or_false] at this
          unfold letC at this
          unfold digC
          simp only [Bool.or_eq_true, Bool.and_eq_true, decide_eq_true_eq] at this
          simp only [Bool.and_eq_false_iff, decide_eq_false_iff_not]
          omega
    · rw [decide_eq_false h24]; simp
  · rw [decide_eq_false h1]; simp
theorem nm_at (s : ByteArray) (j : Nat) (hj : j < s.size) : (nmB s).getD j 0 = ((s[j]'hj).toNat : Int) := by
  have hl := nmB_length s
  rw [List.getD_eq_getElem?_getD, List.getElem?_eq_getElem (by omega), Option.getD_some]
  unfold nmB
  rw [List.getElem_map]
  rfl
theorem name_bad {s : ByteArray} {j : Nat} (hj : j < s.size) (h : okc j ((nmB s).getD j 0) = false) : nameS s = false := by
  rw [name_okc]
  have : decide (∀ i, i < s.size → okc i ((nmB s).getD i 0) = true) = false := decide_eq_false (fun q => by rw [q j hj] at h; exact absurd h (by decide))
  rw [this]; simp
set_option maxRecDepth 100000 in
set_option maxHeartbeats 8000000 in
theorem rname_call (w : World) (s : ByteArray) (hs : s.size ≤ maxLen) :
    Calls Tryd.prog 14 #[.string s] w fun e w' => e = .returned (.bool (nameS s)) ∧ w = w' := by
  have hsz : s.size ≤ 9223372036854775807 := by unfold maxLen at hs; omega
  go_enter Tryd.func14, Tryd.ntmps14
  go_wp2_with fail
  go_loopw [3] (fun i wr => ∃ j : Nat, j ≤ s.size ∧ i = .int .i64 j ∧ Aside0 (∀ i, i < j → okc i ((nmB s).getD i 0) = true) ∧ w = wr) (fun i _ => s.size - (intOf i).toNat)
  case atStart => exact ⟨0, Nat.zero_le _, rfl, ⟨fun i hi => absurd hi (Nat.not_lt_zero _)⟩, rfl⟩
  case round =>
    obtain ⟨j, hj, rfl, HA, rfl⟩ := hrel
    by_cases hjs : j < s.size
    · have h1 : (j : Int) < s.size := by omega
      have h0 : (0 : Int) ≤ j := by omega
      have HN := Aside0.mk (nm_at s j hjs)
      by_cases hz : j = 0
      · have hz1 : ((j : Int) == 0) = true := beq_iff_eq.2 (by omega)
        subst hz
        go_wp2
        all_goals first
          | (go_ret
             refine ⟨congrArg (fun q => Ending.returned (Value.bool q)) (name_bad hjs ?_).symm, rfl⟩
             rw [HN.out]
             unfold okc letC digC
             simp only [Bool.or_eq_false_iff, Bool.and_eq_false_iff, decide_eq_false_iff_not]
             omega)
          | (go_roundw
             case rel =>
               refine ⟨0 + 1, by omega, by go_num, ⟨fun i hi => ?_⟩, trivial⟩
               rcases Nat.lt_succ_iff_lt_or_eq.1 hi with hi | rfl
               · exact HA.out i hi
               · rw [HN.out]
                 unfold okc letC digC
                 simp only [Bool.or_eq_true, Bool.and_eq_true, decide_eq_true_eq]
                 omega
             case measure => simp [intOf]; omega)
          | (exfalso
             simp only [Bool.not_eq_true', decide_eq_false_iff_not, beq_eq_false_iff_ne, Bool.and_eq_true, Bool.or_eq_true, decide_eq_true_eq, beq_iff_eq, Bool.not_eq_eq_eq_not, Bool.not_true, Bool.not_false] at *
             omega)
          | (exfalso; simp_all; done)
          | (exfalso; simp_all; omega)
      · have hz1 : ((j : Int) == 0) = false := beq_eq_false_iff_ne.2 (by omega)
        go_wp2
        all_goals first
          | (go_ret
             refine ⟨congrArg (fun q => Ending.returned (Value.bool q)) (name_bad hjs ?_).symm, rfl⟩
             rw [HN.out]
             unfold okc letC digC
             simp only [Bool.or_eq_false_iff, Bool.and_eq_false_iff, decide_eq_false_iff_not]
             omega)
          | (go_roundw
             case rel =>
               refine ⟨j + 1, by omega, by go_num, ⟨fun i hi => ?_⟩, trivial⟩
               rcases Nat.lt_succ_iff_lt_or_eq.1 hi with hi | rfl
               · exact HA.out i hi
               · rw [HN.out]
                 unfold okc letC digC
                 simp only [Bool.or_eq_true, Bool.and_eq_true, decide_eq_true_eq]
                 omega
             case measure => simp [intOf]; omega)
          | (exfalso
             simp only [Bool.not_eq_true', decide_eq_false_iff_not, beq_eq_false_iff_ne, Bool.and_eq_true, Bool.or_eq_true, decide_eq_true_eq, beq_iff_eq, Bool.not_eq_eq_eq_not, Bool.not_true, Bool.not_false] at *
             omega)
          | (exfalso; simp_all; done)
          | (exfalso; simp_all; omega)
    · obtain rfl : j = s.size := by omega
      by_cases hz : 1 ≤ s.size
      · have hz1 : (1 : Int) ≤ s.size := by omega
        go_wp2
        go_ret
        refine ⟨congrArg (fun q => Ending.returned (Value.bool q)) ?_, rfl⟩
        rw [name_okc, decide_eq_true HA.out, Bool.and_true, decide_eq_true hz, Bool.true_and]
        exact decide_eq_decide.2 (by omega)
      · have hz1 : decide ((1 : Int) ≤ s.size) = false := decide_eq_false (by omega)
        have hz2 : ¬ (1 : Int) ≤ s.size := by omega
        go_wp2
        go_ret
        refine ⟨congrArg (fun q => Ending.returned (Value.bool q)) ?_, rfl⟩
        rw [name_okc, decide_eq_false hz]
        rfl
end Go.Proofs.YtnljnccfpkpgfaaDoor.RomWalk
