/- A memory has as many bytes as asked, none of fewer than none, and not more than may be; the last place is there, the next one isn't: the walk of RamEnds. -/
import Derived.Test.YtocjadgakalbdaaRamD
namespace Go.Proofs.Ytocjadgakalbdaa.RamWalk
open Go.RowKit Go.Proofs.Ytocjadgakalbdaa.Aid Go.Proofs.YtocjadgakalbdaaW.PrintWords Go.Proofs.YtocjadgakalbdaaW.PrintLast Go.Proofs.YtocjadgakalbdaaW.PrintMore
attribute [local go_sem] max2_int min2_int max_two min_two max_three min_three max_four min_four   -- for this text's walks alone
set_option linter.unusedVariables false
set_option linter.unusedSimpArgs false

theorem ends_far (size over : Int) (w : World) (h : 4 ≤ over) :
    Calls Try.prog 4 #[.int .i64 size, .int .i64 over] w fun e w' => e = .returned (.bool true) ∧ Below w.heap.size w w' := by
  go_enter Try.func4, Try.ntmps4
  go_wp2_with (first
    | (go_at_call 16; (refine (alive_call _).mono ?_); rintro e w0 ⟨rfl, hb0⟩; have B0 := Aside0.mk hb0; clear hb0)
    | (go_at_call 17; (refine (NEW.out _).mono ?_); rintro e w1 ⟨g, b, rfl, hr, hbel⟩; have R1 := Aside0.mk hr; have B1 := Aside0.mk (below_step B0.out hbel); have hbase := Aside0.mk (Nat.le_trans B0.out.size hr.baseb); clear hr hbel)
    | (go_at_call 18; (refine (size_n _ _ _ _ _ _ _ R1.out).mono ?_); rintro e w' ⟨rfl, rfl⟩)
    | (go_at_call 19; (refine (put_bus_i _ _ _ _ _ _ _ _ _ _ (by omega) (by omega) R1.out (by omega)).mono ?_); rintro e w' ⟨rfl, rfl⟩)
    | (go_at_call 20; (refine (get_i _ _ _ _ _ _ _ (zeros_bytes _) _ _ (by omega) (by omega) R1.out (by omega) (by omega) (by omega) 0 (zeros_num _ _ _)).mono ?_); rintro e w' ⟨rfl, rfl⟩)
    | (go_at_call 19; (refine (put_i _ _ _ _ _ _ _ _ _ _ (by omega) (by omega) (by omega) (by omega) R1.out (by omega) (by omega) (by omega)).mono ?_); rintro e w2 ⟨rfl, hr2, hg2⟩; have B2 := Aside0.mk ((B1.out).grown hg2 B1.out.size (fun k hk => by simp at hk; subst hk; exact hbase.out)); clear hr2 hg2))
  all_goals (go_ret; exact ⟨rfl, by first | exact B2.out | exact B1.out | exact B0.out⟩)

theorem ends_long (size over : Int) (w : World) (h : over ≤ 0) (h2 : 4096 < size) :
    Calls Try.prog 4 #[.int .i64 size, .int .i64 over] w fun e w' => e = .returned (.bool true) ∧ Below w.heap.size w w' := by
  go_enter Try.func4, Try.ntmps4
  go_wp2_with (first
    | (go_at_call 16; (refine (alive_call _).mono ?_); rintro e w0 ⟨rfl, hb0⟩; have B0 := Aside0.mk hb0; clear hb0)
    | (go_at_call 17; (refine (NEW.out _).mono ?_); rintro e w1 ⟨g, b, rfl, hr, hbel⟩; have R1 := Aside0.mk hr; have B1 := Aside0.mk (below_step B0.out hbel); have hbase := Aside0.mk (Nat.le_trans B0.out.size hr.baseb); clear hr hbel)
    | (go_at_call 18; (refine (size_n _ _ _ _ _ _ _ R1.out).mono ?_); rintro e w' ⟨rfl, rfl⟩)
    | (go_at_call 19; (refine (put_bus_i _ _ _ _ _ _ _ _ _ _ (by omega) (by omega) R1.out (by omega)).mono ?_); rintro e w' ⟨rfl, rfl⟩)
    | (go_at_call 20; (refine (get_i _ _ _ _ _ _ _ (zeros_bytes _) _ _ (by omega) (by omega) R1.out (by omega) (by omega) (by omega) 0 (zeros_num _ _ _)).mono ?_); rintro e w' ⟨rfl, rfl⟩)
    | (go_at_call 19; (refine (put_i _ _ _ _ _ _ _ _ _ _ (by omega) (by omega) (by omega) (by omega) R1.out (by omega) (by omega) (by omega)).mono ?_); rintro e w2 ⟨rfl, hr2, hg2⟩; have B2 := Aside0.mk ((B1.out).grown hg2 B1.out.size (fun k hk => by simp at hk; subst hk; exact hbase.out)); clear hr2 hg2))
  all_goals (go_ret; exact ⟨rfl, by first | exact B2.out | exact B1.out | exact B0.out⟩)

theorem ends_neg (size over : Int) (w : World) (h : over ≤ 0) (h2 : size < 0) :
    Calls Try.prog 4 #[.int .i64 size, .int .i64 over] w fun e w' => e = .returned (.bool true) ∧ Below w.heap.size w w' := by
  have NEW := Aside0.mk (fun w => new_neg size w h2)
  go_enter Try.func4, Try.ntmps4
  go_wp2_with (first
    | (go_at_call 16; (refine (alive_call _).mono ?_); rintro e w0 ⟨rfl, hb0⟩; have B0 := Aside0.mk hb0; clear hb0)
    | (go_at_call 17; (refine (NEW.out _).mono ?_); rintro e w1 ⟨g, b, rfl, hr, hbel⟩; have R1 := Aside0.mk hr; have B1 := Aside0.mk (below_step B0.out hbel); have hbase := Aside0.mk (Nat.le_trans B0.out.size hr.baseb); clear hr hbel)
    | (go_at_call 18; (refine (size_n _ _ _ _ _ _ _ R1.out).mono ?_); rintro e w' ⟨rfl, rfl⟩)
    | (go_at_call 19; (refine (put_bus_i _ _ _ _ _ _ _ _ _ _ (by omega) (by omega) R1.out (by omega)).mono ?_); rintro e w' ⟨rfl, rfl⟩)
    | (go_at_call 20; (refine (get_i _ _ _ _ _ _ _ (zeros_bytes _) _ _ (by omega) (by omega) R1.out (by omega) (by omega) (by omega) 0 (zeros_num _ _ _)).mono ?_); rintro e w' ⟨rfl, rfl⟩)
    | (go_at_call 19; (refine (put_i _ _ _ _ _ _ _ _ _ _ (by omega) (by omega) (by omega) (by omega) R1.out (by omega) (by omega) (by omega)).mono ?_); rintro e w2 ⟨rfl, hr2, hg2⟩; have B2 := Aside0.mk ((B1.out).grown hg2 B1.out.size (fun k hk => by simp at hk; subst hk; exact hbase.out)); clear hr2 hg2))
  all_goals (go_ret; exact ⟨rfl, by first | exact B2.out | exact B1.out | exact B0.out⟩)

theorem ends_in (size over : Int) (w : World) (h : over ≤ 0) (h2 : 0 ≤ size) (h3 : size ≤ 4096) :
    Calls Try.prog 4 #[.int .i64 size, .int .i64 over] w fun e w' => e = .returned (.bool true) ∧ Below w.heap.size w w' := by
  obtain ⟨K, rfl⟩ : ∃ K : Nat, size = K := ⟨size.toNat, by omega⟩
  have NEW := Aside0.mk (fun w => new_nat K w (by omega))
  go_enter Try.func4, Try.ntmps4
  go_wp2_with (first
    | (go_at_call 16; (refine (alive_call _).mono ?_); rintro e w0 ⟨rfl, hb0⟩; have B0 := Aside0.mk hb0; clear hb0)
    | (go_at_call 17; (refine (NEW.out _).mono ?_); rintro e w1 ⟨g, b, rfl, hr, hbel⟩; have R1 := Aside0.mk hr; have B1 := Aside0.mk (below_step B0.out hbel); have hbase := Aside0.mk (Nat.le_trans B0.out.size hr.baseb); clear hr hbel)
    | (go_at_call 18; (refine (size_n _ _ _ _ _ _ _ R1.out).mono ?_); rintro e w' ⟨rfl, rfl⟩)
    | (go_at_call 19; (refine (put_bus_i _ _ _ _ _ _ _ _ _ _ (by omega) (by omega) R1.out (by omega)).mono ?_); rintro e w' ⟨rfl, rfl⟩)
    | (go_at_call 20; (refine (get_i _ _ _ _ _ _ _ (zeros_bytes _) _ _ (by omega) (by omega) R1.out (by omega) (by omega) (by omega) 0 (zeros_num _ _ _)).mono ?_); rintro e w' ⟨rfl, rfl⟩)
    | (go_at_call 19; (refine (put_i _ _ _ _ _ _ _ _ _ _ (by omega) (by omega) (by omega) (by omega) R1.out (by omega) (by omega) (by omega)).mono ?_); rintro e w2 ⟨rfl, hr2, hg2⟩; have B2 := Aside0.mk ((B1.out).grown hg2 B1.out.size (fun k hk => by simp at hk; subst hk; exact hbase.out)); clear hr2 hg2))
  all_goals (go_ret; exact ⟨rfl, by first | exact B2.out | exact B1.out | exact B0.out⟩)

theorem ends_1 (size : Int) (w : World) :
    Calls Try.prog 4 #[.int .i64 size, .int .i64 1] w fun e w' => e = .returned (.bool true) ∧ Below w.heap.size w w' := by
  obtain ⟨K, hK⟩ : ∃ K : Nat, K = 16777215 := ⟨_, rfl⟩
  have hKi : (K : Int) = 16777215 := by omega
  have NEW := Aside0.mk (fun w => new_nat K w (by omega))
  rw [hKi] at NEW
  clear hK
  go_enter Try.func4, Try.ntmps4
  go_wp2_with (first
    | (go_at_call 16; (refine (alive_call _).mono ?_); rintro e w0 ⟨rfl, hb0⟩; have B0 := Aside0.mk hb0; clear hb0)
    | (go_at_call 17; (refine (NEW.out _).mono ?_); rintro e w1 ⟨g, b, rfl, hr, hbel⟩; have R1 := Aside0.mk hr; have B1 := Aside0.mk (below_step B0.out hbel); have hbase := Aside0.mk (Nat.le_trans B0.out.size hr.baseb); clear hr hbel)
    | (go_at_call 18; (refine (size_n _ _ _ _ _ _ _ R1.out).mono ?_); rintro e w' ⟨rfl, rfl⟩)
    | (go_at_call 19; (refine (put_bus_i _ _ _ _ _ _ _ _ _ _ (by omega) (by omega) R1.out (by omega)).mono ?_); rintro e w' ⟨rfl, rfl⟩)
    | (go_at_call 20; (refine (get_i _ _ _ _ _ _ _ (zeros_bytes _) _ _ (by omega) (by omega) R1.out (by omega) (by omega) (by omega) 0 (zeros_num _ _ _)).mono ?_); rintro e w' ⟨rfl, rfl⟩)
    | (go_at_call 19; (refine (put_i _ _ _ _ _ _ _ _ _ _ (by omega) (by omega) (by omega) (by omega) R1.out (by omega) (by omega) (by omega)).mono ?_); rintro e w2 ⟨rfl, hr2, hg2⟩; have B2 := Aside0.mk ((B1.out).grown hg2 B1.out.size (fun k hk => by simp at hk; subst hk; exact hbase.out)); clear hr2 hg2))
  all_goals (go_ret; exact ⟨rfl, by first | exact B2.out | exact B1.out | exact B0.out⟩)

theorem ends_2 (size : Int) (w : World) :
    Calls Try.prog 4 #[.int .i64 size, .int .i64 2] w fun e w' => e = .returned (.bool true) ∧ Below w.heap.size w w' := by
  obtain ⟨K, hK⟩ : ∃ K : Nat, K = 16777216 := ⟨_, rfl⟩
  have hKi : (K : Int) = 16777216 := by omega
  have NEW := Aside0.mk (fun w => new_nat K w (by omega))
  rw [hKi] at NEW
  clear hK
  go_enter Try.func4, Try.ntmps4
  go_wp2_with (first
    | (go_at_call 16; (refine (alive_call _).mono ?_); rintro e w0 ⟨rfl, hb0⟩; have B0 := Aside0.mk hb0; clear hb0)
    | (go_at_call 17; (refine (NEW.out _).mono ?_); rintro e w1 ⟨g, b, rfl, hr, hbel⟩; have R1 := Aside0.mk hr; have B1 := Aside0.mk (below_step B0.out hbel); have hbase := Aside0.mk (Nat.le_trans B0.out.size hr.baseb); clear hr hbel)
    | (go_at_call 18; (refine (size_n _ _ _ _ _ _ _ R1.out).mono ?_); rintro e w' ⟨rfl, rfl⟩)
    | (go_at_call 19; (refine (put_bus_i _ _ _ _ _ _ _ _ _ _ (by omega) (by omega) R1.out (by omega)).mono ?_); rintro e w' ⟨rfl, rfl⟩)
    | (go_at_call 20; (refine (get_i _ _ _ _ _ _ _ (zeros_bytes _) _ _ (by omega) (by omega) R1.out (by omega) (by omega) (by omega) 0 (zeros_num _ _ _)).mono ?_); rintro e w' ⟨rfl, rfl⟩)
    | (go_at_call 19; (refine (put_i _ _ _ _ _ _ _ _ _ _ (by omega) (by omega) (by omega) (by omega) R1.out (by omega) (by omega) (by omega)).mono ?_); rintro e w2 ⟨rfl, hr2, hg2⟩; have B2 := Aside0.mk ((B1.out).grown hg2 B1.out.size (fun k hk => by simp at hk; subst hk; exact hbase.out)); clear hr2 hg2))
  all_goals (go_ret; exact ⟨rfl, by first | exact B2.out | exact B1.out | exact B0.out⟩)

theorem ends_3 (size : Int) (w : World) :
    Calls Try.prog 4 #[.int .i64 size, .int .i64 3] w fun e w' => e = .returned (.bool true) ∧ Below w.heap.size w w' := by
  obtain ⟨K, hK⟩ : ∃ K : Nat, K = 16777216 := ⟨_, rfl⟩
  have hKi : (K : Int) = 16777216 := by omega
  have NEW := Aside0.mk (fun w => new_big 16777217 w (by decide))
  rw [← hK] at NEW
  clear hK
  go_enter Try.func4, Try.ntmps4
  go_wp2_with (first
    | (go_at_call 16; (refine (alive_call _).mono ?_); rintro e w0 ⟨rfl, hb0⟩; have B0 := Aside0.mk hb0; clear hb0)
    | (go_at_call 17; (refine (NEW.out _).mono ?_); rintro e w1 ⟨g, b, rfl, hr, hbel⟩; have R1 := Aside0.mk hr; have B1 := Aside0.mk (below_step B0.out hbel); have hbase := Aside0.mk (Nat.le_trans B0.out.size hr.baseb); clear hr hbel)
    | (go_at_call 18; (refine (size_n _ _ _ _ _ _ _ R1.out).mono ?_); rintro e w' ⟨rfl, rfl⟩)
    | (go_at_call 19; (refine (put_bus_i _ _ _ _ _ _ _ _ _ _ (by omega) (by omega) R1.out (by omega)).mono ?_); rintro e w' ⟨rfl, rfl⟩)
    | (go_at_call 20; (refine (get_i _ _ _ _ _ _ _ (zeros_bytes _) _ _ (by omega) (by omega) R1.out (by omega) (by omega) (by omega) 0 (zeros_num _ _ _)).mono ?_); rintro e w' ⟨rfl, rfl⟩)
    | (go_at_call 19; (refine (put_i _ _ _ _ _ _ _ _ _ _ (by omega) (by omega) (by omega) (by omega) R1.out (by omega) (by omega) (by omega)).mono ?_); rintro e w2 ⟨rfl, hr2, hg2⟩; have B2 := Aside0.mk ((B1.out).grown hg2 B1.out.size (fun k hk => by simp at hk; subst hk; exact hbase.out)); clear hr2 hg2))
  all_goals (go_ret; exact ⟨rfl, by first | exact B2.out | exact B1.out | exact B0.out⟩)

theorem RamEnds_walk (size over : Int) (w : World) (_ : (Lit.int .i64 size).wf = true) (_ : (Lit.int .i64 over).wf = true) :
    Calls Try.prog 4 #[.int .i64 size, .int .i64 over] w fun e w' => e = .returned (.bool true) ∧ Below w.heap.size w w' := by
  by_cases h1 : 4 ≤ over
  · exact ends_far size over w h1
  by_cases h2 : over ≤ 0
  · by_cases h3 : 4096 < size
    · exact ends_long size over w h2 h3
    · by_cases h4 : size < 0
      · exact ends_neg size over w h2 h4
      · exact ends_in size over w h2 (by omega) (by omega)
  · have h3 : over = 1 ∨ over = 2 ∨ over = 3 := by omega
    rcases h3 with rfl | rfl | rfl
    · exact ends_1 size w
    · exact ends_2 size w
    · exact ends_3 size w
end Go.Proofs.Ytocjadgakalbdaa.RamWalk
