/- SpecBack: camshaftref11.Same says yes where it must. -/
import Derived.Test.YtbgcbnlpjjhmhaaSpecZ
namespace Go.Proofs.Ytbgcbnlpjjhmhaa.SpecWalk
open Go.RowKit Go.Proofs.Ytbgcbnlpjjhmhaa.Aid Go.Proofs.Ytbgcbnlpjjhmhaa.Pure Go.Proofs.Ytbgcbnlpjjhmhaa.GSpecSizes Go.Proofs.YtbgcbnlpjjhmhaaW.PrintWords Go.Proofs.YtbgcbnlpjjhmhaaW.PrintLast Go.Proofs.YtbgcbnlpjjhmhaaW.PrintMore
attribute [local go_sem] max2_int min2_int max_two min_two max_three min_three max_four min_four   -- for this text's walks alone
set_option linter.unusedVariables false
set_option linter.unusedSimpArgs false
set_option maxRecDepth 100000 in
set_option maxHeartbeats 4000000 in
theorem same_een (w : World) (kd reg idx val by_ by' : Int) (hi : idx < 0) :
    Calls Try.prog 34 #[.agg #[.int .i64 kd, .int .i64 reg, .int .i64 idx, .int .u32 val, .int .i64 by_], .agg #[.int .i64 kd, .int .i64 reg, .int .i64 (-1), .int .u32 val, .int .i64 by']] w fun e w' => e = .returned (.bool true) ∧ Below w.heap.size w w' := by
  go_enter Try.func34, Try.ntmps34
  go_wp2
  all_goals
    go_ret
    refine ⟨?_, ?_⟩
    · first | rfl | (simp; done) | (simp_all; done)
    · exact below_alloc (below_alloc (Below.refl _ _) _) _
set_option maxRecDepth 100000 in
set_option maxHeartbeats 4000000 in
theorem same_e5n (w : World) (kd reg idx val by_ val' by' : Int) (hi : idx < 0) (h5 : 5 ≤ kd ∧ kd ≤ 9) (hv : ¬ val = val') :
    Calls Try.prog 34 #[.agg #[.int .i64 kd, .int .i64 reg, .int .i64 idx, .int .u32 val, .int .i64 by_], .agg #[.int .i64 kd, .int .i64 reg, .int .i64 (-1), .int .u32 val', .int .i64 by']] w fun e w' => e = .returned (.bool true) ∧ Below w.heap.size w w' := by
  have hv1 : (val == val') = false := beq_eq_false_iff_ne.2 hv
  have h51 : decide (5 ≤ kd) = true := decide_eq_true h5.1
  have h52 : decide (kd ≤ 9) = true := decide_eq_true h5.2
  obtain ⟨h53, h54⟩ := h5
  go_enter Try.func34, Try.ntmps34
  go_wp2
  all_goals
    go_ret
    refine ⟨?_, ?_⟩
    · first | rfl | (simp; done) | (simp_all; done)
    · exact below_alloc (below_alloc (Below.refl _ _) _) _
set_option maxRecDepth 100000 in
set_option maxHeartbeats 4000000 in
theorem same_k0n (w : World) (reg idx val by_ reg' by' : Int) (hi : idx < 0) (hr : ¬ reg = reg') :
    Calls Try.prog 34 #[.agg #[.int .i64 0, .int .i64 reg, .int .i64 idx, .int .u32 val, .int .i64 by_], .agg #[.int .i64 0, .int .i64 reg', .int .i64 (-1), .int .u32 val, .int .i64 by']] w fun e w' => e = .returned (.bool true) ∧ Below w.heap.size w w' := by
  have hr1 : (reg == reg') = false := beq_eq_false_iff_ne.2 hr
  go_enter Try.func34, Try.ntmps34
  go_wp2
  all_goals
    go_ret
    refine ⟨?_, ?_⟩
    · first | rfl | (simp; done) | (simp_all; done)
    · exact below_alloc (below_alloc (Below.refl _ _) _) _
set_option maxRecDepth 100000 in
set_option maxHeartbeats 4000000 in
theorem same_k12n (w : World) (reg idx val by_ reg' by' : Int) (hi : idx < 0) (hr : ¬ reg = reg') :
    Calls Try.prog 34 #[.agg #[.int .i64 12, .int .i64 reg, .int .i64 idx, .int .u32 val, .int .i64 by_], .agg #[.int .i64 12, .int .i64 reg', .int .i64 (-1), .int .u32 val, .int .i64 by']] w fun e w' => e = .returned (.bool true) ∧ Below w.heap.size w w' := by
  have hr1 : (reg == reg') = false := beq_eq_false_iff_ne.2 hr
  go_enter Try.func34, Try.ntmps34
  go_wp2
  all_goals
    go_ret
    refine ⟨?_, ?_⟩
    · first | rfl | (simp; done) | (simp_all; done)
    · exact below_alloc (below_alloc (Below.refl _ _) _) _
set_option maxRecDepth 100000 in
set_option maxHeartbeats 4000000 in
theorem same_k13n (w : World) (reg idx val by_ reg' by' : Int) (hi : idx < 0) (hr : ¬ reg = reg') :
    Calls Try.prog 34 #[.agg #[.int .i64 13, .int .i64 reg, .int .i64 idx, .int .u32 val, .int .i64 by_], .agg #[.int .i64 13, .int .i64 reg', .int .i64 (-1), .int .u32 val, .int .i64 by']] w fun e w' => e = .returned (.bool true) ∧ Below w.heap.size w w' := by
  have hr1 : (reg == reg') = false := beq_eq_false_iff_ne.2 hr
  go_enter Try.func34, Try.ntmps34
  go_wp2
  all_goals
    go_ret
    refine ⟨?_, ?_⟩
    · first | rfl | (simp; done) | (simp_all; done)
    · exact below_alloc (below_alloc (Below.refl _ _) _) _
set_option maxRecDepth 100000 in
set_option maxHeartbeats 4000000 in
theorem same_eep (w : World) (kd reg idx val by_ by' : Int) (hi : 0 ≤ idx) :
    Calls Try.prog 34 #[.agg #[.int .i64 kd, .int .i64 reg, .int .i64 idx, .int .u32 val, .int .i64 by_], .agg #[.int .i64 kd, .int .i64 reg, .int .i64 idx, .int .u32 val, .int .i64 by']] w fun e w' => e = .returned (.bool true) ∧ Below w.heap.size w w' := by
  have hi1 : decide (idx < 0) = false := decide_eq_false (by omega)
  have hi2 : ¬ idx < 0 := by omega
  go_enter Try.func34, Try.ntmps34
  go_wp2
  all_goals
    go_ret
    refine ⟨?_, ?_⟩
    · first | rfl | (simp; done) | (simp_all; done)
    · exact below_alloc (below_alloc (Below.refl _ _) _) _
set_option maxRecDepth 100000 in
set_option maxHeartbeats 4000000 in
theorem same_e5p (w : World) (kd reg idx val by_ val' by' : Int) (hi : 0 ≤ idx) (h5 : 5 ≤ kd ∧ kd ≤ 9) (hv : ¬ val = val') :
    Calls Try.prog 34 #[.agg #[.int .i64 kd, .int .i64 reg, .int .i64 idx, .int .u32 val, .int .i64 by_], .agg #[.int .i64 kd, .int .i64 reg, .int .i64 idx, .int .u32 val', .int .i64 by']] w fun e w' => e = .returned (.bool true) ∧ Below w.heap.size w w' := by
  have hi1 : decide (idx < 0) = false := decide_eq_false (by omega)
  have hi2 : ¬ idx < 0 := by omega
  have hv1 : (val == val') = false := beq_eq_false_iff_ne.2 hv
  have h51 : decide (5 ≤ kd) = true := decide_eq_true h5.1
  have h52 : decide (kd ≤ 9) = true := decide_eq_true h5.2
  obtain ⟨h53, h54⟩ := h5
  go_enter Try.func34, Try.ntmps34
  go_wp2
  all_goals
    go_ret
    refine ⟨?_, ?_⟩
    · first | rfl | (simp; done) | (simp_all; done)
    · exact below_alloc (below_alloc (Below.refl _ _) _) _
set_option maxRecDepth 100000 in
set_option maxHeartbeats 4000000 in
theorem same_k0p (w : World) (reg idx val by_ reg' by' : Int) (hi : 0 ≤ idx) (hr : ¬ reg = reg') :
    Calls Try.prog 34 #[.agg #[.int .i64 0, .int .i64 reg, .int .i64 idx, .int .u32 val, .int .i64 by_], .agg #[.int .i64 0, .int .i64 reg', .int .i64 idx, .int .u32 val, .int .i64 by']] w fun e w' => e = .returned (.bool true) ∧ Below w.heap.size w w' := by
  have hi1 : decide (idx < 0) = false := decide_eq_false (by omega)
  have hi2 : ¬ idx < 0 := by omega
  have hr1 : (reg == reg') = false := beq_eq_false_iff_ne.2 hr
  go_enter Try.func34, Try.ntmps34
  go_wp2
  all_goals
    go_ret
    refine ⟨?_, ?_⟩
    · first | rfl | (simp; done) | (simp_all; done)
    · exact below_alloc (below_alloc (Below.refl _ _) _) _
set_option maxRecDepth 100000 in
set_option maxHeartbeats 4000000 in
theorem same_k12p (w : World) (reg idx val by_ reg' by' : Int) (hi : 0 ≤ idx) (hr : ¬ reg = reg') :
    Calls Try.prog 34 #[.agg #[.int .i64 12, .int .i64 reg, .int .i64 idx, .int .u32 val, .int .i64 by_], .agg #[.int .i64 12, .int .i64 reg', .int .i64 idx, .int .u32 val, .int .i64 by']] w fun e w' => e = .returned (.bool true) ∧ Below w.heap.size w w' := by
  have hi1 : decide (idx < 0) = false := decide_eq_false (by omega)
  have hi2 : ¬ idx < 0 := by omega
  have hr1 : (reg == reg') = false := beq_eq_false_iff_ne.2 hr
  go_enter Try.func34, Try.ntmps34
  go_wp2
  all_goals
    go_ret
    refine ⟨?_, ?_⟩
    · first | rfl | (simp; done) | (simp_all; done)
    · exact below_alloc (below_alloc (Below.refl _ _) _) _
set_option maxRecDepth 100000 in
set_option maxHeartbeats 4000000 in
theorem same_k13p (w : World) (reg idx val by_ reg' by' : Int) (hi : 0 ≤ idx) (hr : ¬ reg = reg') :
    Calls Try.prog 34 #[.agg #[.int .i64 13, .int .i64 reg, .int .i64 idx, .int .u32 val, .int .i64 by_], .agg #[.int .i64 13, .int .i64 reg', .int .i64 idx, .int .u32 val, .int .i64 by']] w fun e w' => e = .returned (.bool true) ∧ Below w.heap.size w w' := by
  have hi1 : decide (idx < 0) = false := decide_eq_false (by omega)
  have hi2 : ¬ idx < 0 := by omega
  have hr1 : (reg == reg') = false := beq_eq_false_iff_ne.2 hr
  go_enter Try.func34, Try.ntmps34
  go_wp2
  all_goals
    go_ret
    refine ⟨?_, ?_⟩
    · first | rfl | (simp; done) | (simp_all; done)
    · exact below_alloc (below_alloc (Below.refl _ _) _) _
end Go.Proofs.Ytbgcbnlpjjhmhaa.SpecWalk
