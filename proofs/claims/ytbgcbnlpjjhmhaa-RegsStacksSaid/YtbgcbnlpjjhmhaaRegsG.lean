/- The registers' functions of layer 7, walked: Set of the fourth register's whole, Undo. -/
import Derived.Test.YtbgcbnlpjjhmhaaRegsF
namespace Go.Proofs.Ytbgcbnlpjjhmhaa.RegsWalk
open Go.RowKit Go.Proofs.Ytbgcbnlpjjhmhaa.Aid Go.Proofs.YtbgcbnlpjjhmhaaW.PrintWords Go.Proofs.YtbgcbnlpjjhmhaaW.PrintLast Go.Proofs.YtbgcbnlpjjhmhaaW.PrintMore
set_option linter.unusedVariables false
set_option linter.unusedSimpArgs false
theorem bput_call (w : World) : Calls Try.prog 49 #[.int .u32 0, .int .u32 9, .int .i64 4] w fun e w' => e = .returned (.int .u32 9) ∧ w = w' := by
  go_enter Try.func49, Try.ntmps49
  go_wp2
  go_ret
  exact ⟨rfl, rfl⟩
theorem set_call (w : World) (g : Nat) (h : FileAt w g (fun _ => 0) 0 0 0 0 (.slice none 0 0)) :
    Calls Try.prog 35 #[.pointer (some ⟨g, 0, none⟩), .int .i64 3, .int .u32 9, .int .i64 4] w fun e w' => e = .returned (.int .i64 0) ∧ KeptG w w' g ∧ FileAt w' g (updI (fun _ => 0) 3 9) (updI (fun _ => 0) 3 9 14) 0 0 0 (.slice none 0 0) := by
  have c3 : w.cell? ⟨g, 3, none⟩ = some (.int .u32 0) := h.cell 3
  have f3 := h.free 3
  have F := Aside0.mk (file_put h 3 (by decide) 9)
  have B := Aside0.mk bput_call
  clear h
  go_enter Try.func35, Try.ntmps35
  go_wp2
  go_region_with (first
    | (go_at_call 49; (with_reducible refine (B.out _).mono ?_); rintro e w1 ⟨rfl, rfl⟩))
  all_goals go_wp2
  all_goals go_ret
  all_goals exact ⟨rfl, ((KeptG.refl _ _).set _ _).drew, F.out⟩
end Go.Proofs.Ytbgcbnlpjjhmhaa.RegsWalk
