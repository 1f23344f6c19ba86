/- The registers' functions of layer 7, walked: Step of a number that is none, Get. -/
import Derived.Test.YtbgcbnlpjjhmhaaRegsE
namespace Go.Proofs.Ytbgcbnlpjjhmhaa.RegsWalk
open Go.RowKit Go.Proofs.Ytbgcbnlpjjhmhaa.Aid Go.Proofs.YtbgcbnlpjjhmhaaW.PrintWords Go.Proofs.YtbgcbnlpjjhmhaaW.PrintLast Go.Proofs.YtbgcbnlpjjhmhaaW.PrintMore
set_option linter.unusedVariables false
set_option linter.unusedSimpArgs false
theorem step_low (w : World) (g : Nat) (n d : Int) (h : n < 0) :
    Calls Try.prog 16 #[.pointer (some ⟨g, 0, none⟩), .int .i64 n, .int .u32 d] w fun e w' => e = .returned (.int .i64 1) ∧ w = w' := by
  go_enter Try.func16, Try.ntmps16
  go_wp2
  go_ret
  exact ⟨rfl, rfl⟩
theorem step_high (w : World) (g : Nat) (n d : Int) (h : 15 < n) :
    Calls Try.prog 16 #[.pointer (some ⟨g, 0, none⟩), .int .i64 n, .int .u32 d] w fun e w' => e = .returned (.int .i64 1) ∧ w = w' := by
  go_enter Try.func16, Try.ntmps16
  go_wp2
  go_ret
  exact ⟨rfl, rfl⟩
theorem get_call (w : World) (base g : Nat) (R : Nat → Int) (p k u : Int) (v : Value) (xs : List (Nat × Int)) (n : Nat) (h : GAt w base g R p k u v xs) (hn : n < 16) :
    Calls Try.prog 36 #[.pointer (some ⟨g, 0, none⟩), .int .i64 n] w fun e w' => e = .returned (.int .u32 (R n)) ∧ w = w' := by
  have c0 := file_at h.file n hn
  have hni : (n : Int) < 16 := by omega
  have hni0 : (0 : Int) ≤ n := by omega
  clear h
  go_enter Try.func36, Try.ntmps36
  go_wp2
  go_ret
  exact ⟨rfl, rfl⟩
end Go.Proofs.Ytbgcbnlpjjhmhaa.RegsWalk
