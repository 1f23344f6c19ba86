/- The words' laws of layer 14: Packs, Back, Nothing, as their rows ask for them. -/
import Derived.Test.YtpjgklpppiongaaDoorUwF
namespace Go.Proofs.YtpjgklpppiongaaDoor.UwWalk
open Go.RowKit Go.Proofs.YtpjgklpppiongaaDoor.Aid Go.Proofs.YtpjgklpppiongaaDoorW.PrintWords Go.Proofs.YtpjgklpppiongaaDoorW.PrintLast Go.Proofs.YtpjgklpppiongaaDoorW.PrintMore
set_option linter.unusedVariables false
/-- Twelve numbers, by their places. -/
def of12 (a0 a1 a2 a3 a4 a5 a6 a7 a8 a9 a10 a11 : Int) : Nat → Int
  | 0 => a0 | 1 => a1 | 2 => a2 | 3 => a3 | 4 => a4 | 5 => a5 | 6 => a6 | 7 => a7 | 8 => a8 | 9 => a9 | 10 => a10 | 11 => a11 | _ => 0
theorem UwordPacks_walk (a0 a1 a2 a3 a4 a5 a6 a7 a8 a9 a10 a11 x : Int) (W : World) (hF : FieldsAt W) (w0 : (Lit.int .i64 a0).wf = true) (w1 : (Lit.int .i64 a1).wf = true) (w2 : (Lit.int .i64 a2).wf = true) (w3 : (Lit.int .i64 a3).wf = true) (w4 : (Lit.int .i64 a4).wf = true) (w5 : (Lit.int .i64 a5).wf = true) (w6 : (Lit.int .i64 a6).wf = true) (w7 : (Lit.int .i64 a7).wf = true) (w8 : (Lit.int .i64 a8).wf = true) (w9 : (Lit.int .i64 a9).wf = true) (w10 : (Lit.int .i64 a10).wf = true) (w11 : (Lit.int .i64 a11).wf = true) (wx : (Lit.int .u64 x).wf = true) :
    Calls Tryd.prog 3 #[.agg #[.int .i64 a0, .int .i64 a1, .int .i64 a2, .int .i64 a3, .int .i64 a4, .int .i64 a5, .int .i64 a6, .int .i64 a7, .int .i64 a8, .int .i64 a9, .int .i64 a10, .int .i64 a11], .int .u64 x] W fun e w' => e = .returned (.bool true) ∧ Below W.heap.size W w' := by
  obtain ⟨n, rfl, hn⟩ := u64_nat wx
  exact packs_walk W (of12 a0 a1 a2 a3 a4 a5 a6 a7 a8 a9 a10 a11) n hn hF
theorem UwordBack_walk (a0 a1 a2 a3 a4 a5 a6 a7 a8 a9 a10 a11 x : Int) (W : World) (hF : FieldsAt W) (w0 : (Lit.int .i64 a0).wf = true) (w1 : (Lit.int .i64 a1).wf = true) (w2 : (Lit.int .i64 a2).wf = true) (w3 : (Lit.int .i64 a3).wf = true) (w4 : (Lit.int .i64 a4).wf = true) (w5 : (Lit.int .i64 a5).wf = true) (w6 : (Lit.int .i64 a6).wf = true) (w7 : (Lit.int .i64 a7).wf = true) (w8 : (Lit.int .i64 a8).wf = true) (w9 : (Lit.int .i64 a9).wf = true) (w10 : (Lit.int .i64 a10).wf = true) (w11 : (Lit.int .i64 a11).wf = true) (wx : (Lit.int .u64 x).wf = true) :
    Calls Tryd.prog 4 #[.agg #[.int .i64 a0, .int .i64 a1, .int .i64 a2, .int .i64 a3, .int .i64 a4, .int .i64 a5, .int .i64 a6, .int .i64 a7, .int .i64 a8, .int .i64 a9, .int .i64 a10, .int .i64 a11], .int .u64 x] W fun e w' => e = .returned (.bool true) ∧ Below W.heap.size W w' := by
  obtain ⟨n, rfl, hn⟩ := u64_nat wx
  exact back_walk W (of12 a0 a1 a2 a3 a4 a5 a6 a7 a8 a9 a10 a11) n hn hF
theorem UwordNothing_walk (b : Int) (W : World) (hF : FieldsAt W) (wb : (Lit.int .i64 b).wf = true) :
    Calls Tryd.prog 5 #[.int .i64 b] W fun e w' => e = .returned (.bool true) ∧ Below W.heap.size W w' := nothing_walk W b hF
end Go.Proofs.YtpjgklpppiongaaDoor.UwWalk
