/- The words' laws of layer 14: Sets, as its row asks for it. -/
import Derived.Test.YtpjgklpppiongaaDoorUwPacks
import Derived.Test.YtpjgklpppiongaaDoorUwJ
namespace Go.Proofs.YtpjgklpppiongaaDoor.UwWalk
open Go.RowKit Go.Proofs.YtpjgklpppiongaaDoor.Aid Go.Proofs.YtpjgklpppiongaaDoorW.PrintWords Go.Proofs.YtpjgklpppiongaaDoorW.PrintLast Go.Proofs.YtpjgklpppiongaaDoorW.PrintMore
set_option linter.unusedVariables false
theorem UwordSets_walk (a0 a1 a2 a3 a4 a5 a6 a7 a8 a9 a10 a11 : Int) (s t : ByteArray) (x y : Int) (W : World) (hF : FieldsAt W) (w0 : (Lit.int .i64 a0).wf = true) (w1 : (Lit.int .i64 a1).wf = true) (w2 : (Lit.int .i64 a2).wf = true) (w3 : (Lit.int .i64 a3).wf = true) (w4 : (Lit.int .i64 a4).wf = true) (w5 : (Lit.int .i64 a5).wf = true) (w6 : (Lit.int .i64 a6).wf = true) (w7 : (Lit.int .i64 a7).wf = true) (w8 : (Lit.int .i64 a8).wf = true) (w9 : (Lit.int .i64 a9).wf = true) (w10 : (Lit.int .i64 a10).wf = true) (w11 : (Lit.int .i64 a11).wf = true) (hs : s.size ≤ maxLen) (ht : t.size ≤ maxLen) (wx : (Lit.int .i64 x).wf = true) (wy : (Lit.int .i64 y).wf = true) :
    Calls Tryd.prog 7 #[.agg #[.int .i64 a0, .int .i64 a1, .int .i64 a2, .int .i64 a3, .int .i64 a4, .int .i64 a5, .int .i64 a6, .int .i64 a7, .int .i64 a8, .int .i64 a9, .int .i64 a10, .int .i64 a11], .string s, .string t, .int .i64 x, .int .i64 y] W fun e w' => e = .returned (.bool true) ∧ Below W.heap.size W w' :=
  sets_walk W (of12 a0 a1 a2 a3 a4 a5 a6 a7 a8 a9 a10 a11) s t x y hF hs ht
end Go.Proofs.YtpjgklpppiongaaDoor.UwWalk
