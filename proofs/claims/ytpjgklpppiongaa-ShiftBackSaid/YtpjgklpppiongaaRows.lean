/-
  No cell of these rows narrows 'for every input' (looked for: loops, veiled, ifaces, maps, wideKeys, modest, calm, conditions, laid).
  DERIVED. THE GIVEN ROWS OF THIS SEAT. 6 by the template 'for every input the law returns true; each argument reads behind the call as it read before'; 0 by the template 'total and deterministic' (their statements: YtpjgklpppiongaaTotals.lean).
  GIVEN WITH THE SEED: the statements are not yours to turn. If you find one false, say at which input.
  Laid BY PROGRAM, IN A SANDBOX (cutbox-rows.mjs): the forced cells as the released guide's own fill.sh prints them over the translation 45037bf6d5dfce01… (all of the seat's roots in one cut). By AI agents, Wed Nov 11 2026. No macro, syntax, notation, axiom, sorry.
-/
import Derived.Test.YtpjgklpppiongaaChecked
import GoSem.Claim
import GoSem.ClaimJoined
import GoSem.ClaimMapViews
import Derived.JoinedTies
import Derived.KernelRfl
namespace Go.Proofs.Ytpjgklpppiongaa
/- THE CELL 'sum', in the pinned program and in every row, IS THE sha256 OF THE DUMP (.gsa) THAT YtpjgklpppiongaaProg.lean LOADS. Nothing in Lean hashes anything: it is a label: what it is worth is what the hold of that sum in a sandbox is worth. -/
noncomputable def Try.pinned : Pinned := { name := "ytpjgklpppiongaa", sum := "45037bf6d5dfce01eb02c81e44c22a60ea3ba3e4abe4fa77b3f60c58aff55b02", checked := Try.checked }
namespace Rows
def none {H : Type} : Left H := { results := [], args := [] }

/-- 'camshaftlaw09.ShiftSteps': WHATEVER THE INPUT: true; the input reads as it did. -/
def shiftStepsSpec : ChangeSpec := { name := "shiftSteps", fn := fun _ => fun
  | [d1, d2] => { results := [.lit (.bool true)], args := [d1, d2] }
  | _ => none }
def shiftStepsRow : OpenClaim := { program := "ytpjgklpppiongaa", sum := "45037bf6d5dfce01eb02c81e44c22a60ea3ba3e4abe4fa77b3f60c58aff55b02", func := "camshaft/camshaftlaw09.ShiftSteps", spec := "shiftSteps", apart := false }
def ShiftStepsSaid : Prop := shiftStepsRow.holds Try.pinned (OpenSpec.ofChange shiftStepsSpec)

/-- ITS FALSE NEIGHBOUR: 'it returns false'. Refute it at one input. -/
def shiftStepsWrong : ChangeSpec := { name := "shiftSteps", fn := fun _ => fun
  | [d1, d2] => { results := [.lit (.bool false)], args := [d1, d2] }
  | _ => none }
def ShiftStepsWrongFalsely : Prop := shiftStepsRow.holds Try.pinned (OpenSpec.ofChange shiftStepsWrong)

/-- 'camshaftlaw09.ShiftShifts': WHATEVER THE INPUT: true; the input reads as it did. -/
def shiftShiftsSpec : ChangeSpec := { name := "shiftShifts", fn := fun _ => fun
  | [d1, d2, d3] => { results := [.lit (.bool true)], args := [d1, d2, d3] }
  | _ => none }
def shiftShiftsRow : OpenClaim := { program := "ytpjgklpppiongaa", sum := "45037bf6d5dfce01eb02c81e44c22a60ea3ba3e4abe4fa77b3f60c58aff55b02", func := "camshaft/camshaftlaw09.ShiftShifts", spec := "shiftShifts", apart := false }
def ShiftShiftsSaid : Prop := shiftShiftsRow.holds Try.pinned (OpenSpec.ofChange shiftShiftsSpec)

/-- ITS FALSE NEIGHBOUR: 'it returns false'. Refute it at one input. -/
def shiftShiftsWrong : ChangeSpec := { name := "shiftShifts", fn := fun _ => fun
  | [d1, d2, d3] => { results := [.lit (.bool false)], args := [d1, d2, d3] }
  | _ => none }
def ShiftShiftsWrongFalsely : Prop := shiftShiftsRow.holds Try.pinned (OpenSpec.ofChange shiftShiftsWrong)

/-- 'camshaftlaw09.ShiftTurns': WHATEVER THE INPUT: true; the input reads as it did. -/
def shiftTurnsSpec : ChangeSpec := { name := "shiftTurns", fn := fun _ => fun
  | [d1, d2, d3] => { results := [.lit (.bool true)], args := [d1, d2, d3] }
  | _ => none }
def shiftTurnsRow : OpenClaim := { program := "ytpjgklpppiongaa", sum := "45037bf6d5dfce01eb02c81e44c22a60ea3ba3e4abe4fa77b3f60c58aff55b02", func := "camshaft/camshaftlaw09.ShiftTurns", spec := "shiftTurns", apart := false }
def ShiftTurnsSaid : Prop := shiftTurnsRow.holds Try.pinned (OpenSpec.ofChange shiftTurnsSpec)

/-- ITS FALSE NEIGHBOUR: 'it returns false'. Refute it at one input. -/
def shiftTurnsWrong : ChangeSpec := { name := "shiftTurns", fn := fun _ => fun
  | [d1, d2, d3] => { results := [.lit (.bool false)], args := [d1, d2, d3] }
  | _ => none }
def ShiftTurnsWrongFalsely : Prop := shiftTurnsRow.holds Try.pinned (OpenSpec.ofChange shiftTurnsWrong)

/-- 'camshaftlaw09.ShiftJoins': WHATEVER THE INPUT: true; the input reads as it did. -/
def shiftJoinsSpec : ChangeSpec := { name := "shiftJoins", fn := fun _ => fun
  | [d1, d2, d3, d4] => { results := [.lit (.bool true)], args := [d1, d2, d3, d4] }
  | _ => none }
def shiftJoinsRow : OpenClaim := { program := "ytpjgklpppiongaa", sum := "45037bf6d5dfce01eb02c81e44c22a60ea3ba3e4abe4fa77b3f60c58aff55b02", func := "camshaft/camshaftlaw09.ShiftJoins", spec := "shiftJoins", apart := false }
def ShiftJoinsSaid : Prop := shiftJoinsRow.holds Try.pinned (OpenSpec.ofChange shiftJoinsSpec)

/-- ITS FALSE NEIGHBOUR: 'it returns false'. Refute it at one input. -/
def shiftJoinsWrong : ChangeSpec := { name := "shiftJoins", fn := fun _ => fun
  | [d1, d2, d3, d4] => { results := [.lit (.bool false)], args := [d1, d2, d3, d4] }
  | _ => none }
def ShiftJoinsWrongFalsely : Prop := shiftJoinsRow.holds Try.pinned (OpenSpec.ofChange shiftJoinsWrong)

/-- 'camshaftlaw09.ShiftFields': WHATEVER THE INPUT: true; the input reads as it did. -/
def shiftFieldsSpec : ChangeSpec := { name := "shiftFields", fn := fun _ => fun
  | [d1, d2, d3, d4, d5] => { results := [.lit (.bool true)], args := [d1, d2, d3, d4, d5] }
  | _ => none }
def shiftFieldsRow : OpenClaim := { program := "ytpjgklpppiongaa", sum := "45037bf6d5dfce01eb02c81e44c22a60ea3ba3e4abe4fa77b3f60c58aff55b02", func := "camshaft/camshaftlaw09.ShiftFields", spec := "shiftFields", apart := false }
def ShiftFieldsSaid : Prop := shiftFieldsRow.holds Try.pinned (OpenSpec.ofChange shiftFieldsSpec)

/-- ITS FALSE NEIGHBOUR: 'it returns false'. Refute it at one input. -/
def shiftFieldsWrong : ChangeSpec := { name := "shiftFields", fn := fun _ => fun
  | [d1, d2, d3, d4, d5] => { results := [.lit (.bool false)], args := [d1, d2, d3, d4, d5] }
  | _ => none }
def ShiftFieldsWrongFalsely : Prop := shiftFieldsRow.holds Try.pinned (OpenSpec.ofChange shiftFieldsWrong)

/-- 'camshaftlaw09.ShiftBack': WHATEVER THE INPUT: true; the input reads as it did. -/
def shiftBackSpec : ChangeSpec := { name := "shiftBack", fn := fun _ => fun
  | [d1, d2, d3, d4, d5] => { results := [.lit (.bool true)], args := [d1, d2, d3, d4, d5] }
  | _ => none }
def shiftBackRow : OpenClaim := { program := "ytpjgklpppiongaa", sum := "45037bf6d5dfce01eb02c81e44c22a60ea3ba3e4abe4fa77b3f60c58aff55b02", func := "camshaft/camshaftlaw09.ShiftBack", spec := "shiftBack", apart := false }
def ShiftBackSaid : Prop := shiftBackRow.holds Try.pinned (OpenSpec.ofChange shiftBackSpec)

/-- ITS FALSE NEIGHBOUR: 'it returns false'. Refute it at one input. -/
def shiftBackWrong : ChangeSpec := { name := "shiftBack", fn := fun _ => fun
  | [d1, d2, d3, d4, d5] => { results := [.lit (.bool false)], args := [d1, d2, d3, d4, d5] }
  | _ => none }
def ShiftBackWrongFalsely : Prop := shiftBackRow.holds Try.pinned (OpenSpec.ofChange shiftBackWrong)

/- THE SECOND FORM. 'bulk': how many values and letters a reading holds, each counted each time it is reached (what is shared counts as often as it is met; a slice's spare places count too). A statement '..UptoSaid' is the law's where the arguments, and the package variables that the reading takes, are together of bulk at most 1048576: NARROWER than '..Said'. Prove '..Said' where nothing that the law and all that it calls make is longer than what came in: it says more and counts as full. Else prove '..UptoSaid'. A law counts once. -/
mutual
def uptoBulk {H : Type} : DataW H → Nat
  | .lit (.string bytes) => bytes.length + 1
  | .lit _ => 1
  | .nil => 1
  | .ptr d => uptoBulk d + 1
  | .slice elems spare => uptoBulkAll elems + uptoBulkAll spare + 1
  | .agg parts => uptoBulkAll parts + 1
  | .iface _ d => uptoBulk d + 1
  | .map entries => uptoBulkEntries entries + 1
  | .held _ => 1
def uptoBulkAll {H : Type} : List (DataW H) → Nat
  | [] => 0
  | d :: r => uptoBulk d + uptoBulkAll r
def uptoBulkEntries {H : Type} : List (Lit × DataW H) → Nat
  | [] => 0
  | x :: r => uptoBulkEntry x + uptoBulkEntries r
def uptoBulkEntry {H : Type} : Lit × DataW H → Nat
  | (.string bytes, d) => bytes.length + uptoBulk d + 1
  | (_, d) => uptoBulk d + 1
 end
def uptoSmall : (H : Type) → List (DataW H) → Bool := fun _ ds => decide (uptoBulkAll ds ≤ 1048576)
def OpenSpec.upto (s : _root_.Go.ChangeSpec) : _root_.Go.OpenSpec := { _root_.Go.OpenSpec.ofChange s with cond := some uptoSmall }

/-- 'camshaftlaw09.ShiftSteps', WHERE WHAT IT READS IS OF BULK AT MOST 1048576: true; the input reads as it did. -/
def shiftStepsUptoRow : OpenClaim := { program := "ytpjgklpppiongaa", sum := "45037bf6d5dfce01eb02c81e44c22a60ea3ba3e4abe4fa77b3f60c58aff55b02", func := "camshaft/camshaftlaw09.ShiftSteps", spec := "shiftSteps", apart := false, narrowed := true }
def ShiftStepsUptoSaid : Prop := shiftStepsUptoRow.holds Try.pinned (OpenSpec.upto shiftStepsSpec)

/-- 'camshaftlaw09.ShiftShifts', WHERE WHAT IT READS IS OF BULK AT MOST 1048576: true; the input reads as it did. -/
def shiftShiftsUptoRow : OpenClaim := { program := "ytpjgklpppiongaa", sum := "45037bf6d5dfce01eb02c81e44c22a60ea3ba3e4abe4fa77b3f60c58aff55b02", func := "camshaft/camshaftlaw09.ShiftShifts", spec := "shiftShifts", apart := false, narrowed := true }
def ShiftShiftsUptoSaid : Prop := shiftShiftsUptoRow.holds Try.pinned (OpenSpec.upto shiftShiftsSpec)

/-- 'camshaftlaw09.ShiftTurns', WHERE WHAT IT READS IS OF BULK AT MOST 1048576: true; the input reads as it did. -/
def shiftTurnsUptoRow : OpenClaim := { program := "ytpjgklpppiongaa", sum := "45037bf6d5dfce01eb02c81e44c22a60ea3ba3e4abe4fa77b3f60c58aff55b02", func := "camshaft/camshaftlaw09.ShiftTurns", spec := "shiftTurns", apart := false, narrowed := true }
def ShiftTurnsUptoSaid : Prop := shiftTurnsUptoRow.holds Try.pinned (OpenSpec.upto shiftTurnsSpec)

/-- 'camshaftlaw09.ShiftJoins', WHERE WHAT IT READS IS OF BULK AT MOST 1048576: true; the input reads as it did. -/
def shiftJoinsUptoRow : OpenClaim := { program := "ytpjgklpppiongaa", sum := "45037bf6d5dfce01eb02c81e44c22a60ea3ba3e4abe4fa77b3f60c58aff55b02", func := "camshaft/camshaftlaw09.ShiftJoins", spec := "shiftJoins", apart := false, narrowed := true }
def ShiftJoinsUptoSaid : Prop := shiftJoinsUptoRow.holds Try.pinned (OpenSpec.upto shiftJoinsSpec)

/-- 'camshaftlaw09.ShiftFields', WHERE WHAT IT READS IS OF BULK AT MOST 1048576: true; the input reads as it did. -/
def shiftFieldsUptoRow : OpenClaim := { program := "ytpjgklpppiongaa", sum := "45037bf6d5dfce01eb02c81e44c22a60ea3ba3e4abe4fa77b3f60c58aff55b02", func := "camshaft/camshaftlaw09.ShiftFields", spec := "shiftFields", apart := false, narrowed := true }
def ShiftFieldsUptoSaid : Prop := shiftFieldsUptoRow.holds Try.pinned (OpenSpec.upto shiftFieldsSpec)

/-- 'camshaftlaw09.ShiftBack', WHERE WHAT IT READS IS OF BULK AT MOST 1048576: true; the input reads as it did. -/
def shiftBackUptoRow : OpenClaim := { program := "ytpjgklpppiongaa", sum := "45037bf6d5dfce01eb02c81e44c22a60ea3ba3e4abe4fa77b3f60c58aff55b02", func := "camshaft/camshaftlaw09.ShiftBack", spec := "shiftBack", apart := false, narrowed := true }
def ShiftBackUptoSaid : Prop := shiftBackUptoRow.holds Try.pinned (OpenSpec.upto shiftBackSpec)

end Rows
end Go.Proofs.Ytpjgklpppiongaa
