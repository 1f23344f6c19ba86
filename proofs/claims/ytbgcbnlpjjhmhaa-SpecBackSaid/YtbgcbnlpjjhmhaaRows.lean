/-
  No cell of these rows narrows 'for every input' (looked for: loops, veiled, ifaces, maps, wideKeys, modest, calm, conditions, laid).
  DERIVED. THE GIVEN ROWS OF THIS SEAT. 10 by the template 'for every input the law returns true; each argument reads behind the call as it read before'; 0 by the template 'total and deterministic' (their statements: YtbgcbnlpjjhmhaaTotals.lean).
  GIVEN WITH THE SEED: the statements are not yours to turn. If you find one false, say at which input.
  Laid BY PROGRAM, IN A SANDBOX (cutbox-rows.mjs): the forced cells as the released guide's own fill.sh prints them over the translation 15660f7815c9585e… (all of the seat's roots in one cut). By AI agents, Wed Nov 11 2026. No macro, syntax, notation, axiom, sorry.
-/
import Derived.Test.YtbgcbnlpjjhmhaaChecked
import GoSem.Claim
import GoSem.ClaimJoined
import GoSem.ClaimMapViews
import Derived.JoinedTies
import Derived.KernelRfl
namespace Go.Proofs.Ytbgcbnlpjjhmhaa
/- THE CELL 'sum', in the pinned program and in every row, IS THE sha256 OF THE DUMP (.gsa) THAT YtbgcbnlpjjhmhaaProg.lean LOADS. Nothing in Lean hashes anything: it is a label: what it is worth is what the hold of that sum in a sandbox is worth. -/
noncomputable def Try.pinned : Pinned := { name := "ytbgcbnlpjjhmhaa", sum := "15660f7815c9585ebc86de9770595241df2769df28e6bf344b9c7f76182fdb4e", checked := Try.checked }
namespace Rows
def none {H : Type} : Left H := { results := [], args := [] }

/-- 'camshaftlaw07.RegsForgets': WHATEVER THE INPUT: true; the input reads as it did. -/
def regsForgetsSpec : ChangeSpec := { name := "regsForgets", fn := fun _ => fun
  | [d1, d2, d3, d4] => { results := [.lit (.bool true)], args := [d1, d2, d3, d4] }
  | _ => none }
def regsForgetsRow : OpenClaim := { program := "ytbgcbnlpjjhmhaa", sum := "15660f7815c9585ebc86de9770595241df2769df28e6bf344b9c7f76182fdb4e", func := "camshaft/camshaftlaw07.RegsForgets", spec := "regsForgets", apart := false }
def RegsForgetsSaid : Prop := regsForgetsRow.holds Try.pinned (OpenSpec.ofChange regsForgetsSpec)

/-- ITS FALSE NEIGHBOUR: 'it returns false'. Refute it at one input. -/
def regsForgetsWrong : ChangeSpec := { name := "regsForgets", fn := fun _ => fun
  | [d1, d2, d3, d4] => { results := [.lit (.bool false)], args := [d1, d2, d3, d4] }
  | _ => none }
def RegsForgetsWrongFalsely : Prop := regsForgetsRow.holds Try.pinned (OpenSpec.ofChange regsForgetsWrong)

/-- 'camshaftlaw22.LinesDo': WHATEVER THE INPUT: true; the input reads as it did. -/
def linesDoSpec : ChangeSpec := { name := "linesDo", fn := fun _ => fun
  | [d] => { results := [.lit (.bool true)], args := [d] }
  | _ => none }
def linesDoRow : OpenClaim := { program := "ytbgcbnlpjjhmhaa", sum := "15660f7815c9585ebc86de9770595241df2769df28e6bf344b9c7f76182fdb4e", func := "camshaft/camshaftlaw22.LinesDo", spec := "linesDo", unfollowed := true, recurses := true, apart := false }
def LinesDoSaid : Prop := linesDoRow.holds Try.pinned (OpenSpec.ofChange linesDoSpec)

/-- ITS FALSE NEIGHBOUR: 'it returns false'. Refute it at one input. -/
def linesDoWrong : ChangeSpec := { name := "linesDo", fn := fun _ => fun
  | [d] => { results := [.lit (.bool false)], args := [d] }
  | _ => none }
def LinesDoWrongFalsely : Prop := linesDoRow.holds Try.pinned (OpenSpec.ofChange linesDoWrong)

/-- 'camshaftlaw22.LinesOrder': WHATEVER THE INPUT: true; the input reads as it did. -/
def linesOrderSpec : ChangeSpec := { name := "linesOrder", fn := fun _ => fun
  | [d1, d2] => { results := [.lit (.bool true)], args := [d1, d2] }
  | _ => none }
def linesOrderRow : OpenClaim := { program := "ytbgcbnlpjjhmhaa", sum := "15660f7815c9585ebc86de9770595241df2769df28e6bf344b9c7f76182fdb4e", func := "camshaft/camshaftlaw22.LinesOrder", spec := "linesOrder", unfollowed := true, recurses := true, apart := false }
def LinesOrderSaid : Prop := linesOrderRow.holds Try.pinned (OpenSpec.ofChange linesOrderSpec)

/-- ITS FALSE NEIGHBOUR: 'it returns false'. Refute it at one input. -/
def linesOrderWrong : ChangeSpec := { name := "linesOrder", fn := fun _ => fun
  | [d1, d2] => { results := [.lit (.bool false)], args := [d1, d2] }
  | _ => none }
def LinesOrderWrongFalsely : Prop := linesOrderRow.holds Try.pinned (OpenSpec.ofChange linesOrderWrong)

/-- 'camshaftlaw22.LinesMany': WHATEVER THE INPUT: true; the input reads as it did. -/
def linesManySpec : ChangeSpec := { name := "linesMany", fn := fun _ => fun
  | [d] => { results := [.lit (.bool true)], args := [d] }
  | _ => none }
def linesManyRow : OpenClaim := { program := "ytbgcbnlpjjhmhaa", sum := "15660f7815c9585ebc86de9770595241df2769df28e6bf344b9c7f76182fdb4e", func := "camshaft/camshaftlaw22.LinesMany", spec := "linesMany", unfollowed := true, recurses := true, apart := false }
def LinesManySaid : Prop := linesManyRow.holds Try.pinned (OpenSpec.ofChange linesManySpec)

/-- ITS FALSE NEIGHBOUR: 'it returns false'. Refute it at one input. -/
def linesManyWrong : ChangeSpec := { name := "linesMany", fn := fun _ => fun
  | [d] => { results := [.lit (.bool false)], args := [d] }
  | _ => none }
def LinesManyWrongFalsely : Prop := linesManyRow.holds Try.pinned (OpenSpec.ofChange linesManyWrong)

/-- 'camshaftlaw22.LinesHold': WHATEVER THE INPUT: true; the input reads as it did. -/
def linesHoldSpec : ChangeSpec := { name := "linesHold", fn := fun _ => fun
  | [d] => { results := [.lit (.bool true)], args := [d] }
  | _ => none }
def linesHoldRow : OpenClaim := { program := "ytbgcbnlpjjhmhaa", sum := "15660f7815c9585ebc86de9770595241df2769df28e6bf344b9c7f76182fdb4e", func := "camshaft/camshaftlaw22.LinesHold", spec := "linesHold", unfollowed := true, recurses := true, apart := false }
def LinesHoldSaid : Prop := linesHoldRow.holds Try.pinned (OpenSpec.ofChange linesHoldSpec)

/-- ITS FALSE NEIGHBOUR: 'it returns false'. Refute it at one input. -/
def linesHoldWrong : ChangeSpec := { name := "linesHold", fn := fun _ => fun
  | [d] => { results := [.lit (.bool false)], args := [d] }
  | _ => none }
def LinesHoldWrongFalsely : Prop := linesHoldRow.holds Try.pinned (OpenSpec.ofChange linesHoldWrong)

/-- 'camshaftlaw22.LinesApart': WHATEVER THE INPUT: true; the input reads as it did. -/
def linesApartSpec : ChangeSpec := { name := "linesApart", fn := fun _ => fun
  | [d1, d2, d3] => { results := [.lit (.bool true)], args := [d1, d2, d3] }
  | _ => none }
def linesApartRow : OpenClaim := { program := "ytbgcbnlpjjhmhaa", sum := "15660f7815c9585ebc86de9770595241df2769df28e6bf344b9c7f76182fdb4e", func := "camshaft/camshaftlaw22.LinesApart", spec := "linesApart", unfollowed := true, recurses := true, apart := false }
def LinesApartSaid : Prop := linesApartRow.holds Try.pinned (OpenSpec.ofChange linesApartSpec)

/-- ITS FALSE NEIGHBOUR: 'it returns false'. Refute it at one input. -/
def linesApartWrong : ChangeSpec := { name := "linesApart", fn := fun _ => fun
  | [d1, d2, d3] => { results := [.lit (.bool false)], args := [d1, d2, d3] }
  | _ => none }
def LinesApartWrongFalsely : Prop := linesApartRow.holds Try.pinned (OpenSpec.ofChange linesApartWrong)

/-- 'camshaftlaw07.RegsStacks': WHATEVER THE INPUT: true; the input reads as it did. -/
def regsStacksSpec : ChangeSpec := { name := "regsStacks", fn := fun _ => fun
  | [d1, d2, d3, d4, d5] => { results := [.lit (.bool true)], args := [d1, d2, d3, d4, d5] }
  | _ => none }
def regsStacksRow : OpenClaim := { program := "ytbgcbnlpjjhmhaa", sum := "15660f7815c9585ebc86de9770595241df2769df28e6bf344b9c7f76182fdb4e", func := "camshaft/camshaftlaw07.RegsStacks", spec := "regsStacks", apart := false }
def RegsStacksSaid : Prop := regsStacksRow.holds Try.pinned (OpenSpec.ofChange regsStacksSpec)

/-- ITS FALSE NEIGHBOUR: 'it returns false'. Refute it at one input. -/
def regsStacksWrong : ChangeSpec := { name := "regsStacks", fn := fun _ => fun
  | [d1, d2, d3, d4, d5] => { results := [.lit (.bool false)], args := [d1, d2, d3, d4, d5] }
  | _ => none }
def RegsStacksWrongFalsely : Prop := regsStacksRow.holds Try.pinned (OpenSpec.ofChange regsStacksWrong)

/-- 'camshaftlaw11.SpecAlone': WHATEVER THE INPUT: true; the input reads as it did. -/
def specAloneSpec : ChangeSpec := { name := "specAlone", fn := fun _ => fun
  | [d1, d2, d3] => { results := [.lit (.bool true)], args := [d1, d2, d3] }
  | _ => none }
def specAloneRow : OpenClaim := { program := "ytbgcbnlpjjhmhaa", sum := "15660f7815c9585ebc86de9770595241df2769df28e6bf344b9c7f76182fdb4e", func := "camshaft/camshaftlaw11.SpecAlone", spec := "specAlone", apart := false }
def SpecAloneSaid : Prop := specAloneRow.holds Try.pinned (OpenSpec.ofChange specAloneSpec)

/-- ITS FALSE NEIGHBOUR: 'it returns false'. Refute it at one input. -/
def specAloneWrong : ChangeSpec := { name := "specAlone", fn := fun _ => fun
  | [d1, d2, d3] => { results := [.lit (.bool false)], args := [d1, d2, d3] }
  | _ => none }
def SpecAloneWrongFalsely : Prop := specAloneRow.holds Try.pinned (OpenSpec.ofChange specAloneWrong)

/-- 'camshaftlaw11.SpecSizes': WHATEVER THE INPUT: true; the input reads as it did. -/
def specSizesSpec : ChangeSpec := { name := "specSizes", fn := fun _ => fun
  | [d1, d2] => { results := [.lit (.bool true)], args := [d1, d2] }
  | _ => none }
def specSizesRow : OpenClaim := { program := "ytbgcbnlpjjhmhaa", sum := "15660f7815c9585ebc86de9770595241df2769df28e6bf344b9c7f76182fdb4e", func := "camshaft/camshaftlaw11.SpecSizes", spec := "specSizes", apart := false }
def SpecSizesSaid : Prop := specSizesRow.holds Try.pinned (OpenSpec.ofChange specSizesSpec)

/-- ITS FALSE NEIGHBOUR: 'it returns false'. Refute it at one input. -/
def specSizesWrong : ChangeSpec := { name := "specSizes", fn := fun _ => fun
  | [d1, d2] => { results := [.lit (.bool false)], args := [d1, d2] }
  | _ => none }
def SpecSizesWrongFalsely : Prop := specSizesRow.holds Try.pinned (OpenSpec.ofChange specSizesWrong)

/-- 'camshaftlaw11.SpecBack': WHATEVER THE INPUT: true; the input reads as it did. -/
def specBackSpec : ChangeSpec := { name := "specBack", fn := fun _ => fun
  | [d1, d2, d3] => { results := [.lit (.bool true)], args := [d1, d2, d3] }
  | _ => none }
def specBackRow : OpenClaim := { program := "ytbgcbnlpjjhmhaa", sum := "15660f7815c9585ebc86de9770595241df2769df28e6bf344b9c7f76182fdb4e", func := "camshaft/camshaftlaw11.SpecBack", spec := "specBack", apart := false }
def SpecBackSaid : Prop := specBackRow.holds Try.pinned (OpenSpec.ofChange specBackSpec)

/-- ITS FALSE NEIGHBOUR: 'it returns false'. Refute it at one input. -/
def specBackWrong : ChangeSpec := { name := "specBack", fn := fun _ => fun
  | [d1, d2, d3] => { results := [.lit (.bool false)], args := [d1, d2, d3] }
  | _ => none }
def SpecBackWrongFalsely : Prop := specBackRow.holds Try.pinned (OpenSpec.ofChange specBackWrong)

/- THE SECOND FORM. 'bulk': how many values and letters a reading holds, each counted each time it is reached (what is shared counts as often as it is met; a slice's spare places count too). A statement '..UptoSaid' is the law's where the arguments, and the package variables that the reading takes, are together of bulk at most 1048576: NARROWER than '..Said'. Prove '..Said' where nothing that the law and all that it calls make is longer than what came in: it says more and counts as full. Else prove '..UptoSaid'. A law counts once. -/
mutual
def uptoBulk {H : Type} : DataW H → Nat
  | .lit (.string bytes) => bytes.length + 1
  | .lit _ => 1
  | .nil => 1
  | .ptr d => uptoBulk d + 1
  | .slice elems spare => uptoBulkAll elems + uptoBulkAll spare + 1
  | .agg parts => uptoBulkAll parts + 1
  | .iface _ d => uptoBulk d + 1
  | .map entries => uptoBulkEntries entries + 1
  | .held _ => 1
def uptoBulkAll {H : Type} : List (DataW H) → Nat
  | [] => 0
  | d :: r => uptoBulk d + uptoBulkAll r
def uptoBulkEntries {H : Type} : List (Lit × DataW H) → Nat
  | [] => 0
  | x :: r => uptoBulkEntry x + uptoBulkEntries r
def uptoBulkEntry {H : Type} : Lit × DataW H → Nat
  | (.string bytes, d) => bytes.length + uptoBulk d + 1
  | (_, d) => uptoBulk d + 1
 end
def uptoSmall : (H : Type) → List (DataW H) → Bool := fun _ ds => decide (uptoBulkAll ds ≤ 1048576)
def OpenSpec.upto (s : _root_.Go.ChangeSpec) : _root_.Go.OpenSpec := { _root_.Go.OpenSpec.ofChange s with cond := some uptoSmall }

/-- 'camshaftlaw07.RegsForgets', WHERE WHAT IT READS IS OF BULK AT MOST 1048576: true; the input reads as it did. -/
def regsForgetsUptoRow : OpenClaim := { program := "ytbgcbnlpjjhmhaa", sum := "15660f7815c9585ebc86de9770595241df2769df28e6bf344b9c7f76182fdb4e", func := "camshaft/camshaftlaw07.RegsForgets", spec := "regsForgets", apart := false, narrowed := true }
def RegsForgetsUptoSaid : Prop := regsForgetsUptoRow.holds Try.pinned (OpenSpec.upto regsForgetsSpec)

/-- 'camshaftlaw22.LinesDo', WHERE WHAT IT READS IS OF BULK AT MOST 1048576: true; the input reads as it did. -/
def linesDoUptoRow : OpenClaim := { program := "ytbgcbnlpjjhmhaa", sum := "15660f7815c9585ebc86de9770595241df2769df28e6bf344b9c7f76182fdb4e", func := "camshaft/camshaftlaw22.LinesDo", spec := "linesDo", unfollowed := true, recurses := true, apart := false, narrowed := true }
def LinesDoUptoSaid : Prop := linesDoUptoRow.holds Try.pinned (OpenSpec.upto linesDoSpec)

/-- 'camshaftlaw22.LinesOrder', WHERE WHAT IT READS IS OF BULK AT MOST 1048576: true; the input reads as it did. -/
def linesOrderUptoRow : OpenClaim := { program := "ytbgcbnlpjjhmhaa", sum := "15660f7815c9585ebc86de9770595241df2769df28e6bf344b9c7f76182fdb4e", func := "camshaft/camshaftlaw22.LinesOrder", spec := "linesOrder", unfollowed := true, recurses := true, apart := false, narrowed := true }
def LinesOrderUptoSaid : Prop := linesOrderUptoRow.holds Try.pinned (OpenSpec.upto linesOrderSpec)

/-- 'camshaftlaw22.LinesMany', WHERE WHAT IT READS IS OF BULK AT MOST 1048576: true; the input reads as it did. -/
def linesManyUptoRow : OpenClaim := { program := "ytbgcbnlpjjhmhaa", sum := "15660f7815c9585ebc86de9770595241df2769df28e6bf344b9c7f76182fdb4e", func := "camshaft/camshaftlaw22.LinesMany", spec := "linesMany", unfollowed := true, recurses := true, apart := false, narrowed := true }
def LinesManyUptoSaid : Prop := linesManyUptoRow.holds Try.pinned (OpenSpec.upto linesManySpec)

/-- 'camshaftlaw22.LinesHold', WHERE WHAT IT READS IS OF BULK AT MOST 1048576: true; the input reads as it did. -/
def linesHoldUptoRow : OpenClaim := { program := "ytbgcbnlpjjhmhaa", sum := "15660f7815c9585ebc86de9770595241df2769df28e6bf344b9c7f76182fdb4e", func := "camshaft/camshaftlaw22.LinesHold", spec := "linesHold", unfollowed := true, recurses := true, apart := false, narrowed := true }
def LinesHoldUptoSaid : Prop := linesHoldUptoRow.holds Try.pinned (OpenSpec.upto linesHoldSpec)

/-- 'camshaftlaw22.LinesApart', WHERE WHAT IT READS IS OF BULK AT MOST 1048576: true; the input reads as it did. -/
def linesApartUptoRow : OpenClaim := { program := "ytbgcbnlpjjhmhaa", sum := "15660f7815c9585ebc86de9770595241df2769df28e6bf344b9c7f76182fdb4e", func := "camshaft/camshaftlaw22.LinesApart", spec := "linesApart", unfollowed := true, recurses := true, apart := false, narrowed := true }
def LinesApartUptoSaid : Prop := linesApartUptoRow.holds Try.pinned (OpenSpec.upto linesApartSpec)

/-- 'camshaftlaw07.RegsStacks', WHERE WHAT IT READS IS OF BULK AT MOST 1048576: true; the input reads as it did. -/
def regsStacksUptoRow : OpenClaim := { program := "ytbgcbnlpjjhmhaa", sum := "15660f7815c9585ebc86de9770595241df2769df28e6bf344b9c7f76182fdb4e", func := "camshaft/camshaftlaw07.RegsStacks", spec := "regsStacks", apart := false, narrowed := true }
def RegsStacksUptoSaid : Prop := regsStacksUptoRow.holds Try.pinned (OpenSpec.upto regsStacksSpec)

/-- 'camshaftlaw11.SpecAlone', WHERE WHAT IT READS IS OF BULK AT MOST 1048576: true; the input reads as it did. -/
def specAloneUptoRow : OpenClaim := { program := "ytbgcbnlpjjhmhaa", sum := "15660f7815c9585ebc86de9770595241df2769df28e6bf344b9c7f76182fdb4e", func := "camshaft/camshaftlaw11.SpecAlone", spec := "specAlone", apart := false, narrowed := true }
def SpecAloneUptoSaid : Prop := specAloneUptoRow.holds Try.pinned (OpenSpec.upto specAloneSpec)

/-- 'camshaftlaw11.SpecSizes', WHERE WHAT IT READS IS OF BULK AT MOST 1048576: true; the input reads as it did. -/
def specSizesUptoRow : OpenClaim := { program := "ytbgcbnlpjjhmhaa", sum := "15660f7815c9585ebc86de9770595241df2769df28e6bf344b9c7f76182fdb4e", func := "camshaft/camshaftlaw11.SpecSizes", spec := "specSizes", apart := false, narrowed := true }
def SpecSizesUptoSaid : Prop := specSizesUptoRow.holds Try.pinned (OpenSpec.upto specSizesSpec)

/-- 'camshaftlaw11.SpecBack', WHERE WHAT IT READS IS OF BULK AT MOST 1048576: true; the input reads as it did. -/
def specBackUptoRow : OpenClaim := { program := "ytbgcbnlpjjhmhaa", sum := "15660f7815c9585ebc86de9770595241df2769df28e6bf344b9c7f76182fdb4e", func := "camshaft/camshaftlaw11.SpecBack", spec := "specBack", apart := false, narrowed := true }
def SpecBackUptoSaid : Prop := specBackUptoRow.holds Try.pinned (OpenSpec.upto specBackSpec)

end Rows
end Go.Proofs.Ytbgcbnlpjjhmhaa
