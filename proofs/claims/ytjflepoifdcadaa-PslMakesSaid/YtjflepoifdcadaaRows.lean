/-
  No cell of these rows narrows 'for every input' (looked for: loops, veiled, ifaces, maps, wideKeys, modest, calm, conditions, laid).
  DERIVED. THE GIVEN ROWS OF THIS SEAT. 11 by the template 'for every input the law returns true; each argument reads behind the call as it read before'; 0 by the template 'total and deterministic' (their statements: YtjflepoifdcadaaTotals.lean).
  GIVEN WITH THE SEED: the statements are not yours to turn. If you find one false, say at which input.
  Laid BY PROGRAM, IN A SANDBOX (cutbox-rows.mjs): the forced cells as the released guide's own fill.sh prints them over the translation 2251c675658ebb14… (all of the seat's roots in one cut). By AI agents, Wed Nov 11 2026. No macro, syntax, notation, axiom, sorry.
-/
import Derived.Test.YtjflepoifdcadaaChecked
import GoSem.Claim
import GoSem.ClaimJoined
import GoSem.ClaimMapViews
import Derived.JoinedTies
import Derived.KernelRfl
namespace Go.Proofs.Ytjflepoifdcadaa
/- THE CELL 'sum', in the pinned program and in every row, IS THE sha256 OF THE DUMP (.gsa) THAT YtjflepoifdcadaaProg.lean LOADS. Nothing in Lean hashes anything: it is a label: what it is worth is what the hold of that sum in a sandbox is worth. -/
noncomputable def Try.pinned : Pinned := { name := "ytjflepoifdcadaa", sum := "2251c675658ebb145603cb32b6544998839a24d50849f8622489f5af89bcda37", checked := Try.checked }
namespace Rows
def none {H : Type} : Left H := { results := [], args := [] }

/-- 'camshaftlaw03.PtePlaces': WHATEVER THE INPUT: true; the input reads as it did. -/
def ptePlacesSpec : ChangeSpec := { name := "ptePlaces", fn := fun _ => fun
  | [d1, d2, d3, d4] => { results := [.lit (.bool true)], args := [d1, d2, d3, d4] }
  | _ => none }
def ptePlacesRow : OpenClaim := { program := "ytjflepoifdcadaa", sum := "2251c675658ebb145603cb32b6544998839a24d50849f8622489f5af89bcda37", func := "camshaft/camshaftlaw03.PtePlaces", spec := "ptePlaces", apart := false }
def PtePlacesSaid : Prop := ptePlacesRow.holds Try.pinned (OpenSpec.ofChange ptePlacesSpec)

/-- ITS FALSE NEIGHBOUR: 'it returns false'. Refute it at one input. -/
def ptePlacesWrong : ChangeSpec := { name := "ptePlaces", fn := fun _ => fun
  | [d1, d2, d3, d4] => { results := [.lit (.bool false)], args := [d1, d2, d3, d4] }
  | _ => none }
def PtePlacesWrongFalsely : Prop := ptePlacesRow.holds Try.pinned (OpenSpec.ofChange ptePlacesWrong)

/-- 'camshaftlaw03.PteMakes': WHATEVER THE INPUT: true; the input reads as it did. -/
def pteMakesSpec : ChangeSpec := { name := "pteMakes", fn := fun _ => fun
  | [d1, d2, d3, d4] => { results := [.lit (.bool true)], args := [d1, d2, d3, d4] }
  | _ => none }
def pteMakesRow : OpenClaim := { program := "ytjflepoifdcadaa", sum := "2251c675658ebb145603cb32b6544998839a24d50849f8622489f5af89bcda37", func := "camshaft/camshaftlaw03.PteMakes", spec := "pteMakes", apart := false }
def PteMakesSaid : Prop := pteMakesRow.holds Try.pinned (OpenSpec.ofChange pteMakesSpec)

/-- ITS FALSE NEIGHBOUR: 'it returns false'. Refute it at one input. -/
def pteMakesWrong : ChangeSpec := { name := "pteMakes", fn := fun _ => fun
  | [d1, d2, d3, d4] => { results := [.lit (.bool false)], args := [d1, d2, d3, d4] }
  | _ => none }
def PteMakesWrongFalsely : Prop := pteMakesRow.holds Try.pinned (OpenSpec.ofChange pteMakesWrong)

/-- 'camshaftlaw06.PslReads': WHATEVER THE INPUT: true; the input reads as it did. -/
def pslReadsSpec : ChangeSpec := { name := "pslReads", fn := fun _ => fun
  | [d] => { results := [.lit (.bool true)], args := [d] }
  | _ => none }
def pslReadsRow : OpenClaim := { program := "ytjflepoifdcadaa", sum := "2251c675658ebb145603cb32b6544998839a24d50849f8622489f5af89bcda37", func := "camshaft/camshaftlaw06.PslReads", spec := "pslReads", apart := false }
def PslReadsSaid : Prop := pslReadsRow.holds Try.pinned (OpenSpec.ofChange pslReadsSpec)

/-- ITS FALSE NEIGHBOUR: 'it returns false'. Refute it at one input. -/
def pslReadsWrong : ChangeSpec := { name := "pslReads", fn := fun _ => fun
  | [d] => { results := [.lit (.bool false)], args := [d] }
  | _ => none }
def PslReadsWrongFalsely : Prop := pslReadsRow.holds Try.pinned (OpenSpec.ofChange pslReadsWrong)

/-- 'camshaftlaw06.PslBack': WHATEVER THE INPUT: true; the input reads as it did. -/
def pslBackSpec : ChangeSpec := { name := "pslBack", fn := fun _ => fun
  | [d1, d2] => { results := [.lit (.bool true)], args := [d1, d2] }
  | _ => none }
def pslBackRow : OpenClaim := { program := "ytjflepoifdcadaa", sum := "2251c675658ebb145603cb32b6544998839a24d50849f8622489f5af89bcda37", func := "camshaft/camshaftlaw06.PslBack", spec := "pslBack", apart := false }
def PslBackSaid : Prop := pslBackRow.holds Try.pinned (OpenSpec.ofChange pslBackSpec)

/-- ITS FALSE NEIGHBOUR: 'it returns false'. Refute it at one input. -/
def pslBackWrong : ChangeSpec := { name := "pslBack", fn := fun _ => fun
  | [d1, d2] => { results := [.lit (.bool false)], args := [d1, d2] }
  | _ => none }
def PslBackWrongFalsely : Prop := pslBackRow.holds Try.pinned (OpenSpec.ofChange pslBackWrong)

/-- 'camshaftlaw06.PslEnters': WHATEVER THE INPUT: true; the input reads as it did. -/
def pslEntersSpec : ChangeSpec := { name := "pslEnters", fn := fun _ => fun
  | [d1, d2, d3] => { results := [.lit (.bool true)], args := [d1, d2, d3] }
  | _ => none }
def pslEntersRow : OpenClaim := { program := "ytjflepoifdcadaa", sum := "2251c675658ebb145603cb32b6544998839a24d50849f8622489f5af89bcda37", func := "camshaft/camshaftlaw06.PslEnters", spec := "pslEnters", apart := false }
def PslEntersSaid : Prop := pslEntersRow.holds Try.pinned (OpenSpec.ofChange pslEntersSpec)

/-- ITS FALSE NEIGHBOUR: 'it returns false'. Refute it at one input. -/
def pslEntersWrong : ChangeSpec := { name := "pslEnters", fn := fun _ => fun
  | [d1, d2, d3] => { results := [.lit (.bool false)], args := [d1, d2, d3] }
  | _ => none }
def PslEntersWrongFalsely : Prop := pslEntersRow.holds Try.pinned (OpenSpec.ofChange pslEntersWrong)

/-- 'camshaftlaw03.PteRights': WHATEVER THE INPUT: true; the input reads as it did. -/
def pteRightsSpec : ChangeSpec := { name := "pteRights", fn := fun _ => fun
  | [d] => { results := [.lit (.bool true)], args := [d] }
  | _ => none }
def pteRightsRow : OpenClaim := { program := "ytjflepoifdcadaa", sum := "2251c675658ebb145603cb32b6544998839a24d50849f8622489f5af89bcda37", func := "camshaft/camshaftlaw03.PteRights", spec := "pteRights", apart := false }
def PteRightsSaid : Prop := pteRightsRow.holds Try.pinned (OpenSpec.ofChange pteRightsSpec)

/-- ITS FALSE NEIGHBOUR: 'it returns false'. Refute it at one input. -/
def pteRightsWrong : ChangeSpec := { name := "pteRights", fn := fun _ => fun
  | [d] => { results := [.lit (.bool false)], args := [d] }
  | _ => none }
def PteRightsWrongFalsely : Prop := pteRightsRow.holds Try.pinned (OpenSpec.ofChange pteRightsWrong)

/-- 'camshaftlaw06.PslMakes': WHATEVER THE INPUT: true; the input reads as it did. -/
def pslMakesSpec : ChangeSpec := { name := "pslMakes", fn := fun _ => fun
  | [d1, d2, d3] => { results := [.lit (.bool true)], args := [d1, d2, d3] }
  | _ => none }
def pslMakesRow : OpenClaim := { program := "ytjflepoifdcadaa", sum := "2251c675658ebb145603cb32b6544998839a24d50849f8622489f5af89bcda37", func := "camshaft/camshaftlaw06.PslMakes", spec := "pslMakes", apart := false }
def PslMakesSaid : Prop := pslMakesRow.holds Try.pinned (OpenSpec.ofChange pslMakesSpec)

/-- ITS FALSE NEIGHBOUR: 'it returns false'. Refute it at one input. -/
def pslMakesWrong : ChangeSpec := { name := "pslMakes", fn := fun _ => fun
  | [d1, d2, d3] => { results := [.lit (.bool false)], args := [d1, d2, d3] }
  | _ => none }
def PslMakesWrongFalsely : Prop := pslMakesRow.holds Try.pinned (OpenSpec.ofChange pslMakesWrong)

/-- 'camshaftlaw03.PteReads': WHATEVER THE INPUT: true; the input reads as it did. -/
def pteReadsSpec : ChangeSpec := { name := "pteReads", fn := fun _ => fun
  | [d1, d2, d3, d4] => { results := [.lit (.bool true)], args := [d1, d2, d3, d4] }
  | _ => none }
def pteReadsRow : OpenClaim := { program := "ytjflepoifdcadaa", sum := "2251c675658ebb145603cb32b6544998839a24d50849f8622489f5af89bcda37", func := "camshaft/camshaftlaw03.PteReads", spec := "pteReads", apart := false }
def PteReadsSaid : Prop := pteReadsRow.holds Try.pinned (OpenSpec.ofChange pteReadsSpec)

/-- ITS FALSE NEIGHBOUR: 'it returns false'. Refute it at one input. -/
def pteReadsWrong : ChangeSpec := { name := "pteReads", fn := fun _ => fun
  | [d1, d2, d3, d4] => { results := [.lit (.bool false)], args := [d1, d2, d3, d4] }
  | _ => none }
def PteReadsWrongFalsely : Prop := pteReadsRow.holds Try.pinned (OpenSpec.ofChange pteReadsWrong)

/-- 'camshaftlaw03.PteBits': WHATEVER THE INPUT: true; the input reads as it did. -/
def pteBitsSpec : ChangeSpec := { name := "pteBits", fn := fun _ => fun
  | [d1, d2, d3, d4] => { results := [.lit (.bool true)], args := [d1, d2, d3, d4] }
  | _ => none }
def pteBitsRow : OpenClaim := { program := "ytjflepoifdcadaa", sum := "2251c675658ebb145603cb32b6544998839a24d50849f8622489f5af89bcda37", func := "camshaft/camshaftlaw03.PteBits", spec := "pteBits", apart := false }
def PteBitsSaid : Prop := pteBitsRow.holds Try.pinned (OpenSpec.ofChange pteBitsSpec)

/-- ITS FALSE NEIGHBOUR: 'it returns false'. Refute it at one input. -/
def pteBitsWrong : ChangeSpec := { name := "pteBits", fn := fun _ => fun
  | [d1, d2, d3, d4] => { results := [.lit (.bool false)], args := [d1, d2, d3, d4] }
  | _ => none }
def PteBitsWrongFalsely : Prop := pteBitsRow.holds Try.pinned (OpenSpec.ofChange pteBitsWrong)

/-- 'camshaftlaw06.PslParts': WHATEVER THE INPUT: true; the input reads as it did. -/
def pslPartsSpec : ChangeSpec := { name := "pslParts", fn := fun _ => fun
  | [d1, d2, d3] => { results := [.lit (.bool true)], args := [d1, d2, d3] }
  | _ => none }
def pslPartsRow : OpenClaim := { program := "ytjflepoifdcadaa", sum := "2251c675658ebb145603cb32b6544998839a24d50849f8622489f5af89bcda37", func := "camshaft/camshaftlaw06.PslParts", spec := "pslParts", apart := false }
def PslPartsSaid : Prop := pslPartsRow.holds Try.pinned (OpenSpec.ofChange pslPartsSpec)

/-- ITS FALSE NEIGHBOUR: 'it returns false'. Refute it at one input. -/
def pslPartsWrong : ChangeSpec := { name := "pslParts", fn := fun _ => fun
  | [d1, d2, d3] => { results := [.lit (.bool false)], args := [d1, d2, d3] }
  | _ => none }
def PslPartsWrongFalsely : Prop := pslPartsRow.holds Try.pinned (OpenSpec.ofChange pslPartsWrong)

/-- 'camshaftlaw06.PslBranches': WHATEVER THE INPUT: true; the input reads as it did. -/
def pslBranchesSpec : ChangeSpec := { name := "pslBranches", fn := fun _ => fun
  | [d1, d2] => { results := [.lit (.bool true)], args := [d1, d2] }
  | _ => none }
def pslBranchesRow : OpenClaim := { program := "ytjflepoifdcadaa", sum := "2251c675658ebb145603cb32b6544998839a24d50849f8622489f5af89bcda37", func := "camshaft/camshaftlaw06.PslBranches", spec := "pslBranches", apart := false }
def PslBranchesSaid : Prop := pslBranchesRow.holds Try.pinned (OpenSpec.ofChange pslBranchesSpec)

/-- ITS FALSE NEIGHBOUR: 'it returns false'. Refute it at one input. -/
def pslBranchesWrong : ChangeSpec := { name := "pslBranches", fn := fun _ => fun
  | [d1, d2] => { results := [.lit (.bool false)], args := [d1, d2] }
  | _ => none }
def PslBranchesWrongFalsely : Prop := pslBranchesRow.holds Try.pinned (OpenSpec.ofChange pslBranchesWrong)

/- THE SECOND FORM. 'bulk': how many values and letters a reading holds, each counted each time it is reached (what is shared counts as often as it is met; a slice's spare places count too). A statement '..UptoSaid' is the law's where the arguments, and the package variables that the reading takes, are together of bulk at most 1048576: NARROWER than '..Said'. Prove '..Said' where nothing that the law and all that it calls make is longer than what came in: it says more and counts as full. Else prove '..UptoSaid'. A law counts once. -/
mutual
def uptoBulk {H : Type} : DataW H → Nat
  | .lit (.string bytes) => bytes.length + 1
  | .lit _ => 1
  | .nil => 1
  | .ptr d => uptoBulk d + 1
  | .slice elems spare => uptoBulkAll elems + uptoBulkAll spare + 1
  | .agg parts => uptoBulkAll parts + 1
  | .iface _ d => uptoBulk d + 1
  | .map entries => uptoBulkEntries entries + 1
  | .held _ => 1
def uptoBulkAll {H : Type} : List (DataW H) → Nat
  | [] => 0
  | d :: r => uptoBulk d + uptoBulkAll r
def uptoBulkEntries {H : Type} : List (Lit × DataW H) → Nat
  | [] => 0
  | x :: r => uptoBulkEntry x + uptoBulkEntries r
def uptoBulkEntry {H : Type} : Lit × DataW H → Nat
  | (.string bytes, d) => bytes.length + uptoBulk d + 1
  | (_, d) => uptoBulk d + 1
 end
def uptoSmall : (H : Type) → List (DataW H) → Bool := fun _ ds => decide (uptoBulkAll ds ≤ 1048576)
def OpenSpec.upto (s : _root_.Go.ChangeSpec) : _root_.Go.OpenSpec := { _root_.Go.OpenSpec.ofChange s with cond := some uptoSmall }

/-- 'camshaftlaw03.PtePlaces', WHERE WHAT IT READS IS OF BULK AT MOST 1048576: true; the input reads as it did. -/
def ptePlacesUptoRow : OpenClaim := { program := "ytjflepoifdcadaa", sum := "2251c675658ebb145603cb32b6544998839a24d50849f8622489f5af89bcda37", func := "camshaft/camshaftlaw03.PtePlaces", spec := "ptePlaces", apart := false, narrowed := true }
def PtePlacesUptoSaid : Prop := ptePlacesUptoRow.holds Try.pinned (OpenSpec.upto ptePlacesSpec)

/-- 'camshaftlaw03.PteMakes', WHERE WHAT IT READS IS OF BULK AT MOST 1048576: true; the input reads as it did. -/
def pteMakesUptoRow : OpenClaim := { program := "ytjflepoifdcadaa", sum := "2251c675658ebb145603cb32b6544998839a24d50849f8622489f5af89bcda37", func := "camshaft/camshaftlaw03.PteMakes", spec := "pteMakes", apart := false, narrowed := true }
def PteMakesUptoSaid : Prop := pteMakesUptoRow.holds Try.pinned (OpenSpec.upto pteMakesSpec)

/-- 'camshaftlaw06.PslReads', WHERE WHAT IT READS IS OF BULK AT MOST 1048576: true; the input reads as it did. -/
def pslReadsUptoRow : OpenClaim := { program := "ytjflepoifdcadaa", sum := "2251c675658ebb145603cb32b6544998839a24d50849f8622489f5af89bcda37", func := "camshaft/camshaftlaw06.PslReads", spec := "pslReads", apart := false, narrowed := true }
def PslReadsUptoSaid : Prop := pslReadsUptoRow.holds Try.pinned (OpenSpec.upto pslReadsSpec)

/-- 'camshaftlaw06.PslBack', WHERE WHAT IT READS IS OF BULK AT MOST 1048576: true; the input reads as it did. -/
def pslBackUptoRow : OpenClaim := { program := "ytjflepoifdcadaa", sum := "2251c675658ebb145603cb32b6544998839a24d50849f8622489f5af89bcda37", func := "camshaft/camshaftlaw06.PslBack", spec := "pslBack", apart := false, narrowed := true }
def PslBackUptoSaid : Prop := pslBackUptoRow.holds Try.pinned (OpenSpec.upto pslBackSpec)

/-- 'camshaftlaw06.PslEnters', WHERE WHAT IT READS IS OF BULK AT MOST 1048576: true; the input reads as it did. -/
def pslEntersUptoRow : OpenClaim := { program := "ytjflepoifdcadaa", sum := "2251c675658ebb145603cb32b6544998839a24d50849f8622489f5af89bcda37", func := "camshaft/camshaftlaw06.PslEnters", spec := "pslEnters", apart := false, narrowed := true }
def PslEntersUptoSaid : Prop := pslEntersUptoRow.holds Try.pinned (OpenSpec.upto pslEntersSpec)

/-- 'camshaftlaw03.PteRights', WHERE WHAT IT READS IS OF BULK AT MOST 1048576: true; the input reads as it did. -/
def pteRightsUptoRow : OpenClaim := { program := "ytjflepoifdcadaa", sum := "2251c675658ebb145603cb32b6544998839a24d50849f8622489f5af89bcda37", func := "camshaft/camshaftlaw03.PteRights", spec := "pteRights", apart := false, narrowed := true }
def PteRightsUptoSaid : Prop := pteRightsUptoRow.holds Try.pinned (OpenSpec.upto pteRightsSpec)

/-- 'camshaftlaw06.PslMakes', WHERE WHAT IT READS IS OF BULK AT MOST 1048576: true; the input reads as it did. -/
def pslMakesUptoRow : OpenClaim := { program := "ytjflepoifdcadaa", sum := "2251c675658ebb145603cb32b6544998839a24d50849f8622489f5af89bcda37", func := "camshaft/camshaftlaw06.PslMakes", spec := "pslMakes", apart := false, narrowed := true }
def PslMakesUptoSaid : Prop := pslMakesUptoRow.holds Try.pinned (OpenSpec.upto pslMakesSpec)

/-- 'camshaftlaw03.PteReads', WHERE WHAT IT READS IS OF BULK AT MOST 1048576: true; the input reads as it did. -/
def pteReadsUptoRow : OpenClaim := { program := "ytjflepoifdcadaa", sum := "2251c675658ebb145603cb32b6544998839a24d50849f8622489f5af89bcda37", func := "camshaft/camshaftlaw03.PteReads", spec := "pteReads", apart := false, narrowed := true }
def PteReadsUptoSaid : Prop := pteReadsUptoRow.holds Try.pinned (OpenSpec.upto pteReadsSpec)

/-- 'camshaftlaw03.PteBits', WHERE WHAT IT READS IS OF BULK AT MOST 1048576: true; the input reads as it did. -/
def pteBitsUptoRow : OpenClaim := { program := "ytjflepoifdcadaa", sum := "2251c675658ebb145603cb32b6544998839a24d50849f8622489f5af89bcda37", func := "camshaft/camshaftlaw03.PteBits", spec := "pteBits", apart := false, narrowed := true }
def PteBitsUptoSaid : Prop := pteBitsUptoRow.holds Try.pinned (OpenSpec.upto pteBitsSpec)

/-- 'camshaftlaw06.PslParts', WHERE WHAT IT READS IS OF BULK AT MOST 1048576: true; the input reads as it did. -/
def pslPartsUptoRow : OpenClaim := { program := "ytjflepoifdcadaa", sum := "2251c675658ebb145603cb32b6544998839a24d50849f8622489f5af89bcda37", func := "camshaft/camshaftlaw06.PslParts", spec := "pslParts", apart := false, narrowed := true }
def PslPartsUptoSaid : Prop := pslPartsUptoRow.holds Try.pinned (OpenSpec.upto pslPartsSpec)

/-- 'camshaftlaw06.PslBranches', WHERE WHAT IT READS IS OF BULK AT MOST 1048576: true; the input reads as it did. -/
def pslBranchesUptoRow : OpenClaim := { program := "ytjflepoifdcadaa", sum := "2251c675658ebb145603cb32b6544998839a24d50849f8622489f5af89bcda37", func := "camshaft/camshaftlaw06.PslBranches", spec := "pslBranches", apart := false, narrowed := true }
def PslBranchesUptoSaid : Prop := pslBranchesUptoRow.holds Try.pinned (OpenSpec.upto pslBranchesSpec)

end Rows
end Go.Proofs.Ytjflepoifdcadaa
