/-
  No cell of these rows narrows 'for every input' (looked for: loops, veiled, ifaces, maps, wideKeys, modest, calm, conditions, laid).
  DERIVED. THE GIVEN ROWS OF THIS SEAT. 10 by the template 'for every input the law returns true; each argument reads behind the call as it read before'; 0 by the template 'total and deterministic' (their statements: YtiogbgjeimdgmaaTotals.lean).
  GIVEN WITH THE SEED: the statements are not yours to turn. If you find one false, say at which input.
  Laid BY PROGRAM, IN A SANDBOX (cutbox-rows.mjs): the forced cells as the released guide's own fill.sh prints them over the translation b8de88d6f8d292c0… (all of the seat's roots in one cut). By AI agents, Wed Nov 11 2026. No macro, syntax, notation, axiom, sorry.
-/
import Derived.Test.YtiogbgjeimdgmaaChecked
import GoSem.Claim
import GoSem.ClaimJoined
import GoSem.ClaimMapViews
import Derived.JoinedTies
import Derived.KernelRfl
namespace Go.Proofs.Ytiogbgjeimdgmaa
/- THE CELL 'sum', in the pinned program and in every row, IS THE sha256 OF THE DUMP (.gsa) THAT YtiogbgjeimdgmaaProg.lean LOADS. Nothing in Lean hashes anything: it is a label: what it is worth is what the hold of that sum in a sandbox is worth. -/
noncomputable def Try.pinned : Pinned := { name := "ytiogbgjeimdgmaa", sum := "b8de88d6f8d292c0801c99f7e572af83bda7467a0ce7bd7068410e14ad961d2b", checked := Try.checked }
namespace Rows
def none {H : Type} : Left H := { results := [], args := [] }

/-- 'camshaftlaw21.FetchRuns': WHATEVER THE INPUT: true; the input reads as it did. -/
def fetchRunsSpec : ChangeSpec := { name := "fetchRuns", fn := fun _ => fun
  | [d1, d2, d3, d4, d5] => { results := [.lit (.bool true)], args := [d1, d2, d3, d4, d5] }
  | _ => none }
def fetchRunsRow : OpenClaim := { program := "ytiogbgjeimdgmaa", sum := "b8de88d6f8d292c0801c99f7e572af83bda7467a0ce7bd7068410e14ad961d2b", func := "camshaft/camshaftlaw21.FetchRuns", spec := "fetchRuns", unfollowed := true, recurses := true, apart := false }
def FetchRunsSaid : Prop := fetchRunsRow.holds Try.pinned (OpenSpec.ofChange fetchRunsSpec)

/-- ITS FALSE NEIGHBOUR: 'it returns false'. Refute it at one input. -/
def fetchRunsWrong : ChangeSpec := { name := "fetchRuns", fn := fun _ => fun
  | [d1, d2, d3, d4, d5] => { results := [.lit (.bool false)], args := [d1, d2, d3, d4, d5] }
  | _ => none }
def FetchRunsWrongFalsely : Prop := fetchRunsRow.holds Try.pinned (OpenSpec.ofChange fetchRunsWrong)

/-- 'camshaftlaw21.FetchFresh': WHATEVER THE INPUT: true; the input reads as it did. -/
def fetchFreshSpec : ChangeSpec := { name := "fetchFresh", fn := fun _ => fun
  | [d1, d2, d3, d4, d5] => { results := [.lit (.bool true)], args := [d1, d2, d3, d4, d5] }
  | _ => none }
def fetchFreshRow : OpenClaim := { program := "ytiogbgjeimdgmaa", sum := "b8de88d6f8d292c0801c99f7e572af83bda7467a0ce7bd7068410e14ad961d2b", func := "camshaft/camshaftlaw21.FetchFresh", spec := "fetchFresh", unfollowed := true, recurses := true, apart := false }
def FetchFreshSaid : Prop := fetchFreshRow.holds Try.pinned (OpenSpec.ofChange fetchFreshSpec)

/-- ITS FALSE NEIGHBOUR: 'it returns false'. Refute it at one input. -/
def fetchFreshWrong : ChangeSpec := { name := "fetchFresh", fn := fun _ => fun
  | [d1, d2, d3, d4, d5] => { results := [.lit (.bool false)], args := [d1, d2, d3, d4, d5] }
  | _ => none }
def FetchFreshWrongFalsely : Prop := fetchFreshRow.holds Try.pinned (OpenSpec.ofChange fetchFreshWrong)

/-- 'camshaftlaw05.MmuRest': WHATEVER THE INPUT: true; the input reads as it did. -/
def mmuRestSpec : ChangeSpec := { name := "mmuRest", fn := fun _ => fun
  | [d1, d2, d3, d4] => { results := [.lit (.bool true)], args := [d1, d2, d3, d4] }
  | _ => none }
def mmuRestRow : OpenClaim := { program := "ytiogbgjeimdgmaa", sum := "b8de88d6f8d292c0801c99f7e572af83bda7467a0ce7bd7068410e14ad961d2b", func := "camshaft/camshaftlaw05.MmuRest", spec := "mmuRest", unfollowed := true, recurses := true, apart := false }
def MmuRestSaid : Prop := mmuRestRow.holds Try.pinned (OpenSpec.ofChange mmuRestSpec)

/-- ITS FALSE NEIGHBOUR: 'it returns false'. Refute it at one input. -/
def mmuRestWrong : ChangeSpec := { name := "mmuRest", fn := fun _ => fun
  | [d1, d2, d3, d4] => { results := [.lit (.bool false)], args := [d1, d2, d3, d4] }
  | _ => none }
def MmuRestWrongFalsely : Prop := mmuRestRow.holds Try.pinned (OpenSpec.ofChange mmuRestWrong)

/-- 'camshaftlaw05.MmuPeeks': WHATEVER THE INPUT: true; the input reads as it did. -/
def mmuPeeksSpec : ChangeSpec := { name := "mmuPeeks", fn := fun _ => fun
  | [d1, d2, d3, d4, d5] => { results := [.lit (.bool true)], args := [d1, d2, d3, d4, d5] }
  | _ => none }
def mmuPeeksRow : OpenClaim := { program := "ytiogbgjeimdgmaa", sum := "b8de88d6f8d292c0801c99f7e572af83bda7467a0ce7bd7068410e14ad961d2b", func := "camshaft/camshaftlaw05.MmuPeeks", spec := "mmuPeeks", unfollowed := true, recurses := true, apart := false }
def MmuPeeksSaid : Prop := mmuPeeksRow.holds Try.pinned (OpenSpec.ofChange mmuPeeksSpec)

/-- ITS FALSE NEIGHBOUR: 'it returns false'. Refute it at one input. -/
def mmuPeeksWrong : ChangeSpec := { name := "mmuPeeks", fn := fun _ => fun
  | [d1, d2, d3, d4, d5] => { results := [.lit (.bool false)], args := [d1, d2, d3, d4, d5] }
  | _ => none }
def MmuPeeksWrongFalsely : Prop := mmuPeeksRow.holds Try.pinned (OpenSpec.ofChange mmuPeeksWrong)

/-- 'camshaftlaw21.FetchRoom': WHATEVER THE INPUT: true; the input reads as it did. -/
def fetchRoomSpec : ChangeSpec := { name := "fetchRoom", fn := fun _ => fun
  | [d1, d2, d3, d4] => { results := [.lit (.bool true)], args := [d1, d2, d3, d4] }
  | _ => none }
def fetchRoomRow : OpenClaim := { program := "ytiogbgjeimdgmaa", sum := "b8de88d6f8d292c0801c99f7e572af83bda7467a0ce7bd7068410e14ad961d2b", func := "camshaft/camshaftlaw21.FetchRoom", spec := "fetchRoom", unfollowed := true, recurses := true, apart := false }
def FetchRoomSaid : Prop := fetchRoomRow.holds Try.pinned (OpenSpec.ofChange fetchRoomSpec)

/-- ITS FALSE NEIGHBOUR: 'it returns false'. Refute it at one input. -/
def fetchRoomWrong : ChangeSpec := { name := "fetchRoom", fn := fun _ => fun
  | [d1, d2, d3, d4] => { results := [.lit (.bool false)], args := [d1, d2, d3, d4] }
  | _ => none }
def FetchRoomWrongFalsely : Prop := fetchRoomRow.holds Try.pinned (OpenSpec.ofChange fetchRoomWrong)

/-- 'camshaftlaw05.MmuAll': WHATEVER THE INPUT: true; the input reads as it did. -/
def mmuAllSpec : ChangeSpec := { name := "mmuAll", fn := fun _ => fun
  | [d1, d2, d3, d4, d5] => { results := [.lit (.bool true)], args := [d1, d2, d3, d4, d5] }
  | _ => none }
def mmuAllRow : OpenClaim := { program := "ytiogbgjeimdgmaa", sum := "b8de88d6f8d292c0801c99f7e572af83bda7467a0ce7bd7068410e14ad961d2b", func := "camshaft/camshaftlaw05.MmuAll", spec := "mmuAll", unfollowed := true, recurses := true, apart := false }
def MmuAllSaid : Prop := mmuAllRow.holds Try.pinned (OpenSpec.ofChange mmuAllSpec)

/-- ITS FALSE NEIGHBOUR: 'it returns false'. Refute it at one input. -/
def mmuAllWrong : ChangeSpec := { name := "mmuAll", fn := fun _ => fun
  | [d1, d2, d3, d4, d5] => { results := [.lit (.bool false)], args := [d1, d2, d3, d4, d5] }
  | _ => none }
def MmuAllWrongFalsely : Prop := mmuAllRow.holds Try.pinned (OpenSpec.ofChange mmuAllWrong)

/-- 'camshaftlaw05.MmuMarks': WHATEVER THE INPUT: true; the input reads as it did. -/
def mmuMarksSpec : ChangeSpec := { name := "mmuMarks", fn := fun _ => fun
  | [d1, d2, d3, d4] => { results := [.lit (.bool true)], args := [d1, d2, d3, d4] }
  | _ => none }
def mmuMarksRow : OpenClaim := { program := "ytiogbgjeimdgmaa", sum := "b8de88d6f8d292c0801c99f7e572af83bda7467a0ce7bd7068410e14ad961d2b", func := "camshaft/camshaftlaw05.MmuMarks", spec := "mmuMarks", unfollowed := true, recurses := true, apart := false }
def MmuMarksSaid : Prop := mmuMarksRow.holds Try.pinned (OpenSpec.ofChange mmuMarksSpec)

/-- ITS FALSE NEIGHBOUR: 'it returns false'. Refute it at one input. -/
def mmuMarksWrong : ChangeSpec := { name := "mmuMarks", fn := fun _ => fun
  | [d1, d2, d3, d4] => { results := [.lit (.bool false)], args := [d1, d2, d3, d4] }
  | _ => none }
def MmuMarksWrongFalsely : Prop := mmuMarksRow.holds Try.pinned (OpenSpec.ofChange mmuMarksWrong)

/-- 'camshaftlaw21.FetchDoes': WHATEVER THE INPUT: true; the input reads as it did. -/
def fetchDoesSpec : ChangeSpec := { name := "fetchDoes", fn := fun _ => fun
  | [d1, d2, d3] => { results := [.lit (.bool true)], args := [d1, d2, d3] }
  | _ => none }
def fetchDoesRow : OpenClaim := { program := "ytiogbgjeimdgmaa", sum := "b8de88d6f8d292c0801c99f7e572af83bda7467a0ce7bd7068410e14ad961d2b", func := "camshaft/camshaftlaw21.FetchDoes", spec := "fetchDoes", unfollowed := true, recurses := true, apart := false }
def FetchDoesSaid : Prop := fetchDoesRow.holds Try.pinned (OpenSpec.ofChange fetchDoesSpec)

/-- ITS FALSE NEIGHBOUR: 'it returns false'. Refute it at one input. -/
def fetchDoesWrong : ChangeSpec := { name := "fetchDoes", fn := fun _ => fun
  | [d1, d2, d3] => { results := [.lit (.bool false)], args := [d1, d2, d3] }
  | _ => none }
def FetchDoesWrongFalsely : Prop := fetchDoesRow.holds Try.pinned (OpenSpec.ofChange fetchDoesWrong)

/-- 'camshaftlaw05.MmuSame': WHATEVER THE INPUT: true; the input reads as it did. -/
def mmuSameSpec : ChangeSpec := { name := "mmuSame", fn := fun _ => fun
  | [d1, d2, d3] => { results := [.lit (.bool true)], args := [d1, d2, d3] }
  | _ => none }
def mmuSameRow : OpenClaim := { program := "ytiogbgjeimdgmaa", sum := "b8de88d6f8d292c0801c99f7e572af83bda7467a0ce7bd7068410e14ad961d2b", func := "camshaft/camshaftlaw05.MmuSame", spec := "mmuSame", unfollowed := true, recurses := true, apart := false }
def MmuSameSaid : Prop := mmuSameRow.holds Try.pinned (OpenSpec.ofChange mmuSameSpec)

/-- ITS FALSE NEIGHBOUR: 'it returns false'. Refute it at one input. -/
def mmuSameWrong : ChangeSpec := { name := "mmuSame", fn := fun _ => fun
  | [d1, d2, d3] => { results := [.lit (.bool false)], args := [d1, d2, d3] }
  | _ => none }
def MmuSameWrongFalsely : Prop := mmuSameRow.holds Try.pinned (OpenSpec.ofChange mmuSameWrong)

/-- 'camshaftlaw05.MmuDoes': WHATEVER THE INPUT: true; the input reads as it did. -/
def mmuDoesSpec : ChangeSpec := { name := "mmuDoes", fn := fun _ => fun
  | [d1, d2, d3] => { results := [.lit (.bool true)], args := [d1, d2, d3] }
  | _ => none }
def mmuDoesRow : OpenClaim := { program := "ytiogbgjeimdgmaa", sum := "b8de88d6f8d292c0801c99f7e572af83bda7467a0ce7bd7068410e14ad961d2b", func := "camshaft/camshaftlaw05.MmuDoes", spec := "mmuDoes", unfollowed := true, recurses := true, apart := false }
def MmuDoesSaid : Prop := mmuDoesRow.holds Try.pinned (OpenSpec.ofChange mmuDoesSpec)

/-- ITS FALSE NEIGHBOUR: 'it returns false'. Refute it at one input. -/
def mmuDoesWrong : ChangeSpec := { name := "mmuDoes", fn := fun _ => fun
  | [d1, d2, d3] => { results := [.lit (.bool false)], args := [d1, d2, d3] }
  | _ => none }
def MmuDoesWrongFalsely : Prop := mmuDoesRow.holds Try.pinned (OpenSpec.ofChange mmuDoesWrong)

/- THE SECOND FORM. 'bulk': how many values and letters a reading holds, each counted each time it is reached (what is shared counts as often as it is met; a slice's spare places count too). A statement '..UptoSaid' is the law's where the arguments, and the package variables that the reading takes, are together of bulk at most 1048576: NARROWER than '..Said'. Prove '..Said' where nothing that the law and all that it calls make is longer than what came in: it says more and counts as full. Else prove '..UptoSaid'. A law counts once. -/
mutual
def uptoBulk {H : Type} : DataW H → Nat
  | .lit (.string bytes) => bytes.length + 1
  | .lit _ => 1
  | .nil => 1
  | .ptr d => uptoBulk d + 1
  | .slice elems spare => uptoBulkAll elems + uptoBulkAll spare + 1
  | .agg parts => uptoBulkAll parts + 1
  | .iface _ d => uptoBulk d + 1
  | .map entries => uptoBulkEntries entries + 1
  | .held _ => 1
def uptoBulkAll {H : Type} : List (DataW H) → Nat
  | [] => 0
  | d :: r => uptoBulk d + uptoBulkAll r
def uptoBulkEntries {H : Type} : List (Lit × DataW H) → Nat
  | [] => 0
  | x :: r => uptoBulkEntry x + uptoBulkEntries r
def uptoBulkEntry {H : Type} : Lit × DataW H → Nat
  | (.string bytes, d) => bytes.length + uptoBulk d + 1
  | (_, d) => uptoBulk d + 1
 end
def uptoSmall : (H : Type) → List (DataW H) → Bool := fun _ ds => decide (uptoBulkAll ds ≤ 1048576)
def OpenSpec.upto (s : _root_.Go.ChangeSpec) : _root_.Go.OpenSpec := { _root_.Go.OpenSpec.ofChange s with cond := some uptoSmall }

/-- 'camshaftlaw21.FetchRuns', WHERE WHAT IT READS IS OF BULK AT MOST 1048576: true; the input reads as it did. -/
def fetchRunsUptoRow : OpenClaim := { program := "ytiogbgjeimdgmaa", sum := "b8de88d6f8d292c0801c99f7e572af83bda7467a0ce7bd7068410e14ad961d2b", func := "camshaft/camshaftlaw21.FetchRuns", spec := "fetchRuns", unfollowed := true, recurses := true, apart := false, narrowed := true }
def FetchRunsUptoSaid : Prop := fetchRunsUptoRow.holds Try.pinned (OpenSpec.upto fetchRunsSpec)

/-- 'camshaftlaw21.FetchFresh', WHERE WHAT IT READS IS OF BULK AT MOST 1048576: true; the input reads as it did. -/
def fetchFreshUptoRow : OpenClaim := { program := "ytiogbgjeimdgmaa", sum := "b8de88d6f8d292c0801c99f7e572af83bda7467a0ce7bd7068410e14ad961d2b", func := "camshaft/camshaftlaw21.FetchFresh", spec := "fetchFresh", unfollowed := true, recurses := true, apart := false, narrowed := true }
def FetchFreshUptoSaid : Prop := fetchFreshUptoRow.holds Try.pinned (OpenSpec.upto fetchFreshSpec)

/-- 'camshaftlaw05.MmuRest', WHERE WHAT IT READS IS OF BULK AT MOST 1048576: true; the input reads as it did. -/
def mmuRestUptoRow : OpenClaim := { program := "ytiogbgjeimdgmaa", sum := "b8de88d6f8d292c0801c99f7e572af83bda7467a0ce7bd7068410e14ad961d2b", func := "camshaft/camshaftlaw05.MmuRest", spec := "mmuRest", unfollowed := true, recurses := true, apart := false, narrowed := true }
def MmuRestUptoSaid : Prop := mmuRestUptoRow.holds Try.pinned (OpenSpec.upto mmuRestSpec)

/-- 'camshaftlaw05.MmuPeeks', WHERE WHAT IT READS IS OF BULK AT MOST 1048576: true; the input reads as it did. -/
def mmuPeeksUptoRow : OpenClaim := { program := "ytiogbgjeimdgmaa", sum := "b8de88d6f8d292c0801c99f7e572af83bda7467a0ce7bd7068410e14ad961d2b", func := "camshaft/camshaftlaw05.MmuPeeks", spec := "mmuPeeks", unfollowed := true, recurses := true, apart := false, narrowed := true }
def MmuPeeksUptoSaid : Prop := mmuPeeksUptoRow.holds Try.pinned (OpenSpec.upto mmuPeeksSpec)

/-- 'camshaftlaw21.FetchRoom', WHERE WHAT IT READS IS OF BULK AT MOST 1048576: true; the input reads as it did. -/
def fetchRoomUptoRow : OpenClaim := { program := "ytiogbgjeimdgmaa", sum := "b8de88d6f8d292c0801c99f7e572af83bda7467a0ce7bd7068410e14ad961d2b", func := "camshaft/camshaftlaw21.FetchRoom", spec := "fetchRoom", unfollowed := true, recurses := true, apart := false, narrowed := true }
def FetchRoomUptoSaid : Prop := fetchRoomUptoRow.holds Try.pinned (OpenSpec.upto fetchRoomSpec)

/-- 'camshaftlaw05.MmuAll', WHERE WHAT IT READS IS OF BULK AT MOST 1048576: true; the input reads as it did. -/
def mmuAllUptoRow : OpenClaim := { program := "ytiogbgjeimdgmaa", sum := "b8de88d6f8d292c0801c99f7e572af83bda7467a0ce7bd7068410e14ad961d2b", func := "camshaft/camshaftlaw05.MmuAll", spec := "mmuAll", unfollowed := true, recurses := true, apart := false, narrowed := true }
def MmuAllUptoSaid : Prop := mmuAllUptoRow.holds Try.pinned (OpenSpec.upto mmuAllSpec)

/-- 'camshaftlaw05.MmuMarks', WHERE WHAT IT READS IS OF BULK AT MOST 1048576: true; the input reads as it did. -/
def mmuMarksUptoRow : OpenClaim := { program := "ytiogbgjeimdgmaa", sum := "b8de88d6f8d292c0801c99f7e572af83bda7467a0ce7bd7068410e14ad961d2b", func := "camshaft/camshaftlaw05.MmuMarks", spec := "mmuMarks", unfollowed := true, recurses := true, apart := false, narrowed := true }
def MmuMarksUptoSaid : Prop := mmuMarksUptoRow.holds Try.pinned (OpenSpec.upto mmuMarksSpec)

/-- 'camshaftlaw21.FetchDoes', WHERE WHAT IT READS IS OF BULK AT MOST 1048576: true; the input reads as it did. -/
def fetchDoesUptoRow : OpenClaim := { program := "ytiogbgjeimdgmaa", sum := "b8de88d6f8d292c0801c99f7e572af83bda7467a0ce7bd7068410e14ad961d2b", func := "camshaft/camshaftlaw21.FetchDoes", spec := "fetchDoes", unfollowed := true, recurses := true, apart := false, narrowed := true }
def FetchDoesUptoSaid : Prop := fetchDoesUptoRow.holds Try.pinned (OpenSpec.upto fetchDoesSpec)

/-- 'camshaftlaw05.MmuSame', WHERE WHAT IT READS IS OF BULK AT MOST 1048576: true; the input reads as it did. -/
def mmuSameUptoRow : OpenClaim := { program := "ytiogbgjeimdgmaa", sum := "b8de88d6f8d292c0801c99f7e572af83bda7467a0ce7bd7068410e14ad961d2b", func := "camshaft/camshaftlaw05.MmuSame", spec := "mmuSame", unfollowed := true, recurses := true, apart := false, narrowed := true }
def MmuSameUptoSaid : Prop := mmuSameUptoRow.holds Try.pinned (OpenSpec.upto mmuSameSpec)

/-- 'camshaftlaw05.MmuDoes', WHERE WHAT IT READS IS OF BULK AT MOST 1048576: true; the input reads as it did. -/
def mmuDoesUptoRow : OpenClaim := { program := "ytiogbgjeimdgmaa", sum := "b8de88d6f8d292c0801c99f7e572af83bda7467a0ce7bd7068410e14ad961d2b", func := "camshaft/camshaftlaw05.MmuDoes", spec := "mmuDoes", unfollowed := true, recurses := true, apart := false, narrowed := true }
def MmuDoesUptoSaid : Prop := mmuDoesUptoRow.holds Try.pinned (OpenSpec.upto mmuDoesSpec)

end Rows
end Go.Proofs.Ytiogbgjeimdgmaa
