/-
  No cell of these rows narrows 'for every input' (looked for: loops, veiled, ifaces, maps, wideKeys, modest, calm, conditions, laid).
  DERIVED. THE GIVEN ROWS OF THIS SEAT. 9 by the template 'for every input the law returns true; each argument reads behind the call as it read before'; 0 by the template 'total and deterministic' (their statements: YtocjadgakalbdaaTotals.lean).
  GIVEN WITH THE SEED: the statements are not yours to turn. If you find one false, say at which input.
  Laid BY PROGRAM, IN A SANDBOX (cutbox-rows.mjs): the forced cells as the released guide's own fill.sh prints them over the translation 560b7e32b835380a… (all of the seat's roots in one cut). By AI agents, Wed Nov 11 2026. No macro, syntax, notation, axiom, sorry.
-/
import Derived.Test.YtocjadgakalbdaaChecked
import GoSem.Claim
import GoSem.ClaimJoined
import GoSem.ClaimMapViews
import Derived.JoinedTies
import Derived.KernelRfl
namespace Go.Proofs.Ytocjadgakalbdaa
/- THE CELL 'sum', in the pinned program and in every row, IS THE sha256 OF THE DUMP (.gsa) THAT YtocjadgakalbdaaProg.lean LOADS. Nothing in Lean hashes anything: it is a label: what it is worth is what the hold of that sum in a sandbox is worth. -/
noncomputable def Try.pinned : Pinned := { name := "ytocjadgakalbdaa", sum := "560b7e32b835380ab5b1d6e5e8c441cb3e258390359439f826969c7a2d2e00c4", checked := Try.checked }
namespace Rows
def none {H : Type} : Left H := { results := [], args := [] }

/-- 'camshaftlaw04.TlbLasts': WHATEVER THE INPUT: true; the input reads as it did. -/
def tlbLastsSpec : ChangeSpec := { name := "tlbLasts", fn := fun _ => fun
  | [d1, d2, d3] => { results := [.lit (.bool true)], args := [d1, d2, d3] }
  | _ => none }
def tlbLastsRow : OpenClaim := { program := "ytocjadgakalbdaa", sum := "560b7e32b835380ab5b1d6e5e8c441cb3e258390359439f826969c7a2d2e00c4", func := "camshaft/camshaftlaw04.TlbLasts", spec := "tlbLasts", unfollowed := true, recurses := true, apart := false }
def TlbLastsSaid : Prop := tlbLastsRow.holds Try.pinned (OpenSpec.ofChange tlbLastsSpec)

/-- ITS FALSE NEIGHBOUR: 'it returns false'. Refute it at one input. -/
def tlbLastsWrong : ChangeSpec := { name := "tlbLasts", fn := fun _ => fun
  | [d1, d2, d3] => { results := [.lit (.bool false)], args := [d1, d2, d3] }
  | _ => none }
def TlbLastsWrongFalsely : Prop := tlbLastsRow.holds Try.pinned (OpenSpec.ofChange tlbLastsWrong)

/-- 'camshaftlaw02.RamEnds': WHATEVER THE INPUT: true; the input reads as it did. -/
def ramEndsSpec : ChangeSpec := { name := "ramEnds", fn := fun _ => fun
  | [d1, d2] => { results := [.lit (.bool true)], args := [d1, d2] }
  | _ => none }
def ramEndsRow : OpenClaim := { program := "ytocjadgakalbdaa", sum := "560b7e32b835380ab5b1d6e5e8c441cb3e258390359439f826969c7a2d2e00c4", func := "camshaft/camshaftlaw02.RamEnds", spec := "ramEnds", apart := false }
def RamEndsSaid : Prop := ramEndsRow.holds Try.pinned (OpenSpec.ofChange ramEndsSpec)

/-- ITS FALSE NEIGHBOUR: 'it returns false'. Refute it at one input. -/
def ramEndsWrong : ChangeSpec := { name := "ramEnds", fn := fun _ => fun
  | [d1, d2] => { results := [.lit (.bool false)], args := [d1, d2] }
  | _ => none }
def RamEndsWrongFalsely : Prop := ramEndsRow.holds Try.pinned (OpenSpec.ofChange ramEndsWrong)

/-- 'camshaftlaw04.TlbKeeps': WHATEVER THE INPUT: true; the input reads as it did. -/
def tlbKeepsSpec : ChangeSpec := { name := "tlbKeeps", fn := fun _ => fun
  | [d] => { results := [.lit (.bool true)], args := [d] }
  | _ => none }
def tlbKeepsRow : OpenClaim := { program := "ytocjadgakalbdaa", sum := "560b7e32b835380ab5b1d6e5e8c441cb3e258390359439f826969c7a2d2e00c4", func := "camshaft/camshaftlaw04.TlbKeeps", spec := "tlbKeeps", unfollowed := true, recurses := true, apart := false }
def TlbKeepsSaid : Prop := tlbKeepsRow.holds Try.pinned (OpenSpec.ofChange tlbKeepsSpec)

/-- ITS FALSE NEIGHBOUR: 'it returns false'. Refute it at one input. -/
def tlbKeepsWrong : ChangeSpec := { name := "tlbKeeps", fn := fun _ => fun
  | [d] => { results := [.lit (.bool false)], args := [d] }
  | _ => none }
def TlbKeepsWrongFalsely : Prop := tlbKeepsRow.holds Try.pinned (OpenSpec.ofChange tlbKeepsWrong)

/-- 'camshaftlaw02.RamKeeps': WHATEVER THE INPUT: true; the input reads as it did. -/
def ramKeepsSpec : ChangeSpec := { name := "ramKeeps", fn := fun _ => fun
  | [d] => { results := [.lit (.bool true)], args := [d] }
  | _ => none }
def ramKeepsRow : OpenClaim := { program := "ytocjadgakalbdaa", sum := "560b7e32b835380ab5b1d6e5e8c441cb3e258390359439f826969c7a2d2e00c4", func := "camshaft/camshaftlaw02.RamKeeps", spec := "ramKeeps", apart := false }
def RamKeepsSaid : Prop := ramKeepsRow.holds Try.pinned (OpenSpec.ofChange ramKeepsSpec)

/-- ITS FALSE NEIGHBOUR: 'it returns false'. Refute it at one input. -/
def ramKeepsWrong : ChangeSpec := { name := "ramKeeps", fn := fun _ => fun
  | [d] => { results := [.lit (.bool false)], args := [d] }
  | _ => none }
def RamKeepsWrongFalsely : Prop := ramKeepsRow.holds Try.pinned (OpenSpec.ofChange ramKeepsWrong)

/-- 'camshaftlaw02.RamJoins': WHATEVER THE INPUT: true; the input reads as it did. -/
def ramJoinsSpec : ChangeSpec := { name := "ramJoins", fn := fun _ => fun
  | [d1, d2] => { results := [.lit (.bool true)], args := [d1, d2] }
  | _ => none }
def ramJoinsRow : OpenClaim := { program := "ytocjadgakalbdaa", sum := "560b7e32b835380ab5b1d6e5e8c441cb3e258390359439f826969c7a2d2e00c4", func := "camshaft/camshaftlaw02.RamJoins", spec := "ramJoins", apart := false }
def RamJoinsSaid : Prop := ramJoinsRow.holds Try.pinned (OpenSpec.ofChange ramJoinsSpec)

/-- ITS FALSE NEIGHBOUR: 'it returns false'. Refute it at one input. -/
def ramJoinsWrong : ChangeSpec := { name := "ramJoins", fn := fun _ => fun
  | [d1, d2] => { results := [.lit (.bool false)], args := [d1, d2] }
  | _ => none }
def RamJoinsWrongFalsely : Prop := ramJoinsRow.holds Try.pinned (OpenSpec.ofChange ramJoinsWrong)

/-- 'camshaftlaw04.TlbTwice': WHATEVER THE INPUT: true; the input reads as it did. -/
def tlbTwiceSpec : ChangeSpec := { name := "tlbTwice", fn := fun _ => fun
  | [d1, d2, d3] => { results := [.lit (.bool true)], args := [d1, d2, d3] }
  | _ => none }
def tlbTwiceRow : OpenClaim := { program := "ytocjadgakalbdaa", sum := "560b7e32b835380ab5b1d6e5e8c441cb3e258390359439f826969c7a2d2e00c4", func := "camshaft/camshaftlaw04.TlbTwice", spec := "tlbTwice", unfollowed := true, recurses := true, apart := false }
def TlbTwiceSaid : Prop := tlbTwiceRow.holds Try.pinned (OpenSpec.ofChange tlbTwiceSpec)

/-- ITS FALSE NEIGHBOUR: 'it returns false'. Refute it at one input. -/
def tlbTwiceWrong : ChangeSpec := { name := "tlbTwice", fn := fun _ => fun
  | [d1, d2, d3] => { results := [.lit (.bool false)], args := [d1, d2, d3] }
  | _ => none }
def TlbTwiceWrongFalsely : Prop := tlbTwiceRow.holds Try.pinned (OpenSpec.ofChange tlbTwiceWrong)

/-- 'camshaftlaw04.TlbDoes': WHATEVER THE INPUT: true; the input reads as it did. -/
def tlbDoesSpec : ChangeSpec := { name := "tlbDoes", fn := fun _ => fun
  | [d] => { results := [.lit (.bool true)], args := [d] }
  | _ => none }
def tlbDoesRow : OpenClaim := { program := "ytocjadgakalbdaa", sum := "560b7e32b835380ab5b1d6e5e8c441cb3e258390359439f826969c7a2d2e00c4", func := "camshaft/camshaftlaw04.TlbDoes", spec := "tlbDoes", unfollowed := true, recurses := true, apart := false }
def TlbDoesSaid : Prop := tlbDoesRow.holds Try.pinned (OpenSpec.ofChange tlbDoesSpec)

/-- ITS FALSE NEIGHBOUR: 'it returns false'. Refute it at one input. -/
def tlbDoesWrong : ChangeSpec := { name := "tlbDoes", fn := fun _ => fun
  | [d] => { results := [.lit (.bool false)], args := [d] }
  | _ => none }
def TlbDoesWrongFalsely : Prop := tlbDoesRow.holds Try.pinned (OpenSpec.ofChange tlbDoesWrong)

/-- 'camshaftlaw04.TlbApart': WHATEVER THE INPUT: true; the input reads as it did. -/
def tlbApartSpec : ChangeSpec := { name := "tlbApart", fn := fun _ => fun
  | [d1, d2] => { results := [.lit (.bool true)], args := [d1, d2] }
  | _ => none }
def tlbApartRow : OpenClaim := { program := "ytocjadgakalbdaa", sum := "560b7e32b835380ab5b1d6e5e8c441cb3e258390359439f826969c7a2d2e00c4", func := "camshaft/camshaftlaw04.TlbApart", spec := "tlbApart", unfollowed := true, recurses := true, apart := false }
def TlbApartSaid : Prop := tlbApartRow.holds Try.pinned (OpenSpec.ofChange tlbApartSpec)

/-- ITS FALSE NEIGHBOUR: 'it returns false'. Refute it at one input. -/
def tlbApartWrong : ChangeSpec := { name := "tlbApart", fn := fun _ => fun
  | [d1, d2] => { results := [.lit (.bool false)], args := [d1, d2] }
  | _ => none }
def TlbApartWrongFalsely : Prop := tlbApartRow.holds Try.pinned (OpenSpec.ofChange tlbApartWrong)

/-- 'camshaftlaw02.RamCopies': WHATEVER THE INPUT: true; the input reads as it did. -/
def ramCopiesSpec : ChangeSpec := { name := "ramCopies", fn := fun _ => fun
  | [d1, d2, d3] => { results := [.lit (.bool true)], args := [d1, d2, d3] }
  | _ => none }
def ramCopiesRow : OpenClaim := { program := "ytocjadgakalbdaa", sum := "560b7e32b835380ab5b1d6e5e8c441cb3e258390359439f826969c7a2d2e00c4", func := "camshaft/camshaftlaw02.RamCopies", spec := "ramCopies", apart := false }
def RamCopiesSaid : Prop := ramCopiesRow.holds Try.pinned (OpenSpec.ofChange ramCopiesSpec)

/-- ITS FALSE NEIGHBOUR: 'it returns false'. Refute it at one input. -/
def ramCopiesWrong : ChangeSpec := { name := "ramCopies", fn := fun _ => fun
  | [d1, d2, d3] => { results := [.lit (.bool false)], args := [d1, d2, d3] }
  | _ => none }
def RamCopiesWrongFalsely : Prop := ramCopiesRow.holds Try.pinned (OpenSpec.ofChange ramCopiesWrong)

/- THE SECOND FORM. 'bulk': how many values and letters a reading holds, each counted each time it is reached (what is shared counts as often as it is met; a slice's spare places count too). A statement '..UptoSaid' is the law's where the arguments, and the package variables that the reading takes, are together of bulk at most 1048576: NARROWER than '..Said'. Prove '..Said' where nothing that the law and all that it calls make is longer than what came in: it says more and counts as full. Else prove '..UptoSaid'. A law counts once. -/
mutual
def uptoBulk {H : Type} : DataW H → Nat
  | .lit (.string bytes) => bytes.length + 1
  | .lit _ => 1
  | .nil => 1
  | .ptr d => uptoBulk d + 1
  | .slice elems spare => uptoBulkAll elems + uptoBulkAll spare + 1
  | .agg parts => uptoBulkAll parts + 1
  | .iface _ d => uptoBulk d + 1
  | .map entries => uptoBulkEntries entries + 1
  | .held _ => 1
def uptoBulkAll {H : Type} : List (DataW H) → Nat
  | [] => 0
  | d :: r => uptoBulk d + uptoBulkAll r
def uptoBulkEntries {H : Type} : List (Lit × DataW H) → Nat
  | [] => 0
  | x :: r => uptoBulkEntry x + uptoBulkEntries r
def uptoBulkEntry {H : Type} : Lit × DataW H → Nat
  | (.string bytes, d) => bytes.length + uptoBulk d + 1
  | (_, d) => uptoBulk d + 1
 end
def uptoSmall : (H : Type) → List (DataW H) → Bool := fun _ ds => decide (uptoBulkAll ds ≤ 1048576)
def OpenSpec.upto (s : _root_.Go.ChangeSpec) : _root_.Go.OpenSpec := { _root_.Go.OpenSpec.ofChange s with cond := some uptoSmall }

/-- 'camshaftlaw04.TlbLasts', WHERE WHAT IT READS IS OF BULK AT MOST 1048576: true; the input reads as it did. -/
def tlbLastsUptoRow : OpenClaim := { program := "ytocjadgakalbdaa", sum := "560b7e32b835380ab5b1d6e5e8c441cb3e258390359439f826969c7a2d2e00c4", func := "camshaft/camshaftlaw04.TlbLasts", spec := "tlbLasts", unfollowed := true, recurses := true, apart := false, narrowed := true }
def TlbLastsUptoSaid : Prop := tlbLastsUptoRow.holds Try.pinned (OpenSpec.upto tlbLastsSpec)

/-- 'camshaftlaw02.RamEnds', WHERE WHAT IT READS IS OF BULK AT MOST 1048576: true; the input reads as it did. -/
def ramEndsUptoRow : OpenClaim := { program := "ytocjadgakalbdaa", sum := "560b7e32b835380ab5b1d6e5e8c441cb3e258390359439f826969c7a2d2e00c4", func := "camshaft/camshaftlaw02.RamEnds", spec := "ramEnds", apart := false, narrowed := true }
def RamEndsUptoSaid : Prop := ramEndsUptoRow.holds Try.pinned (OpenSpec.upto ramEndsSpec)

/-- 'camshaftlaw04.TlbKeeps', WHERE WHAT IT READS IS OF BULK AT MOST 1048576: true; the input reads as it did. -/
def tlbKeepsUptoRow : OpenClaim := { program := "ytocjadgakalbdaa", sum := "560b7e32b835380ab5b1d6e5e8c441cb3e258390359439f826969c7a2d2e00c4", func := "camshaft/camshaftlaw04.TlbKeeps", spec := "tlbKeeps", unfollowed := true, recurses := true, apart := false, narrowed := true }
def TlbKeepsUptoSaid : Prop := tlbKeepsUptoRow.holds Try.pinned (OpenSpec.upto tlbKeepsSpec)

/-- 'camshaftlaw02.RamKeeps', WHERE WHAT IT READS IS OF BULK AT MOST 1048576: true; the input reads as it did. -/
def ramKeepsUptoRow : OpenClaim := { program := "ytocjadgakalbdaa", sum := "560b7e32b835380ab5b1d6e5e8c441cb3e258390359439f826969c7a2d2e00c4", func := "camshaft/camshaftlaw02.RamKeeps", spec := "ramKeeps", apart := false, narrowed := true }
def RamKeepsUptoSaid : Prop := ramKeepsUptoRow.holds Try.pinned (OpenSpec.upto ramKeepsSpec)

/-- 'camshaftlaw02.RamJoins', WHERE WHAT IT READS IS OF BULK AT MOST 1048576: true; the input reads as it did. -/
def ramJoinsUptoRow : OpenClaim := { program := "ytocjadgakalbdaa", sum := "560b7e32b835380ab5b1d6e5e8c441cb3e258390359439f826969c7a2d2e00c4", func := "camshaft/camshaftlaw02.RamJoins", spec := "ramJoins", apart := false, narrowed := true }
def RamJoinsUptoSaid : Prop := ramJoinsUptoRow.holds Try.pinned (OpenSpec.upto ramJoinsSpec)

/-- 'camshaftlaw04.TlbTwice', WHERE WHAT IT READS IS OF BULK AT MOST 1048576: true; the input reads as it did. -/
def tlbTwiceUptoRow : OpenClaim := { program := "ytocjadgakalbdaa", sum := "560b7e32b835380ab5b1d6e5e8c441cb3e258390359439f826969c7a2d2e00c4", func := "camshaft/camshaftlaw04.TlbTwice", spec := "tlbTwice", unfollowed := true, recurses := true, apart := false, narrowed := true }
def TlbTwiceUptoSaid : Prop := tlbTwiceUptoRow.holds Try.pinned (OpenSpec.upto tlbTwiceSpec)

/-- 'camshaftlaw04.TlbDoes', WHERE WHAT IT READS IS OF BULK AT MOST 1048576: true; the input reads as it did. -/
def tlbDoesUptoRow : OpenClaim := { program := "ytocjadgakalbdaa", sum := "560b7e32b835380ab5b1d6e5e8c441cb3e258390359439f826969c7a2d2e00c4", func := "camshaft/camshaftlaw04.TlbDoes", spec := "tlbDoes", unfollowed := true, recurses := true, apart := false, narrowed := true }
def TlbDoesUptoSaid : Prop := tlbDoesUptoRow.holds Try.pinned (OpenSpec.upto tlbDoesSpec)

/-- 'camshaftlaw04.TlbApart', WHERE WHAT IT READS IS OF BULK AT MOST 1048576: true; the input reads as it did. -/
def tlbApartUptoRow : OpenClaim := { program := "ytocjadgakalbdaa", sum := "560b7e32b835380ab5b1d6e5e8c441cb3e258390359439f826969c7a2d2e00c4", func := "camshaft/camshaftlaw04.TlbApart", spec := "tlbApart", unfollowed := true, recurses := true, apart := false, narrowed := true }
def TlbApartUptoSaid : Prop := tlbApartUptoRow.holds Try.pinned (OpenSpec.upto tlbApartSpec)

/-- 'camshaftlaw02.RamCopies', WHERE WHAT IT READS IS OF BULK AT MOST 1048576: true; the input reads as it did. -/
def ramCopiesUptoRow : OpenClaim := { program := "ytocjadgakalbdaa", sum := "560b7e32b835380ab5b1d6e5e8c441cb3e258390359439f826969c7a2d2e00c4", func := "camshaft/camshaftlaw02.RamCopies", spec := "ramCopies", apart := false, narrowed := true }
def RamCopiesUptoSaid : Prop := ramCopiesUptoRow.holds Try.pinned (OpenSpec.upto ramCopiesSpec)

end Rows
end Go.Proofs.Ytocjadgakalbdaa
