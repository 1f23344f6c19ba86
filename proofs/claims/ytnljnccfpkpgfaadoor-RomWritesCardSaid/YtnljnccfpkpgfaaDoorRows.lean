/-
  NARROWER THAN 'FOR EVERY INPUT', by the rows' own cells (each row's printed sentence says how): RomWrites: laid · RomReads: laid · RomBack: laid · RomKeeps: laid · RomFinds: laid.
  DERIVED. THE GIVEN ROWS OF THIS SEAT. 5 by the template 'for every input the law returns true; each argument reads behind the call as it read before'; 0 by the template 'total and deterministic' (their statements: YtnljnccfpkpgfaaDoorTotals.lean).
  GIVEN WITH THE SEED: the statements are not yours to turn. If you find one false, say at which input.
  Laid BY PROGRAM, IN A SANDBOX (cutbox-rows.mjs): the forced cells as the released guide's own fill.sh prints them over the translation f9d463cb52db3a26… (all of the seat's roots in one cut). By AI agents, Wed Nov 11 2026. No macro, syntax, notation, axiom, sorry.
-/
import Derived.Test.YtnljnccfpkpgfaaDoorChecked
import GoSem.PinnedTables
import GoSem.Claim
import GoSem.ClaimJoined
import GoSem.ClaimMapViews
import Derived.JoinedTies
import Derived.KernelRfl
namespace Go.Proofs.YtnljnccfpkpgfaaDoor
/- THE CELL 'sum', in the pinned program and in every row, IS THE sha256 OF THE DUMP (.gsa) THAT YtnljnccfpkpgfaaDoorProg.lean LOADS. Nothing in Lean hashes anything: it is a label: what it is worth is what the hold of that sum in a sandbox is worth. -/
noncomputable def Tryd.pinned : Pinned := { name := "ytnljnccfpkpgfaadoor", sum := "f9d463cb52db3a26055b969cf09afb4435a79e22484813f245e8084baa8da39d", checked := Tryd.checked }
namespace Rows
def none {H : Type} : Left H := { results := [], args := [] }

/- WHAT THE LISTED PACKAGE-LEVEL VARIABLES READ AS WHEN THE CALL BEGINS. Each datum BY PROGRAM (the guide's laid-datum.mjs) off the statement by which the dump's own 'gosem.cut.vars' lays the variable. In a bare row this is a premise. The card (YtnljnccfpkpgfaaDoorCards.lean) ties it to the program's text. -/
def laid_unicode_utf8_acceptRanges {H : Type} : DataW H := .agg [.agg [.lit (.int .u8 128), .lit (.int .u8 191)], .agg [.lit (.int .u8 160), .lit (.int .u8 191)], .agg [.lit (.int .u8 128), .lit (.int .u8 159)], .agg [.lit (.int .u8 144), .lit (.int .u8 191)], .agg [.lit (.int .u8 128), .lit (.int .u8 143)], .agg [.lit (.int .u8 0), .lit (.int .u8 0)], .agg [.lit (.int .u8 0), .lit (.int .u8 0)], .agg [.lit (.int .u8 0), .lit (.int .u8 0)], .agg [.lit (.int .u8 0), .lit (.int .u8 0)], .agg [.lit (.int .u8 0), .lit (.int .u8 0)], .agg [.lit (.int .u8 0), .lit (.int .u8 0)], .agg [.lit (.int .u8 0), .lit (.int .u8 0)], .agg [.lit (.int .u8 0), .lit (.int .u8 0)], .agg [.lit (.int .u8 0), .lit (.int .u8 0)], .agg [.lit (.int .u8 0), .lit (.int .u8 0)], .agg [.lit (.int .u8 0), .lit (.int .u8 0)]]
/-- One of Go's own tables, pinned by name: the form's constant. -/
def laid_unicode_utf8_first : DataW Unit := Go.Pinned.utf8First

/-- 'camshaftlaw18.RomWrites': WHATEVER THE INPUT: true; the input reads as it did. -/
def romWritesSpec : ChangeSpec := { name := "romWrites", fn := fun _ => fun
  | [d1, d2] => { results := [.lit (.bool true)], args := [d1, d2] }
  | _ => none }
def romWritesRow : OpenClaim := { program := "ytnljnccfpkpgfaadoor", sum := "f9d463cb52db3a26055b969cf09afb4435a79e22484813f245e8084baa8da39d", func := "camshaft/camshaftlaw18.RomWrites", spec := "romWrites", inPlace := ["internal/bytealg.IndexByteString", "internal/bytealg.IndexString"], unfollowed := true, recurses := true, named := ["unicode/utf8.first", "unicode/utf8.acceptRanges", "internal/bytealg.MaxLen"], apart := false, laid := [("unicode/utf8.acceptRanges", laid_unicode_utf8_acceptRanges), ("unicode/utf8.first", laid_unicode_utf8_first)] }
def RomWritesSaid : Prop := romWritesRow.holds Tryd.pinned (OpenSpec.ofChange romWritesSpec)

/-- ITS FALSE NEIGHBOUR: 'it returns false'. Refute it at one input. -/
def romWritesWrong : ChangeSpec := { name := "romWrites", fn := fun _ => fun
  | [d1, d2] => { results := [.lit (.bool false)], args := [d1, d2] }
  | _ => none }
def RomWritesWrongFalsely : Prop := romWritesRow.holds Tryd.pinned (OpenSpec.ofChange romWritesWrong)

/-- 'camshaftlaw18.RomReads': WHATEVER THE INPUT: true; the input reads as it did. -/
def romReadsSpec : ChangeSpec := { name := "romReads", fn := fun _ => fun
  | [d] => { results := [.lit (.bool true)], args := [d] }
  | _ => none }
def romReadsRow : OpenClaim := { program := "ytnljnccfpkpgfaadoor", sum := "f9d463cb52db3a26055b969cf09afb4435a79e22484813f245e8084baa8da39d", func := "camshaft/camshaftlaw18.RomReads", spec := "romReads", inPlace := ["internal/bytealg.IndexByteString", "internal/bytealg.IndexString"], unfollowed := true, recurses := true, named := ["unicode/utf8.first", "unicode/utf8.acceptRanges", "internal/bytealg.MaxLen"], apart := false, laid := [("unicode/utf8.acceptRanges", laid_unicode_utf8_acceptRanges), ("unicode/utf8.first", laid_unicode_utf8_first)] }
def RomReadsSaid : Prop := romReadsRow.holds Tryd.pinned (OpenSpec.ofChange romReadsSpec)

/-- ITS FALSE NEIGHBOUR: 'it returns false'. Refute it at one input. -/
def romReadsWrong : ChangeSpec := { name := "romReads", fn := fun _ => fun
  | [d] => { results := [.lit (.bool false)], args := [d] }
  | _ => none }
def RomReadsWrongFalsely : Prop := romReadsRow.holds Tryd.pinned (OpenSpec.ofChange romReadsWrong)

/-- 'camshaftlaw18.RomBack': WHATEVER THE INPUT: true; the input reads as it did. -/
def romBackSpec : ChangeSpec := { name := "romBack", fn := fun _ => fun
  | [d1, d2, d3, d4] => { results := [.lit (.bool true)], args := [d1, d2, d3, d4] }
  | _ => none }
def romBackRow : OpenClaim := { program := "ytnljnccfpkpgfaadoor", sum := "f9d463cb52db3a26055b969cf09afb4435a79e22484813f245e8084baa8da39d", func := "camshaft/camshaftlaw18.RomBack", spec := "romBack", inPlace := ["internal/bytealg.IndexByteString", "internal/bytealg.IndexString"], unfollowed := true, recurses := true, named := ["unicode/utf8.first", "unicode/utf8.acceptRanges", "internal/bytealg.MaxLen"], apart := false, laid := [("unicode/utf8.acceptRanges", laid_unicode_utf8_acceptRanges), ("unicode/utf8.first", laid_unicode_utf8_first)] }
def RomBackSaid : Prop := romBackRow.holds Tryd.pinned (OpenSpec.ofChange romBackSpec)

/-- ITS FALSE NEIGHBOUR: 'it returns false'. Refute it at one input. -/
def romBackWrong : ChangeSpec := { name := "romBack", fn := fun _ => fun
  | [d1, d2, d3, d4] => { results := [.lit (.bool false)], args := [d1, d2, d3, d4] }
  | _ => none }
def RomBackWrongFalsely : Prop := romBackRow.holds Tryd.pinned (OpenSpec.ofChange romBackWrong)

/-- 'camshaftlaw18.RomKeeps': WHATEVER THE INPUT: true; the input reads as it did. -/
def romKeepsSpec : ChangeSpec := { name := "romKeeps", fn := fun _ => fun
  | [d] => { results := [.lit (.bool true)], args := [d] }
  | _ => none }
def romKeepsRow : OpenClaim := { program := "ytnljnccfpkpgfaadoor", sum := "f9d463cb52db3a26055b969cf09afb4435a79e22484813f245e8084baa8da39d", func := "camshaft/camshaftlaw18.RomKeeps", spec := "romKeeps", inPlace := ["internal/bytealg.IndexByteString", "internal/bytealg.IndexString"], unfollowed := true, recurses := true, named := ["unicode/utf8.first", "unicode/utf8.acceptRanges", "internal/bytealg.MaxLen"], apart := false, laid := [("unicode/utf8.acceptRanges", laid_unicode_utf8_acceptRanges), ("unicode/utf8.first", laid_unicode_utf8_first)] }
def RomKeepsSaid : Prop := romKeepsRow.holds Tryd.pinned (OpenSpec.ofChange romKeepsSpec)

/-- ITS FALSE NEIGHBOUR: 'it returns false'. Refute it at one input. -/
def romKeepsWrong : ChangeSpec := { name := "romKeeps", fn := fun _ => fun
  | [d] => { results := [.lit (.bool false)], args := [d] }
  | _ => none }
def RomKeepsWrongFalsely : Prop := romKeepsRow.holds Tryd.pinned (OpenSpec.ofChange romKeepsWrong)

/-- 'camshaftlaw18.RomFinds': WHATEVER THE INPUT: true; the input reads as it did. -/
def romFindsSpec : ChangeSpec := { name := "romFinds", fn := fun _ => fun
  | [d] => { results := [.lit (.bool true)], args := [d] }
  | _ => none }
def romFindsRow : OpenClaim := { program := "ytnljnccfpkpgfaadoor", sum := "f9d463cb52db3a26055b969cf09afb4435a79e22484813f245e8084baa8da39d", func := "camshaft/camshaftlaw18.RomFinds", spec := "romFinds", inPlace := ["internal/bytealg.IndexByteString", "internal/bytealg.IndexString"], unfollowed := true, recurses := true, named := ["unicode/utf8.first", "unicode/utf8.acceptRanges", "internal/bytealg.MaxLen"], apart := false, laid := [("unicode/utf8.acceptRanges", laid_unicode_utf8_acceptRanges), ("unicode/utf8.first", laid_unicode_utf8_first)] }
def RomFindsSaid : Prop := romFindsRow.holds Tryd.pinned (OpenSpec.ofChange romFindsSpec)

/-- ITS FALSE NEIGHBOUR: 'it returns false'. Refute it at one input. -/
def romFindsWrong : ChangeSpec := { name := "romFinds", fn := fun _ => fun
  | [d] => { results := [.lit (.bool false)], args := [d] }
  | _ => none }
def RomFindsWrongFalsely : Prop := romFindsRow.holds Tryd.pinned (OpenSpec.ofChange romFindsWrong)

/- THE SECOND FORM. 'bulk': how many values and letters a reading holds, each counted each time it is reached (what is shared counts as often as it is met; a slice's spare places count too). A statement '..UptoSaid' is the law's where the arguments, and the package variables that the reading takes, are together of bulk at most 1048576: NARROWER than '..Said'. Prove '..Said' where nothing that the law and all that it calls make is longer than what came in: it says more and counts as full. Else prove '..UptoSaid'. A law counts once. -/
mutual
def uptoBulk {H : Type} : DataW H → Nat
  | .lit (.string bytes) => bytes.length + 1
  | .lit _ => 1
  | .nil => 1
  | .ptr d => uptoBulk d + 1
  | .slice elems spare => uptoBulkAll elems + uptoBulkAll spare + 1
  | .agg parts => uptoBulkAll parts + 1
  | .iface _ d => uptoBulk d + 1
  | .map entries => uptoBulkEntries entries + 1
  | .held _ => 1
def uptoBulkAll {H : Type} : List (DataW H) → Nat
  | [] => 0
  | d :: r => uptoBulk d + uptoBulkAll r
def uptoBulkEntries {H : Type} : List (Lit × DataW H) → Nat
  | [] => 0
  | x :: r => uptoBulkEntry x + uptoBulkEntries r
def uptoBulkEntry {H : Type} : Lit × DataW H → Nat
  | (.string bytes, d) => bytes.length + uptoBulk d + 1
  | (_, d) => uptoBulk d + 1
 end
def uptoSmall : (H : Type) → List (DataW H) → Bool := fun _ ds => decide (uptoBulkAll ds ≤ 1048576)
def OpenSpec.upto (s : _root_.Go.ChangeSpec) : _root_.Go.OpenSpec := { _root_.Go.OpenSpec.ofChange s with cond := some uptoSmall }

/-- 'camshaftlaw18.RomWrites', WHERE WHAT IT READS IS OF BULK AT MOST 1048576: true; the input reads as it did. -/
def romWritesUptoRow : OpenClaim := { program := "ytnljnccfpkpgfaadoor", sum := "f9d463cb52db3a26055b969cf09afb4435a79e22484813f245e8084baa8da39d", func := "camshaft/camshaftlaw18.RomWrites", spec := "romWrites", inPlace := ["internal/bytealg.IndexByteString", "internal/bytealg.IndexString"], unfollowed := true, recurses := true, named := ["unicode/utf8.first", "unicode/utf8.acceptRanges", "internal/bytealg.MaxLen"], apart := false, laid := [("unicode/utf8.acceptRanges", laid_unicode_utf8_acceptRanges), ("unicode/utf8.first", laid_unicode_utf8_first)], narrowed := true }
def RomWritesUptoSaid : Prop := romWritesUptoRow.holds Tryd.pinned (OpenSpec.upto romWritesSpec)

/-- 'camshaftlaw18.RomReads', WHERE WHAT IT READS IS OF BULK AT MOST 1048576: true; the input reads as it did. -/
def romReadsUptoRow : OpenClaim := { program := "ytnljnccfpkpgfaadoor", sum := "f9d463cb52db3a26055b969cf09afb4435a79e22484813f245e8084baa8da39d", func := "camshaft/camshaftlaw18.RomReads", spec := "romReads", inPlace := ["internal/bytealg.IndexByteString", "internal/bytealg.IndexString"], unfollowed := true, recurses := true, named := ["unicode/utf8.first", "unicode/utf8.acceptRanges", "internal/bytealg.MaxLen"], apart := false, laid := [("unicode/utf8.acceptRanges", laid_unicode_utf8_acceptRanges), ("unicode/utf8.first", laid_unicode_utf8_first)], narrowed := true }
def RomReadsUptoSaid : Prop := romReadsUptoRow.holds Tryd.pinned (OpenSpec.upto romReadsSpec)

/-- 'camshaftlaw18.RomBack', WHERE WHAT IT READS IS OF BULK AT MOST 1048576: true; the input reads as it did. -/
def romBackUptoRow : OpenClaim := { program := "ytnljnccfpkpgfaadoor", sum := "f9d463cb52db3a26055b969cf09afb4435a79e22484813f245e8084baa8da39d", func := "camshaft/camshaftlaw18.RomBack", spec := "romBack", inPlace := ["internal/bytealg.IndexByteString", "internal/bytealg.IndexString"], unfollowed := true, recurses := true, named := ["unicode/utf8.first", "unicode/utf8.acceptRanges", "internal/bytealg.MaxLen"], apart := false, laid := [("unicode/utf8.acceptRanges", laid_unicode_utf8_acceptRanges), ("unicode/utf8.first", laid_unicode_utf8_first)], narrowed := true }
def RomBackUptoSaid : Prop := romBackUptoRow.holds Tryd.pinned (OpenSpec.upto romBackSpec)

/-- 'camshaftlaw18.RomKeeps', WHERE WHAT IT READS IS OF BULK AT MOST 1048576: true; the input reads as it did. -/
def romKeepsUptoRow : OpenClaim := { program := "ytnljnccfpkpgfaadoor", sum := "f9d463cb52db3a26055b969cf09afb4435a79e22484813f245e8084baa8da39d", func := "camshaft/camshaftlaw18.RomKeeps", spec := "romKeeps", inPlace := ["internal/bytealg.IndexByteString", "internal/bytealg.IndexString"], unfollowed := true, recurses := true, named := ["unicode/utf8.first", "unicode/utf8.acceptRanges", "internal/bytealg.MaxLen"], apart := false, laid := [("unicode/utf8.acceptRanges", laid_unicode_utf8_acceptRanges), ("unicode/utf8.first", laid_unicode_utf8_first)], narrowed := true }
def RomKeepsUptoSaid : Prop := romKeepsUptoRow.holds Tryd.pinned (OpenSpec.upto romKeepsSpec)

/-- 'camshaftlaw18.RomFinds', WHERE WHAT IT READS IS OF BULK AT MOST 1048576: true; the input reads as it did. -/
def romFindsUptoRow : OpenClaim := { program := "ytnljnccfpkpgfaadoor", sum := "f9d463cb52db3a26055b969cf09afb4435a79e22484813f245e8084baa8da39d", func := "camshaft/camshaftlaw18.RomFinds", spec := "romFinds", inPlace := ["internal/bytealg.IndexByteString", "internal/bytealg.IndexString"], unfollowed := true, recurses := true, named := ["unicode/utf8.first", "unicode/utf8.acceptRanges", "internal/bytealg.MaxLen"], apart := false, laid := [("unicode/utf8.acceptRanges", laid_unicode_utf8_acceptRanges), ("unicode/utf8.first", laid_unicode_utf8_first)], narrowed := true }
def RomFindsUptoSaid : Prop := romFindsUptoRow.holds Tryd.pinned (OpenSpec.upto romFindsSpec)

end Rows
end Go.Proofs.YtnljnccfpkpgfaaDoor
