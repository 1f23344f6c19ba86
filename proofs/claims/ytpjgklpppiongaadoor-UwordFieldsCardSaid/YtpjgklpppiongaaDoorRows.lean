/-
  NARROWER THAN 'FOR EVERY INPUT', by the rows' own cells (each row's printed sentence says how): UwordPacks: laid · UwordBack: laid · UwordNothing: laid · UwordParts: laid · UwordSets: laid · UwordFields: laid.
  DERIVED. THE GIVEN ROWS OF THIS SEAT. 6 by the template 'for every input the law returns true; each argument reads behind the call as it read before'; 0 by the template 'total and deterministic' (their statements: YtpjgklpppiongaaDoorTotals.lean).
  GIVEN WITH THE SEED: the statements are not yours to turn. If you find one false, say at which input.
  Laid BY PROGRAM, IN A SANDBOX (cutbox-rows.mjs): the forced cells as the released guide's own fill.sh prints them over the translation bc394173d2048e0f… (all of the seat's roots in one cut). By AI agents, Wed Nov 11 2026. No macro, syntax, notation, axiom, sorry.
-/
import Derived.Test.YtpjgklpppiongaaDoorChecked
import GoSem.Claim
import GoSem.ClaimJoined
import GoSem.ClaimMapViews
import Derived.JoinedTies
import Derived.KernelRfl
namespace Go.Proofs.YtpjgklpppiongaaDoor
/- THE CELL 'sum', in the pinned program and in every row, IS THE sha256 OF THE DUMP (.gsa) THAT YtpjgklpppiongaaDoorProg.lean LOADS. Nothing in Lean hashes anything: it is a label: what it is worth is what the hold of that sum in a sandbox is worth. -/
noncomputable def Tryd.pinned : Pinned := { name := "ytpjgklpppiongaadoor", sum := "bc394173d2048e0f86a9ef1e702c263b05c1987671795fb9454825d33d54a5b7", checked := Tryd.checked }
namespace Rows
def none {H : Type} : Left H := { results := [], args := [] }

/- WHAT THE LISTED PACKAGE-LEVEL VARIABLES READ AS WHEN THE CALL BEGINS. Each datum BY PROGRAM (the guide's laid-datum.mjs) off the statement by which the dump's own 'gosem.cut.vars' lays the variable. In a bare row this is a premise. The card (YtpjgklpppiongaaDoorCards.lean) ties it to the program's text. -/
def laid_camshaft_uword_fields {H : Type} : DataW H := .agg [.agg [.lit (.string [97, 108, 117]), .lit (.int .i64 5)], .agg [.lit (.string [97]), .lit (.int .i64 6)], .agg [.lit (.string [98]), .lit (.int .i64 6)], .agg [.lit (.string [100]), .lit (.int .i64 6)], .agg [.lit (.string [108, 105, 116]), .lit (.int .i64 8)], .agg [.lit (.string [115, 105, 122, 101]), .lit (.int .i64 2)], .agg [.lit (.string [99, 99]), .lit (.int .i64 2)], .agg [.lit (.string [109, 101, 109]), .lit (.int .i64 4)], .agg [.lit (.string [115, 101, 113]), .lit (.int .i64 3)], .agg [.lit (.string [99, 111, 110, 100]), .lit (.int .i64 5)], .agg [.lit (.string [116, 111]), .lit (.int .i64 11)], .agg [.lit (.string [109, 105, 115, 99]), .lit (.int .i64 6)]]

/-- 'camshaftlaw14.UwordPacks': WHATEVER THE INPUT: true; the input reads as it did. -/
def uwordPacksSpec : ChangeSpec := { name := "uwordPacks", fn := fun _ => fun
  | [d1, d2] => { results := [.lit (.bool true)], args := [d1, d2] }
  | _ => none }
def uwordPacksRow : OpenClaim := { program := "ytpjgklpppiongaadoor", sum := "bc394173d2048e0f86a9ef1e702c263b05c1987671795fb9454825d33d54a5b7", func := "camshaft/camshaftlaw14.UwordPacks", spec := "uwordPacks", named := ["camshaft/uword.fields"], apart := false, laid := [("camshaft/uword.fields", laid_camshaft_uword_fields)] }
def UwordPacksSaid : Prop := uwordPacksRow.holds Tryd.pinned (OpenSpec.ofChange uwordPacksSpec)

/-- ITS FALSE NEIGHBOUR: 'it returns false'. Refute it at one input. -/
def uwordPacksWrong : ChangeSpec := { name := "uwordPacks", fn := fun _ => fun
  | [d1, d2] => { results := [.lit (.bool false)], args := [d1, d2] }
  | _ => none }
def UwordPacksWrongFalsely : Prop := uwordPacksRow.holds Tryd.pinned (OpenSpec.ofChange uwordPacksWrong)

/-- 'camshaftlaw14.UwordBack': WHATEVER THE INPUT: true; the input reads as it did. -/
def uwordBackSpec : ChangeSpec := { name := "uwordBack", fn := fun _ => fun
  | [d1, d2] => { results := [.lit (.bool true)], args := [d1, d2] }
  | _ => none }
def uwordBackRow : OpenClaim := { program := "ytpjgklpppiongaadoor", sum := "bc394173d2048e0f86a9ef1e702c263b05c1987671795fb9454825d33d54a5b7", func := "camshaft/camshaftlaw14.UwordBack", spec := "uwordBack", named := ["camshaft/uword.fields"], apart := false, laid := [("camshaft/uword.fields", laid_camshaft_uword_fields)] }
def UwordBackSaid : Prop := uwordBackRow.holds Tryd.pinned (OpenSpec.ofChange uwordBackSpec)

/-- ITS FALSE NEIGHBOUR: 'it returns false'. Refute it at one input. -/
def uwordBackWrong : ChangeSpec := { name := "uwordBack", fn := fun _ => fun
  | [d1, d2] => { results := [.lit (.bool false)], args := [d1, d2] }
  | _ => none }
def UwordBackWrongFalsely : Prop := uwordBackRow.holds Tryd.pinned (OpenSpec.ofChange uwordBackWrong)

/-- 'camshaftlaw14.UwordNothing': WHATEVER THE INPUT: true; the input reads as it did. -/
def uwordNothingSpec : ChangeSpec := { name := "uwordNothing", fn := fun _ => fun
  | [d] => { results := [.lit (.bool true)], args := [d] }
  | _ => none }
def uwordNothingRow : OpenClaim := { program := "ytpjgklpppiongaadoor", sum := "bc394173d2048e0f86a9ef1e702c263b05c1987671795fb9454825d33d54a5b7", func := "camshaft/camshaftlaw14.UwordNothing", spec := "uwordNothing", named := ["camshaft/uword.fields"], apart := false, laid := [("camshaft/uword.fields", laid_camshaft_uword_fields)] }
def UwordNothingSaid : Prop := uwordNothingRow.holds Tryd.pinned (OpenSpec.ofChange uwordNothingSpec)

/-- ITS FALSE NEIGHBOUR: 'it returns false'. Refute it at one input. -/
def uwordNothingWrong : ChangeSpec := { name := "uwordNothing", fn := fun _ => fun
  | [d] => { results := [.lit (.bool false)], args := [d] }
  | _ => none }
def UwordNothingWrongFalsely : Prop := uwordNothingRow.holds Tryd.pinned (OpenSpec.ofChange uwordNothingWrong)

/-- 'camshaftlaw14.UwordParts': WHATEVER THE INPUT: true; the input reads as it did. -/
def uwordPartsSpec : ChangeSpec := { name := "uwordParts", fn := fun _ => fun
  | [d1, d2, d3, d4] => { results := [.lit (.bool true)], args := [d1, d2, d3, d4] }
  | _ => none }
def uwordPartsRow : OpenClaim := { program := "ytpjgklpppiongaadoor", sum := "bc394173d2048e0f86a9ef1e702c263b05c1987671795fb9454825d33d54a5b7", func := "camshaft/camshaftlaw14.UwordParts", spec := "uwordParts", unfollowed := true, recurses := true, named := ["camshaft/uword.fields"], apart := false, laid := [("camshaft/uword.fields", laid_camshaft_uword_fields)] }
def UwordPartsSaid : Prop := uwordPartsRow.holds Tryd.pinned (OpenSpec.ofChange uwordPartsSpec)

/-- ITS FALSE NEIGHBOUR: 'it returns false'. Refute it at one input. -/
def uwordPartsWrong : ChangeSpec := { name := "uwordParts", fn := fun _ => fun
  | [d1, d2, d3, d4] => { results := [.lit (.bool false)], args := [d1, d2, d3, d4] }
  | _ => none }
def UwordPartsWrongFalsely : Prop := uwordPartsRow.holds Tryd.pinned (OpenSpec.ofChange uwordPartsWrong)

/-- 'camshaftlaw14.UwordSets': WHATEVER THE INPUT: true; the input reads as it did. -/
def uwordSetsSpec : ChangeSpec := { name := "uwordSets", fn := fun _ => fun
  | [d1, d2, d3, d4, d5] => { results := [.lit (.bool true)], args := [d1, d2, d3, d4, d5] }
  | _ => none }
def uwordSetsRow : OpenClaim := { program := "ytpjgklpppiongaadoor", sum := "bc394173d2048e0f86a9ef1e702c263b05c1987671795fb9454825d33d54a5b7", func := "camshaft/camshaftlaw14.UwordSets", spec := "uwordSets", unfollowed := true, recurses := true, named := ["camshaft/uword.fields"], apart := false, laid := [("camshaft/uword.fields", laid_camshaft_uword_fields)] }
def UwordSetsSaid : Prop := uwordSetsRow.holds Tryd.pinned (OpenSpec.ofChange uwordSetsSpec)

/-- ITS FALSE NEIGHBOUR: 'it returns false'. Refute it at one input. -/
def uwordSetsWrong : ChangeSpec := { name := "uwordSets", fn := fun _ => fun
  | [d1, d2, d3, d4, d5] => { results := [.lit (.bool false)], args := [d1, d2, d3, d4, d5] }
  | _ => none }
def UwordSetsWrongFalsely : Prop := uwordSetsRow.holds Tryd.pinned (OpenSpec.ofChange uwordSetsWrong)

/-- 'camshaftlaw14.UwordFields': WHATEVER THE INPUT: true; the input reads as it did. -/
def uwordFieldsSpec : ChangeSpec := { name := "uwordFields", fn := fun _ => fun
  | [d1, d2, d3] => { results := [.lit (.bool true)], args := [d1, d2, d3] }
  | _ => none }
def uwordFieldsRow : OpenClaim := { program := "ytpjgklpppiongaadoor", sum := "bc394173d2048e0f86a9ef1e702c263b05c1987671795fb9454825d33d54a5b7", func := "camshaft/camshaftlaw14.UwordFields", spec := "uwordFields", unfollowed := true, recurses := true, named := ["camshaft/uword.fields"], apart := false, laid := [("camshaft/uword.fields", laid_camshaft_uword_fields)] }
def UwordFieldsSaid : Prop := uwordFieldsRow.holds Tryd.pinned (OpenSpec.ofChange uwordFieldsSpec)

/-- ITS FALSE NEIGHBOUR: 'it returns false'. Refute it at one input. -/
def uwordFieldsWrong : ChangeSpec := { name := "uwordFields", fn := fun _ => fun
  | [d1, d2, d3] => { results := [.lit (.bool false)], args := [d1, d2, d3] }
  | _ => none }
def UwordFieldsWrongFalsely : Prop := uwordFieldsRow.holds Tryd.pinned (OpenSpec.ofChange uwordFieldsWrong)

/- THE SECOND FORM. 'bulk': how many values and letters a reading holds, each counted each time it is reached (what is shared counts as often as it is met; a slice's spare places count too). A statement '..UptoSaid' is the law's where the arguments, and the package variables that the reading takes, are together of bulk at most 1048576: NARROWER than '..Said'. Prove '..Said' where nothing that the law and all that it calls make is longer than what came in: it says more and counts as full. Else prove '..UptoSaid'. A law counts once. -/
mutual
def uptoBulk {H : Type} : DataW H → Nat
  | .lit (.string bytes) => bytes.length + 1
  | .lit _ => 1
  | .nil => 1
  | .ptr d => uptoBulk d + 1
  | .slice elems spare => uptoBulkAll elems + uptoBulkAll spare + 1
  | .agg parts => uptoBulkAll parts + 1
  | .iface _ d => uptoBulk d + 1
  | .map entries => uptoBulkEntries entries + 1
  | .held _ => 1
def uptoBulkAll {H : Type} : List (DataW H) → Nat
  | [] => 0
  | d :: r => uptoBulk d + uptoBulkAll r
def uptoBulkEntries {H : Type} : List (Lit × DataW H) → Nat
  | [] => 0
  | x :: r => uptoBulkEntry x + uptoBulkEntries r
def uptoBulkEntry {H : Type} : Lit × DataW H → Nat
  | (.string bytes, d) => bytes.length + uptoBulk d + 1
  | (_, d) => uptoBulk d + 1
 end
def uptoSmall : (H : Type) → List (DataW H) → Bool := fun _ ds => decide (uptoBulkAll ds ≤ 1048576)
def OpenSpec.upto (s : _root_.Go.ChangeSpec) : _root_.Go.OpenSpec := { _root_.Go.OpenSpec.ofChange s with cond := some uptoSmall }

/-- 'camshaftlaw14.UwordPacks', WHERE WHAT IT READS IS OF BULK AT MOST 1048576: true; the input reads as it did. -/
def uwordPacksUptoRow : OpenClaim := { program := "ytpjgklpppiongaadoor", sum := "bc394173d2048e0f86a9ef1e702c263b05c1987671795fb9454825d33d54a5b7", func := "camshaft/camshaftlaw14.UwordPacks", spec := "uwordPacks", named := ["camshaft/uword.fields"], apart := false, laid := [("camshaft/uword.fields", laid_camshaft_uword_fields)], narrowed := true }
def UwordPacksUptoSaid : Prop := uwordPacksUptoRow.holds Tryd.pinned (OpenSpec.upto uwordPacksSpec)

/-- 'camshaftlaw14.UwordBack', WHERE WHAT IT READS IS OF BULK AT MOST 1048576: true; the input reads as it did. -/
def uwordBackUptoRow : OpenClaim := { program := "ytpjgklpppiongaadoor", sum := "bc394173d2048e0f86a9ef1e702c263b05c1987671795fb9454825d33d54a5b7", func := "camshaft/camshaftlaw14.UwordBack", spec := "uwordBack", named := ["camshaft/uword.fields"], apart := false, laid := [("camshaft/uword.fields", laid_camshaft_uword_fields)], narrowed := true }
def UwordBackUptoSaid : Prop := uwordBackUptoRow.holds Tryd.pinned (OpenSpec.upto uwordBackSpec)

/-- 'camshaftlaw14.UwordNothing', WHERE WHAT IT READS IS OF BULK AT MOST 1048576: true; the input reads as it did. -/
def uwordNothingUptoRow : OpenClaim := { program := "ytpjgklpppiongaadoor", sum := "bc394173d2048e0f86a9ef1e702c263b05c1987671795fb9454825d33d54a5b7", func := "camshaft/camshaftlaw14.UwordNothing", spec := "uwordNothing", named := ["camshaft/uword.fields"], apart := false, laid := [("camshaft/uword.fields", laid_camshaft_uword_fields)], narrowed := true }
def UwordNothingUptoSaid : Prop := uwordNothingUptoRow.holds Tryd.pinned (OpenSpec.upto uwordNothingSpec)

/-- 'camshaftlaw14.UwordParts', WHERE WHAT IT READS IS OF BULK AT MOST 1048576: true; the input reads as it did. -/
def uwordPartsUptoRow : OpenClaim := { program := "ytpjgklpppiongaadoor", sum := "bc394173d2048e0f86a9ef1e702c263b05c1987671795fb9454825d33d54a5b7", func := "camshaft/camshaftlaw14.UwordParts", spec := "uwordParts", unfollowed := true, recurses := true, named := ["camshaft/uword.fields"], apart := false, laid := [("camshaft/uword.fields", laid_camshaft_uword_fields)], narrowed := true }
def UwordPartsUptoSaid : Prop := uwordPartsUptoRow.holds Tryd.pinned (OpenSpec.upto uwordPartsSpec)

/-- 'camshaftlaw14.UwordSets', WHERE WHAT IT READS IS OF BULK AT MOST 1048576: true; the input reads as it did. -/
def uwordSetsUptoRow : OpenClaim := { program := "ytpjgklpppiongaadoor", sum := "bc394173d2048e0f86a9ef1e702c263b05c1987671795fb9454825d33d54a5b7", func := "camshaft/camshaftlaw14.UwordSets", spec := "uwordSets", unfollowed := true, recurses := true, named := ["camshaft/uword.fields"], apart := false, laid := [("camshaft/uword.fields", laid_camshaft_uword_fields)], narrowed := true }
def UwordSetsUptoSaid : Prop := uwordSetsUptoRow.holds Tryd.pinned (OpenSpec.upto uwordSetsSpec)

/-- 'camshaftlaw14.UwordFields', WHERE WHAT IT READS IS OF BULK AT MOST 1048576: true; the input reads as it did. -/
def uwordFieldsUptoRow : OpenClaim := { program := "ytpjgklpppiongaadoor", sum := "bc394173d2048e0f86a9ef1e702c263b05c1987671795fb9454825d33d54a5b7", func := "camshaft/camshaftlaw14.UwordFields", spec := "uwordFields", unfollowed := true, recurses := true, named := ["camshaft/uword.fields"], apart := false, laid := [("camshaft/uword.fields", laid_camshaft_uword_fields)], narrowed := true }
def UwordFieldsUptoSaid : Prop := uwordFieldsUptoRow.holds Tryd.pinned (OpenSpec.upto uwordFieldsSpec)

end Rows
end Go.Proofs.YtpjgklpppiongaaDoor
