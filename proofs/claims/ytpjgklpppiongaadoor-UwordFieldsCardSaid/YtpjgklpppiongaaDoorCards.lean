/-
  DERIVED. GIVEN WITH THE SEED: THE CARDS: each row of YtpjgklpppiongaaDoorRows.lean that lists a variable, with what it lists TIED to the program's text (the seventh form; the later family's looks); each row that meets fmt, with fmt's text TOLD by the authors' own Lean function (tested against real Go, not proved from fmt's source: count such statements apart). THE CARD IS WHAT COUNTS. Prove the row's statement (the work); the ties are given (YtpjgklpppiongaaDoorTie.lean); close each card by the builder's one call (the guide's Derived/Test/ToyasCard.lean, 'card_holds'). Laid BY PROGRAM, IN A SANDBOX (cutbox-door.mjs). By AI agents, Wed Nov 11 2026. No macro, syntax, notation, axiom, sorry.
-/
import Derived.Test.YtpjgklpppiongaaDoorRows
import GoSem.ClaimSeven
namespace Go.Proofs.YtpjgklpppiongaaDoor
namespace Rows

/-- THE TIED CARD OF 'camshaftlaw14.UwordPacks'. -/
def uwordPacksCard : Claim7 := { stood := { row := uwordPacksRow, standIns := [], harness := (true, "d21b1e2cd388afad9229aa832c3582c370537631650dcbaba1ff2a89cd4ae5b9"), looks := false }, kinds := [], alts := [], laidByText := true, laidKinds := [.widerDeep], laidTests := true, laidLooks := .later }
def UwordPacksCardSaid : Prop := Claim7.holds Tryd.pinned (.plain (OpenSpec.ofChange uwordPacksSpec)) uwordPacksCard

/-- THE TIED CARD OF 'camshaftlaw14.UwordBack'. -/
def uwordBackCard : Claim7 := { stood := { row := uwordBackRow, standIns := [], harness := (true, "d21b1e2cd388afad9229aa832c3582c370537631650dcbaba1ff2a89cd4ae5b9"), looks := false }, kinds := [], alts := [], laidByText := true, laidKinds := [.widerDeep], laidTests := true, laidLooks := .later }
def UwordBackCardSaid : Prop := Claim7.holds Tryd.pinned (.plain (OpenSpec.ofChange uwordBackSpec)) uwordBackCard

/-- THE TIED CARD OF 'camshaftlaw14.UwordNothing'. -/
def uwordNothingCard : Claim7 := { stood := { row := uwordNothingRow, standIns := [], harness := (true, "d21b1e2cd388afad9229aa832c3582c370537631650dcbaba1ff2a89cd4ae5b9"), looks := false }, kinds := [], alts := [], laidByText := true, laidKinds := [.widerDeep], laidTests := true, laidLooks := .later }
def UwordNothingCardSaid : Prop := Claim7.holds Tryd.pinned (.plain (OpenSpec.ofChange uwordNothingSpec)) uwordNothingCard

/-- THE TIED CARD OF 'camshaftlaw14.UwordParts'. -/
def uwordPartsCard : Claim7 := { stood := { row := uwordPartsRow, standIns := [], harness := (true, "d21b1e2cd388afad9229aa832c3582c370537631650dcbaba1ff2a89cd4ae5b9"), looks := false }, kinds := [], alts := [], laidByText := true, laidKinds := [.widerDeep], laidTests := true, laidLooks := .later }
def UwordPartsCardSaid : Prop := Claim7.holds Tryd.pinned (.plain (OpenSpec.ofChange uwordPartsSpec)) uwordPartsCard

/-- THE TIED CARD OF 'camshaftlaw14.UwordSets'. -/
def uwordSetsCard : Claim7 := { stood := { row := uwordSetsRow, standIns := [], harness := (true, "d21b1e2cd388afad9229aa832c3582c370537631650dcbaba1ff2a89cd4ae5b9"), looks := false }, kinds := [], alts := [], laidByText := true, laidKinds := [.widerDeep], laidTests := true, laidLooks := .later }
def UwordSetsCardSaid : Prop := Claim7.holds Tryd.pinned (.plain (OpenSpec.ofChange uwordSetsSpec)) uwordSetsCard

/-- THE TIED CARD OF 'camshaftlaw14.UwordFields'. -/
def uwordFieldsCard : Claim7 := { stood := { row := uwordFieldsRow, standIns := [], harness := (true, "d21b1e2cd388afad9229aa832c3582c370537631650dcbaba1ff2a89cd4ae5b9"), looks := false }, kinds := [], alts := [], laidByText := true, laidKinds := [.widerDeep], laidTests := true, laidLooks := .later }
def UwordFieldsCardSaid : Prop := Claim7.holds Tryd.pinned (.plain (OpenSpec.ofChange uwordFieldsSpec)) uwordFieldsCard

/-- THE SECOND FORM's CARD OF 'camshaftlaw14.UwordPacks'. -/
def uwordPacksUptoCard : Claim7 := { stood := { row := uwordPacksUptoRow, standIns := [], harness := (true, "d21b1e2cd388afad9229aa832c3582c370537631650dcbaba1ff2a89cd4ae5b9"), looks := false }, kinds := [], alts := [], laidByText := true, laidKinds := [.widerDeep], laidTests := true, laidLooks := .later }
def UwordPacksUptoCardSaid : Prop := Claim7.holds Tryd.pinned (.plain (OpenSpec.upto uwordPacksSpec)) uwordPacksUptoCard

/-- THE SECOND FORM's CARD OF 'camshaftlaw14.UwordBack'. -/
def uwordBackUptoCard : Claim7 := { stood := { row := uwordBackUptoRow, standIns := [], harness := (true, "d21b1e2cd388afad9229aa832c3582c370537631650dcbaba1ff2a89cd4ae5b9"), looks := false }, kinds := [], alts := [], laidByText := true, laidKinds := [.widerDeep], laidTests := true, laidLooks := .later }
def UwordBackUptoCardSaid : Prop := Claim7.holds Tryd.pinned (.plain (OpenSpec.upto uwordBackSpec)) uwordBackUptoCard

/-- THE SECOND FORM's CARD OF 'camshaftlaw14.UwordNothing'. -/
def uwordNothingUptoCard : Claim7 := { stood := { row := uwordNothingUptoRow, standIns := [], harness := (true, "d21b1e2cd388afad9229aa832c3582c370537631650dcbaba1ff2a89cd4ae5b9"), looks := false }, kinds := [], alts := [], laidByText := true, laidKinds := [.widerDeep], laidTests := true, laidLooks := .later }
def UwordNothingUptoCardSaid : Prop := Claim7.holds Tryd.pinned (.plain (OpenSpec.upto uwordNothingSpec)) uwordNothingUptoCard

/-- THE SECOND FORM's CARD OF 'camshaftlaw14.UwordParts'. -/
def uwordPartsUptoCard : Claim7 := { stood := { row := uwordPartsUptoRow, standIns := [], harness := (true, "d21b1e2cd388afad9229aa832c3582c370537631650dcbaba1ff2a89cd4ae5b9"), looks := false }, kinds := [], alts := [], laidByText := true, laidKinds := [.widerDeep], laidTests := true, laidLooks := .later }
def UwordPartsUptoCardSaid : Prop := Claim7.holds Tryd.pinned (.plain (OpenSpec.upto uwordPartsSpec)) uwordPartsUptoCard

/-- THE SECOND FORM's CARD OF 'camshaftlaw14.UwordSets'. -/
def uwordSetsUptoCard : Claim7 := { stood := { row := uwordSetsUptoRow, standIns := [], harness := (true, "d21b1e2cd388afad9229aa832c3582c370537631650dcbaba1ff2a89cd4ae5b9"), looks := false }, kinds := [], alts := [], laidByText := true, laidKinds := [.widerDeep], laidTests := true, laidLooks := .later }
def UwordSetsUptoCardSaid : Prop := Claim7.holds Tryd.pinned (.plain (OpenSpec.upto uwordSetsSpec)) uwordSetsUptoCard

/-- THE SECOND FORM's CARD OF 'camshaftlaw14.UwordFields'. -/
def uwordFieldsUptoCard : Claim7 := { stood := { row := uwordFieldsUptoRow, standIns := [], harness := (true, "d21b1e2cd388afad9229aa832c3582c370537631650dcbaba1ff2a89cd4ae5b9"), looks := false }, kinds := [], alts := [], laidByText := true, laidKinds := [.widerDeep], laidTests := true, laidLooks := .later }
def UwordFieldsUptoCardSaid : Prop := Claim7.holds Tryd.pinned (.plain (OpenSpec.upto uwordFieldsSpec)) uwordFieldsUptoCard
end Rows
end Go.Proofs.YtpjgklpppiongaaDoor
