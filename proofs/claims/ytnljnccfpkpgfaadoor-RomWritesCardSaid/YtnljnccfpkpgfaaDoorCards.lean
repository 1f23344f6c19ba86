/-
  DERIVED. GIVEN WITH THE SEED: THE CARDS: each row of YtnljnccfpkpgfaaDoorRows.lean that lists a variable, with what it lists TIED to the program's text (the seventh form; the later family's looks); each row that meets fmt, with fmt's text TOLD by the authors' own Lean function (tested against real Go, not proved from fmt's source: count such statements apart). THE CARD IS WHAT COUNTS. Prove the row's statement (the work); the ties are given (YtnljnccfpkpgfaaDoorTie.lean); close each card by the builder's one call (the guide's Derived/Test/ToyasCard.lean, 'card_holds'). Laid BY PROGRAM, IN A SANDBOX (cutbox-door.mjs). By AI agents, Wed Nov 11 2026. No macro, syntax, notation, axiom, sorry.
-/
import Derived.Test.YtnljnccfpkpgfaaDoorRows
import GoSem.ClaimSeven
namespace Go.Proofs.YtnljnccfpkpgfaaDoor
namespace Rows

/-- THE TIED CARD OF 'camshaftlaw18.RomWrites'. -/
def romWritesCard : Claim7 := { stood := { row := romWritesRow, standIns := [], harness := (true, "ea46c8db7cf16ae6a1b6c30127076cc47c089b2fcd75fc140e75b0ad8c49e12a"), looks := false }, kinds := [], alts := [], laidByText := true, laidKinds := [.data, .pinned], laidTests := true, laidLooks := .later }
def RomWritesCardSaid : Prop := Claim7.holds Tryd.pinned (.plain (OpenSpec.ofChange romWritesSpec)) romWritesCard

/-- THE TIED CARD OF 'camshaftlaw18.RomReads'. -/
def romReadsCard : Claim7 := { stood := { row := romReadsRow, standIns := [], harness := (true, "ea46c8db7cf16ae6a1b6c30127076cc47c089b2fcd75fc140e75b0ad8c49e12a"), looks := false }, kinds := [], alts := [], laidByText := true, laidKinds := [.data, .pinned], laidTests := true, laidLooks := .later }
def RomReadsCardSaid : Prop := Claim7.holds Tryd.pinned (.plain (OpenSpec.ofChange romReadsSpec)) romReadsCard

/-- THE TIED CARD OF 'camshaftlaw18.RomBack'. -/
def romBackCard : Claim7 := { stood := { row := romBackRow, standIns := [], harness := (true, "ea46c8db7cf16ae6a1b6c30127076cc47c089b2fcd75fc140e75b0ad8c49e12a"), looks := false }, kinds := [], alts := [], laidByText := true, laidKinds := [.data, .pinned], laidTests := true, laidLooks := .later }
def RomBackCardSaid : Prop := Claim7.holds Tryd.pinned (.plain (OpenSpec.ofChange romBackSpec)) romBackCard

/-- THE TIED CARD OF 'camshaftlaw18.RomKeeps'. -/
def romKeepsCard : Claim7 := { stood := { row := romKeepsRow, standIns := [], harness := (true, "ea46c8db7cf16ae6a1b6c30127076cc47c089b2fcd75fc140e75b0ad8c49e12a"), looks := false }, kinds := [], alts := [], laidByText := true, laidKinds := [.data, .pinned], laidTests := true, laidLooks := .later }
def RomKeepsCardSaid : Prop := Claim7.holds Tryd.pinned (.plain (OpenSpec.ofChange romKeepsSpec)) romKeepsCard

/-- THE TIED CARD OF 'camshaftlaw18.RomFinds'. -/
def romFindsCard : Claim7 := { stood := { row := romFindsRow, standIns := [], harness := (true, "ea46c8db7cf16ae6a1b6c30127076cc47c089b2fcd75fc140e75b0ad8c49e12a"), looks := false }, kinds := [], alts := [], laidByText := true, laidKinds := [.data, .pinned], laidTests := true, laidLooks := .later }
def RomFindsCardSaid : Prop := Claim7.holds Tryd.pinned (.plain (OpenSpec.ofChange romFindsSpec)) romFindsCard

/-- THE SECOND FORM's CARD OF 'camshaftlaw18.RomWrites'. -/
def romWritesUptoCard : Claim7 := { stood := { row := romWritesUptoRow, standIns := [], harness := (true, "ea46c8db7cf16ae6a1b6c30127076cc47c089b2fcd75fc140e75b0ad8c49e12a"), looks := false }, kinds := [], alts := [], laidByText := true, laidKinds := [.data, .pinned], laidTests := true, laidLooks := .later }
def RomWritesUptoCardSaid : Prop := Claim7.holds Tryd.pinned (.plain (OpenSpec.upto romWritesSpec)) romWritesUptoCard

/-- THE SECOND FORM's CARD OF 'camshaftlaw18.RomReads'. -/
def romReadsUptoCard : Claim7 := { stood := { row := romReadsUptoRow, standIns := [], harness := (true, "ea46c8db7cf16ae6a1b6c30127076cc47c089b2fcd75fc140e75b0ad8c49e12a"), looks := false }, kinds := [], alts := [], laidByText := true, laidKinds := [.data, .pinned], laidTests := true, laidLooks := .later }
def RomReadsUptoCardSaid : Prop := Claim7.holds Tryd.pinned (.plain (OpenSpec.upto romReadsSpec)) romReadsUptoCard

/-- THE SECOND FORM's CARD OF 'camshaftlaw18.RomBack'. -/
def romBackUptoCard : Claim7 := { stood := { row := romBackUptoRow, standIns := [], harness := (true, "ea46c8db7cf16ae6a1b6c30127076cc47c089b2fcd75fc140e75b0ad8c49e12a"), looks := false }, kinds := [], alts := [], laidByText := true, laidKinds := [.data, .pinned], laidTests := true, laidLooks := .later }
def RomBackUptoCardSaid : Prop := Claim7.holds Tryd.pinned (.plain (OpenSpec.upto romBackSpec)) romBackUptoCard

/-- THE SECOND FORM's CARD OF 'camshaftlaw18.RomKeeps'. -/
def romKeepsUptoCard : Claim7 := { stood := { row := romKeepsUptoRow, standIns := [], harness := (true, "ea46c8db7cf16ae6a1b6c30127076cc47c089b2fcd75fc140e75b0ad8c49e12a"), looks := false }, kinds := [], alts := [], laidByText := true, laidKinds := [.data, .pinned], laidTests := true, laidLooks := .later }
def RomKeepsUptoCardSaid : Prop := Claim7.holds Tryd.pinned (.plain (OpenSpec.upto romKeepsSpec)) romKeepsUptoCard

/-- THE SECOND FORM's CARD OF 'camshaftlaw18.RomFinds'. -/
def romFindsUptoCard : Claim7 := { stood := { row := romFindsUptoRow, standIns := [], harness := (true, "ea46c8db7cf16ae6a1b6c30127076cc47c089b2fcd75fc140e75b0ad8c49e12a"), looks := false }, kinds := [], alts := [], laidByText := true, laidKinds := [.data, .pinned], laidTests := true, laidLooks := .later }
def RomFindsUptoCardSaid : Prop := Claim7.holds Tryd.pinned (.plain (OpenSpec.upto romFindsSpec)) romFindsUptoCard
end Rows
end Go.Proofs.YtnljnccfpkpgfaaDoor
