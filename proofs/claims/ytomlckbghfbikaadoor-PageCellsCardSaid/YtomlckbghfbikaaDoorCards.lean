/-
  DERIVED. GIVEN WITH THE SEED: THE CARDS: each row of YtomlckbghfbikaaDoorRows.lean that lists a variable, with what it lists TIED to the program's text (the seventh form; the later family's looks); each row that meets fmt, with fmt's text TOLD by the authors' own Lean function (tested against real Go, not proved from fmt's source: count such statements apart). THE CARD IS WHAT COUNTS. Prove the row's statement (the work); the ties are given (YtomlckbghfbikaaDoorTie.lean); close each card by the builder's one call (the guide's Derived/Test/ToyasCard.lean, 'card_holds'). Laid BY PROGRAM, IN A SANDBOX (cutbox-door.mjs). By AI agents, Wed Nov 11 2026. No macro, syntax, notation, axiom, sorry.
-/
import Derived.Test.YtomlckbghfbikaaDoorRows
import GoSem.ClaimSeven
namespace Go.Proofs.YtomlckbghfbikaaDoor
namespace Rows

/-- THE TIED CARD OF 'jettylaw04.PageReads'. -/
def pageReadsCard : Claim7 := { stood := { row := pageReadsRow, standIns := [], harness := (true, "bf1d06d91b134e82af537a8714a1e72df1f8a44743ff7ec0ff6a9295b366f75c"), looks := false }, kinds := [], alts := [], laidByText := true, laidKinds := [.data, .pinned], laidTests := true, laidLooks := .later }
def PageReadsCardSaid : Prop := Claim7.holds Tryd.pinned (.plain (OpenSpec.ofChange pageReadsSpec)) pageReadsCard

/-- THE TIED CARD OF 'jettylaw04.PageBack'. -/
def pageBackCard : Claim7 := { stood := { row := pageBackRow, standIns := [], harness := (true, "bf1d06d91b134e82af537a8714a1e72df1f8a44743ff7ec0ff6a9295b366f75c"), looks := false }, kinds := [], alts := [], laidByText := true, laidKinds := [.data, .pinned], laidTests := true, laidLooks := .later }
def PageBackCardSaid : Prop := Claim7.holds Tryd.pinned (.plain (OpenSpec.ofChange pageBackSpec)) pageBackCard

/-- THE TIED CARD OF 'jettylaw04.PageCells'. -/
def pageCellsCard : Claim7 := { stood := { row := pageCellsRow, standIns := [], harness := (true, "bf1d06d91b134e82af537a8714a1e72df1f8a44743ff7ec0ff6a9295b366f75c"), looks := false }, kinds := [], alts := [], laidByText := true, laidKinds := [.data, .pinned], laidTests := true, laidLooks := .later }
def PageCellsCardSaid : Prop := Claim7.holds Tryd.pinned (.plain (OpenSpec.ofChange pageCellsSpec)) pageCellsCard

/-- THE TIED CARD OF 'jettylaw04.PageCodes'. -/
def pageCodesCard : Claim7 := { stood := { row := pageCodesRow, standIns := [], harness := (true, "bf1d06d91b134e82af537a8714a1e72df1f8a44743ff7ec0ff6a9295b366f75c"), looks := false }, kinds := [], alts := [], laidByText := true, laidKinds := [.data, .pinned], laidTests := true, laidLooks := .later }
def PageCodesCardSaid : Prop := Claim7.holds Tryd.pinned (.plain (OpenSpec.ofChange pageCodesSpec)) pageCodesCard

/-- THE TIED CARD OF 'jettylaw04.PageRooms'. -/
def pageRoomsCard : Claim7 := { stood := { row := pageRoomsRow, standIns := [], harness := (true, "bf1d06d91b134e82af537a8714a1e72df1f8a44743ff7ec0ff6a9295b366f75c"), looks := false }, kinds := [], alts := [], laidByText := true, laidKinds := [.data, .pinned], laidTests := true, laidLooks := .later }
def PageRoomsCardSaid : Prop := Claim7.holds Tryd.pinned (.plain (OpenSpec.ofChange pageRoomsSpec)) pageRoomsCard

/-- THE SECOND FORM's CARD OF 'jettylaw04.PageReads'. -/
def pageReadsUptoCard : Claim7 := { stood := { row := pageReadsUptoRow, standIns := [], harness := (true, "bf1d06d91b134e82af537a8714a1e72df1f8a44743ff7ec0ff6a9295b366f75c"), looks := false }, kinds := [], alts := [], laidByText := true, laidKinds := [.data, .pinned], laidTests := true, laidLooks := .later }
def PageReadsUptoCardSaid : Prop := Claim7.holds Tryd.pinned (.plain (OpenSpec.upto pageReadsSpec)) pageReadsUptoCard

/-- THE SECOND FORM's CARD OF 'jettylaw04.PageBack'. -/
def pageBackUptoCard : Claim7 := { stood := { row := pageBackUptoRow, standIns := [], harness := (true, "bf1d06d91b134e82af537a8714a1e72df1f8a44743ff7ec0ff6a9295b366f75c"), looks := false }, kinds := [], alts := [], laidByText := true, laidKinds := [.data, .pinned], laidTests := true, laidLooks := .later }
def PageBackUptoCardSaid : Prop := Claim7.holds Tryd.pinned (.plain (OpenSpec.upto pageBackSpec)) pageBackUptoCard

/-- THE SECOND FORM's CARD OF 'jettylaw04.PageCells'. -/
def pageCellsUptoCard : Claim7 := { stood := { row := pageCellsUptoRow, standIns := [], harness := (true, "bf1d06d91b134e82af537a8714a1e72df1f8a44743ff7ec0ff6a9295b366f75c"), looks := false }, kinds := [], alts := [], laidByText := true, laidKinds := [.data, .pinned], laidTests := true, laidLooks := .later }
def PageCellsUptoCardSaid : Prop := Claim7.holds Tryd.pinned (.plain (OpenSpec.upto pageCellsSpec)) pageCellsUptoCard

/-- THE SECOND FORM's CARD OF 'jettylaw04.PageCodes'. -/
def pageCodesUptoCard : Claim7 := { stood := { row := pageCodesUptoRow, standIns := [], harness := (true, "bf1d06d91b134e82af537a8714a1e72df1f8a44743ff7ec0ff6a9295b366f75c"), looks := false }, kinds := [], alts := [], laidByText := true, laidKinds := [.data, .pinned], laidTests := true, laidLooks := .later }
def PageCodesUptoCardSaid : Prop := Claim7.holds Tryd.pinned (.plain (OpenSpec.upto pageCodesSpec)) pageCodesUptoCard

/-- THE SECOND FORM's CARD OF 'jettylaw04.PageRooms'. -/
def pageRoomsUptoCard : Claim7 := { stood := { row := pageRoomsUptoRow, standIns := [], harness := (true, "bf1d06d91b134e82af537a8714a1e72df1f8a44743ff7ec0ff6a9295b366f75c"), looks := false }, kinds := [], alts := [], laidByText := true, laidKinds := [.data, .pinned], laidTests := true, laidLooks := .later }
def PageRoomsUptoCardSaid : Prop := Claim7.holds Tryd.pinned (.plain (OpenSpec.upto pageRoomsSpec)) pageRoomsUptoCard
end Rows
end Go.Proofs.YtomlckbghfbikaaDoor
