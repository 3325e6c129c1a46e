/-
  DERIVED. GIVEN WITH THE SEED: THE CARDS: each row of YtblakognnfilaaaDoorRows.lean that lists a variable, with what it lists TIED to the program's text (the seventh form; the later family's looks); each row that meets fmt, with fmt's text TOLD by the authors' own Lean function (tested against real Go, not proved from fmt's source: count such statements apart). THE CARD IS WHAT COUNTS. Prove the row's statement (the work); the ties are given (YtblakognnfilaaaDoorTie.lean); close each card by the builder's one call (the guide's Derived/Test/ToyasCard.lean, 'card_holds'). Laid BY PROGRAM, IN A SANDBOX (cutbox-door.mjs). By AI agents, Wed Nov 11 2026. No macro, syntax, notation, axiom, sorry.
-/
import Derived.Test.YtblakognnfilaaaDoorRows
import GoSem.ClaimSeven
namespace Go.Proofs.YtblakognnfilaaaDoor
namespace Rows

/-- THE TIED CARD OF 'jettylaw06.RecCodes'. -/
def recCodesCard : Claim7 := { stood := { row := recCodesRow, standIns := [], harness := (true, "63ea086284aea79dc35e6a2491496fbc02069564fbbe197ac61265c28ff58d01"), looks := false }, kinds := [], alts := [], laidByText := true, laidKinds := [.data, .pinned], laidTests := true, laidLooks := .later }
def RecCodesCardSaid : Prop := Claim7.holds Tryd.pinned (.plain (OpenSpec.ofChange recCodesSpec)) recCodesCard

/-- THE TIED CARD OF 'jettylaw06.RecReads'. -/
def recReadsCard : Claim7 := { stood := { row := recReadsRow, standIns := [], harness := (true, "63ea086284aea79dc35e6a2491496fbc02069564fbbe197ac61265c28ff58d01"), looks := false }, kinds := [], alts := [], laidByText := true, laidKinds := [.data, .pinned], laidTests := true, laidLooks := .later }
def RecReadsCardSaid : Prop := Claim7.holds Tryd.pinned (.plain (OpenSpec.ofChange recReadsSpec)) recReadsCard

/-- THE TIED CARD OF 'jettylaw06.RecBack'. -/
def recBackCard : Claim7 := { stood := { row := recBackRow, standIns := [], harness := (true, "63ea086284aea79dc35e6a2491496fbc02069564fbbe197ac61265c28ff58d01"), looks := false }, kinds := [], alts := [], laidByText := true, laidKinds := [.data, .pinned], laidTests := true, laidLooks := .later }
def RecBackCardSaid : Prop := Claim7.holds Tryd.pinned (.plain (OpenSpec.ofChange recBackSpec)) recBackCard

/-- THE TIED CARD OF 'jettylaw06.RecSizes'. -/
def recSizesCard : Claim7 := { stood := { row := recSizesRow, standIns := [], harness := (true, "63ea086284aea79dc35e6a2491496fbc02069564fbbe197ac61265c28ff58d01"), looks := false }, kinds := [], alts := [], laidByText := true, laidKinds := [.data, .pinned], laidTests := true, laidLooks := .later }
def RecSizesCardSaid : Prop := Claim7.holds Tryd.pinned (.plain (OpenSpec.ofChange recSizesSpec)) recSizesCard

/-- THE TIED CARD OF 'jettylaw06.RecApart'. -/
def recApartCard : Claim7 := { stood := { row := recApartRow, standIns := [], harness := (true, "63ea086284aea79dc35e6a2491496fbc02069564fbbe197ac61265c28ff58d01"), looks := false }, kinds := [], alts := [], laidByText := true, laidKinds := [.data, .pinned], laidTests := true, laidLooks := .later }
def RecApartCardSaid : Prop := Claim7.holds Tryd.pinned (.plain (OpenSpec.ofChange recApartSpec)) recApartCard

/-- THE SECOND FORM's CARD OF 'jettylaw06.RecCodes'. -/
def recCodesUptoCard : Claim7 := { stood := { row := recCodesUptoRow, standIns := [], harness := (true, "63ea086284aea79dc35e6a2491496fbc02069564fbbe197ac61265c28ff58d01"), looks := false }, kinds := [], alts := [], laidByText := true, laidKinds := [.data, .pinned], laidTests := true, laidLooks := .later }
def RecCodesUptoCardSaid : Prop := Claim7.holds Tryd.pinned (.plain (OpenSpec.upto recCodesSpec)) recCodesUptoCard

/-- THE SECOND FORM's CARD OF 'jettylaw06.RecReads'. -/
def recReadsUptoCard : Claim7 := { stood := { row := recReadsUptoRow, standIns := [], harness := (true, "63ea086284aea79dc35e6a2491496fbc02069564fbbe197ac61265c28ff58d01"), looks := false }, kinds := [], alts := [], laidByText := true, laidKinds := [.data, .pinned], laidTests := true, laidLooks := .later }
def RecReadsUptoCardSaid : Prop := Claim7.holds Tryd.pinned (.plain (OpenSpec.upto recReadsSpec)) recReadsUptoCard

/-- THE SECOND FORM's CARD OF 'jettylaw06.RecBack'. -/
def recBackUptoCard : Claim7 := { stood := { row := recBackUptoRow, standIns := [], harness := (true, "63ea086284aea79dc35e6a2491496fbc02069564fbbe197ac61265c28ff58d01"), looks := false }, kinds := [], alts := [], laidByText := true, laidKinds := [.data, .pinned], laidTests := true, laidLooks := .later }
def RecBackUptoCardSaid : Prop := Claim7.holds Tryd.pinned (.plain (OpenSpec.upto recBackSpec)) recBackUptoCard

/-- THE SECOND FORM's CARD OF 'jettylaw06.RecSizes'. -/
def recSizesUptoCard : Claim7 := { stood := { row := recSizesUptoRow, standIns := [], harness := (true, "63ea086284aea79dc35e6a2491496fbc02069564fbbe197ac61265c28ff58d01"), looks := false }, kinds := [], alts := [], laidByText := true, laidKinds := [.data, .pinned], laidTests := true, laidLooks := .later }
def RecSizesUptoCardSaid : Prop := Claim7.holds Tryd.pinned (.plain (OpenSpec.upto recSizesSpec)) recSizesUptoCard

/-- THE SECOND FORM's CARD OF 'jettylaw06.RecApart'. -/
def recApartUptoCard : Claim7 := { stood := { row := recApartUptoRow, standIns := [], harness := (true, "63ea086284aea79dc35e6a2491496fbc02069564fbbe197ac61265c28ff58d01"), looks := false }, kinds := [], alts := [], laidByText := true, laidKinds := [.data, .pinned], laidTests := true, laidLooks := .later }
def RecApartUptoCardSaid : Prop := Claim7.holds Tryd.pinned (.plain (OpenSpec.upto recApartSpec)) recApartUptoCard
end Rows
end Go.Proofs.YtblakognnfilaaaDoor
