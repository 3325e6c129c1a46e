/-
  DERIVED. GIVEN WITH THE SEED: THE CARDS: each row of YtdkilpjebmhkkaaDoorRows.lean that lists a variable, with what it lists TIED to the program's text (the seventh form; the later family's looks); each row that meets fmt, with fmt's text TOLD by the authors' own Lean function (tested against real Go, not proved from fmt's source: count such statements apart). THE CARD IS WHAT COUNTS. Prove the row's statement (the work); the ties are given (YtdkilpjebmhkkaaDoorTie.lean); close each card by the builder's one call (the guide's Derived/Test/ToyasCard.lean, 'card_holds'). Laid BY PROGRAM, IN A SANDBOX (cutbox-door.mjs). By AI agents, Wed Nov 11 2026. No macro, syntax, notation, axiom, sorry.
-/
import Derived.Test.YtdkilpjebmhkkaaDoorRows
import GoSem.ClaimSeven
namespace Go.Proofs.YtdkilpjebmhkkaaDoor
namespace Rows

/-- THE TIED CARD OF 'jettylaw12.PoolFrames'. -/
def poolFramesCard : Claim7 := { stood := { row := poolFramesRow, standIns := [], harness := (true, "c4f73c49d1eda009970c19e1f738a7fa7d3a85d4a50b43a463a4464c36f1542b"), looks := false }, kinds := [], alts := [], laidByText := true, laidKinds := [.data, .pinned], laidTests := true, laidLooks := .later }
def PoolFramesCardSaid : Prop := Claim7.holds Tryd.pinned (.plain (OpenSpec.ofChange poolFramesSpec)) poolFramesCard

/-- THE TIED CARD OF 'jettylaw12.PoolAgain'. -/
def poolAgainCard : Claim7 := { stood := { row := poolAgainRow, standIns := [], harness := (true, "c4f73c49d1eda009970c19e1f738a7fa7d3a85d4a50b43a463a4464c36f1542b"), looks := false }, kinds := [], alts := [], laidByText := true, laidKinds := [.data, .pinned], laidTests := true, laidLooks := .later }
def PoolAgainCardSaid : Prop := Claim7.holds Tryd.pinned (.plain (OpenSpec.ofChange poolAgainSpec)) poolAgainCard

/-- THE TIED CARD OF 'jettylaw12.PoolLogFirst'. -/
def poolLogFirstCard : Claim7 := { stood := { row := poolLogFirstRow, standIns := [], harness := (true, "c4f73c49d1eda009970c19e1f738a7fa7d3a85d4a50b43a463a4464c36f1542b"), looks := false }, kinds := [], alts := [], laidByText := true, laidKinds := [.data, .pinned], laidTests := true, laidLooks := .later }
def PoolLogFirstCardSaid : Prop := Claim7.holds Tryd.pinned (.plain (OpenSpec.ofChange poolLogFirstSpec)) poolLogFirstCard

/-- THE TIED CARD OF 'jettylaw12.PoolDirty'. -/
def poolDirtyCard : Claim7 := { stood := { row := poolDirtyRow, standIns := [], harness := (true, "c4f73c49d1eda009970c19e1f738a7fa7d3a85d4a50b43a463a4464c36f1542b"), looks := false }, kinds := [], alts := [], laidByText := true, laidKinds := [.data, .pinned], laidTests := true, laidLooks := .later }
def PoolDirtyCardSaid : Prop := Claim7.holds Tryd.pinned (.plain (OpenSpec.ofChange poolDirtySpec)) poolDirtyCard

/-- THE SECOND FORM's CARD OF 'jettylaw12.PoolFrames'. -/
def poolFramesUptoCard : Claim7 := { stood := { row := poolFramesUptoRow, standIns := [], harness := (true, "c4f73c49d1eda009970c19e1f738a7fa7d3a85d4a50b43a463a4464c36f1542b"), looks := false }, kinds := [], alts := [], laidByText := true, laidKinds := [.data, .pinned], laidTests := true, laidLooks := .later }
def PoolFramesUptoCardSaid : Prop := Claim7.holds Tryd.pinned (.plain (OpenSpec.upto poolFramesSpec)) poolFramesUptoCard

/-- THE SECOND FORM's CARD OF 'jettylaw12.PoolAgain'. -/
def poolAgainUptoCard : Claim7 := { stood := { row := poolAgainUptoRow, standIns := [], harness := (true, "c4f73c49d1eda009970c19e1f738a7fa7d3a85d4a50b43a463a4464c36f1542b"), looks := false }, kinds := [], alts := [], laidByText := true, laidKinds := [.data, .pinned], laidTests := true, laidLooks := .later }
def PoolAgainUptoCardSaid : Prop := Claim7.holds Tryd.pinned (.plain (OpenSpec.upto poolAgainSpec)) poolAgainUptoCard

/-- THE SECOND FORM's CARD OF 'jettylaw12.PoolLogFirst'. -/
def poolLogFirstUptoCard : Claim7 := { stood := { row := poolLogFirstUptoRow, standIns := [], harness := (true, "c4f73c49d1eda009970c19e1f738a7fa7d3a85d4a50b43a463a4464c36f1542b"), looks := false }, kinds := [], alts := [], laidByText := true, laidKinds := [.data, .pinned], laidTests := true, laidLooks := .later }
def PoolLogFirstUptoCardSaid : Prop := Claim7.holds Tryd.pinned (.plain (OpenSpec.upto poolLogFirstSpec)) poolLogFirstUptoCard

/-- THE SECOND FORM's CARD OF 'jettylaw12.PoolDirty'. -/
def poolDirtyUptoCard : Claim7 := { stood := { row := poolDirtyUptoRow, standIns := [], harness := (true, "c4f73c49d1eda009970c19e1f738a7fa7d3a85d4a50b43a463a4464c36f1542b"), looks := false }, kinds := [], alts := [], laidByText := true, laidKinds := [.data, .pinned], laidTests := true, laidLooks := .later }
def PoolDirtyUptoCardSaid : Prop := Claim7.holds Tryd.pinned (.plain (OpenSpec.upto poolDirtySpec)) poolDirtyUptoCard
end Rows
end Go.Proofs.YtdkilpjebmhkkaaDoor
