/-
  DERIVED. GIVEN WITH THE SEED: THE CARDS: each row of YtimomjheanfbmaaGreatDoorRows.lean that lists a variable, with what it lists TIED to the program's text (the seventh form; the later family's looks); each row that meets fmt, with fmt's text TOLD by the authors' own Lean function (tested against real Go, not proved from fmt's source: count such statements apart). THE CARD IS WHAT COUNTS. Prove the row's statement (the work); the ties are given (YtimomjheanfbmaaGreatDoorTie.lean); close each card by the builder's one call (the guide's Derived/Test/ToyasCard.lean, 'card_holds'). Laid BY PROGRAM, IN A SANDBOX (cutbox-door.mjs). By AI agents, Wed Nov 11 2026. No macro, syntax, notation, axiom, sorry.
-/
import Derived.Test.YtimomjheanfbmaaGreatDoorRows
import GoSem.ClaimSeven
namespace Go.Proofs.YtimomjheanfbmaaGreatDoor
namespace Rows

/-- THE TIED CARD OF 'jettylaw18.ChainLinks'. -/
def chainLinksCard : Claim7 := { stood := { row := chainLinksRow, standIns := [], harness := (true, "f08dd6077f6a4f96954fb1712ff739a00f019e9c8a4bb5f87ed4fde0319104ae"), looks := false }, kinds := [], alts := [], laidByText := true, laidKinds := [.data, .pinned], laidTests := true, laidLooks := .later }
def ChainLinksCardSaid : Prop := Claim7.holds Tryz.pinned (.plain (OpenSpec.ofChange chainLinksSpec)) chainLinksCard

/-- THE TIED CARD OF 'jettylaw12.PoolRuns'. -/
def poolRunsCard : Claim7 := { stood := { row := poolRunsRow, standIns := [], harness := (true, "f08dd6077f6a4f96954fb1712ff739a00f019e9c8a4bb5f87ed4fde0319104ae"), looks := false }, kinds := [], alts := [], laidByText := true, laidKinds := [.data, .pinned], laidTests := true, laidLooks := .later }
def PoolRunsCardSaid : Prop := Claim7.holds Tryz.pinned (.plain (OpenSpec.ofChange poolRunsSpec)) poolRunsCard

/-- THE TIED CARD OF 'jettylaw18.ChainSaves'. -/
def chainSavesCard : Claim7 := { stood := { row := chainSavesRow, standIns := [], harness := (true, "f08dd6077f6a4f96954fb1712ff739a00f019e9c8a4bb5f87ed4fde0319104ae"), looks := false }, kinds := [], alts := [], laidByText := true, laidKinds := [.data, .pinned], laidTests := true, laidLooks := .later }
def ChainSavesCardSaid : Prop := Claim7.holds Tryz.pinned (.plain (OpenSpec.ofChange chainSavesSpec)) chainSavesCard

/-- THE TIED CARD OF 'jettylaw18.ChainFrees'. -/
def chainFreesCard : Claim7 := { stood := { row := chainFreesRow, standIns := [], harness := (true, "f08dd6077f6a4f96954fb1712ff739a00f019e9c8a4bb5f87ed4fde0319104ae"), looks := false }, kinds := [], alts := [], laidByText := true, laidKinds := [.data, .pinned], laidTests := true, laidLooks := .later }
def ChainFreesCardSaid : Prop := Claim7.holds Tryz.pinned (.plain (OpenSpec.ofChange chainFreesSpec)) chainFreesCard

/-- THE TIED CARD OF 'jettylaw18.ChainRoom'. -/
def chainRoomCard : Claim7 := { stood := { row := chainRoomRow, standIns := [], harness := (true, "f08dd6077f6a4f96954fb1712ff739a00f019e9c8a4bb5f87ed4fde0319104ae"), looks := false }, kinds := [], alts := [], laidByText := true, laidKinds := [.data, .pinned], laidTests := true, laidLooks := .later }
def ChainRoomCardSaid : Prop := Claim7.holds Tryz.pinned (.plain (OpenSpec.ofChange chainRoomSpec)) chainRoomCard

/-- THE TIED CARD OF 'jettylaw18.ChainRuns'. -/
def chainRunsCard : Claim7 := { stood := { row := chainRunsRow, standIns := [], harness := (true, "f08dd6077f6a4f96954fb1712ff739a00f019e9c8a4bb5f87ed4fde0319104ae"), looks := false }, kinds := [], alts := [], laidByText := true, laidKinds := [.data, .pinned], laidTests := true, laidLooks := .later }
def ChainRunsCardSaid : Prop := Claim7.holds Tryz.pinned (.plain (OpenSpec.ofChange chainRunsSpec)) chainRunsCard

/-- THE SECOND FORM's CARD OF 'jettylaw18.ChainLinks'. -/
def chainLinksUptoCard : Claim7 := { stood := { row := chainLinksUptoRow, standIns := [], harness := (true, "f08dd6077f6a4f96954fb1712ff739a00f019e9c8a4bb5f87ed4fde0319104ae"), looks := false }, kinds := [], alts := [], laidByText := true, laidKinds := [.data, .pinned], laidTests := true, laidLooks := .later }
def ChainLinksUptoCardSaid : Prop := Claim7.holds Tryz.pinned (.plain (OpenSpec.upto chainLinksSpec)) chainLinksUptoCard

/-- THE SECOND FORM's CARD OF 'jettylaw12.PoolRuns'. -/
def poolRunsUptoCard : Claim7 := { stood := { row := poolRunsUptoRow, standIns := [], harness := (true, "f08dd6077f6a4f96954fb1712ff739a00f019e9c8a4bb5f87ed4fde0319104ae"), looks := false }, kinds := [], alts := [], laidByText := true, laidKinds := [.data, .pinned], laidTests := true, laidLooks := .later }
def PoolRunsUptoCardSaid : Prop := Claim7.holds Tryz.pinned (.plain (OpenSpec.upto poolRunsSpec)) poolRunsUptoCard

/-- THE SECOND FORM's CARD OF 'jettylaw18.ChainSaves'. -/
def chainSavesUptoCard : Claim7 := { stood := { row := chainSavesUptoRow, standIns := [], harness := (true, "f08dd6077f6a4f96954fb1712ff739a00f019e9c8a4bb5f87ed4fde0319104ae"), looks := false }, kinds := [], alts := [], laidByText := true, laidKinds := [.data, .pinned], laidTests := true, laidLooks := .later }
def ChainSavesUptoCardSaid : Prop := Claim7.holds Tryz.pinned (.plain (OpenSpec.upto chainSavesSpec)) chainSavesUptoCard

/-- THE SECOND FORM's CARD OF 'jettylaw18.ChainFrees'. -/
def chainFreesUptoCard : Claim7 := { stood := { row := chainFreesUptoRow, standIns := [], harness := (true, "f08dd6077f6a4f96954fb1712ff739a00f019e9c8a4bb5f87ed4fde0319104ae"), looks := false }, kinds := [], alts := [], laidByText := true, laidKinds := [.data, .pinned], laidTests := true, laidLooks := .later }
def ChainFreesUptoCardSaid : Prop := Claim7.holds Tryz.pinned (.plain (OpenSpec.upto chainFreesSpec)) chainFreesUptoCard

/-- THE SECOND FORM's CARD OF 'jettylaw18.ChainRoom'. -/
def chainRoomUptoCard : Claim7 := { stood := { row := chainRoomUptoRow, standIns := [], harness := (true, "f08dd6077f6a4f96954fb1712ff739a00f019e9c8a4bb5f87ed4fde0319104ae"), looks := false }, kinds := [], alts := [], laidByText := true, laidKinds := [.data, .pinned], laidTests := true, laidLooks := .later }
def ChainRoomUptoCardSaid : Prop := Claim7.holds Tryz.pinned (.plain (OpenSpec.upto chainRoomSpec)) chainRoomUptoCard

/-- THE SECOND FORM's CARD OF 'jettylaw18.ChainRuns'. -/
def chainRunsUptoCard : Claim7 := { stood := { row := chainRunsUptoRow, standIns := [], harness := (true, "f08dd6077f6a4f96954fb1712ff739a00f019e9c8a4bb5f87ed4fde0319104ae"), looks := false }, kinds := [], alts := [], laidByText := true, laidKinds := [.data, .pinned], laidTests := true, laidLooks := .later }
def ChainRunsUptoCardSaid : Prop := Claim7.holds Tryz.pinned (.plain (OpenSpec.upto chainRunsSpec)) chainRunsUptoCard
end Rows
end Go.Proofs.YtimomjheanfbmaaGreatDoor
