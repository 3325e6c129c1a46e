/-
  No cell of these rows narrows 'for every input' (looked for: loops, veiled, ifaces, maps, wideKeys, modest, calm, conditions, laid).
  DERIVED. THE GIVEN ROWS OF THIS SEAT. 5 by the template 'for every input the law returns true; each argument reads behind the call as it read before'; 0 by the template 'total and deterministic' (their statements: YtafiojmbaickpaaTotals.lean).
  GIVEN WITH THE SEED: the statements are not yours to turn. If you find one false, say at which input.
  Laid BY PROGRAM, IN A SANDBOX (cutbox-rows.mjs): the forced cells as the released guide's own fill.sh prints them over the translation 11953cc241789a70… (all of the seat's roots in one cut). By AI agents, Wed Nov 11 2026. No macro, syntax, notation, axiom, sorry.
-/
import Derived.Test.YtafiojmbaickpaaChecked
import GoSem.Claim
import GoSem.ClaimJoined
import GoSem.ClaimMapViews
import Derived.JoinedTies
import Derived.KernelRfl
namespace Go.Proofs.Ytafiojmbaickpaa
/- THE CELL 'sum', in the pinned program and in every row, IS THE sha256 OF THE DUMP (.gsa) THAT YtafiojmbaickpaaProg.lean LOADS. Nothing in Lean hashes anything: it is a label: what it is worth is what the hold of that sum in a sandbox is worth. -/
noncomputable def Try.pinned : Pinned := { name := "ytafiojmbaickpaa", sum := "11953cc241789a70d058ea97c493fc7a511b51107adcd926292f6369fa6a3f39", checked := Try.checked }
namespace Rows
def none {H : Type} : Left H := { results := [], args := [] }

/-- 'jettylaw07.WalRoom': WHATEVER THE INPUT: true; the input reads as it did. -/
def walRoomSpec : ChangeSpec := { name := "walRoom", fn := fun _ => fun
  | [d] => { results := [.lit (.bool true)], args := [d] }
  | _ => none }
def walRoomRow : OpenClaim := { program := "ytafiojmbaickpaa", sum := "11953cc241789a70d058ea97c493fc7a511b51107adcd926292f6369fa6a3f39", func := "jetty/jettylaw07.WalRoom", spec := "walRoom", inPlace := ["internal/abi.NoEscape", "internal/bytealg.MakeNoZero"], apart := false }
def WalRoomSaid : Prop := walRoomRow.holds Try.pinned (OpenSpec.ofChange walRoomSpec)

/-- ITS FALSE NEIGHBOUR: 'it returns false'. Refute it at one input. -/
def walRoomWrong : ChangeSpec := { name := "walRoom", fn := fun _ => fun
  | [d] => { results := [.lit (.bool false)], args := [d] }
  | _ => none }
def WalRoomWrongFalsely : Prop := walRoomRow.holds Try.pinned (OpenSpec.ofChange walRoomWrong)

/-- 'jettylaw07.WalPrefix': WHATEVER THE INPUT: true; the input reads as it did. -/
def walPrefixSpec : ChangeSpec := { name := "walPrefix", fn := fun _ => fun
  | [d] => { results := [.lit (.bool true)], args := [d] }
  | _ => none }
def walPrefixRow : OpenClaim := { program := "ytafiojmbaickpaa", sum := "11953cc241789a70d058ea97c493fc7a511b51107adcd926292f6369fa6a3f39", func := "jetty/jettylaw07.WalPrefix", spec := "walPrefix", inPlace := ["internal/abi.NoEscape", "internal/bytealg.MakeNoZero"], apart := false }
def WalPrefixSaid : Prop := walPrefixRow.holds Try.pinned (OpenSpec.ofChange walPrefixSpec)

/-- ITS FALSE NEIGHBOUR: 'it returns false'. Refute it at one input. -/
def walPrefixWrong : ChangeSpec := { name := "walPrefix", fn := fun _ => fun
  | [d] => { results := [.lit (.bool false)], args := [d] }
  | _ => none }
def WalPrefixWrongFalsely : Prop := walPrefixRow.holds Try.pinned (OpenSpec.ofChange walPrefixWrong)

/-- 'jettylaw07.WalGoesOn': WHATEVER THE INPUT: true; the input reads as it did. -/
def walGoesOnSpec : ChangeSpec := { name := "walGoesOn", fn := fun _ => fun
  | [d] => { results := [.lit (.bool true)], args := [d] }
  | _ => none }
def walGoesOnRow : OpenClaim := { program := "ytafiojmbaickpaa", sum := "11953cc241789a70d058ea97c493fc7a511b51107adcd926292f6369fa6a3f39", func := "jetty/jettylaw07.WalGoesOn", spec := "walGoesOn", inPlace := ["internal/abi.NoEscape", "internal/bytealg.MakeNoZero"], apart := false }
def WalGoesOnSaid : Prop := walGoesOnRow.holds Try.pinned (OpenSpec.ofChange walGoesOnSpec)

/-- ITS FALSE NEIGHBOUR: 'it returns false'. Refute it at one input. -/
def walGoesOnWrong : ChangeSpec := { name := "walGoesOn", fn := fun _ => fun
  | [d] => { results := [.lit (.bool false)], args := [d] }
  | _ => none }
def WalGoesOnWrongFalsely : Prop := walGoesOnRow.holds Try.pinned (OpenSpec.ofChange walGoesOnWrong)

/-- 'jettylaw07.WalWraps': WHATEVER THE INPUT: true; the input reads as it did. -/
def walWrapsSpec : ChangeSpec := { name := "walWraps", fn := fun _ => fun
  | [d1, d2, d3] => { results := [.lit (.bool true)], args := [d1, d2, d3] }
  | _ => none }
def walWrapsRow : OpenClaim := { program := "ytafiojmbaickpaa", sum := "11953cc241789a70d058ea97c493fc7a511b51107adcd926292f6369fa6a3f39", func := "jetty/jettylaw07.WalWraps", spec := "walWraps", inPlace := ["internal/abi.NoEscape", "internal/bytealg.MakeNoZero"], unfollowed := true, recurses := true, apart := false }
def WalWrapsSaid : Prop := walWrapsRow.holds Try.pinned (OpenSpec.ofChange walWrapsSpec)

/-- ITS FALSE NEIGHBOUR: 'it returns false'. Refute it at one input. -/
def walWrapsWrong : ChangeSpec := { name := "walWraps", fn := fun _ => fun
  | [d1, d2, d3] => { results := [.lit (.bool false)], args := [d1, d2, d3] }
  | _ => none }
def WalWrapsWrongFalsely : Prop := walWrapsRow.holds Try.pinned (OpenSpec.ofChange walWrapsWrong)

/-- 'jettylaw07.WalCuts': WHATEVER THE INPUT: true; the input reads as it did. -/
def walCutsSpec : ChangeSpec := { name := "walCuts", fn := fun _ => fun
  | [d1, d2] => { results := [.lit (.bool true)], args := [d1, d2] }
  | _ => none }
def walCutsRow : OpenClaim := { program := "ytafiojmbaickpaa", sum := "11953cc241789a70d058ea97c493fc7a511b51107adcd926292f6369fa6a3f39", func := "jetty/jettylaw07.WalCuts", spec := "walCuts", inPlace := ["internal/abi.NoEscape", "internal/bytealg.MakeNoZero"], unfollowed := true, recurses := true, apart := false }
def WalCutsSaid : Prop := walCutsRow.holds Try.pinned (OpenSpec.ofChange walCutsSpec)

/-- ITS FALSE NEIGHBOUR: 'it returns false'. Refute it at one input. -/
def walCutsWrong : ChangeSpec := { name := "walCuts", fn := fun _ => fun
  | [d1, d2] => { results := [.lit (.bool false)], args := [d1, d2] }
  | _ => none }
def WalCutsWrongFalsely : Prop := walCutsRow.holds Try.pinned (OpenSpec.ofChange walCutsWrong)

/- THE SECOND FORM. 'bulk': how many values and letters a reading holds, each counted each time it is reached (what is shared counts as often as it is met; a slice's spare places count too). A statement '..UptoSaid' is the law's where the arguments, and the package variables that the reading takes, are together of bulk at most 1048576: NARROWER than '..Said'. Prove '..Said' where nothing that the law and all that it calls make is longer than what came in: it says more and counts as full. Else prove '..UptoSaid'. A law counts once. -/
mutual
def uptoBulk {H : Type} : DataW H → Nat
  | .lit (.string bytes) => bytes.length + 1
  | .lit _ => 1
  | .nil => 1
  | .ptr d => uptoBulk d + 1
  | .slice elems spare => uptoBulkAll elems + uptoBulkAll spare + 1
  | .agg parts => uptoBulkAll parts + 1
  | .iface _ d => uptoBulk d + 1
  | .map entries => uptoBulkEntries entries + 1
  | .held _ => 1
def uptoBulkAll {H : Type} : List (DataW H) → Nat
  | [] => 0
  | d :: r => uptoBulk d + uptoBulkAll r
def uptoBulkEntries {H : Type} : List (Lit × DataW H) → Nat
  | [] => 0
  | x :: r => uptoBulkEntry x + uptoBulkEntries r
def uptoBulkEntry {H : Type} : Lit × DataW H → Nat
  | (.string bytes, d) => bytes.length + uptoBulk d + 1
  | (_, d) => uptoBulk d + 1
 end
def uptoSmall : (H : Type) → List (DataW H) → Bool := fun _ ds => decide (uptoBulkAll ds ≤ 1048576)
def OpenSpec.upto (s : _root_.Go.ChangeSpec) : _root_.Go.OpenSpec := { _root_.Go.OpenSpec.ofChange s with cond := some uptoSmall }

/-- 'jettylaw07.WalRoom', WHERE WHAT IT READS IS OF BULK AT MOST 1048576: true; the input reads as it did. -/
def walRoomUptoRow : OpenClaim := { program := "ytafiojmbaickpaa", sum := "11953cc241789a70d058ea97c493fc7a511b51107adcd926292f6369fa6a3f39", func := "jetty/jettylaw07.WalRoom", spec := "walRoom", inPlace := ["internal/abi.NoEscape", "internal/bytealg.MakeNoZero"], apart := false, narrowed := true }
def WalRoomUptoSaid : Prop := walRoomUptoRow.holds Try.pinned (OpenSpec.upto walRoomSpec)

/-- 'jettylaw07.WalPrefix', WHERE WHAT IT READS IS OF BULK AT MOST 1048576: true; the input reads as it did. -/
def walPrefixUptoRow : OpenClaim := { program := "ytafiojmbaickpaa", sum := "11953cc241789a70d058ea97c493fc7a511b51107adcd926292f6369fa6a3f39", func := "jetty/jettylaw07.WalPrefix", spec := "walPrefix", inPlace := ["internal/abi.NoEscape", "internal/bytealg.MakeNoZero"], apart := false, narrowed := true }
def WalPrefixUptoSaid : Prop := walPrefixUptoRow.holds Try.pinned (OpenSpec.upto walPrefixSpec)

/-- 'jettylaw07.WalGoesOn', WHERE WHAT IT READS IS OF BULK AT MOST 1048576: true; the input reads as it did. -/
def walGoesOnUptoRow : OpenClaim := { program := "ytafiojmbaickpaa", sum := "11953cc241789a70d058ea97c493fc7a511b51107adcd926292f6369fa6a3f39", func := "jetty/jettylaw07.WalGoesOn", spec := "walGoesOn", inPlace := ["internal/abi.NoEscape", "internal/bytealg.MakeNoZero"], apart := false, narrowed := true }
def WalGoesOnUptoSaid : Prop := walGoesOnUptoRow.holds Try.pinned (OpenSpec.upto walGoesOnSpec)

/-- 'jettylaw07.WalWraps', WHERE WHAT IT READS IS OF BULK AT MOST 1048576: true; the input reads as it did. -/
def walWrapsUptoRow : OpenClaim := { program := "ytafiojmbaickpaa", sum := "11953cc241789a70d058ea97c493fc7a511b51107adcd926292f6369fa6a3f39", func := "jetty/jettylaw07.WalWraps", spec := "walWraps", inPlace := ["internal/abi.NoEscape", "internal/bytealg.MakeNoZero"], unfollowed := true, recurses := true, apart := false, narrowed := true }
def WalWrapsUptoSaid : Prop := walWrapsUptoRow.holds Try.pinned (OpenSpec.upto walWrapsSpec)

/-- 'jettylaw07.WalCuts', WHERE WHAT IT READS IS OF BULK AT MOST 1048576: true; the input reads as it did. -/
def walCutsUptoRow : OpenClaim := { program := "ytafiojmbaickpaa", sum := "11953cc241789a70d058ea97c493fc7a511b51107adcd926292f6369fa6a3f39", func := "jetty/jettylaw07.WalCuts", spec := "walCuts", inPlace := ["internal/abi.NoEscape", "internal/bytealg.MakeNoZero"], unfollowed := true, recurses := true, apart := false, narrowed := true }
def WalCutsUptoSaid : Prop := walCutsUptoRow.holds Try.pinned (OpenSpec.upto walCutsSpec)

end Rows
end Go.Proofs.Ytafiojmbaickpaa
