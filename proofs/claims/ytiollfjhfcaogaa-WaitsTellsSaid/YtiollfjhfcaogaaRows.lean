/-
  No cell of these rows narrows 'for every input' (looked for: loops, veiled, ifaces, maps, wideKeys, modest, calm, conditions, laid).
  DERIVED. THE GIVEN ROWS OF THIS SEAT. 6 by the template 'for every input the law returns true; each argument reads behind the call as it read before'; 0 by the template 'total and deterministic' (their statements: YtiollfjhfcaogaaTotals.lean).
  GIVEN WITH THE SEED: the statements are not yours to turn. If you find one false, say at which input.
  Laid BY PROGRAM, IN A SANDBOX (cutbox-rows.mjs): the forced cells as the released guide's own fill.sh prints them over the translation d04e2175143d3d54… (all of the seat's roots in one cut). By AI agents, Wed Nov 11 2026. No macro, syntax, notation, axiom, sorry.
-/
import Derived.Test.YtiollfjhfcaogaaChecked
import GoSem.Claim
import GoSem.ClaimJoined
import GoSem.ClaimMapViews
import Derived.JoinedTies
import Derived.KernelRfl
namespace Go.Proofs.Ytiollfjhfcaogaa
/- THE CELL 'sum', in the pinned program and in every row, IS THE sha256 OF THE DUMP (.gsa) THAT YtiollfjhfcaogaaProg.lean LOADS. Nothing in Lean hashes anything: it is a label: what it is worth is what the hold of that sum in a sandbox is worth. -/
noncomputable def Try.pinned : Pinned := { name := "ytiollfjhfcaogaa", sum := "d04e2175143d3d541a21965020f044d266a69960cd58e1d8391590bc047c9d6f", checked := Try.checked }
namespace Rows
def none {H : Type} : Left H := { results := [], args := [] }

/-- 'jettylaw10.WaitsTells': WHATEVER THE INPUT: true; the input reads as it did. -/
def waitsTellsSpec : ChangeSpec := { name := "waitsTells", fn := fun _ => fun
  | [d1, d2, d3] => { results := [.lit (.bool true)], args := [d1, d2, d3] }
  | _ => none }
def waitsTellsRow : OpenClaim := { program := "ytiollfjhfcaogaa", sum := "d04e2175143d3d541a21965020f044d266a69960cd58e1d8391590bc047c9d6f", func := "jetty/jettylaw10.WaitsTells", spec := "waitsTells", apart := false }
def WaitsTellsSaid : Prop := waitsTellsRow.holds Try.pinned (OpenSpec.ofChange waitsTellsSpec)

/-- ITS FALSE NEIGHBOUR: 'it returns false'. Refute it at one input. -/
def waitsTellsWrong : ChangeSpec := { name := "waitsTells", fn := fun _ => fun
  | [d1, d2, d3] => { results := [.lit (.bool false)], args := [d1, d2, d3] }
  | _ => none }
def WaitsTellsWrongFalsely : Prop := waitsTellsRow.holds Try.pinned (OpenSpec.ofChange waitsTellsWrong)

/-- 'jettylaw10.WaitsSpread': WHATEVER THE INPUT: true; the input reads as it did. -/
def waitsSpreadSpec : ChangeSpec := { name := "waitsSpread", fn := fun _ => fun
  | [d1, d2] => { results := [.lit (.bool true)], args := [d1, d2] }
  | _ => none }
def waitsSpreadRow : OpenClaim := { program := "ytiollfjhfcaogaa", sum := "d04e2175143d3d541a21965020f044d266a69960cd58e1d8391590bc047c9d6f", func := "jetty/jettylaw10.WaitsSpread", spec := "waitsSpread", apart := false }
def WaitsSpreadSaid : Prop := waitsSpreadRow.holds Try.pinned (OpenSpec.ofChange waitsSpreadSpec)

/-- ITS FALSE NEIGHBOUR: 'it returns false'. Refute it at one input. -/
def waitsSpreadWrong : ChangeSpec := { name := "waitsSpread", fn := fun _ => fun
  | [d1, d2] => { results := [.lit (.bool false)], args := [d1, d2] }
  | _ => none }
def WaitsSpreadWrongFalsely : Prop := waitsSpreadRow.holds Try.pinned (OpenSpec.ofChange waitsSpreadWrong)

/-- 'jettylaw10.WaitsFinds': WHATEVER THE INPUT: true; the input reads as it did. -/
def waitsFindsSpec : ChangeSpec := { name := "waitsFinds", fn := fun _ => fun
  | [d1, d2] => { results := [.lit (.bool true)], args := [d1, d2] }
  | _ => none }
def waitsFindsRow : OpenClaim := { program := "ytiollfjhfcaogaa", sum := "d04e2175143d3d541a21965020f044d266a69960cd58e1d8391590bc047c9d6f", func := "jetty/jettylaw10.WaitsFinds", spec := "waitsFinds", apart := false }
def WaitsFindsSaid : Prop := waitsFindsRow.holds Try.pinned (OpenSpec.ofChange waitsFindsSpec)

/-- ITS FALSE NEIGHBOUR: 'it returns false'. Refute it at one input. -/
def waitsFindsWrong : ChangeSpec := { name := "waitsFinds", fn := fun _ => fun
  | [d1, d2] => { results := [.lit (.bool false)], args := [d1, d2] }
  | _ => none }
def WaitsFindsWrongFalsely : Prop := waitsFindsRow.holds Try.pinned (OpenSpec.ofChange waitsFindsWrong)

/-- 'jettylaw10.WaitsVictims': WHATEVER THE INPUT: true; the input reads as it did. -/
def waitsVictimsSpec : ChangeSpec := { name := "waitsVictims", fn := fun _ => fun
  | [d] => { results := [.lit (.bool true)], args := [d] }
  | _ => none }
def waitsVictimsRow : OpenClaim := { program := "ytiollfjhfcaogaa", sum := "d04e2175143d3d541a21965020f044d266a69960cd58e1d8391590bc047c9d6f", func := "jetty/jettylaw10.WaitsVictims", spec := "waitsVictims", apart := false }
def WaitsVictimsSaid : Prop := waitsVictimsRow.holds Try.pinned (OpenSpec.ofChange waitsVictimsSpec)

/-- ITS FALSE NEIGHBOUR: 'it returns false'. Refute it at one input. -/
def waitsVictimsWrong : ChangeSpec := { name := "waitsVictims", fn := fun _ => fun
  | [d] => { results := [.lit (.bool false)], args := [d] }
  | _ => none }
def WaitsVictimsWrongFalsely : Prop := waitsVictimsRow.holds Try.pinned (OpenSpec.ofChange waitsVictimsWrong)

/-- 'jettylaw10.WaitsMore': WHATEVER THE INPUT: true; the input reads as it did. -/
def waitsMoreSpec : ChangeSpec := { name := "waitsMore", fn := fun _ => fun
  | [d1, d2, d3] => { results := [.lit (.bool true)], args := [d1, d2, d3] }
  | _ => none }
def waitsMoreRow : OpenClaim := { program := "ytiollfjhfcaogaa", sum := "d04e2175143d3d541a21965020f044d266a69960cd58e1d8391590bc047c9d6f", func := "jetty/jettylaw10.WaitsMore", spec := "waitsMore", apart := false }
def WaitsMoreSaid : Prop := waitsMoreRow.holds Try.pinned (OpenSpec.ofChange waitsMoreSpec)

/-- ITS FALSE NEIGHBOUR: 'it returns false'. Refute it at one input. -/
def waitsMoreWrong : ChangeSpec := { name := "waitsMore", fn := fun _ => fun
  | [d1, d2, d3] => { results := [.lit (.bool false)], args := [d1, d2, d3] }
  | _ => none }
def WaitsMoreWrongFalsely : Prop := waitsMoreRow.holds Try.pinned (OpenSpec.ofChange waitsMoreWrong)

/-- 'jettylaw10.WaitsCloses': WHATEVER THE INPUT: true; the input reads as it did. -/
def waitsClosesSpec : ChangeSpec := { name := "waitsCloses", fn := fun _ => fun
  | [d1, d2] => { results := [.lit (.bool true)], args := [d1, d2] }
  | _ => none }
def waitsClosesRow : OpenClaim := { program := "ytiollfjhfcaogaa", sum := "d04e2175143d3d541a21965020f044d266a69960cd58e1d8391590bc047c9d6f", func := "jetty/jettylaw10.WaitsCloses", spec := "waitsCloses", apart := false }
def WaitsClosesSaid : Prop := waitsClosesRow.holds Try.pinned (OpenSpec.ofChange waitsClosesSpec)

/-- ITS FALSE NEIGHBOUR: 'it returns false'. Refute it at one input. -/
def waitsClosesWrong : ChangeSpec := { name := "waitsCloses", fn := fun _ => fun
  | [d1, d2] => { results := [.lit (.bool false)], args := [d1, d2] }
  | _ => none }
def WaitsClosesWrongFalsely : Prop := waitsClosesRow.holds Try.pinned (OpenSpec.ofChange waitsClosesWrong)

/- THE SECOND FORM. 'bulk': how many values and letters a reading holds, each counted each time it is reached (what is shared counts as often as it is met; a slice's spare places count too). A statement '..UptoSaid' is the law's where the arguments, and the package variables that the reading takes, are together of bulk at most 1048576: NARROWER than '..Said'. Prove '..Said' where nothing that the law and all that it calls make is longer than what came in: it says more and counts as full. Else prove '..UptoSaid'. A law counts once. -/
mutual
def uptoBulk {H : Type} : DataW H → Nat
  | .lit (.string bytes) => bytes.length + 1
  | .lit _ => 1
  | .nil => 1
  | .ptr d => uptoBulk d + 1
  | .slice elems spare => uptoBulkAll elems + uptoBulkAll spare + 1
  | .agg parts => uptoBulkAll parts + 1
  | .iface _ d => uptoBulk d + 1
  | .map entries => uptoBulkEntries entries + 1
  | .held _ => 1
def uptoBulkAll {H : Type} : List (DataW H) → Nat
  | [] => 0
  | d :: r => uptoBulk d + uptoBulkAll r
def uptoBulkEntries {H : Type} : List (Lit × DataW H) → Nat
  | [] => 0
  | x :: r => uptoBulkEntry x + uptoBulkEntries r
def uptoBulkEntry {H : Type} : Lit × DataW H → Nat
  | (.string bytes, d) => bytes.length + uptoBulk d + 1
  | (_, d) => uptoBulk d + 1
 end
def uptoSmall : (H : Type) → List (DataW H) → Bool := fun _ ds => decide (uptoBulkAll ds ≤ 1048576)
def OpenSpec.upto (s : _root_.Go.ChangeSpec) : _root_.Go.OpenSpec := { _root_.Go.OpenSpec.ofChange s with cond := some uptoSmall }

/-- 'jettylaw10.WaitsTells', WHERE WHAT IT READS IS OF BULK AT MOST 1048576: true; the input reads as it did. -/
def waitsTellsUptoRow : OpenClaim := { program := "ytiollfjhfcaogaa", sum := "d04e2175143d3d541a21965020f044d266a69960cd58e1d8391590bc047c9d6f", func := "jetty/jettylaw10.WaitsTells", spec := "waitsTells", apart := false, narrowed := true }
def WaitsTellsUptoSaid : Prop := waitsTellsUptoRow.holds Try.pinned (OpenSpec.upto waitsTellsSpec)

/-- 'jettylaw10.WaitsSpread', WHERE WHAT IT READS IS OF BULK AT MOST 1048576: true; the input reads as it did. -/
def waitsSpreadUptoRow : OpenClaim := { program := "ytiollfjhfcaogaa", sum := "d04e2175143d3d541a21965020f044d266a69960cd58e1d8391590bc047c9d6f", func := "jetty/jettylaw10.WaitsSpread", spec := "waitsSpread", apart := false, narrowed := true }
def WaitsSpreadUptoSaid : Prop := waitsSpreadUptoRow.holds Try.pinned (OpenSpec.upto waitsSpreadSpec)

/-- 'jettylaw10.WaitsFinds', WHERE WHAT IT READS IS OF BULK AT MOST 1048576: true; the input reads as it did. -/
def waitsFindsUptoRow : OpenClaim := { program := "ytiollfjhfcaogaa", sum := "d04e2175143d3d541a21965020f044d266a69960cd58e1d8391590bc047c9d6f", func := "jetty/jettylaw10.WaitsFinds", spec := "waitsFinds", apart := false, narrowed := true }
def WaitsFindsUptoSaid : Prop := waitsFindsUptoRow.holds Try.pinned (OpenSpec.upto waitsFindsSpec)

/-- 'jettylaw10.WaitsVictims', WHERE WHAT IT READS IS OF BULK AT MOST 1048576: true; the input reads as it did. -/
def waitsVictimsUptoRow : OpenClaim := { program := "ytiollfjhfcaogaa", sum := "d04e2175143d3d541a21965020f044d266a69960cd58e1d8391590bc047c9d6f", func := "jetty/jettylaw10.WaitsVictims", spec := "waitsVictims", apart := false, narrowed := true }
def WaitsVictimsUptoSaid : Prop := waitsVictimsUptoRow.holds Try.pinned (OpenSpec.upto waitsVictimsSpec)

/-- 'jettylaw10.WaitsMore', WHERE WHAT IT READS IS OF BULK AT MOST 1048576: true; the input reads as it did. -/
def waitsMoreUptoRow : OpenClaim := { program := "ytiollfjhfcaogaa", sum := "d04e2175143d3d541a21965020f044d266a69960cd58e1d8391590bc047c9d6f", func := "jetty/jettylaw10.WaitsMore", spec := "waitsMore", apart := false, narrowed := true }
def WaitsMoreUptoSaid : Prop := waitsMoreUptoRow.holds Try.pinned (OpenSpec.upto waitsMoreSpec)

/-- 'jettylaw10.WaitsCloses', WHERE WHAT IT READS IS OF BULK AT MOST 1048576: true; the input reads as it did. -/
def waitsClosesUptoRow : OpenClaim := { program := "ytiollfjhfcaogaa", sum := "d04e2175143d3d541a21965020f044d266a69960cd58e1d8391590bc047c9d6f", func := "jetty/jettylaw10.WaitsCloses", spec := "waitsCloses", apart := false, narrowed := true }
def WaitsClosesUptoSaid : Prop := waitsClosesUptoRow.holds Try.pinned (OpenSpec.upto waitsClosesSpec)

end Rows
end Go.Proofs.Ytiollfjhfcaogaa
