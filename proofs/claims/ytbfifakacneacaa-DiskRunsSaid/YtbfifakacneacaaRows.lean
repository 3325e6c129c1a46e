/-
  No cell of these rows narrows 'for every input' (looked for: loops, veiled, ifaces, maps, wideKeys, modest, calm, conditions, laid).
  DERIVED. THE GIVEN ROWS OF THIS SEAT. 7 by the template 'for every input the law returns true; each argument reads behind the call as it read before'; 0 by the template 'total and deterministic' (their statements: YtbfifakacneacaaTotals.lean).
  GIVEN WITH THE SEED: the statements are not yours to turn. If you find one false, say at which input.
  Laid BY PROGRAM, IN A SANDBOX (cutbox-rows.mjs): the forced cells as the released guide's own fill.sh prints them over the translation 609fd5cb51da9200… (all of the seat's roots in one cut). By AI agents, Wed Nov 11 2026. No macro, syntax, notation, axiom, sorry.
-/
import Derived.Test.YtbfifakacneacaaChecked
import GoSem.Claim
import GoSem.ClaimJoined
import GoSem.ClaimMapViews
import Derived.JoinedTies
import Derived.KernelRfl
namespace Go.Proofs.Ytbfifakacneacaa
/- THE CELL 'sum', in the pinned program and in every row, IS THE sha256 OF THE DUMP (.gsa) THAT YtbfifakacneacaaProg.lean LOADS. Nothing in Lean hashes anything: it is a label: what it is worth is what the hold of that sum in a sandbox is worth. -/
noncomputable def Try.pinned : Pinned := { name := "ytbfifakacneacaa", sum := "609fd5cb51da92000b13cb91617da6de2a8575f6bf4ee0b4829c6dd61880dc8e", checked := Try.checked }
namespace Rows
def none {H : Type} : Left H := { results := [], args := [] }

/-- 'jettylaw02.DiskLast': WHATEVER THE INPUT: true; the input reads as it did. -/
def diskLastSpec : ChangeSpec := { name := "diskLast", fn := fun _ => fun
  | [d] => { results := [.lit (.bool true)], args := [d] }
  | _ => none }
def diskLastRow : OpenClaim := { program := "ytbfifakacneacaa", sum := "609fd5cb51da92000b13cb91617da6de2a8575f6bf4ee0b4829c6dd61880dc8e", func := "jetty/jettylaw02.DiskLast", spec := "diskLast", apart := false }
def DiskLastSaid : Prop := diskLastRow.holds Try.pinned (OpenSpec.ofChange diskLastSpec)

/-- ITS FALSE NEIGHBOUR: 'it returns false'. Refute it at one input. -/
def diskLastWrong : ChangeSpec := { name := "diskLast", fn := fun _ => fun
  | [d] => { results := [.lit (.bool false)], args := [d] }
  | _ => none }
def DiskLastWrongFalsely : Prop := diskLastRow.holds Try.pinned (OpenSpec.ofChange diskLastWrong)

/-- 'jettylaw02.DiskApart': WHATEVER THE INPUT: true; the input reads as it did. -/
def diskApartSpec : ChangeSpec := { name := "diskApart", fn := fun _ => fun
  | [d1, d2] => { results := [.lit (.bool true)], args := [d1, d2] }
  | _ => none }
def diskApartRow : OpenClaim := { program := "ytbfifakacneacaa", sum := "609fd5cb51da92000b13cb91617da6de2a8575f6bf4ee0b4829c6dd61880dc8e", func := "jetty/jettylaw02.DiskApart", spec := "diskApart", apart := false }
def DiskApartSaid : Prop := diskApartRow.holds Try.pinned (OpenSpec.ofChange diskApartSpec)

/-- ITS FALSE NEIGHBOUR: 'it returns false'. Refute it at one input. -/
def diskApartWrong : ChangeSpec := { name := "diskApart", fn := fun _ => fun
  | [d1, d2] => { results := [.lit (.bool false)], args := [d1, d2] }
  | _ => none }
def DiskApartWrongFalsely : Prop := diskApartRow.holds Try.pinned (OpenSpec.ofChange diskApartWrong)

/-- 'jettylaw02.DiskFuel': WHATEVER THE INPUT: true; the input reads as it did. -/
def diskFuelSpec : ChangeSpec := { name := "diskFuel", fn := fun _ => fun
  | [d1, d2] => { results := [.lit (.bool true)], args := [d1, d2] }
  | _ => none }
def diskFuelRow : OpenClaim := { program := "ytbfifakacneacaa", sum := "609fd5cb51da92000b13cb91617da6de2a8575f6bf4ee0b4829c6dd61880dc8e", func := "jetty/jettylaw02.DiskFuel", spec := "diskFuel", apart := false }
def DiskFuelSaid : Prop := diskFuelRow.holds Try.pinned (OpenSpec.ofChange diskFuelSpec)

/-- ITS FALSE NEIGHBOUR: 'it returns false'. Refute it at one input. -/
def diskFuelWrong : ChangeSpec := { name := "diskFuel", fn := fun _ => fun
  | [d1, d2] => { results := [.lit (.bool false)], args := [d1, d2] }
  | _ => none }
def DiskFuelWrongFalsely : Prop := diskFuelRow.holds Try.pinned (OpenSpec.ofChange diskFuelWrong)

/-- 'jettylaw02.DiskWhole': WHATEVER THE INPUT: true; the input reads as it did. -/
def diskWholeSpec : ChangeSpec := { name := "diskWhole", fn := fun _ => fun
  | [d1, d2, d3] => { results := [.lit (.bool true)], args := [d1, d2, d3] }
  | _ => none }
def diskWholeRow : OpenClaim := { program := "ytbfifakacneacaa", sum := "609fd5cb51da92000b13cb91617da6de2a8575f6bf4ee0b4829c6dd61880dc8e", func := "jetty/jettylaw02.DiskWhole", spec := "diskWhole", apart := false }
def DiskWholeSaid : Prop := diskWholeRow.holds Try.pinned (OpenSpec.ofChange diskWholeSpec)

/-- ITS FALSE NEIGHBOUR: 'it returns false'. Refute it at one input. -/
def diskWholeWrong : ChangeSpec := { name := "diskWhole", fn := fun _ => fun
  | [d1, d2, d3] => { results := [.lit (.bool false)], args := [d1, d2, d3] }
  | _ => none }
def DiskWholeWrongFalsely : Prop := diskWholeRow.holds Try.pinned (OpenSpec.ofChange diskWholeWrong)

/-- 'jettylaw02.DiskFirm': WHATEVER THE INPUT: true; the input reads as it did. -/
def diskFirmSpec : ChangeSpec := { name := "diskFirm", fn := fun _ => fun
  | [d1, d2] => { results := [.lit (.bool true)], args := [d1, d2] }
  | _ => none }
def diskFirmRow : OpenClaim := { program := "ytbfifakacneacaa", sum := "609fd5cb51da92000b13cb91617da6de2a8575f6bf4ee0b4829c6dd61880dc8e", func := "jetty/jettylaw02.DiskFirm", spec := "diskFirm", apart := false }
def DiskFirmSaid : Prop := diskFirmRow.holds Try.pinned (OpenSpec.ofChange diskFirmSpec)

/-- ITS FALSE NEIGHBOUR: 'it returns false'. Refute it at one input. -/
def diskFirmWrong : ChangeSpec := { name := "diskFirm", fn := fun _ => fun
  | [d1, d2] => { results := [.lit (.bool false)], args := [d1, d2] }
  | _ => none }
def DiskFirmWrongFalsely : Prop := diskFirmRow.holds Try.pinned (OpenSpec.ofChange diskFirmWrong)

/-- 'jettylaw02.DiskRuns': WHATEVER THE INPUT: true; the input reads as it did. -/
def diskRunsSpec : ChangeSpec := { name := "diskRuns", fn := fun _ => fun
  | [d1, d2] => { results := [.lit (.bool true)], args := [d1, d2] }
  | _ => none }
def diskRunsRow : OpenClaim := { program := "ytbfifakacneacaa", sum := "609fd5cb51da92000b13cb91617da6de2a8575f6bf4ee0b4829c6dd61880dc8e", func := "jetty/jettylaw02.DiskRuns", spec := "diskRuns", apart := false }
def DiskRunsSaid : Prop := diskRunsRow.holds Try.pinned (OpenSpec.ofChange diskRunsSpec)

/-- ITS FALSE NEIGHBOUR: 'it returns false'. Refute it at one input. -/
def diskRunsWrong : ChangeSpec := { name := "diskRuns", fn := fun _ => fun
  | [d1, d2] => { results := [.lit (.bool false)], args := [d1, d2] }
  | _ => none }
def DiskRunsWrongFalsely : Prop := diskRunsRow.holds Try.pinned (OpenSpec.ofChange diskRunsWrong)

/-- 'jettylaw02.DiskNone': WHATEVER THE INPUT: true; the input reads as it did. -/
def diskNoneSpec : ChangeSpec := { name := "diskNone", fn := fun _ => fun
  | [d1, d2] => { results := [.lit (.bool true)], args := [d1, d2] }
  | _ => none }
def diskNoneRow : OpenClaim := { program := "ytbfifakacneacaa", sum := "609fd5cb51da92000b13cb91617da6de2a8575f6bf4ee0b4829c6dd61880dc8e", func := "jetty/jettylaw02.DiskNone", spec := "diskNone", apart := false }
def DiskNoneSaid : Prop := diskNoneRow.holds Try.pinned (OpenSpec.ofChange diskNoneSpec)

/-- ITS FALSE NEIGHBOUR: 'it returns false'. Refute it at one input. -/
def diskNoneWrong : ChangeSpec := { name := "diskNone", fn := fun _ => fun
  | [d1, d2] => { results := [.lit (.bool false)], args := [d1, d2] }
  | _ => none }
def DiskNoneWrongFalsely : Prop := diskNoneRow.holds Try.pinned (OpenSpec.ofChange diskNoneWrong)

/- THE SECOND FORM. 'bulk': how many values and letters a reading holds, each counted each time it is reached (what is shared counts as often as it is met; a slice's spare places count too). A statement '..UptoSaid' is the law's where the arguments, and the package variables that the reading takes, are together of bulk at most 1048576: NARROWER than '..Said'. Prove '..Said' where nothing that the law and all that it calls make is longer than what came in: it says more and counts as full. Else prove '..UptoSaid'. A law counts once. -/
mutual
def uptoBulk {H : Type} : DataW H → Nat
  | .lit (.string bytes) => bytes.length + 1
  | .lit _ => 1
  | .nil => 1
  | .ptr d => uptoBulk d + 1
  | .slice elems spare => uptoBulkAll elems + uptoBulkAll spare + 1
  | .agg parts => uptoBulkAll parts + 1
  | .iface _ d => uptoBulk d + 1
  | .map entries => uptoBulkEntries entries + 1
  | .held _ => 1
def uptoBulkAll {H : Type} : List (DataW H) → Nat
  | [] => 0
  | d :: r => uptoBulk d + uptoBulkAll r
def uptoBulkEntries {H : Type} : List (Lit × DataW H) → Nat
  | [] => 0
  | x :: r => uptoBulkEntry x + uptoBulkEntries r
def uptoBulkEntry {H : Type} : Lit × DataW H → Nat
  | (.string bytes, d) => bytes.length + uptoBulk d + 1
  | (_, d) => uptoBulk d + 1
 end
def uptoSmall : (H : Type) → List (DataW H) → Bool := fun _ ds => decide (uptoBulkAll ds ≤ 1048576)
def OpenSpec.upto (s : _root_.Go.ChangeSpec) : _root_.Go.OpenSpec := { _root_.Go.OpenSpec.ofChange s with cond := some uptoSmall }

/-- 'jettylaw02.DiskLast', WHERE WHAT IT READS IS OF BULK AT MOST 1048576: true; the input reads as it did. -/
def diskLastUptoRow : OpenClaim := { program := "ytbfifakacneacaa", sum := "609fd5cb51da92000b13cb91617da6de2a8575f6bf4ee0b4829c6dd61880dc8e", func := "jetty/jettylaw02.DiskLast", spec := "diskLast", apart := false, narrowed := true }
def DiskLastUptoSaid : Prop := diskLastUptoRow.holds Try.pinned (OpenSpec.upto diskLastSpec)

/-- 'jettylaw02.DiskApart', WHERE WHAT IT READS IS OF BULK AT MOST 1048576: true; the input reads as it did. -/
def diskApartUptoRow : OpenClaim := { program := "ytbfifakacneacaa", sum := "609fd5cb51da92000b13cb91617da6de2a8575f6bf4ee0b4829c6dd61880dc8e", func := "jetty/jettylaw02.DiskApart", spec := "diskApart", apart := false, narrowed := true }
def DiskApartUptoSaid : Prop := diskApartUptoRow.holds Try.pinned (OpenSpec.upto diskApartSpec)

/-- 'jettylaw02.DiskFuel', WHERE WHAT IT READS IS OF BULK AT MOST 1048576: true; the input reads as it did. -/
def diskFuelUptoRow : OpenClaim := { program := "ytbfifakacneacaa", sum := "609fd5cb51da92000b13cb91617da6de2a8575f6bf4ee0b4829c6dd61880dc8e", func := "jetty/jettylaw02.DiskFuel", spec := "diskFuel", apart := false, narrowed := true }
def DiskFuelUptoSaid : Prop := diskFuelUptoRow.holds Try.pinned (OpenSpec.upto diskFuelSpec)

/-- 'jettylaw02.DiskWhole', WHERE WHAT IT READS IS OF BULK AT MOST 1048576: true; the input reads as it did. -/
def diskWholeUptoRow : OpenClaim := { program := "ytbfifakacneacaa", sum := "609fd5cb51da92000b13cb91617da6de2a8575f6bf4ee0b4829c6dd61880dc8e", func := "jetty/jettylaw02.DiskWhole", spec := "diskWhole", apart := false, narrowed := true }
def DiskWholeUptoSaid : Prop := diskWholeUptoRow.holds Try.pinned (OpenSpec.upto diskWholeSpec)

/-- 'jettylaw02.DiskFirm', WHERE WHAT IT READS IS OF BULK AT MOST 1048576: true; the input reads as it did. -/
def diskFirmUptoRow : OpenClaim := { program := "ytbfifakacneacaa", sum := "609fd5cb51da92000b13cb91617da6de2a8575f6bf4ee0b4829c6dd61880dc8e", func := "jetty/jettylaw02.DiskFirm", spec := "diskFirm", apart := false, narrowed := true }
def DiskFirmUptoSaid : Prop := diskFirmUptoRow.holds Try.pinned (OpenSpec.upto diskFirmSpec)

/-- 'jettylaw02.DiskRuns', WHERE WHAT IT READS IS OF BULK AT MOST 1048576: true; the input reads as it did. -/
def diskRunsUptoRow : OpenClaim := { program := "ytbfifakacneacaa", sum := "609fd5cb51da92000b13cb91617da6de2a8575f6bf4ee0b4829c6dd61880dc8e", func := "jetty/jettylaw02.DiskRuns", spec := "diskRuns", apart := false, narrowed := true }
def DiskRunsUptoSaid : Prop := diskRunsUptoRow.holds Try.pinned (OpenSpec.upto diskRunsSpec)

/-- 'jettylaw02.DiskNone', WHERE WHAT IT READS IS OF BULK AT MOST 1048576: true; the input reads as it did. -/
def diskNoneUptoRow : OpenClaim := { program := "ytbfifakacneacaa", sum := "609fd5cb51da92000b13cb91617da6de2a8575f6bf4ee0b4829c6dd61880dc8e", func := "jetty/jettylaw02.DiskNone", spec := "diskNone", apart := false, narrowed := true }
def DiskNoneUptoSaid : Prop := diskNoneUptoRow.holds Try.pinned (OpenSpec.upto diskNoneSpec)

end Rows
end Go.Proofs.Ytbfifakacneacaa
