/-
  No cell of these rows narrows 'for every input' (looked for: loops, veiled, ifaces, maps, wideKeys, modest, calm, conditions, laid).
  DERIVED. THE GIVEN ROWS OF THIS SEAT. 6 by the template 'for every input the law returns true; each argument reads behind the call as it read before'; 0 by the template 'total and deterministic' (their statements: YtejekbeonhmbeaaTotals.lean).
  GIVEN WITH THE SEED: the statements are not yours to turn. If you find one false, say at which input.
  Laid BY PROGRAM, IN A SANDBOX (cutbox-rows.mjs): the forced cells as the released guide's own fill.sh prints them over the translation 5010126dfc16be7c… (all of the seat's roots in one cut). By AI agents, Wed Nov 11 2026. No macro, syntax, notation, axiom, sorry.
-/
import Derived.Test.YtejekbeonhmbeaaChecked
import GoSem.Claim
import GoSem.ClaimJoined
import GoSem.ClaimMapViews
import Derived.JoinedTies
import Derived.KernelRfl
namespace Go.Proofs.Ytejekbeonhmbeaa
/- THE CELL 'sum', in the pinned program and in every row, IS THE sha256 OF THE DUMP (.gsa) THAT YtejekbeonhmbeaaProg.lean LOADS. Nothing in Lean hashes anything: it is a label: what it is worth is what the hold of that sum in a sandbox is worth. -/
noncomputable def Try.pinned : Pinned := { name := "ytejekbeonhmbeaa", sum := "5010126dfc16be7c0d1fa212609ba94ae300efc8f5a8b7d5309ce49f312a5a42", checked := Try.checked }
namespace Rows
def none {H : Type} : Left H := { results := [], args := [] }

/-- 'jettylaw01.OctetFits': WHATEVER THE INPUT: true; the input reads as it did. -/
def octetFitsSpec : ChangeSpec := { name := "octetFits", fn := fun _ => fun
  | [d1, d2] => { results := [.lit (.bool true)], args := [d1, d2] }
  | _ => none }
def octetFitsRow : OpenClaim := { program := "ytejekbeonhmbeaa", sum := "5010126dfc16be7c0d1fa212609ba94ae300efc8f5a8b7d5309ce49f312a5a42", func := "jetty/jettylaw01.OctetFits", spec := "octetFits", apart := false }
def OctetFitsSaid : Prop := octetFitsRow.holds Try.pinned (OpenSpec.ofChange octetFitsSpec)

/-- ITS FALSE NEIGHBOUR: 'it returns false'. Refute it at one input. -/
def octetFitsWrong : ChangeSpec := { name := "octetFits", fn := fun _ => fun
  | [d1, d2] => { results := [.lit (.bool false)], args := [d1, d2] }
  | _ => none }
def OctetFitsWrongFalsely : Prop := octetFitsRow.holds Try.pinned (OpenSpec.ofChange octetFitsWrong)

/-- 'jettylaw01.OctetOrder': WHATEVER THE INPUT: true; the input reads as it did. -/
def octetOrderSpec : ChangeSpec := { name := "octetOrder", fn := fun _ => fun
  | [d1, d2] => { results := [.lit (.bool true)], args := [d1, d2] }
  | _ => none }
def octetOrderRow : OpenClaim := { program := "ytejekbeonhmbeaa", sum := "5010126dfc16be7c0d1fa212609ba94ae300efc8f5a8b7d5309ce49f312a5a42", func := "jetty/jettylaw01.OctetOrder", spec := "octetOrder", apart := false }
def OctetOrderSaid : Prop := octetOrderRow.holds Try.pinned (OpenSpec.ofChange octetOrderSpec)

/-- ITS FALSE NEIGHBOUR: 'it returns false'. Refute it at one input. -/
def octetOrderWrong : ChangeSpec := { name := "octetOrder", fn := fun _ => fun
  | [d1, d2] => { results := [.lit (.bool false)], args := [d1, d2] }
  | _ => none }
def OctetOrderWrongFalsely : Prop := octetOrderRow.holds Try.pinned (OpenSpec.ofChange octetOrderWrong)

/-- 'jettylaw01.OctetNums': WHATEVER THE INPUT: true; the input reads as it did. -/
def octetNumsSpec : ChangeSpec := { name := "octetNums", fn := fun _ => fun
  | [d1, d2, d3] => { results := [.lit (.bool true)], args := [d1, d2, d3] }
  | _ => none }
def octetNumsRow : OpenClaim := { program := "ytejekbeonhmbeaa", sum := "5010126dfc16be7c0d1fa212609ba94ae300efc8f5a8b7d5309ce49f312a5a42", func := "jetty/jettylaw01.OctetNums", spec := "octetNums", apart := false }
def OctetNumsSaid : Prop := octetNumsRow.holds Try.pinned (OpenSpec.ofChange octetNumsSpec)

/-- ITS FALSE NEIGHBOUR: 'it returns false'. Refute it at one input. -/
def octetNumsWrong : ChangeSpec := { name := "octetNums", fn := fun _ => fun
  | [d1, d2, d3] => { results := [.lit (.bool false)], args := [d1, d2, d3] }
  | _ => none }
def OctetNumsWrongFalsely : Prop := octetNumsRow.holds Try.pinned (OpenSpec.ofChange octetNumsWrong)

/-- 'jettylaw01.OctetReads': WHATEVER THE INPUT: true; the input reads as it did. -/
def octetReadsSpec : ChangeSpec := { name := "octetReads", fn := fun _ => fun
  | [d1, d2] => { results := [.lit (.bool true)], args := [d1, d2] }
  | _ => none }
def octetReadsRow : OpenClaim := { program := "ytejekbeonhmbeaa", sum := "5010126dfc16be7c0d1fa212609ba94ae300efc8f5a8b7d5309ce49f312a5a42", func := "jetty/jettylaw01.OctetReads", spec := "octetReads", apart := false }
def OctetReadsSaid : Prop := octetReadsRow.holds Try.pinned (OpenSpec.ofChange octetReadsSpec)

/-- ITS FALSE NEIGHBOUR: 'it returns false'. Refute it at one input. -/
def octetReadsWrong : ChangeSpec := { name := "octetReads", fn := fun _ => fun
  | [d1, d2] => { results := [.lit (.bool false)], args := [d1, d2] }
  | _ => none }
def OctetReadsWrongFalsely : Prop := octetReadsRow.holds Try.pinned (OpenSpec.ofChange octetReadsWrong)

/-- 'jettylaw01.OctetBack': WHATEVER THE INPUT: true; the input reads as it did. -/
def octetBackSpec : ChangeSpec := { name := "octetBack", fn := fun _ => fun
  | [d1, d2] => { results := [.lit (.bool true)], args := [d1, d2] }
  | _ => none }
def octetBackRow : OpenClaim := { program := "ytejekbeonhmbeaa", sum := "5010126dfc16be7c0d1fa212609ba94ae300efc8f5a8b7d5309ce49f312a5a42", func := "jetty/jettylaw01.OctetBack", spec := "octetBack", apart := false }
def OctetBackSaid : Prop := octetBackRow.holds Try.pinned (OpenSpec.ofChange octetBackSpec)

/-- ITS FALSE NEIGHBOUR: 'it returns false'. Refute it at one input. -/
def octetBackWrong : ChangeSpec := { name := "octetBack", fn := fun _ => fun
  | [d1, d2] => { results := [.lit (.bool false)], args := [d1, d2] }
  | _ => none }
def OctetBackWrongFalsely : Prop := octetBackRow.holds Try.pinned (OpenSpec.ofChange octetBackWrong)

/-- 'jettylaw01.OctetPieces': WHATEVER THE INPUT: true; the input reads as it did. -/
def octetPiecesSpec : ChangeSpec := { name := "octetPieces", fn := fun _ => fun
  | [d1, d2, d3] => { results := [.lit (.bool true)], args := [d1, d2, d3] }
  | _ => none }
def octetPiecesRow : OpenClaim := { program := "ytejekbeonhmbeaa", sum := "5010126dfc16be7c0d1fa212609ba94ae300efc8f5a8b7d5309ce49f312a5a42", func := "jetty/jettylaw01.OctetPieces", spec := "octetPieces", apart := false }
def OctetPiecesSaid : Prop := octetPiecesRow.holds Try.pinned (OpenSpec.ofChange octetPiecesSpec)

/-- ITS FALSE NEIGHBOUR: 'it returns false'. Refute it at one input. -/
def octetPiecesWrong : ChangeSpec := { name := "octetPieces", fn := fun _ => fun
  | [d1, d2, d3] => { results := [.lit (.bool false)], args := [d1, d2, d3] }
  | _ => none }
def OctetPiecesWrongFalsely : Prop := octetPiecesRow.holds Try.pinned (OpenSpec.ofChange octetPiecesWrong)

/- THE SECOND FORM. 'bulk': how many values and letters a reading holds, each counted each time it is reached (what is shared counts as often as it is met; a slice's spare places count too). A statement '..UptoSaid' is the law's where the arguments, and the package variables that the reading takes, are together of bulk at most 1048576: NARROWER than '..Said'. Prove '..Said' where nothing that the law and all that it calls make is longer than what came in: it says more and counts as full. Else prove '..UptoSaid'. A law counts once. -/
mutual
def uptoBulk {H : Type} : DataW H → Nat
  | .lit (.string bytes) => bytes.length + 1
  | .lit _ => 1
  | .nil => 1
  | .ptr d => uptoBulk d + 1
  | .slice elems spare => uptoBulkAll elems + uptoBulkAll spare + 1
  | .agg parts => uptoBulkAll parts + 1
  | .iface _ d => uptoBulk d + 1
  | .map entries => uptoBulkEntries entries + 1
  | .held _ => 1
def uptoBulkAll {H : Type} : List (DataW H) → Nat
  | [] => 0
  | d :: r => uptoBulk d + uptoBulkAll r
def uptoBulkEntries {H : Type} : List (Lit × DataW H) → Nat
  | [] => 0
  | x :: r => uptoBulkEntry x + uptoBulkEntries r
def uptoBulkEntry {H : Type} : Lit × DataW H → Nat
  | (.string bytes, d) => bytes.length + uptoBulk d + 1
  | (_, d) => uptoBulk d + 1
 end
def uptoSmall : (H : Type) → List (DataW H) → Bool := fun _ ds => decide (uptoBulkAll ds ≤ 1048576)
def OpenSpec.upto (s : _root_.Go.ChangeSpec) : _root_.Go.OpenSpec := { _root_.Go.OpenSpec.ofChange s with cond := some uptoSmall }

/-- 'jettylaw01.OctetFits', WHERE WHAT IT READS IS OF BULK AT MOST 1048576: true; the input reads as it did. -/
def octetFitsUptoRow : OpenClaim := { program := "ytejekbeonhmbeaa", sum := "5010126dfc16be7c0d1fa212609ba94ae300efc8f5a8b7d5309ce49f312a5a42", func := "jetty/jettylaw01.OctetFits", spec := "octetFits", apart := false, narrowed := true }
def OctetFitsUptoSaid : Prop := octetFitsUptoRow.holds Try.pinned (OpenSpec.upto octetFitsSpec)

/-- 'jettylaw01.OctetOrder', WHERE WHAT IT READS IS OF BULK AT MOST 1048576: true; the input reads as it did. -/
def octetOrderUptoRow : OpenClaim := { program := "ytejekbeonhmbeaa", sum := "5010126dfc16be7c0d1fa212609ba94ae300efc8f5a8b7d5309ce49f312a5a42", func := "jetty/jettylaw01.OctetOrder", spec := "octetOrder", apart := false, narrowed := true }
def OctetOrderUptoSaid : Prop := octetOrderUptoRow.holds Try.pinned (OpenSpec.upto octetOrderSpec)

/-- 'jettylaw01.OctetNums', WHERE WHAT IT READS IS OF BULK AT MOST 1048576: true; the input reads as it did. -/
def octetNumsUptoRow : OpenClaim := { program := "ytejekbeonhmbeaa", sum := "5010126dfc16be7c0d1fa212609ba94ae300efc8f5a8b7d5309ce49f312a5a42", func := "jetty/jettylaw01.OctetNums", spec := "octetNums", apart := false, narrowed := true }
def OctetNumsUptoSaid : Prop := octetNumsUptoRow.holds Try.pinned (OpenSpec.upto octetNumsSpec)

/-- 'jettylaw01.OctetReads', WHERE WHAT IT READS IS OF BULK AT MOST 1048576: true; the input reads as it did. -/
def octetReadsUptoRow : OpenClaim := { program := "ytejekbeonhmbeaa", sum := "5010126dfc16be7c0d1fa212609ba94ae300efc8f5a8b7d5309ce49f312a5a42", func := "jetty/jettylaw01.OctetReads", spec := "octetReads", apart := false, narrowed := true }
def OctetReadsUptoSaid : Prop := octetReadsUptoRow.holds Try.pinned (OpenSpec.upto octetReadsSpec)

/-- 'jettylaw01.OctetBack', WHERE WHAT IT READS IS OF BULK AT MOST 1048576: true; the input reads as it did. -/
def octetBackUptoRow : OpenClaim := { program := "ytejekbeonhmbeaa", sum := "5010126dfc16be7c0d1fa212609ba94ae300efc8f5a8b7d5309ce49f312a5a42", func := "jetty/jettylaw01.OctetBack", spec := "octetBack", apart := false, narrowed := true }
def OctetBackUptoSaid : Prop := octetBackUptoRow.holds Try.pinned (OpenSpec.upto octetBackSpec)

/-- 'jettylaw01.OctetPieces', WHERE WHAT IT READS IS OF BULK AT MOST 1048576: true; the input reads as it did. -/
def octetPiecesUptoRow : OpenClaim := { program := "ytejekbeonhmbeaa", sum := "5010126dfc16be7c0d1fa212609ba94ae300efc8f5a8b7d5309ce49f312a5a42", func := "jetty/jettylaw01.OctetPieces", spec := "octetPieces", apart := false, narrowed := true }
def OctetPiecesUptoSaid : Prop := octetPiecesUptoRow.holds Try.pinned (OpenSpec.upto octetPiecesSpec)

end Rows
end Go.Proofs.Ytejekbeonhmbeaa
