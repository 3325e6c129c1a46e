/-
  NARROWER THAN 'FOR EVERY INPUT', by the rows' own cells (each row's printed sentence says how): PoolFrames: laid · PoolAgain: laid · PoolLogFirst: laid · PoolDirty: laid.
  DERIVED. THE GIVEN ROWS OF THIS SEAT. 4 by the template 'for every input the law returns true; each argument reads behind the call as it read before'; 0 by the template 'total and deterministic' (their statements: YtdkilpjebmhkkaaDoorTotals.lean).
  GIVEN WITH THE SEED: the statements are not yours to turn. If you find one false, say at which input.
  Laid BY PROGRAM, IN A SANDBOX (cutbox-rows.mjs): the forced cells as the released guide's own fill.sh prints them over the translation 5de1aa69a29b0ae1… (all of the seat's roots in one cut). By AI agents, Wed Nov 11 2026. No macro, syntax, notation, axiom, sorry.
-/
import Derived.Test.YtdkilpjebmhkkaaDoorChecked
import GoSem.PinnedTables
import GoSem.Claim
import GoSem.ClaimJoined
import GoSem.ClaimMapViews
import Derived.JoinedTies
import Derived.KernelRfl
namespace Go.Proofs.YtdkilpjebmhkkaaDoor
/- THE CELL 'sum', in the pinned program and in every row, IS THE sha256 OF THE DUMP (.gsa) THAT YtdkilpjebmhkkaaDoorProg.lean LOADS. Nothing in Lean hashes anything: it is a label: what it is worth is what the hold of that sum in a sandbox is worth. -/
noncomputable def Tryd.pinned : Pinned := { name := "ytdkilpjebmhkkaadoor", sum := "5de1aa69a29b0ae1e15a4553f656d98bb41051be02e114a410c3d5b546a296dc", checked := Tryd.checked }
namespace Rows
def none {H : Type} : Left H := { results := [], args := [] }

/- WHAT THE LISTED PACKAGE-LEVEL VARIABLES READ AS WHEN THE CALL BEGINS. Each datum BY PROGRAM (the guide's laid-datum.mjs) off the statement by which the dump's own 'gosem.cut.vars' lays the variable. In a bare row this is a premise. The card (YtdkilpjebmhkkaaDoorCards.lean) ties it to the program's text. -/
def laid_unicode_utf8_acceptRanges {H : Type} : DataW H := .agg [.agg [.lit (.int .u8 128), .lit (.int .u8 191)], .agg [.lit (.int .u8 160), .lit (.int .u8 191)], .agg [.lit (.int .u8 128), .lit (.int .u8 159)], .agg [.lit (.int .u8 144), .lit (.int .u8 191)], .agg [.lit (.int .u8 128), .lit (.int .u8 143)], .agg [.lit (.int .u8 0), .lit (.int .u8 0)], .agg [.lit (.int .u8 0), .lit (.int .u8 0)], .agg [.lit (.int .u8 0), .lit (.int .u8 0)], .agg [.lit (.int .u8 0), .lit (.int .u8 0)], .agg [.lit (.int .u8 0), .lit (.int .u8 0)], .agg [.lit (.int .u8 0), .lit (.int .u8 0)], .agg [.lit (.int .u8 0), .lit (.int .u8 0)], .agg [.lit (.int .u8 0), .lit (.int .u8 0)], .agg [.lit (.int .u8 0), .lit (.int .u8 0)], .agg [.lit (.int .u8 0), .lit (.int .u8 0)], .agg [.lit (.int .u8 0), .lit (.int .u8 0)]]
/-- One of Go's own tables, pinned by name: the form's constant. -/
def laid_unicode_utf8_first : DataW Unit := Go.Pinned.utf8First

/-- 'jettylaw12.PoolFrames': WHATEVER THE INPUT: true; the input reads as it did. -/
def poolFramesSpec : ChangeSpec := { name := "poolFrames", fn := fun _ => fun
  | [d1, d2, d3] => { results := [.lit (.bool true)], args := [d1, d2, d3] }
  | _ => none }
def poolFramesRow : OpenClaim := { program := "ytdkilpjebmhkkaadoor", sum := "5de1aa69a29b0ae1e15a4553f656d98bb41051be02e114a410c3d5b546a296dc", func := "jetty/jettylaw12.PoolFrames", spec := "poolFrames", inPlace := ["internal/abi.NoEscape", "internal/bytealg.MakeNoZero", "internal/bytealg.IndexByteString", "internal/bytealg.IndexString"], unfollowed := true, recurses := true, named := ["unicode/utf8.first", "unicode/utf8.acceptRanges", "internal/bytealg.MaxLen"], apart := false, laid := [("unicode/utf8.acceptRanges", laid_unicode_utf8_acceptRanges), ("unicode/utf8.first", laid_unicode_utf8_first)] }
def PoolFramesSaid : Prop := poolFramesRow.holds Tryd.pinned (OpenSpec.ofChange poolFramesSpec)

/-- ITS FALSE NEIGHBOUR: 'it returns false'. Refute it at one input. -/
def poolFramesWrong : ChangeSpec := { name := "poolFrames", fn := fun _ => fun
  | [d1, d2, d3] => { results := [.lit (.bool false)], args := [d1, d2, d3] }
  | _ => none }
def PoolFramesWrongFalsely : Prop := poolFramesRow.holds Tryd.pinned (OpenSpec.ofChange poolFramesWrong)

/-- 'jettylaw12.PoolAgain': WHATEVER THE INPUT: true; the input reads as it did. -/
def poolAgainSpec : ChangeSpec := { name := "poolAgain", fn := fun _ => fun
  | [d1, d2] => { results := [.lit (.bool true)], args := [d1, d2] }
  | _ => none }
def poolAgainRow : OpenClaim := { program := "ytdkilpjebmhkkaadoor", sum := "5de1aa69a29b0ae1e15a4553f656d98bb41051be02e114a410c3d5b546a296dc", func := "jetty/jettylaw12.PoolAgain", spec := "poolAgain", inPlace := ["internal/abi.NoEscape", "internal/bytealg.MakeNoZero", "internal/bytealg.IndexByteString", "internal/bytealg.IndexString"], unfollowed := true, recurses := true, named := ["unicode/utf8.first", "unicode/utf8.acceptRanges", "internal/bytealg.MaxLen"], apart := false, laid := [("unicode/utf8.acceptRanges", laid_unicode_utf8_acceptRanges), ("unicode/utf8.first", laid_unicode_utf8_first)] }
def PoolAgainSaid : Prop := poolAgainRow.holds Tryd.pinned (OpenSpec.ofChange poolAgainSpec)

/-- ITS FALSE NEIGHBOUR: 'it returns false'. Refute it at one input. -/
def poolAgainWrong : ChangeSpec := { name := "poolAgain", fn := fun _ => fun
  | [d1, d2] => { results := [.lit (.bool false)], args := [d1, d2] }
  | _ => none }
def PoolAgainWrongFalsely : Prop := poolAgainRow.holds Tryd.pinned (OpenSpec.ofChange poolAgainWrong)

/-- 'jettylaw12.PoolLogFirst': WHATEVER THE INPUT: true; the input reads as it did. -/
def poolLogFirstSpec : ChangeSpec := { name := "poolLogFirst", fn := fun _ => fun
  | [d1, d2, d3] => { results := [.lit (.bool true)], args := [d1, d2, d3] }
  | _ => none }
def poolLogFirstRow : OpenClaim := { program := "ytdkilpjebmhkkaadoor", sum := "5de1aa69a29b0ae1e15a4553f656d98bb41051be02e114a410c3d5b546a296dc", func := "jetty/jettylaw12.PoolLogFirst", spec := "poolLogFirst", inPlace := ["internal/abi.NoEscape", "internal/bytealg.MakeNoZero", "internal/bytealg.IndexByteString", "internal/bytealg.IndexString"], unfollowed := true, recurses := true, named := ["unicode/utf8.first", "unicode/utf8.acceptRanges", "internal/bytealg.MaxLen"], apart := false, laid := [("unicode/utf8.acceptRanges", laid_unicode_utf8_acceptRanges), ("unicode/utf8.first", laid_unicode_utf8_first)] }
def PoolLogFirstSaid : Prop := poolLogFirstRow.holds Tryd.pinned (OpenSpec.ofChange poolLogFirstSpec)

/-- ITS FALSE NEIGHBOUR: 'it returns false'. Refute it at one input. -/
def poolLogFirstWrong : ChangeSpec := { name := "poolLogFirst", fn := fun _ => fun
  | [d1, d2, d3] => { results := [.lit (.bool false)], args := [d1, d2, d3] }
  | _ => none }
def PoolLogFirstWrongFalsely : Prop := poolLogFirstRow.holds Tryd.pinned (OpenSpec.ofChange poolLogFirstWrong)

/-- 'jettylaw12.PoolDirty': WHATEVER THE INPUT: true; the input reads as it did. -/
def poolDirtySpec : ChangeSpec := { name := "poolDirty", fn := fun _ => fun
  | [d1, d2] => { results := [.lit (.bool true)], args := [d1, d2] }
  | _ => none }
def poolDirtyRow : OpenClaim := { program := "ytdkilpjebmhkkaadoor", sum := "5de1aa69a29b0ae1e15a4553f656d98bb41051be02e114a410c3d5b546a296dc", func := "jetty/jettylaw12.PoolDirty", spec := "poolDirty", inPlace := ["internal/abi.NoEscape", "internal/bytealg.MakeNoZero", "internal/bytealg.IndexByteString", "internal/bytealg.IndexString"], unfollowed := true, recurses := true, named := ["unicode/utf8.first", "unicode/utf8.acceptRanges", "internal/bytealg.MaxLen"], apart := false, laid := [("unicode/utf8.acceptRanges", laid_unicode_utf8_acceptRanges), ("unicode/utf8.first", laid_unicode_utf8_first)] }
def PoolDirtySaid : Prop := poolDirtyRow.holds Tryd.pinned (OpenSpec.ofChange poolDirtySpec)

/-- ITS FALSE NEIGHBOUR: 'it returns false'. Refute it at one input. -/
def poolDirtyWrong : ChangeSpec := { name := "poolDirty", fn := fun _ => fun
  | [d1, d2] => { results := [.lit (.bool false)], args := [d1, d2] }
  | _ => none }
def PoolDirtyWrongFalsely : Prop := poolDirtyRow.holds Tryd.pinned (OpenSpec.ofChange poolDirtyWrong)

/- THE SECOND FORM. 'bulk': how many values and letters a reading holds, each counted each time it is reached (what is shared counts as often as it is met; a slice's spare places count too). A statement '..UptoSaid' is the law's where the arguments, and the package variables that the reading takes, are together of bulk at most 1048576: NARROWER than '..Said'. Prove '..Said' where nothing that the law and all that it calls make is longer than what came in: it says more and counts as full. Else prove '..UptoSaid'. A law counts once. -/
mutual
def uptoBulk {H : Type} : DataW H → Nat
  | .lit (.string bytes) => bytes.length + 1
  | .lit _ => 1
  | .nil => 1
  | .ptr d => uptoBulk d + 1
  | .slice elems spare => uptoBulkAll elems + uptoBulkAll spare + 1
  | .agg parts => uptoBulkAll parts + 1
  | .iface _ d => uptoBulk d + 1
  | .map entries => uptoBulkEntries entries + 1
  | .held _ => 1
def uptoBulkAll {H : Type} : List (DataW H) → Nat
  | [] => 0
  | d :: r => uptoBulk d + uptoBulkAll r
def uptoBulkEntries {H : Type} : List (Lit × DataW H) → Nat
  | [] => 0
  | x :: r => uptoBulkEntry x + uptoBulkEntries r
def uptoBulkEntry {H : Type} : Lit × DataW H → Nat
  | (.string bytes, d) => bytes.length + uptoBulk d + 1
  | (_, d) => uptoBulk d + 1
 end
def uptoSmall : (H : Type) → List (DataW H) → Bool := fun _ ds => decide (uptoBulkAll ds ≤ 1048576)
def OpenSpec.upto (s : _root_.Go.ChangeSpec) : _root_.Go.OpenSpec := { _root_.Go.OpenSpec.ofChange s with cond := some uptoSmall }

/-- 'jettylaw12.PoolFrames', WHERE WHAT IT READS IS OF BULK AT MOST 1048576: true; the input reads as it did. -/
def poolFramesUptoRow : OpenClaim := { program := "ytdkilpjebmhkkaadoor", sum := "5de1aa69a29b0ae1e15a4553f656d98bb41051be02e114a410c3d5b546a296dc", func := "jetty/jettylaw12.PoolFrames", spec := "poolFrames", inPlace := ["internal/abi.NoEscape", "internal/bytealg.MakeNoZero", "internal/bytealg.IndexByteString", "internal/bytealg.IndexString"], unfollowed := true, recurses := true, named := ["unicode/utf8.first", "unicode/utf8.acceptRanges", "internal/bytealg.MaxLen"], apart := false, laid := [("unicode/utf8.acceptRanges", laid_unicode_utf8_acceptRanges), ("unicode/utf8.first", laid_unicode_utf8_first)], narrowed := true }
def PoolFramesUptoSaid : Prop := poolFramesUptoRow.holds Tryd.pinned (OpenSpec.upto poolFramesSpec)

/-- 'jettylaw12.PoolAgain', WHERE WHAT IT READS IS OF BULK AT MOST 1048576: true; the input reads as it did. -/
def poolAgainUptoRow : OpenClaim := { program := "ytdkilpjebmhkkaadoor", sum := "5de1aa69a29b0ae1e15a4553f656d98bb41051be02e114a410c3d5b546a296dc", func := "jetty/jettylaw12.PoolAgain", spec := "poolAgain", inPlace := ["internal/abi.NoEscape", "internal/bytealg.MakeNoZero", "internal/bytealg.IndexByteString", "internal/bytealg.IndexString"], unfollowed := true, recurses := true, named := ["unicode/utf8.first", "unicode/utf8.acceptRanges", "internal/bytealg.MaxLen"], apart := false, laid := [("unicode/utf8.acceptRanges", laid_unicode_utf8_acceptRanges), ("unicode/utf8.first", laid_unicode_utf8_first)], narrowed := true }
def PoolAgainUptoSaid : Prop := poolAgainUptoRow.holds Tryd.pinned (OpenSpec.upto poolAgainSpec)

/-- 'jettylaw12.PoolLogFirst', WHERE WHAT IT READS IS OF BULK AT MOST 1048576: true; the input reads as it did. -/
def poolLogFirstUptoRow : OpenClaim := { program := "ytdkilpjebmhkkaadoor", sum := "5de1aa69a29b0ae1e15a4553f656d98bb41051be02e114a410c3d5b546a296dc", func := "jetty/jettylaw12.PoolLogFirst", spec := "poolLogFirst", inPlace := ["internal/abi.NoEscape", "internal/bytealg.MakeNoZero", "internal/bytealg.IndexByteString", "internal/bytealg.IndexString"], unfollowed := true, recurses := true, named := ["unicode/utf8.first", "unicode/utf8.acceptRanges", "internal/bytealg.MaxLen"], apart := false, laid := [("unicode/utf8.acceptRanges", laid_unicode_utf8_acceptRanges), ("unicode/utf8.first", laid_unicode_utf8_first)], narrowed := true }
def PoolLogFirstUptoSaid : Prop := poolLogFirstUptoRow.holds Tryd.pinned (OpenSpec.upto poolLogFirstSpec)

/-- 'jettylaw12.PoolDirty', WHERE WHAT IT READS IS OF BULK AT MOST 1048576: true; the input reads as it did. -/
def poolDirtyUptoRow : OpenClaim := { program := "ytdkilpjebmhkkaadoor", sum := "5de1aa69a29b0ae1e15a4553f656d98bb41051be02e114a410c3d5b546a296dc", func := "jetty/jettylaw12.PoolDirty", spec := "poolDirty", inPlace := ["internal/abi.NoEscape", "internal/bytealg.MakeNoZero", "internal/bytealg.IndexByteString", "internal/bytealg.IndexString"], unfollowed := true, recurses := true, named := ["unicode/utf8.first", "unicode/utf8.acceptRanges", "internal/bytealg.MaxLen"], apart := false, laid := [("unicode/utf8.acceptRanges", laid_unicode_utf8_acceptRanges), ("unicode/utf8.first", laid_unicode_utf8_first)], narrowed := true }
def PoolDirtyUptoSaid : Prop := poolDirtyUptoRow.holds Tryd.pinned (OpenSpec.upto poolDirtySpec)

end Rows
end Go.Proofs.YtdkilpjebmhkkaaDoor
