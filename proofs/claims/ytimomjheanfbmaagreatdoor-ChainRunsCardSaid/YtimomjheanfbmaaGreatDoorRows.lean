/-
  NARROWER THAN 'FOR EVERY INPUT', by the rows' own cells (each row's printed sentence says how): ChainLinks: laid · PoolRuns: laid · ChainSaves: laid · ChainFrees: laid · ChainRoom: laid · ChainRuns: laid.
  DERIVED. THE GIVEN ROWS OF THIS SEAT. 6 by the template 'for every input the law returns true; each argument reads behind the call as it read before'; 0 by the template 'total and deterministic' (their statements: YtimomjheanfbmaaGreatDoorTotals.lean).
  GIVEN WITH THE SEED: the statements are not yours to turn. If you find one false, say at which input.
  Laid BY PROGRAM, IN A SANDBOX (cutbox-rows.mjs): the forced cells as the released guide's own fill.sh prints them over the translation 97ce1db60f04e09c… (all of the seat's roots in one cut). By AI agents, Wed Nov 11 2026. No macro, syntax, notation, axiom, sorry.
-/
import Derived.Test.YtimomjheanfbmaaGreatDoorChecked
import GoSem.PinnedTables
import GoSem.Claim
import GoSem.ClaimJoined
import GoSem.ClaimMapViews
import Derived.JoinedTies
import Derived.KernelRfl
namespace Go.Proofs.YtimomjheanfbmaaGreatDoor
/- THE CELL 'sum', in the pinned program and in every row, IS THE sha256 OF THE DUMP (.gsa) THAT YtimomjheanfbmaaGreatDoorProg.lean LOADS. Nothing in Lean hashes anything: it is a label: what it is worth is what the hold of that sum in a sandbox is worth. -/
noncomputable def Tryz.pinned : Pinned := { name := "ytimomjheanfbmaagreatdoor", sum := "97ce1db60f04e09c2127b5377f0f77ce135a4e2e045cb3f5b6a337684e4025d5", checked := Tryz.checked }
namespace Rows
def none {H : Type} : Left H := { results := [], args := [] }

/- WHAT THE LISTED PACKAGE-LEVEL VARIABLES READ AS WHEN THE CALL BEGINS. Each datum BY PROGRAM (the guide's laid-datum.mjs) off the statement by which the dump's own 'gosem.cut.vars' lays the variable. In a bare row this is a premise. The card (YtimomjheanfbmaaGreatDoorCards.lean) ties it to the program's text. -/
def laid_unicode_utf8_acceptRanges {H : Type} : DataW H := .agg [.agg [.lit (.int .u8 128), .lit (.int .u8 191)], .agg [.lit (.int .u8 160), .lit (.int .u8 191)], .agg [.lit (.int .u8 128), .lit (.int .u8 159)], .agg [.lit (.int .u8 144), .lit (.int .u8 191)], .agg [.lit (.int .u8 128), .lit (.int .u8 143)], .agg [.lit (.int .u8 0), .lit (.int .u8 0)], .agg [.lit (.int .u8 0), .lit (.int .u8 0)], .agg [.lit (.int .u8 0), .lit (.int .u8 0)], .agg [.lit (.int .u8 0), .lit (.int .u8 0)], .agg [.lit (.int .u8 0), .lit (.int .u8 0)], .agg [.lit (.int .u8 0), .lit (.int .u8 0)], .agg [.lit (.int .u8 0), .lit (.int .u8 0)], .agg [.lit (.int .u8 0), .lit (.int .u8 0)], .agg [.lit (.int .u8 0), .lit (.int .u8 0)], .agg [.lit (.int .u8 0), .lit (.int .u8 0)], .agg [.lit (.int .u8 0), .lit (.int .u8 0)]]
/-- One of Go's own tables, pinned by name: the form's constant. -/
def laid_unicode_utf8_first : DataW Unit := Go.Pinned.utf8First

/-- 'jettylaw18.ChainLinks': WHATEVER THE INPUT: true; the input reads as it did. -/
def chainLinksSpec : ChangeSpec := { name := "chainLinks", fn := fun _ => fun
  | [d] => { results := [.lit (.bool true)], args := [d] }
  | _ => none }
def chainLinksRow : OpenClaim := { program := "ytimomjheanfbmaagreatdoor", sum := "97ce1db60f04e09c2127b5377f0f77ce135a4e2e045cb3f5b6a337684e4025d5", func := "jetty/jettylaw18.ChainLinks", spec := "chainLinks", inPlace := ["internal/abi.NoEscape", "internal/bytealg.MakeNoZero", "math.archTrunc", "math.Float64bits", "math.Float64frombits", "internal/bytealg.IndexByteString", "internal/bytealg.IndexString"], unfollowed := true, recurses := true, named := ["unicode/utf8.first", "unicode/utf8.acceptRanges", "internal/bytealg.MaxLen"], apart := false, laid := [("unicode/utf8.acceptRanges", laid_unicode_utf8_acceptRanges), ("unicode/utf8.first", laid_unicode_utf8_first)] }
def ChainLinksSaid : Prop := chainLinksRow.holds Tryz.pinned (OpenSpec.ofChange chainLinksSpec)

/-- ITS FALSE NEIGHBOUR: 'it returns false'. Refute it at one input. -/
def chainLinksWrong : ChangeSpec := { name := "chainLinks", fn := fun _ => fun
  | [d] => { results := [.lit (.bool false)], args := [d] }
  | _ => none }
def ChainLinksWrongFalsely : Prop := chainLinksRow.holds Tryz.pinned (OpenSpec.ofChange chainLinksWrong)

/-- 'jettylaw12.PoolRuns': WHATEVER THE INPUT: true; the input reads as it did. -/
def poolRunsSpec : ChangeSpec := { name := "poolRuns", fn := fun _ => fun
  | [d1, d2, d3] => { results := [.lit (.bool true)], args := [d1, d2, d3] }
  | _ => none }
def poolRunsRow : OpenClaim := { program := "ytimomjheanfbmaagreatdoor", sum := "97ce1db60f04e09c2127b5377f0f77ce135a4e2e045cb3f5b6a337684e4025d5", func := "jetty/jettylaw12.PoolRuns", spec := "poolRuns", inPlace := ["internal/abi.NoEscape", "internal/bytealg.MakeNoZero", "internal/bytealg.IndexByteString", "internal/bytealg.IndexString"], unfollowed := true, recurses := true, named := ["unicode/utf8.first", "unicode/utf8.acceptRanges", "internal/bytealg.MaxLen"], apart := false, laid := [("unicode/utf8.acceptRanges", laid_unicode_utf8_acceptRanges), ("unicode/utf8.first", laid_unicode_utf8_first)] }
def PoolRunsSaid : Prop := poolRunsRow.holds Tryz.pinned (OpenSpec.ofChange poolRunsSpec)

/-- ITS FALSE NEIGHBOUR: 'it returns false'. Refute it at one input. -/
def poolRunsWrong : ChangeSpec := { name := "poolRuns", fn := fun _ => fun
  | [d1, d2, d3] => { results := [.lit (.bool false)], args := [d1, d2, d3] }
  | _ => none }
def PoolRunsWrongFalsely : Prop := poolRunsRow.holds Tryz.pinned (OpenSpec.ofChange poolRunsWrong)

/-- 'jettylaw18.ChainSaves': WHATEVER THE INPUT: true; the input reads as it did. -/
def chainSavesSpec : ChangeSpec := { name := "chainSaves", fn := fun _ => fun
  | [d1, d2] => { results := [.lit (.bool true)], args := [d1, d2] }
  | _ => none }
def chainSavesRow : OpenClaim := { program := "ytimomjheanfbmaagreatdoor", sum := "97ce1db60f04e09c2127b5377f0f77ce135a4e2e045cb3f5b6a337684e4025d5", func := "jetty/jettylaw18.ChainSaves", spec := "chainSaves", inPlace := ["internal/abi.NoEscape", "internal/bytealg.MakeNoZero", "math.archTrunc", "math.Float64bits", "math.Float64frombits", "internal/bytealg.IndexByteString", "internal/bytealg.IndexString"], unfollowed := true, recurses := true, named := ["unicode/utf8.first", "unicode/utf8.acceptRanges", "internal/bytealg.MaxLen"], apart := false, laid := [("unicode/utf8.acceptRanges", laid_unicode_utf8_acceptRanges), ("unicode/utf8.first", laid_unicode_utf8_first)] }
def ChainSavesSaid : Prop := chainSavesRow.holds Tryz.pinned (OpenSpec.ofChange chainSavesSpec)

/-- ITS FALSE NEIGHBOUR: 'it returns false'. Refute it at one input. -/
def chainSavesWrong : ChangeSpec := { name := "chainSaves", fn := fun _ => fun
  | [d1, d2] => { results := [.lit (.bool false)], args := [d1, d2] }
  | _ => none }
def ChainSavesWrongFalsely : Prop := chainSavesRow.holds Tryz.pinned (OpenSpec.ofChange chainSavesWrong)

/-- 'jettylaw18.ChainFrees': WHATEVER THE INPUT: true; the input reads as it did. -/
def chainFreesSpec : ChangeSpec := { name := "chainFrees", fn := fun _ => fun
  | [d1, d2] => { results := [.lit (.bool true)], args := [d1, d2] }
  | _ => none }
def chainFreesRow : OpenClaim := { program := "ytimomjheanfbmaagreatdoor", sum := "97ce1db60f04e09c2127b5377f0f77ce135a4e2e045cb3f5b6a337684e4025d5", func := "jetty/jettylaw18.ChainFrees", spec := "chainFrees", inPlace := ["internal/abi.NoEscape", "internal/bytealg.MakeNoZero", "math.archTrunc", "math.Float64bits", "math.Float64frombits", "internal/bytealg.IndexByteString", "internal/bytealg.IndexString"], unfollowed := true, recurses := true, named := ["unicode/utf8.first", "unicode/utf8.acceptRanges", "internal/bytealg.MaxLen"], apart := false, laid := [("unicode/utf8.acceptRanges", laid_unicode_utf8_acceptRanges), ("unicode/utf8.first", laid_unicode_utf8_first)] }
def ChainFreesSaid : Prop := chainFreesRow.holds Tryz.pinned (OpenSpec.ofChange chainFreesSpec)

/-- ITS FALSE NEIGHBOUR: 'it returns false'. Refute it at one input. -/
def chainFreesWrong : ChangeSpec := { name := "chainFrees", fn := fun _ => fun
  | [d1, d2] => { results := [.lit (.bool false)], args := [d1, d2] }
  | _ => none }
def ChainFreesWrongFalsely : Prop := chainFreesRow.holds Tryz.pinned (OpenSpec.ofChange chainFreesWrong)

/-- 'jettylaw18.ChainRoom': WHATEVER THE INPUT: true; the input reads as it did. -/
def chainRoomSpec : ChangeSpec := { name := "chainRoom", fn := fun _ => fun
  | [d1, d2] => { results := [.lit (.bool true)], args := [d1, d2] }
  | _ => none }
def chainRoomRow : OpenClaim := { program := "ytimomjheanfbmaagreatdoor", sum := "97ce1db60f04e09c2127b5377f0f77ce135a4e2e045cb3f5b6a337684e4025d5", func := "jetty/jettylaw18.ChainRoom", spec := "chainRoom", inPlace := ["internal/abi.NoEscape", "internal/bytealg.MakeNoZero", "math.archTrunc", "math.Float64bits", "math.Float64frombits", "internal/bytealg.IndexByteString", "internal/bytealg.IndexString"], unfollowed := true, recurses := true, named := ["unicode/utf8.first", "unicode/utf8.acceptRanges", "internal/bytealg.MaxLen"], apart := false, laid := [("unicode/utf8.acceptRanges", laid_unicode_utf8_acceptRanges), ("unicode/utf8.first", laid_unicode_utf8_first)] }
def ChainRoomSaid : Prop := chainRoomRow.holds Tryz.pinned (OpenSpec.ofChange chainRoomSpec)

/-- ITS FALSE NEIGHBOUR: 'it returns false'. Refute it at one input. -/
def chainRoomWrong : ChangeSpec := { name := "chainRoom", fn := fun _ => fun
  | [d1, d2] => { results := [.lit (.bool false)], args := [d1, d2] }
  | _ => none }
def ChainRoomWrongFalsely : Prop := chainRoomRow.holds Tryz.pinned (OpenSpec.ofChange chainRoomWrong)

/-- 'jettylaw18.ChainRuns': WHATEVER THE INPUT: true; the input reads as it did. -/
def chainRunsSpec : ChangeSpec := { name := "chainRuns", fn := fun _ => fun
  | [d1, d2] => { results := [.lit (.bool true)], args := [d1, d2] }
  | _ => none }
def chainRunsRow : OpenClaim := { program := "ytimomjheanfbmaagreatdoor", sum := "97ce1db60f04e09c2127b5377f0f77ce135a4e2e045cb3f5b6a337684e4025d5", func := "jetty/jettylaw18.ChainRuns", spec := "chainRuns", inPlace := ["internal/abi.NoEscape", "internal/bytealg.MakeNoZero", "math.archTrunc", "math.Float64bits", "math.Float64frombits", "internal/bytealg.IndexByteString", "internal/bytealg.IndexString"], unfollowed := true, recurses := true, named := ["unicode/utf8.first", "unicode/utf8.acceptRanges", "internal/bytealg.MaxLen"], apart := false, laid := [("unicode/utf8.acceptRanges", laid_unicode_utf8_acceptRanges), ("unicode/utf8.first", laid_unicode_utf8_first)] }
def ChainRunsSaid : Prop := chainRunsRow.holds Tryz.pinned (OpenSpec.ofChange chainRunsSpec)

/-- ITS FALSE NEIGHBOUR: 'it returns false'. Refute it at one input. -/
def chainRunsWrong : ChangeSpec := { name := "chainRuns", fn := fun _ => fun
  | [d1, d2] => { results := [.lit (.bool false)], args := [d1, d2] }
  | _ => none }
def ChainRunsWrongFalsely : Prop := chainRunsRow.holds Tryz.pinned (OpenSpec.ofChange chainRunsWrong)

/- THE SECOND FORM. 'bulk': how many values and letters a reading holds, each counted each time it is reached (what is shared counts as often as it is met; a slice's spare places count too). A statement '..UptoSaid' is the law's where the arguments, and the package variables that the reading takes, are together of bulk at most 1048576: NARROWER than '..Said'. Prove '..Said' where nothing that the law and all that it calls make is longer than what came in: it says more and counts as full. Else prove '..UptoSaid'. A law counts once. -/
mutual
def uptoBulk {H : Type} : DataW H → Nat
  | .lit (.string bytes) => bytes.length + 1
  | .lit _ => 1
  | .nil => 1
  | .ptr d => uptoBulk d + 1
  | .slice elems spare => uptoBulkAll elems + uptoBulkAll spare + 1
  | .agg parts => uptoBulkAll parts + 1
  | .iface _ d => uptoBulk d + 1
  | .map entries => uptoBulkEntries entries + 1
  | .held _ => 1
def uptoBulkAll {H : Type} : List (DataW H) → Nat
  | [] => 0
  | d :: r => uptoBulk d + uptoBulkAll r
def uptoBulkEntries {H : Type} : List (Lit × DataW H) → Nat
  | [] => 0
  | x :: r => uptoBulkEntry x + uptoBulkEntries r
def uptoBulkEntry {H : Type} : Lit × DataW H → Nat
  | (.string bytes, d) => bytes.length + uptoBulk d + 1
  | (_, d) => uptoBulk d + 1
 end
def uptoSmall : (H : Type) → List (DataW H) → Bool := fun _ ds => decide (uptoBulkAll ds ≤ 1048576)
def OpenSpec.upto (s : _root_.Go.ChangeSpec) : _root_.Go.OpenSpec := { _root_.Go.OpenSpec.ofChange s with cond := some uptoSmall }

/-- 'jettylaw18.ChainLinks', WHERE WHAT IT READS IS OF BULK AT MOST 1048576: true; the input reads as it did. -/
def chainLinksUptoRow : OpenClaim := { program := "ytimomjheanfbmaagreatdoor", sum := "97ce1db60f04e09c2127b5377f0f77ce135a4e2e045cb3f5b6a337684e4025d5", func := "jetty/jettylaw18.ChainLinks", spec := "chainLinks", inPlace := ["internal/abi.NoEscape", "internal/bytealg.MakeNoZero", "math.archTrunc", "math.Float64bits", "math.Float64frombits", "internal/bytealg.IndexByteString", "internal/bytealg.IndexString"], unfollowed := true, recurses := true, named := ["unicode/utf8.first", "unicode/utf8.acceptRanges", "internal/bytealg.MaxLen"], apart := false, laid := [("unicode/utf8.acceptRanges", laid_unicode_utf8_acceptRanges), ("unicode/utf8.first", laid_unicode_utf8_first)], narrowed := true }
def ChainLinksUptoSaid : Prop := chainLinksUptoRow.holds Tryz.pinned (OpenSpec.upto chainLinksSpec)

/-- 'jettylaw12.PoolRuns', WHERE WHAT IT READS IS OF BULK AT MOST 1048576: true; the input reads as it did. -/
def poolRunsUptoRow : OpenClaim := { program := "ytimomjheanfbmaagreatdoor", sum := "97ce1db60f04e09c2127b5377f0f77ce135a4e2e045cb3f5b6a337684e4025d5", func := "jetty/jettylaw12.PoolRuns", spec := "poolRuns", inPlace := ["internal/abi.NoEscape", "internal/bytealg.MakeNoZero", "internal/bytealg.IndexByteString", "internal/bytealg.IndexString"], unfollowed := true, recurses := true, named := ["unicode/utf8.first", "unicode/utf8.acceptRanges", "internal/bytealg.MaxLen"], apart := false, laid := [("unicode/utf8.acceptRanges", laid_unicode_utf8_acceptRanges), ("unicode/utf8.first", laid_unicode_utf8_first)], narrowed := true }
def PoolRunsUptoSaid : Prop := poolRunsUptoRow.holds Tryz.pinned (OpenSpec.upto poolRunsSpec)

/-- 'jettylaw18.ChainSaves', WHERE WHAT IT READS IS OF BULK AT MOST 1048576: true; the input reads as it did. -/
def chainSavesUptoRow : OpenClaim := { program := "ytimomjheanfbmaagreatdoor", sum := "97ce1db60f04e09c2127b5377f0f77ce135a4e2e045cb3f5b6a337684e4025d5", func := "jetty/jettylaw18.ChainSaves", spec := "chainSaves", inPlace := ["internal/abi.NoEscape", "internal/bytealg.MakeNoZero", "math.archTrunc", "math.Float64bits", "math.Float64frombits", "internal/bytealg.IndexByteString", "internal/bytealg.IndexString"], unfollowed := true, recurses := true, named := ["unicode/utf8.first", "unicode/utf8.acceptRanges", "internal/bytealg.MaxLen"], apart := false, laid := [("unicode/utf8.acceptRanges", laid_unicode_utf8_acceptRanges), ("unicode/utf8.first", laid_unicode_utf8_first)], narrowed := true }
def ChainSavesUptoSaid : Prop := chainSavesUptoRow.holds Tryz.pinned (OpenSpec.upto chainSavesSpec)

/-- 'jettylaw18.ChainFrees', WHERE WHAT IT READS IS OF BULK AT MOST 1048576: true; the input reads as it did. -/
def chainFreesUptoRow : OpenClaim := { program := "ytimomjheanfbmaagreatdoor", sum := "97ce1db60f04e09c2127b5377f0f77ce135a4e2e045cb3f5b6a337684e4025d5", func := "jetty/jettylaw18.ChainFrees", spec := "chainFrees", inPlace := ["internal/abi.NoEscape", "internal/bytealg.MakeNoZero", "math.archTrunc", "math.Float64bits", "math.Float64frombits", "internal/bytealg.IndexByteString", "internal/bytealg.IndexString"], unfollowed := true, recurses := true, named := ["unicode/utf8.first", "unicode/utf8.acceptRanges", "internal/bytealg.MaxLen"], apart := false, laid := [("unicode/utf8.acceptRanges", laid_unicode_utf8_acceptRanges), ("unicode/utf8.first", laid_unicode_utf8_first)], narrowed := true }
def ChainFreesUptoSaid : Prop := chainFreesUptoRow.holds Tryz.pinned (OpenSpec.upto chainFreesSpec)

/-- 'jettylaw18.ChainRoom', WHERE WHAT IT READS IS OF BULK AT MOST 1048576: true; the input reads as it did. -/
def chainRoomUptoRow : OpenClaim := { program := "ytimomjheanfbmaagreatdoor", sum := "97ce1db60f04e09c2127b5377f0f77ce135a4e2e045cb3f5b6a337684e4025d5", func := "jetty/jettylaw18.ChainRoom", spec := "chainRoom", inPlace := ["internal/abi.NoEscape", "internal/bytealg.MakeNoZero", "math.archTrunc", "math.Float64bits", "math.Float64frombits", "internal/bytealg.IndexByteString", "internal/bytealg.IndexString"], unfollowed := true, recurses := true, named := ["unicode/utf8.first", "unicode/utf8.acceptRanges", "internal/bytealg.MaxLen"], apart := false, laid := [("unicode/utf8.acceptRanges", laid_unicode_utf8_acceptRanges), ("unicode/utf8.first", laid_unicode_utf8_first)], narrowed := true }
def ChainRoomUptoSaid : Prop := chainRoomUptoRow.holds Tryz.pinned (OpenSpec.upto chainRoomSpec)

/-- 'jettylaw18.ChainRuns', WHERE WHAT IT READS IS OF BULK AT MOST 1048576: true; the input reads as it did. -/
def chainRunsUptoRow : OpenClaim := { program := "ytimomjheanfbmaagreatdoor", sum := "97ce1db60f04e09c2127b5377f0f77ce135a4e2e045cb3f5b6a337684e4025d5", func := "jetty/jettylaw18.ChainRuns", spec := "chainRuns", inPlace := ["internal/abi.NoEscape", "internal/bytealg.MakeNoZero", "math.archTrunc", "math.Float64bits", "math.Float64frombits", "internal/bytealg.IndexByteString", "internal/bytealg.IndexString"], unfollowed := true, recurses := true, named := ["unicode/utf8.first", "unicode/utf8.acceptRanges", "internal/bytealg.MaxLen"], apart := false, laid := [("unicode/utf8.acceptRanges", laid_unicode_utf8_acceptRanges), ("unicode/utf8.first", laid_unicode_utf8_first)], narrowed := true }
def ChainRunsUptoSaid : Prop := chainRunsUptoRow.holds Tryz.pinned (OpenSpec.upto chainRunsSpec)

end Rows
end Go.Proofs.YtimomjheanfbmaaGreatDoor
