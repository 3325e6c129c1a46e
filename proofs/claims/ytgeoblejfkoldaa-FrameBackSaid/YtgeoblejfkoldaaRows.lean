/-
  No cell of these rows narrows 'for every input' (looked for: loops, veiled, ifaces, maps, wideKeys, modest, calm, conditions, laid).
  DERIVED. THE GIVEN ROWS OF THIS SEAT. 4 by the template 'for every input the law returns true; each argument reads behind the call as it read before'; 0 by the template 'total and deterministic' (their statements: YtgeoblejfkoldaaTotals.lean).
  GIVEN WITH THE SEED: the statements are not yours to turn. If you find one false, say at which input.
  Laid BY PROGRAM, IN A SANDBOX (cutbox-rows.mjs): the forced cells as the released guide's own fill.sh prints them over the translation 7edc7bf13963fc5e… (all of the seat's roots in one cut). By AI agents, Wed Nov 11 2026. No macro, syntax, notation, axiom, sorry.
-/
import Derived.Test.YtgeoblejfkoldaaChecked
import GoSem.Claim
import GoSem.ClaimJoined
import GoSem.ClaimMapViews
import Derived.JoinedTies
import Derived.KernelRfl
namespace Go.Proofs.Ytgeoblejfkoldaa
/- THE CELL 'sum', in the pinned program and in every row, IS THE sha256 OF THE DUMP (.gsa) THAT YtgeoblejfkoldaaProg.lean LOADS. Nothing in Lean hashes anything: it is a label: what it is worth is what the hold of that sum in a sandbox is worth. -/
noncomputable def Try.pinned : Pinned := { name := "ytgeoblejfkoldaa", sum := "7edc7bf13963fc5edaba3105e8e591d92642195c89621f0fab14065113f7db4a", checked := Try.checked }
namespace Rows
def none {H : Type} : Left H := { results := [], args := [] }

/-- 'jettylaw03.FrameSeals': WHATEVER THE INPUT: true; the input reads as it did. -/
def frameSealsSpec : ChangeSpec := { name := "frameSeals", fn := fun _ => fun
  | [d1, d2, d3] => { results := [.lit (.bool true)], args := [d1, d2, d3] }
  | _ => none }
def frameSealsRow : OpenClaim := { program := "ytgeoblejfkoldaa", sum := "7edc7bf13963fc5edaba3105e8e591d92642195c89621f0fab14065113f7db4a", func := "jetty/jettylaw03.FrameSeals", spec := "frameSeals", apart := false }
def FrameSealsSaid : Prop := frameSealsRow.holds Try.pinned (OpenSpec.ofChange frameSealsSpec)

/-- ITS FALSE NEIGHBOUR: 'it returns false'. Refute it at one input. -/
def frameSealsWrong : ChangeSpec := { name := "frameSeals", fn := fun _ => fun
  | [d1, d2, d3] => { results := [.lit (.bool false)], args := [d1, d2, d3] }
  | _ => none }
def FrameSealsWrongFalsely : Prop := frameSealsRow.holds Try.pinned (OpenSpec.ofChange frameSealsWrong)

/-- 'jettylaw03.FrameBack': WHATEVER THE INPUT: true; the input reads as it did. -/
def frameBackSpec : ChangeSpec := { name := "frameBack", fn := fun _ => fun
  | [d] => { results := [.lit (.bool true)], args := [d] }
  | _ => none }
def frameBackRow : OpenClaim := { program := "ytgeoblejfkoldaa", sum := "7edc7bf13963fc5edaba3105e8e591d92642195c89621f0fab14065113f7db4a", func := "jetty/jettylaw03.FrameBack", spec := "frameBack", apart := false }
def FrameBackSaid : Prop := frameBackRow.holds Try.pinned (OpenSpec.ofChange frameBackSpec)

/-- ITS FALSE NEIGHBOUR: 'it returns false'. Refute it at one input. -/
def frameBackWrong : ChangeSpec := { name := "frameBack", fn := fun _ => fun
  | [d] => { results := [.lit (.bool false)], args := [d] }
  | _ => none }
def FrameBackWrongFalsely : Prop := frameBackRow.holds Try.pinned (OpenSpec.ofChange frameBackWrong)

/-- 'jettylaw03.FrameShares': WHATEVER THE INPUT: true; the input reads as it did. -/
def frameSharesSpec : ChangeSpec := { name := "frameShares", fn := fun _ => fun
  | [d1, d2, d3] => { results := [.lit (.bool true)], args := [d1, d2, d3] }
  | _ => none }
def frameSharesRow : OpenClaim := { program := "ytgeoblejfkoldaa", sum := "7edc7bf13963fc5edaba3105e8e591d92642195c89621f0fab14065113f7db4a", func := "jetty/jettylaw03.FrameShares", spec := "frameShares", apart := false }
def FrameSharesSaid : Prop := frameSharesRow.holds Try.pinned (OpenSpec.ofChange frameSharesSpec)

/-- ITS FALSE NEIGHBOUR: 'it returns false'. Refute it at one input. -/
def frameSharesWrong : ChangeSpec := { name := "frameShares", fn := fun _ => fun
  | [d1, d2, d3] => { results := [.lit (.bool false)], args := [d1, d2, d3] }
  | _ => none }
def FrameSharesWrongFalsely : Prop := frameSharesRow.holds Try.pinned (OpenSpec.ofChange frameSharesWrong)

/-- 'jettylaw03.FrameTorn': WHATEVER THE INPUT: true; the input reads as it did. -/
def frameTornSpec : ChangeSpec := { name := "frameTorn", fn := fun _ => fun
  | [d1, d2, d3] => { results := [.lit (.bool true)], args := [d1, d2, d3] }
  | _ => none }
def frameTornRow : OpenClaim := { program := "ytgeoblejfkoldaa", sum := "7edc7bf13963fc5edaba3105e8e591d92642195c89621f0fab14065113f7db4a", func := "jetty/jettylaw03.FrameTorn", spec := "frameTorn", apart := false }
def FrameTornSaid : Prop := frameTornRow.holds Try.pinned (OpenSpec.ofChange frameTornSpec)

/-- ITS FALSE NEIGHBOUR: 'it returns false'. Refute it at one input. -/
def frameTornWrong : ChangeSpec := { name := "frameTorn", fn := fun _ => fun
  | [d1, d2, d3] => { results := [.lit (.bool false)], args := [d1, d2, d3] }
  | _ => none }
def FrameTornWrongFalsely : Prop := frameTornRow.holds Try.pinned (OpenSpec.ofChange frameTornWrong)

/- THE SECOND FORM. 'bulk': how many values and letters a reading holds, each counted each time it is reached (what is shared counts as often as it is met; a slice's spare places count too). A statement '..UptoSaid' is the law's where the arguments, and the package variables that the reading takes, are together of bulk at most 1048576: NARROWER than '..Said'. Prove '..Said' where nothing that the law and all that it calls make is longer than what came in: it says more and counts as full. Else prove '..UptoSaid'. A law counts once. -/
mutual
def uptoBulk {H : Type} : DataW H → Nat
  | .lit (.string bytes) => bytes.length + 1
  | .lit _ => 1
  | .nil => 1
  | .ptr d => uptoBulk d + 1
  | .slice elems spare => uptoBulkAll elems + uptoBulkAll spare + 1
  | .agg parts => uptoBulkAll parts + 1
  | .iface _ d => uptoBulk d + 1
  | .map entries => uptoBulkEntries entries + 1
  | .held _ => 1
def uptoBulkAll {H : Type} : List (DataW H) → Nat
  | [] => 0
  | d :: r => uptoBulk d + uptoBulkAll r
def uptoBulkEntries {H : Type} : List (Lit × DataW H) → Nat
  | [] => 0
  | x :: r => uptoBulkEntry x + uptoBulkEntries r
def uptoBulkEntry {H : Type} : Lit × DataW H → Nat
  | (.string bytes, d) => bytes.length + uptoBulk d + 1
  | (_, d) => uptoBulk d + 1
 end
def uptoSmall : (H : Type) → List (DataW H) → Bool := fun _ ds => decide (uptoBulkAll ds ≤ 1048576)
def OpenSpec.upto (s : _root_.Go.ChangeSpec) : _root_.Go.OpenSpec := { _root_.Go.OpenSpec.ofChange s with cond := some uptoSmall }

/-- 'jettylaw03.FrameSeals', WHERE WHAT IT READS IS OF BULK AT MOST 1048576: true; the input reads as it did. -/
def frameSealsUptoRow : OpenClaim := { program := "ytgeoblejfkoldaa", sum := "7edc7bf13963fc5edaba3105e8e591d92642195c89621f0fab14065113f7db4a", func := "jetty/jettylaw03.FrameSeals", spec := "frameSeals", apart := false, narrowed := true }
def FrameSealsUptoSaid : Prop := frameSealsUptoRow.holds Try.pinned (OpenSpec.upto frameSealsSpec)

/-- 'jettylaw03.FrameBack', WHERE WHAT IT READS IS OF BULK AT MOST 1048576: true; the input reads as it did. -/
def frameBackUptoRow : OpenClaim := { program := "ytgeoblejfkoldaa", sum := "7edc7bf13963fc5edaba3105e8e591d92642195c89621f0fab14065113f7db4a", func := "jetty/jettylaw03.FrameBack", spec := "frameBack", apart := false, narrowed := true }
def FrameBackUptoSaid : Prop := frameBackUptoRow.holds Try.pinned (OpenSpec.upto frameBackSpec)

/-- 'jettylaw03.FrameShares', WHERE WHAT IT READS IS OF BULK AT MOST 1048576: true; the input reads as it did. -/
def frameSharesUptoRow : OpenClaim := { program := "ytgeoblejfkoldaa", sum := "7edc7bf13963fc5edaba3105e8e591d92642195c89621f0fab14065113f7db4a", func := "jetty/jettylaw03.FrameShares", spec := "frameShares", apart := false, narrowed := true }
def FrameSharesUptoSaid : Prop := frameSharesUptoRow.holds Try.pinned (OpenSpec.upto frameSharesSpec)

/-- 'jettylaw03.FrameTorn', WHERE WHAT IT READS IS OF BULK AT MOST 1048576: true; the input reads as it did. -/
def frameTornUptoRow : OpenClaim := { program := "ytgeoblejfkoldaa", sum := "7edc7bf13963fc5edaba3105e8e591d92642195c89621f0fab14065113f7db4a", func := "jetty/jettylaw03.FrameTorn", spec := "frameTorn", apart := false, narrowed := true }
def FrameTornUptoSaid : Prop := frameTornUptoRow.holds Try.pinned (OpenSpec.upto frameTornSpec)

end Rows
end Go.Proofs.Ytgeoblejfkoldaa
