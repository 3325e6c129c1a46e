/-
  No cell of these rows narrows 'for every input' (looked for: loops, veiled, ifaces, maps, wideKeys, modest, calm, conditions, laid).
  DERIVED. THE GIVEN ROWS OF THIS SEAT. 6 by the template 'for every input the law returns true; each argument reads behind the call as it read before'; 0 by the template 'total and deterministic' (their statements: YtgealllnchpekaaTotals.lean).
  GIVEN WITH THE SEED: the statements are not yours to turn. If you find one false, say at which input.
  Laid BY PROGRAM, IN A SANDBOX (cutbox-rows.mjs): the forced cells as the released guide's own fill.sh prints them over the translation 1fca570e25c5d1ed… (all of the seat's roots in one cut). By AI agents, Wed Nov 11 2026. No macro, syntax, notation, axiom, sorry.
-/
import Derived.Test.YtgealllnchpekaaChecked
import GoSem.Claim
import GoSem.ClaimJoined
import GoSem.ClaimMapViews
import Derived.JoinedTies
import Derived.KernelRfl
namespace Go.Proofs.Ytgealllnchpekaa
/- THE CELL 'sum', in the pinned program and in every row, IS THE sha256 OF THE DUMP (.gsa) THAT YtgealllnchpekaaProg.lean LOADS. Nothing in Lean hashes anything: it is a label: what it is worth is what the hold of that sum in a sandbox is worth. -/
noncomputable def Try.pinned : Pinned := { name := "ytgealllnchpekaa", sum := "1fca570e25c5d1ed47529046496c653ab7e0c0f7c2e32eab86e354c6f41008c1", checked := Try.checked }
namespace Rows
def none {H : Type} : Left H := { results := [], args := [] }

/-- 'jettylaw05.NodePages': WHATEVER THE INPUT: true; the input reads as it did. -/
def nodePagesSpec : ChangeSpec := { name := "nodePages", fn := fun _ => fun
  | [d1, d2] => { results := [.lit (.bool true)], args := [d1, d2] }
  | _ => none }
def nodePagesRow : OpenClaim := { program := "ytgealllnchpekaa", sum := "1fca570e25c5d1ed47529046496c653ab7e0c0f7c2e32eab86e354c6f41008c1", func := "jetty/jettylaw05.NodePages", spec := "nodePages", inPlace := ["internal/bytealg.abigen_runtime_cmpstring"], apart := false }
def NodePagesSaid : Prop := nodePagesRow.holds Try.pinned (OpenSpec.ofChange nodePagesSpec)

/-- ITS FALSE NEIGHBOUR: 'it returns false'. Refute it at one input. -/
def nodePagesWrong : ChangeSpec := { name := "nodePages", fn := fun _ => fun
  | [d1, d2] => { results := [.lit (.bool false)], args := [d1, d2] }
  | _ => none }
def NodePagesWrongFalsely : Prop := nodePagesRow.holds Try.pinned (OpenSpec.ofChange nodePagesWrong)

/-- 'jettylaw05.NodeFinds': WHATEVER THE INPUT: true; the input reads as it did. -/
def nodeFindsSpec : ChangeSpec := { name := "nodeFinds", fn := fun _ => fun
  | [d1, d2] => { results := [.lit (.bool true)], args := [d1, d2] }
  | _ => none }
def nodeFindsRow : OpenClaim := { program := "ytgealllnchpekaa", sum := "1fca570e25c5d1ed47529046496c653ab7e0c0f7c2e32eab86e354c6f41008c1", func := "jetty/jettylaw05.NodeFinds", spec := "nodeFinds", inPlace := ["internal/bytealg.abigen_runtime_cmpstring"], apart := false }
def NodeFindsSaid : Prop := nodeFindsRow.holds Try.pinned (OpenSpec.ofChange nodeFindsSpec)

/-- ITS FALSE NEIGHBOUR: 'it returns false'. Refute it at one input. -/
def nodeFindsWrong : ChangeSpec := { name := "nodeFinds", fn := fun _ => fun
  | [d1, d2] => { results := [.lit (.bool false)], args := [d1, d2] }
  | _ => none }
def NodeFindsWrongFalsely : Prop := nodeFindsRow.holds Try.pinned (OpenSpec.ofChange nodeFindsWrong)

/-- 'jettylaw05.NodeCells': WHATEVER THE INPUT: true; the input reads as it did. -/
def nodeCellsSpec : ChangeSpec := { name := "nodeCells", fn := fun _ => fun
  | [d] => { results := [.lit (.bool true)], args := [d] }
  | _ => none }
def nodeCellsRow : OpenClaim := { program := "ytgealllnchpekaa", sum := "1fca570e25c5d1ed47529046496c653ab7e0c0f7c2e32eab86e354c6f41008c1", func := "jetty/jettylaw05.NodeCells", spec := "nodeCells", inPlace := ["internal/bytealg.abigen_runtime_cmpstring"], apart := false }
def NodeCellsSaid : Prop := nodeCellsRow.holds Try.pinned (OpenSpec.ofChange nodeCellsSpec)

/-- ITS FALSE NEIGHBOUR: 'it returns false'. Refute it at one input. -/
def nodeCellsWrong : ChangeSpec := { name := "nodeCells", fn := fun _ => fun
  | [d] => { results := [.lit (.bool false)], args := [d] }
  | _ => none }
def NodeCellsWrongFalsely : Prop := nodeCellsRow.holds Try.pinned (OpenSpec.ofChange nodeCellsWrong)

/-- 'jettylaw05.NodeWays': WHATEVER THE INPUT: true; the input reads as it did. -/
def nodeWaysSpec : ChangeSpec := { name := "nodeWays", fn := fun _ => fun
  | [d1, d2, d3] => { results := [.lit (.bool true)], args := [d1, d2, d3] }
  | _ => none }
def nodeWaysRow : OpenClaim := { program := "ytgealllnchpekaa", sum := "1fca570e25c5d1ed47529046496c653ab7e0c0f7c2e32eab86e354c6f41008c1", func := "jetty/jettylaw05.NodeWays", spec := "nodeWays", inPlace := ["internal/bytealg.abigen_runtime_cmpstring"], apart := false }
def NodeWaysSaid : Prop := nodeWaysRow.holds Try.pinned (OpenSpec.ofChange nodeWaysSpec)

/-- ITS FALSE NEIGHBOUR: 'it returns false'. Refute it at one input. -/
def nodeWaysWrong : ChangeSpec := { name := "nodeWays", fn := fun _ => fun
  | [d1, d2, d3] => { results := [.lit (.bool false)], args := [d1, d2, d3] }
  | _ => none }
def NodeWaysWrongFalsely : Prop := nodeWaysRow.holds Try.pinned (OpenSpec.ofChange nodeWaysWrong)

/-- 'jettylaw05.NodeChanges': WHATEVER THE INPUT: true; the input reads as it did. -/
def nodeChangesSpec : ChangeSpec := { name := "nodeChanges", fn := fun _ => fun
  | [d1, d2, d3] => { results := [.lit (.bool true)], args := [d1, d2, d3] }
  | _ => none }
def nodeChangesRow : OpenClaim := { program := "ytgealllnchpekaa", sum := "1fca570e25c5d1ed47529046496c653ab7e0c0f7c2e32eab86e354c6f41008c1", func := "jetty/jettylaw05.NodeChanges", spec := "nodeChanges", inPlace := ["internal/bytealg.abigen_runtime_cmpstring"], apart := false }
def NodeChangesSaid : Prop := nodeChangesRow.holds Try.pinned (OpenSpec.ofChange nodeChangesSpec)

/-- ITS FALSE NEIGHBOUR: 'it returns false'. Refute it at one input. -/
def nodeChangesWrong : ChangeSpec := { name := "nodeChanges", fn := fun _ => fun
  | [d1, d2, d3] => { results := [.lit (.bool false)], args := [d1, d2, d3] }
  | _ => none }
def NodeChangesWrongFalsely : Prop := nodeChangesRow.holds Try.pinned (OpenSpec.ofChange nodeChangesWrong)

/-- 'jettylaw05.NodeKeeps': WHATEVER THE INPUT: true; the input reads as it did. -/
def nodeKeepsSpec : ChangeSpec := { name := "nodeKeeps", fn := fun _ => fun
  | [d] => { results := [.lit (.bool true)], args := [d] }
  | _ => none }
def nodeKeepsRow : OpenClaim := { program := "ytgealllnchpekaa", sum := "1fca570e25c5d1ed47529046496c653ab7e0c0f7c2e32eab86e354c6f41008c1", func := "jetty/jettylaw05.NodeKeeps", spec := "nodeKeeps", inPlace := ["internal/bytealg.abigen_runtime_cmpstring"], apart := false }
def NodeKeepsSaid : Prop := nodeKeepsRow.holds Try.pinned (OpenSpec.ofChange nodeKeepsSpec)

/-- ITS FALSE NEIGHBOUR: 'it returns false'. Refute it at one input. -/
def nodeKeepsWrong : ChangeSpec := { name := "nodeKeeps", fn := fun _ => fun
  | [d] => { results := [.lit (.bool false)], args := [d] }
  | _ => none }
def NodeKeepsWrongFalsely : Prop := nodeKeepsRow.holds Try.pinned (OpenSpec.ofChange nodeKeepsWrong)

/- THE SECOND FORM. 'bulk': how many values and letters a reading holds, each counted each time it is reached (what is shared counts as often as it is met; a slice's spare places count too). A statement '..UptoSaid' is the law's where the arguments, and the package variables that the reading takes, are together of bulk at most 1048576: NARROWER than '..Said'. Prove '..Said' where nothing that the law and all that it calls make is longer than what came in: it says more and counts as full. Else prove '..UptoSaid'. A law counts once. -/
mutual
def uptoBulk {H : Type} : DataW H → Nat
  | .lit (.string bytes) => bytes.length + 1
  | .lit _ => 1
  | .nil => 1
  | .ptr d => uptoBulk d + 1
  | .slice elems spare => uptoBulkAll elems + uptoBulkAll spare + 1
  | .agg parts => uptoBulkAll parts + 1
  | .iface _ d => uptoBulk d + 1
  | .map entries => uptoBulkEntries entries + 1
  | .held _ => 1
def uptoBulkAll {H : Type} : List (DataW H) → Nat
  | [] => 0
  | d :: r => uptoBulk d + uptoBulkAll r
def uptoBulkEntries {H : Type} : List (Lit × DataW H) → Nat
  | [] => 0
  | x :: r => uptoBulkEntry x + uptoBulkEntries r
def uptoBulkEntry {H : Type} : Lit × DataW H → Nat
  | (.string bytes, d) => bytes.length + uptoBulk d + 1
  | (_, d) => uptoBulk d + 1
 end
def uptoSmall : (H : Type) → List (DataW H) → Bool := fun _ ds => decide (uptoBulkAll ds ≤ 1048576)
def OpenSpec.upto (s : _root_.Go.ChangeSpec) : _root_.Go.OpenSpec := { _root_.Go.OpenSpec.ofChange s with cond := some uptoSmall }

/-- 'jettylaw05.NodePages', WHERE WHAT IT READS IS OF BULK AT MOST 1048576: true; the input reads as it did. -/
def nodePagesUptoRow : OpenClaim := { program := "ytgealllnchpekaa", sum := "1fca570e25c5d1ed47529046496c653ab7e0c0f7c2e32eab86e354c6f41008c1", func := "jetty/jettylaw05.NodePages", spec := "nodePages", inPlace := ["internal/bytealg.abigen_runtime_cmpstring"], apart := false, narrowed := true }
def NodePagesUptoSaid : Prop := nodePagesUptoRow.holds Try.pinned (OpenSpec.upto nodePagesSpec)

/-- 'jettylaw05.NodeFinds', WHERE WHAT IT READS IS OF BULK AT MOST 1048576: true; the input reads as it did. -/
def nodeFindsUptoRow : OpenClaim := { program := "ytgealllnchpekaa", sum := "1fca570e25c5d1ed47529046496c653ab7e0c0f7c2e32eab86e354c6f41008c1", func := "jetty/jettylaw05.NodeFinds", spec := "nodeFinds", inPlace := ["internal/bytealg.abigen_runtime_cmpstring"], apart := false, narrowed := true }
def NodeFindsUptoSaid : Prop := nodeFindsUptoRow.holds Try.pinned (OpenSpec.upto nodeFindsSpec)

/-- 'jettylaw05.NodeCells', WHERE WHAT IT READS IS OF BULK AT MOST 1048576: true; the input reads as it did. -/
def nodeCellsUptoRow : OpenClaim := { program := "ytgealllnchpekaa", sum := "1fca570e25c5d1ed47529046496c653ab7e0c0f7c2e32eab86e354c6f41008c1", func := "jetty/jettylaw05.NodeCells", spec := "nodeCells", inPlace := ["internal/bytealg.abigen_runtime_cmpstring"], apart := false, narrowed := true }
def NodeCellsUptoSaid : Prop := nodeCellsUptoRow.holds Try.pinned (OpenSpec.upto nodeCellsSpec)

/-- 'jettylaw05.NodeWays', WHERE WHAT IT READS IS OF BULK AT MOST 1048576: true; the input reads as it did. -/
def nodeWaysUptoRow : OpenClaim := { program := "ytgealllnchpekaa", sum := "1fca570e25c5d1ed47529046496c653ab7e0c0f7c2e32eab86e354c6f41008c1", func := "jetty/jettylaw05.NodeWays", spec := "nodeWays", inPlace := ["internal/bytealg.abigen_runtime_cmpstring"], apart := false, narrowed := true }
def NodeWaysUptoSaid : Prop := nodeWaysUptoRow.holds Try.pinned (OpenSpec.upto nodeWaysSpec)

/-- 'jettylaw05.NodeChanges', WHERE WHAT IT READS IS OF BULK AT MOST 1048576: true; the input reads as it did. -/
def nodeChangesUptoRow : OpenClaim := { program := "ytgealllnchpekaa", sum := "1fca570e25c5d1ed47529046496c653ab7e0c0f7c2e32eab86e354c6f41008c1", func := "jetty/jettylaw05.NodeChanges", spec := "nodeChanges", inPlace := ["internal/bytealg.abigen_runtime_cmpstring"], apart := false, narrowed := true }
def NodeChangesUptoSaid : Prop := nodeChangesUptoRow.holds Try.pinned (OpenSpec.upto nodeChangesSpec)

/-- 'jettylaw05.NodeKeeps', WHERE WHAT IT READS IS OF BULK AT MOST 1048576: true; the input reads as it did. -/
def nodeKeepsUptoRow : OpenClaim := { program := "ytgealllnchpekaa", sum := "1fca570e25c5d1ed47529046496c653ab7e0c0f7c2e32eab86e354c6f41008c1", func := "jetty/jettylaw05.NodeKeeps", spec := "nodeKeeps", inPlace := ["internal/bytealg.abigen_runtime_cmpstring"], apart := false, narrowed := true }
def NodeKeepsUptoSaid : Prop := nodeKeepsUptoRow.holds Try.pinned (OpenSpec.upto nodeKeepsSpec)

end Rows
end Go.Proofs.Ytgealllnchpekaa
