import Derived.Test.YtgealllnchpekaaNodeY
set_option linter.unusedSimpArgs false
set_option linter.unusedVariables false
namespace Go.Proofs.Ytgealllnchpekaa
open Go.RowKit

theorem nodePages_walk (v : Value) (P : Pg) (key : ByteArray) (hk : key.size ≤ maxLen) (w : World) (h : PgIs v P) :
    Calls Try.prog 3 #[v, .string key] w fun e w' => e = .returned (.bool true) ∧ Below w.heap.size w w' :=
  h.1 ▸ nodePages_run P key h.2 hk w
end Go.Proofs.Ytgealllnchpekaa
