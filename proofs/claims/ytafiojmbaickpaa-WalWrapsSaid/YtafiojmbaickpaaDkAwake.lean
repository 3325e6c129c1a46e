import Derived.Test.YtafiojmbaickpaaDiskE
set_option linter.unusedSimpArgs false
set_option linter.unusedVariables false
namespace Go.Proofs.Ytafiojmbaickpaa
open Go.RowKit

theorem below_keep {w0 w w' : World} {R : Nat → Prop} (h : Below w0.heap.size w0 w) (hk : Keeps R w w') (hR : ∀ k, R k → w0.heap.size ≤ k) : Below w0.heap.size w0 w' :=
  h.trans (hk.belowB h.size hR)
end Go.Proofs.Ytafiojmbaickpaa
