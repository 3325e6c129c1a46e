import Derived.Test.YtgealllnchpekaaNodeE
set_option linter.unusedSimpArgs false
set_option linter.unusedVariables false
namespace Go.Proofs.Ytgealllnchpekaa
open Go.RowKit

def pageZ : Pg := ⟨0, 0, 0, 0, fun _ => 0, fun _ => ⟨#[]⟩⟩
set_option maxRecDepth 100000 in
set_option maxHeartbeats 1600000 in
theorem nd_check0 (w : World) : Calls Try.prog 12 #[pgV pageZ] w fun e w' => e = .returned (.int .i64 40) ∧ Below w.heap.size w w' := by
  have e0 : pgV pageZ = .agg #[.int .i64 0, .int .i64 0, .int .i64 0, .int .i64 0, .int .i64 0, .string ⟨#[]⟩, .int .i64 0, .string ⟨#[]⟩, .int .i64 0, .string ⟨#[]⟩, .int .i64 0, .string ⟨#[]⟩, .int .i64 0, .string ⟨#[]⟩, .int .i64 0, .string ⟨#[]⟩] := rfl
  rw [e0]
  clear e0
  go_enter Try.func12, Try.ntmps12
  go_wp2_with fail
  go_ret
  exact ⟨rfl, bA bR⟩
end Go.Proofs.Ytgealllnchpekaa
