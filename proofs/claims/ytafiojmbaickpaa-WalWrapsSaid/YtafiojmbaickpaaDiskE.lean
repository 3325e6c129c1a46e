import Derived.Test.YtafiojmbaickpaaDiskD
set_option linter.unusedSimpArgs false
set_option linter.unusedVariables false
namespace Go.Proofs.Ytafiojmbaickpaa
open Go.RowKit

def padS (s : ByteArray) : ByteArray := if 64 < s.size ∨ s.size = 63 then s else s ++ zeros (64 - s.size)
theorem padS_size (s : ByteArray) : (padS s).size = 64 ↔ (s.size ≤ 64 ∧ s.size ≠ 63) := by
  unfold padS
  split
  · omega
  · rw [bytes_size, zeros_size]; omega
theorem padS_le (s : ByteArray) (h : s.size ≤ maxLen) : (padS s).size ≤ maxLen := by
  unfold padS
  split
  · exact h
  · rw [bytes_size, zeros_size]; unfold maxLen; omega
set_option maxRecDepth 100000 in
theorem dsk_read_nil (s : Int) (w : World) : Calls Try.prog 23 #[.pointer none, .int .i64 s] w fun e w' => e = .returned (.tuple #[.string ⟨#[]⟩, .int .i64 20]) ∧ w' = w := by
  go_enter Try.func23, Try.ntmps23
  go_wp2_with fail
  refine (dsk_off_nil _).mono ?_
  rintro e w1 ⟨rfl, rfl⟩
  go_wp2_with fail
  go_ret2
  exact ⟨rfl, rfl⟩
set_option maxRecDepth 100000 in
theorem dsk_write_nil (s : Int) (d : ByteArray) (w : World) : Calls Try.prog 26 #[.pointer none, .int .i64 s, .string d] w fun e w' => e = .returned (.int .i64 20) ∧ w' = w := by
  go_enter Try.func26, Try.ntmps26
  go_wp2_with fail
  refine (dsk_off_nil _).mono ?_
  rintro e w1 ⟨rfl, rfl⟩
  go_wp2_with fail
  go_ret
  exact ⟨rfl, rfl⟩
set_option maxRecDepth 100000 in
theorem dsk_barrier_nil (w : World) : Calls Try.prog 27 #[.pointer none] w fun e w' => e = .returned (.int .i64 20) ∧ w' = w := by
  go_enter Try.func27, Try.ntmps27
  go_wp2_with fail
  refine (dsk_off_nil _).mono ?_
  rintro e w1 ⟨rfl, rfl⟩
  go_wp2_with fail
  go_ret
  exact ⟨rfl, rfl⟩
set_option maxRecDepth 100000 in
theorem dsk_size_nil (w : World) : Calls Try.prog 37 #[.pointer none] w fun e w' => e = .returned (.int .i64 0) ∧ w' = w := by
  go_enter Try.func37, Try.ntmps37
  go_wp2_with fail
  go_ret
  exact ⟨rfl, rfl⟩
set_option maxRecDepth 100000 in
theorem dsk_crash_nil (v : Value) (w : World) : Calls Try.prog 16 #[.pointer none, v] w fun e w' => e = .returned (.pointer none) ∧ w' = w := by
  go_enter Try.func16, Try.ntmps16
  go_wp2_with fail
  go_ret
  exact ⟨rfl, rfl⟩
set_option maxRecDepth 100000 in
theorem dsk_fuel_nil (n : Int) (w : World) : Calls Try.prog 14 #[.pointer none, .int .i64 n] w fun e w' => e = .returned (.tuple #[]) ∧ w' = w := by
  go_enter Try.func14, Try.ntmps14
  go_wp2_with fail
  exact body_end0 rfl rfl ⟨rfl, rfl⟩
end Go.Proofs.Ytafiojmbaickpaa
