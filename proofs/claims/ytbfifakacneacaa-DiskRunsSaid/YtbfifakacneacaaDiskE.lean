import Derived.Test.YtbfifakacneacaaDiskD
set_option linter.unusedSimpArgs false
set_option linter.unusedVariables false
namespace Go.Proofs.Ytbfifakacneacaa
open Go.RowKit

set_option maxHeartbeats 800000 in
theorem ref_blank (w : World) : Calls Try.prog 18 #[] w fun e w' => e = .returned (.string (zeros 64)) ∧ Below w.heap.size w w' := by
  obtain ⟨i0, hi, hz0, hz1, hz2⟩ := info_parts Try.info_by
  have HX : Hid (∀ w B v, w.ownsRow B 5 1 v 64 (madeCells (Value.int .u8 0).cells (64 * 1)).toList → (convert 63 9 v).run Try.prog w = .ok (.string (zeros 64)) w) :=
    fun w B v h => convert_zeros (P := Try.prog) w 63 5 Try.underlying63 Try.underlying5 B v 64 h 9 Try.underlying9
  generalize zeros 64 = Z at *
  go_enter Try.func18, Try.ntmps18
  go_wp2_with ((at_make; refine wpList_make_full _ rfl _ _ 63 rfl w.heap.size 5 i0 (.int .u8 0) 1 Try.underlying63 hi hz0 hz1 _ _ _ _ 64 rfl rfl rfl rfl (by rw [hz2]; omega) (by unfold maxLen; omega) (by simp) ?_; rintro w1 hown hg; (have hcv := HX.out w1 _ _ hown); (have Hg := Lib.hid hg); clear hg hown))
  go_ret
  exact ⟨rfl, (bR).grown Hg.out (by simp) (by simp)⟩
def padS (s : ByteArray) : ByteArray := if 64 < s.size ∨ s.size = 63 then s else s ++ zeros (64 - s.size)
theorem padS_size (s : ByteArray) : (padS s).size = 64 ↔ (s.size ≤ 64 ∧ s.size ≠ 63) := by
  unfold padS
  split
  · omega
  · rw [bytes_size, zeros_size]; omega
theorem padS_le (s : ByteArray) (h : s.size ≤ maxLen) : (padS s).size ≤ maxLen := by
  unfold padS
  split
  · exact h
  · rw [bytes_size, zeros_size]; unfold maxLen; omega
set_option maxHeartbeats 800000 in
theorem law_padded (s : ByteArray) (hs : s.size ≤ maxLen) (w : World) : Calls Try.prog 13 #[.string s] w fun e w' => e = .returned (.string (padS s)) ∧ Below w.heap.size w w' := by
  unfold padS
  unfold maxLen at hs
  by_cases h1 : 64 < s.size
  · rw [if_pos (.inl h1)]
    have h1' : (64 : Int) < s.size := by omega
    go_enter Try.func13, Try.ntmps13
    go_wp2_with fail
    go_ret
    exact ⟨rfl, bR⟩
  · by_cases h2 : s.size = 63
    · rw [if_pos (.inr h2)]
      go_enter Try.func13, Try.ntmps13
      go_wp2_with fail
      go_ret
      exact ⟨rfl, bR⟩
    · rw [if_neg (by omega)]
      obtain ⟨i0, hi, hz0, hz1, hz2⟩ := info_parts Try.info_by
      obtain ⟨m, hm⟩ : ∃ m : Nat, 64 - s.size = m := ⟨_, rfl⟩
      rw [hm]
      have hm' : (64 : Int) - s.size = m := by omega
      have hm64 : m ≤ 64 := by omega
      have h1' : (s.size : Int) ≤ 64 := by omega
      have h2' : ((s.size : Int) == 63) = false := by simp; omega
      have hzz := zeros_size m
      have HX : Hid (∀ w B v, w.ownsRow B 5 1 v m (madeCells (Value.int .u8 0).cells (m * 1)).toList → (convert 63 9 v).run Try.prog w = .ok (.string (zeros m)) w) :=
        fun w B v h => convert_zeros (P := Try.prog) w 63 5 Try.underlying63 Try.underlying5 B v m h 9 Try.underlying9
      generalize zeros m = Z at *
      have hm := Lib.hid hm
      clear h1 h2
      go_enter Try.func13, Try.ntmps13
      go_wp2_with ((at_make; refine wpList_make_full _ rfl _ _ 63 rfl w.heap.size 5 i0 (.int .u8 0) 1 Try.underlying63 hi hz0 hz1 _ _ _ _ m rfl rfl rfl rfl (by rw [hz2]; omega) (by unfold maxLen; omega) (by simp) ?_; rintro w1 hown hg; (have hcv := HX.out w1 _ _ hown); (have Hg := Lib.hid hg); clear hg hown))
      go_ret
      exact ⟨rfl, (bR).grown Hg.out (by simp) (by simp)⟩
theorem dsk_read_nil (s : Int) (w : World) : Calls Try.prog 15 #[.pointer none, .int .i64 s] w fun e w' => e = .returned (.tuple #[.string ⟨#[]⟩, .int .i64 20]) ∧ w' = w := by
  go_enter Try.func15, Try.ntmps15
  go_wp2_with fail
  refine (dsk_off_nil _).mono ?_
  rintro e w1 ⟨rfl, rfl⟩
  go_wp2_with fail
  go_ret2
  exact ⟨rfl, rfl⟩
theorem dsk_write_nil (s : Int) (d : ByteArray) (w : World) : Calls Try.prog 12 #[.pointer none, .int .i64 s, .string d] w fun e w' => e = .returned (.int .i64 20) ∧ w' = w := by
  go_enter Try.func12, Try.ntmps12
  go_wp2_with fail
  refine (dsk_off_nil _).mono ?_
  rintro e w1 ⟨rfl, rfl⟩
  go_wp2_with fail
  go_ret
  exact ⟨rfl, rfl⟩
theorem dsk_barrier_nil (w : World) : Calls Try.prog 14 #[.pointer none] w fun e w' => e = .returned (.int .i64 20) ∧ w' = w := by
  go_enter Try.func14, Try.ntmps14
  go_wp2_with fail
  refine (dsk_off_nil _).mono ?_
  rintro e w1 ⟨rfl, rfl⟩
  go_wp2_with fail
  go_ret
  exact ⟨rfl, rfl⟩
theorem dsk_size_nil (w : World) : Calls Try.prog 20 #[.pointer none] w fun e w' => e = .returned (.int .i64 0) ∧ w' = w := by
  go_enter Try.func20, Try.ntmps20
  go_wp2_with fail
  go_ret
  exact ⟨rfl, rfl⟩
theorem dsk_pending_nil (w : World) : Calls Try.prog 19 #[.pointer none] w fun e w' => e = .returned (.int .i64 0) ∧ w' = w := by
  go_enter Try.func19, Try.ntmps19
  go_wp2_with fail
  go_ret
  exact ⟨rfl, rfl⟩
theorem dsk_crash_nil (v : Value) (w : World) : Calls Try.prog 16 #[.pointer none, v] w fun e w' => e = .returned (.pointer none) ∧ w' = w := by
  go_enter Try.func16, Try.ntmps16
  go_wp2_with fail
  go_ret
  exact ⟨rfl, rfl⟩
theorem dsk_fuel_nil (n : Int) (w : World) : Calls Try.prog 17 #[.pointer none, .int .i64 n] w fun e w' => e = .returned (.tuple #[]) ∧ w' = w := by
  go_enter Try.func17, Try.ntmps17
  go_wp2_with fail
  exact body_end0 rfl rfl ⟨rfl, rfl⟩
end Go.Proofs.Ytbfifakacneacaa
