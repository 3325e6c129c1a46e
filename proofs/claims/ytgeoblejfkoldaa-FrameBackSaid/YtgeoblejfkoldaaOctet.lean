import Derived.Test.YtgeoblejfkoldaaProg
import Derived.Test.YtgeoblejfkoldaaLib
import Derived.BigRegion
set_option linter.unusedSimpArgs false
set_option linter.unusedVariables false
namespace Go.Proofs.Ytgeoblejfkoldaa
open Go.RowKit
theorem Try.info_u8 : (Try.prog.info? 5).map (fun i => (i.zero, i.size, i.bytes)) = some (some (.int .u8 0), 1, 1) := by kernel_rfl

set_option maxHeartbeats 400000 in
theorem oct_num_bad (n width : Int) (h : width < 1 ∨ 8 < width) (w : World) :
    Calls Try.prog 12 #[.int .u64 n, .int .i64 width] w fun e w' => e = .returned (.tuple #[.string ⟨#[]⟩, .int .i64 1]) ∧ w = w' := by
  rcases h with h | h
  · go_enter Try.func12, Try.ntmps12
    go_wp2
    go_ret2
    exact ⟨rfl, rfl⟩
  · have h' : ¬ width < 1 := by omega
    go_enter Try.func12, Try.ntmps12
    go_wp2
    go_ret2
    exact ⟨rfl, rfl⟩
set_option maxHeartbeats 400000 in
theorem oct_num_unfit (n width : Int) (h1 : 1 ≤ width) (h8 : width < 8) (hn : 0 ≤ n) (hf : n / 2 ^ (8 * width.toNat) ≠ 0) (w : World) :
    Calls Try.prog 12 #[.int .u64 n, .int .i64 width] w fun e w' => e = .returned (.tuple #[.string ⟨#[]⟩, .int .i64 1]) ∧ w = w' := by
  obtain ⟨k, rfl⟩ := Int.eq_ofNat_of_zero_le (show 0 ≤ width by omega)
  rw [Int.toNat_natCast] at hf
  have hlen : (k : Int) ≤ 8 := by omega
  have hf' : (n / 2 ^ (8 * k) != 0) = true := by simpa using hf
  clear hf
  go_enter Try.func12, Try.ntmps12
  go_wp2
  go_ret2
  exact ⟨rfl, rfl⟩
set_option maxHeartbeats 400000 in
theorem oct_num_ok (n width : Int) (h1 : 1 ≤ width) (h8 : width ≤ 8) (hn : 0 ≤ n) (hf : width < 8 → n / 2 ^ (8 * width.toNat) = 0) (w : World) :
    Calls Try.prog 12 #[.int .u64 n, .int .i64 width] w fun e w' => e = .returned (.tuple #[.string (leS n width.toNat), .int .i64 0]) ∧ Below w.heap.size w w' := by
  obtain ⟨k, rfl⟩ := Int.eq_ofNat_of_zero_le (show 0 ≤ width by omega)
  rw [Int.toNat_natCast] at hf ⊢
  obtain ⟨i0, hi, hz0, hz1, hz2⟩ := info_parts Try.info_u8
  have hlen : (k : Int) ≤ 8 := by omega
  by_cases hk8 : (k : Int) < 8
  all_goals
    try have hf := hf hk8
    go_enter Try.func12, Try.ntmps12
    go_wp2_with (first | (at_make; refine wpList_make_full _ rfl _ _ 39 rfl w.heap.size 5 i0 (.int .u8 0) 1 Try.underlying39 hi hz0 hz1 _ _ _ _ k rfl rfl rfl rfl (by rw [hz2]; omega) (by unfold maxLen; omega) (Nat.le_refl _) ?_; rintro w1 hown hg))
    have hB : Below w.heap.size w w1 := (Below.refl _ _).grown hg (Nat.le_refl _) (by simp)
    have hown' : w1.ownsRow w.heap.size 5 1 (.slice (some ⟨w.heap.size, 0, none⟩) k k) k (leRow n k 0) := by
      rw [leRow_zero, ← toList_madeCells_one]; simpa [Value.cells] using hown
    clear hown hg
    go_loopw [29] (fun i wr => ∃ j : Nat, j ≤ k ∧ i = .int .i64 j ∧ wr.ownsRow w.heap.size 5 1 (.slice (some ⟨w.heap.size, 0, none⟩) k k) k (leRow n k j) ∧ Below w.heap.size w wr) (fun i _ => k - (intOf i).toNat)
    case atStart => exact ⟨0, by omega, rfl, hown', hB⟩
    case round =>
      obtain ⟨j, hj, rfl, ho, hb⟩ := hrel
      by_cases hlt : j < k
      · have hc := ho.cellAt j (by omega)
        rw [leRow_at n k j hlt] at hc
        have hfz := ho.frozenAt j
        have Hb := Lib.hid hb
        have Ho := Lib.hid ho
        clear hb ho
        go_wp2
        go_roundw
        case rel => exact ⟨j + 1, by omega, by go_num, (leRow_set n k j hlt) ▸ (Ho.out.stored j _).1, Hb.out.setCell (by simp) _⟩
        case measure => simp [intOf]; omega
      · have hjk : j = k := by omega
        subst hjk
        have hx := run_convert_bytes_arg (P := Try.prog) wr 39 5 Try.underlying39 Try.underlying5 w.heap.size 0 j j (le n j) (le_length n j) (fun i hi => by
          rw [Nat.zero_add, ho.cellAt i (by omega), leRow_full]; simp [List.getD, le_length, hi]) 9 Try.underlying9
        have Hb := Lib.hid hb
        clear hb ho
        go_wp2
        go_ret2
        exact ⟨rfl, Hb.out⟩

set_option maxHeartbeats 400000 in
theorem oct_val_bad (s : ByteArray) (h : (s.size : Int) < 1 ∨ 8 < (s.size : Int)) (w : World) (hs : s.size ≤ maxLen) :
    Calls Try.prog 14 #[.string s] w fun e w' => e = .returned (.tuple #[.int .u64 0, .int .i64 1]) ∧ w = w' := by
  unfold maxLen at hs
  rcases h with h | h
  · go_enter Try.func14, Try.ntmps14
    go_wp2
    go_ret2
    exact ⟨rfl, rfl⟩
  · have h' : ¬ (s.size : Int) < 1 := by omega
    go_enter Try.func14, Try.ntmps14
    go_wp2
    go_ret2
    exact ⟨rfl, rfl⟩
set_option maxHeartbeats 400000 in
theorem oct_val_ok (s : ByteArray) (h1 : 1 ≤ (s.size : Int)) (h8 : (s.size : Int) ≤ 8) (w : World) :
    Calls Try.prog 14 #[.string s] w fun e w' => e = .returned (.tuple #[.int .u64 (valS s), .int .i64 0]) ∧ w = w' := by
  go_enter Try.func14, Try.ntmps14
  go_wp2
  go_loop [4, 16] (fun n i => ∃ k : Nat, k ≤ s.size ∧ i = .int .i64 k ∧ n = .int .u64 (valL (s.data.toList.take k))) (fun _ i => s.size - (intOf i).toNat)
  case atStart => exact ⟨0, Nat.zero_le _, rfl, rfl⟩
  case round =>
    obtain ⟨k, hk, rfl, rfl⟩ := hrel
    by_cases hlt : k < s.size
    · have h0 := valL_nonneg (s.data.toList.take k)
      have H1 := Lib.hid (valL_take_lt s k hk)
      have H2 := Lib.hid (valL_take_succ s k hlt)
      go_wp2
      refine ⟨⟨k + 1, by omega, by go_num, ?_⟩, ?_⟩
      · rw [wrap_u64_byte, bits_or_step _ _ k (by omega) h0 H1.out (UInt8.toNat_lt _), H2.out]
      · simp [intOf]; omega
    · obtain rfl : k = s.size := by omega
      have H1 : Hid (valL (s.data.toList.take s.size) = valS s) := by unfold valS; rw [List.take_of_length_le (by simp)]; rfl
      go_wp2
      go_ret2
      exact ⟨by simp [H1.out], rfl⟩
set_option maxHeartbeats 400000 in
theorem ref_val_bad (s : ByteArray) (h : (s.size : Int) < 1 ∨ 8 < (s.size : Int)) (w : World) (hs : s.size ≤ maxLen) :
    Calls Try.prog 15 #[.string s] w fun e w' => e = .returned (.tuple #[.int .u64 0, .bool false]) ∧ w = w' := by
  unfold maxLen at hs
  rcases h with h | h
  · go_enter Try.func15, Try.ntmps15
    go_wp2
    go_ret2
    exact ⟨rfl, rfl⟩
  · have h' : ¬ (s.size : Int) < 1 := by omega
    go_enter Try.func15, Try.ntmps15
    go_wp2
    go_ret2
    exact ⟨rfl, rfl⟩
set_option maxHeartbeats 400000 in
theorem ref_val_ok (s : ByteArray) (h1 : 1 ≤ (s.size : Int)) (h8 : (s.size : Int) ≤ 8) (w : World) :
    Calls Try.prog 15 #[.string s] w fun e w' => e = .returned (.tuple #[.int .u64 (valS s), .bool true]) ∧ w = w' := by
  go_enter Try.func15, Try.ntmps15
  go_wp2
  go_loop [4, 5] (fun n i => ∃ k : Nat, k ≤ s.size ∧ i = .int .i64 ((k : Int) - 1) ∧ n = .int .u64 (valL (s.data.toList.drop k))) (fun _ i => (intOf i + 1).toNat)
  case atStart => exact ⟨s.size, Nat.le_refl _, rfl, by rw [valS_nil]⟩
  case round =>
    obtain ⟨k, hk, rfl, rfl⟩ := hrel
    by_cases hlt : 0 < k
    · obtain ⟨j, rfl⟩ : ∃ j, k = j + 1 := ⟨k - 1, by omega⟩
      rw [show (((j + 1 : Nat) : Int) - 1) = (j : Int) from by omega]
      have h0 := valL_nonneg (s.data.toList.drop (j + 1))
      have H1 := Lib.hid (valL_drop_lt s j (by omega))
      have H2 := Lib.hid (valL_drop s j (by omega))
      have hlt' : j < s.size := by omega
      go_wp2
      refine ⟨⟨j, by omega, rfl, ?_⟩, ?_⟩
      · rw [val_step _ _ h0 (by rw [← H2.out]; exact H1.out), H2.out]
      · simp [intOf]
    · obtain rfl : k = 0 := by omega
      go_wp2
      go_ret2
      exact ⟨rfl, rfl⟩



set_option maxHeartbeats 400000 in
theorem ref_num_bad (n width : Int) (h : width < 1 ∨ 8 < width) (w : World) :
    Calls Try.prog 13 #[.int .u64 n, .int .i64 width] w fun e w' => e = .returned (.tuple #[.string ⟨#[]⟩, .bool false]) ∧ w = w' := by
  rcases h with h | h
  · go_enter Try.func13, Try.ntmps13
    go_wp2
    go_ret2
    exact ⟨rfl, rfl⟩
  · have h' : ¬ width < 1 := by omega
    go_enter Try.func13, Try.ntmps13
    go_wp2
    go_ret2
    exact ⟨rfl, rfl⟩
set_option maxHeartbeats 400000 in
theorem ref_num_ok (n width : Int) (h1 : 1 ≤ width) (h8 : width ≤ 8) (hn : 0 ≤ n) (hn64 : Hid (n < 18446744073709551616)) (w : World) :
    Calls Try.prog 13 #[.int .u64 n, .int .i64 width] w fun e w' => e = .returned (.tuple #[.string (leS n width.toNat), .bool (n / 2 ^ (8 * width.toNat) == 0)]) ∧ Below w.heap.size w w' := by
  obtain ⟨k, rfl⟩ := Int.eq_ofNat_of_zero_le (show 0 ≤ width by omega)
  rw [Int.toNat_natCast]
  obtain ⟨i0, hi, hz0, hz1, hz2⟩ := info_parts Try.info_u8
  have hlen : (k : Int) ≤ 8 := by omega
  go_enter Try.func13, Try.ntmps13
  go_wp2
  go_loopw [0, 6, 7] (fun m v i wr => ∃ j : Nat, j ≤ k ∧ i = .int .i64 j ∧ m = .int .u64 (n / 2 ^ (8 * j)) ∧ wr.ownsRow w.heap.size 5 1 v j ((le n j).map (Value.int .u8)) ∧ Below w.heap.size w wr) (fun _ _ i _ => k - (intOf i).toNat)
  case atStart => exact ⟨0, by omega, rfl, by simp, World.ownsRow_nil _ _ _ _, Below.refl _ _⟩
  case round =>
    obtain ⟨j, hj, rfl, rfl, ho, hb⟩ := hrel
    by_cases hlt : j < k
    · have hn' : 0 ≤ n / 2 ^ (8 * j) := Int.ediv_nonneg hn (Int.le_of_lt (Int.pow_pos (by omega)))
      go_wp2_with (first | (at_builtin; go_must (refine wpList_append_own _ rfl _ _ 39 rfl w.heap.size 5 i0 (.int .u8 0) 1 1 Try.underlying39 hi hz0 hz1 hz2 rfl (by decide) _ _ _ rfl (ho.alloc _) ⟨wr.heap.size, 0, none⟩ 1 1 [.int .u8 (n / 2 ^ (8 * j) % 256)] rfl rfl (cell_one_new _ _ _) (by simp [Value.oneCell']) (by unfold maxLen; omega) (by omega) (by have := hb.size; simp; omega) ?_); rintro v' w1 ho1 hg1 _))
      have ho2 : w1.ownsRow w.heap.size 5 1 v' (j + 1) ((le n (j + 1)).map (Value.int .u8)) := by rw [le_succ]; simpa using ho1
      have hb2 : Below w.heap.size w w1 := (hb.alloc (by have := hb.size; omega) _).grown hg1 (by have := hb.size; simp; omega) (fun q hq => (ho.lt q hq).1)
      clear ho1 hg1 ho hb
      go_wp2
      go_roundw
      case rel => exact ⟨j + 1, by omega, by go_num, by rw [tdiv_step n j hn hn64.out], ho2, hb2⟩
      case measure => simp [intOf]; omega
    · obtain rfl : j = k := by omega
      have hx := convert_owned (P := Try.prog) wr 39 5 Try.underlying39 Try.underlying5 _ _ _ _ ho 9 Try.underlying9
      clear ho
      go_wp2
      go_ret2
      exact ⟨rfl, hb⟩

end Go.Proofs.Ytgeoblejfkoldaa
