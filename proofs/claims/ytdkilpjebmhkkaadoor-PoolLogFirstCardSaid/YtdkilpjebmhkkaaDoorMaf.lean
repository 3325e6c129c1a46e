import Derived.Test.YtdkilpjebmhkkaaDoorProg
import Derived.Test.YtdkilpjebmhkkaaDoorMaa
import Derived.BigRegion
import Derived.Shelf.Strings.Builder1
import Derived.Shelf.Strings.BuilderK
import Derived.Shelf.Strings.Trim
import Derived.Shelf.Strings.Repeat
set_option linter.unusedSimpArgs false
set_option linter.unusedVariables false
namespace Go.Proofs.YtdkilpjebmhkkaaDoor
open Go.RowKit
theorem Tryd.info_u8 : (Tryd.prog.info? 5).map (fun i => (i.zero, i.size, i.bytes)) = some (some (.int .u8 0), 1, 1) := by kernel_rfl

set_option maxHeartbeats 400000 in
theorem oct_num_bad (n width : Int) (h : width < 1 ∨ 8 < width) (w : World) :
    Calls Tryd.prog 29 #[.int .u64 n, .int .i64 width] w fun e w' => e = .returned (.tuple #[.string ⟨#[]⟩, .int .i64 1]) ∧ w = w' := by
  rcases h with h | h
  · go_enter Tryd.func29, Tryd.ntmps29
    go_wp2
    go_ret2
    exact ⟨rfl, rfl⟩
  · have h' : ¬ width < 1 := by omega
    go_enter Tryd.func29, Tryd.ntmps29
    go_wp2
    go_ret2
    exact ⟨rfl, rfl⟩
set_option maxHeartbeats 400000 in
theorem oct_num_unfit (n width : Int) (h1 : 1 ≤ width) (h8 : width < 8) (hn : 0 ≤ n) (hf : n / 2 ^ (8 * width.toNat) ≠ 0) (w : World) :
    Calls Tryd.prog 29 #[.int .u64 n, .int .i64 width] w fun e w' => e = .returned (.tuple #[.string ⟨#[]⟩, .int .i64 1]) ∧ w = w' := by
  obtain ⟨k, rfl⟩ := Int.eq_ofNat_of_zero_le (show 0 ≤ width by omega)
  rw [Int.toNat_natCast] at hf
  have hlen : (k : Int) ≤ 8 := by omega
  have hf' : (n / 2 ^ (8 * k) != 0) = true := by simpa using hf
  clear hf
  go_enter Tryd.func29, Tryd.ntmps29
  go_wp2
  go_ret2
  exact ⟨rfl, rfl⟩
set_option maxHeartbeats 400000 in
set_option maxRecDepth 100000 in
theorem oct_num_ok (n width : Int) (h1 : 1 ≤ width) (h8 : width ≤ 8) (hn : 0 ≤ n) (hf : width < 8 → n / 2 ^ (8 * width.toNat) = 0) (w : World) :
    Calls Tryd.prog 29 #[.int .u64 n, .int .i64 width] w fun e w' => e = .returned (.tuple #[.string (leS n width.toNat), .int .i64 0]) ∧ Below w.heap.size w w' := by
  obtain ⟨k, rfl⟩ := Int.eq_ofNat_of_zero_le (show 0 ≤ width by omega)
  rw [Int.toNat_natCast] at hf ⊢
  obtain ⟨i0, hi, hz0, hz1, hz2⟩ := info_parts Tryd.info_u8
  have hlen : (k : Int) ≤ 8 := by omega
  by_cases hk8 : (k : Int) < 8
  all_goals
    try have hf := hf hk8
    go_enter Tryd.func29, Tryd.ntmps29
    go_wp2_with (first | (at_make; refine wpList_make_full _ rfl _ _ 54 rfl w.heap.size 5 i0 (.int .u8 0) 1 Tryd.underlying54 hi hz0 hz1 _ _ _ _ k rfl rfl rfl rfl (by rw [hz2]; omega) (by unfold maxLen; omega) (Nat.le_refl _) ?_; rintro w1 hown hg))
    have hB : Below w.heap.size w w1 := (Below.refl _ _).grown hg (Nat.le_refl _) (by simp)
    have hown' : w1.ownsRow w.heap.size 5 1 (.slice (some ⟨w.heap.size, 0, none⟩) k k) k (leRow n k 0) := by
      rw [leRow_zero, ← toList_madeCells_one]; simpa [Value.cells] using hown
    clear hown hg
    go_loopw [29] (fun i wr => ∃ j : Nat, j ≤ k ∧ i = .int .i64 j ∧ wr.ownsRow w.heap.size 5 1 (.slice (some ⟨w.heap.size, 0, none⟩) k k) k (leRow n k j) ∧ Below w.heap.size w wr) (fun i _ => k - (intOf i).toNat)
    case atStart => exact ⟨0, by omega, rfl, hown', hB⟩
    case round =>
      obtain ⟨j, hj, rfl, ho, hb⟩ := hrel
      by_cases hlt : j < k
      · have hc := ho.cellAt j (by omega)
        rw [leRow_at n k j hlt] at hc
        have hfz := ho.frozenAt j
        have Hb := Lib.hid hb
        have Ho := Lib.hid ho
        clear hb ho
        go_wp2
        go_roundw
        case rel => exact ⟨j + 1, by omega, by go_num, (leRow_set n k j hlt) ▸ (Ho.out.stored j _).1, Hb.out.setCell (by simp) _⟩
        case measure => simp [intOf]; omega
      · have hjk : j = k := by omega
        subst hjk
        have hx := run_convert_bytes_arg (P := Tryd.prog) wr 54 5 Tryd.underlying54 Tryd.underlying5 w.heap.size 0 j j (le n j) (le_length n j) (fun i hi => by
          rw [Nat.zero_add, ho.cellAt i (by omega), leRow_full]; simp [List.getD, le_length, hi]) 9 Tryd.underlying9
        have Hb := Lib.hid hb
        clear hb ho
        go_wp2
        go_ret2
        exact ⟨rfl, Hb.out⟩

set_option maxHeartbeats 400000 in
theorem oct_val_bad (s : ByteArray) (h : (s.size : Int) < 1 ∨ 8 < (s.size : Int)) (w : World) (hs : s.size ≤ maxLen) :
    Calls Tryd.prog 39 #[.string s] w fun e w' => e = .returned (.tuple #[.int .u64 0, .int .i64 1]) ∧ w = w' := by
  unfold maxLen at hs
  rcases h with h | h
  · go_enter Tryd.func39, Tryd.ntmps39
    go_wp2
    go_ret2
    exact ⟨rfl, rfl⟩
  · have h' : ¬ (s.size : Int) < 1 := by omega
    go_enter Tryd.func39, Tryd.ntmps39
    go_wp2
    go_ret2
    exact ⟨rfl, rfl⟩
set_option maxHeartbeats 400000 in
theorem oct_val_ok (s : ByteArray) (h1 : 1 ≤ (s.size : Int)) (h8 : (s.size : Int) ≤ 8) (w : World) :
    Calls Tryd.prog 39 #[.string s] w fun e w' => e = .returned (.tuple #[.int .u64 (valS s), .int .i64 0]) ∧ w = w' := by
  go_enter Tryd.func39, Tryd.ntmps39
  go_wp2
  go_loop [4, 16] (fun n i => ∃ k : Nat, k ≤ s.size ∧ i = .int .i64 k ∧ n = .int .u64 (valL (s.data.toList.take k))) (fun _ i => s.size - (intOf i).toNat)
  case atStart => exact ⟨0, Nat.zero_le _, rfl, rfl⟩
  case round =>
    obtain ⟨k, hk, rfl, rfl⟩ := hrel
    by_cases hlt : k < s.size
    · have h0 := valL_nonneg (s.data.toList.take k)
      have H1 := Lib.hid (valL_take_lt s k hk)
      have H2 := Lib.hid (valL_take_succ s k hlt)
      go_wp2
      refine ⟨⟨k + 1, by omega, by go_num, ?_⟩, ?_⟩
      · rw [wrap_u64_byte, bits_or_step _ _ k (by omega) h0 H1.out (UInt8.toNat_lt _), H2.out]
      · simp [intOf]; omega
    · obtain rfl : k = s.size := by omega
      have H1 : Hid (valL (s.data.toList.take s.size) = valS s) := by unfold valS; rw [List.take_of_length_le (by simp)]; rfl
      go_wp2
      go_ret2
      exact ⟨by simp [H1.out], rfl⟩
set_option maxHeartbeats 400000 in
theorem ref_val_bad (s : ByteArray) (h : (s.size : Int) < 1 ∨ 8 < (s.size : Int)) (w : World) (hs : s.size ≤ maxLen) :
    Calls Tryd.prog 43 #[.string s] w fun e w' => e = .returned (.tuple #[.int .u64 0, .bool false]) ∧ w = w' := by
  unfold maxLen at hs
  rcases h with h | h
  · go_enter Tryd.func43, Tryd.ntmps43
    go_wp2
    go_ret2
    exact ⟨rfl, rfl⟩
  · have h' : ¬ (s.size : Int) < 1 := by omega
    go_enter Tryd.func43, Tryd.ntmps43
    go_wp2
    go_ret2
    exact ⟨rfl, rfl⟩
set_option maxHeartbeats 400000 in
theorem ref_val_ok (s : ByteArray) (h1 : 1 ≤ (s.size : Int)) (h8 : (s.size : Int) ≤ 8) (w : World) :
    Calls Tryd.prog 43 #[.string s] w fun e w' => e = .returned (.tuple #[.int .u64 (valS s), .bool true]) ∧ w = w' := by
  go_enter Tryd.func43, Tryd.ntmps43
  go_wp2
  go_loop [4, 5] (fun n i => ∃ k : Nat, k ≤ s.size ∧ i = .int .i64 ((k : Int) - 1) ∧ n = .int .u64 (valL (s.data.toList.drop k))) (fun _ i => (intOf i + 1).toNat)
  case atStart => exact ⟨s.size, Nat.le_refl _, rfl, by rw [valS_nil]⟩
  case round =>
    obtain ⟨k, hk, rfl, rfl⟩ := hrel
    by_cases hlt : 0 < k
    · obtain ⟨j, rfl⟩ : ∃ j, k = j + 1 := ⟨k - 1, by omega⟩
      rw [show (((j + 1 : Nat) : Int) - 1) = (j : Int) from by omega]
      have h0 := valL_nonneg (s.data.toList.drop (j + 1))
      have H1 := Lib.hid (valL_drop_lt s j (by omega))
      have H2 := Lib.hid (valL_drop s j (by omega))
      have hlt' : j < s.size := by omega
      go_wp2
      refine ⟨⟨j, by omega, rfl, ?_⟩, ?_⟩
      · rw [val_step _ _ h0 (by rw [← H2.out]; exact H1.out), H2.out]
      · simp [intOf]
    · obtain rfl : k = 0 := by omega
      go_wp2
      go_ret2
      exact ⟨rfl, rfl⟩

set_option maxHeartbeats 400000 in
theorem oct_text_long (s : ByteArray) (h : 255 < (s.size : Int)) (hs : s.size ≤ maxLen) (w : World) :
    Calls Tryd.prog 72 #[.string s] w fun e w' => e = .returned (.tuple #[.string ⟨#[]⟩, .int .i64 2]) ∧ w = w' := by
  unfold maxLen at hs
  go_enter Tryd.func72, Tryd.ntmps72
  go_wp2
  go_ret2
  exact ⟨rfl, rfl⟩
set_option maxHeartbeats 400000 in
set_option maxRecDepth 100000 in
theorem oct_text_ok (s : ByteArray) (h : (s.size : Int) ≤ 255) (w : World) :
    Calls Tryd.prog 72 #[.string s] w fun e w' => e = .returned (.tuple #[.string (textS s), .int .i64 0]) ∧ Below w.heap.size w w' := by
  have hx := run_convert_bytes_arg (P := Tryd.prog) (w.alloc (.cells #[.int .u8 s.size] 5)) 54 5 Tryd.underlying54 Tryd.underlying5 w.heap.size 0 1 1 [(s.size : Int)] rfl (fun i hi => by
    obtain rfl : i = 0 := by omega
    exact World.cell?_alloc_new _ _ _ _ ) 9 Tryd.underlying9
  have h1 := strOfNums_one (s.size : Int)
  go_enter Tryd.func72, Tryd.ntmps72
  go_wp2
  go_ret2
  exact ⟨rfl, (Below.refl _ _).alloc (Nat.le_refl _) _⟩


set_option maxHeartbeats 400000 in
theorem ref_num_bad (n width : Int) (h : width < 1 ∨ 8 < width) (w : World) :
    Calls Tryd.prog 74 #[.int .u64 n, .int .i64 width] w fun e w' => e = .returned (.tuple #[.string ⟨#[]⟩, .bool false]) ∧ w = w' := by
  rcases h with h | h
  · go_enter Tryd.func74, Tryd.ntmps74
    go_wp2
    go_ret2
    exact ⟨rfl, rfl⟩
  · have h' : ¬ width < 1 := by omega
    go_enter Tryd.func74, Tryd.ntmps74
    go_wp2
    go_ret2
    exact ⟨rfl, rfl⟩
set_option maxHeartbeats 400000 in
set_option maxRecDepth 100000 in
theorem ref_num_ok (n width : Int) (h1 : 1 ≤ width) (h8 : width ≤ 8) (hn : 0 ≤ n) (hn64 : Hid (n < 18446744073709551616)) (w : World) :
    Calls Tryd.prog 74 #[.int .u64 n, .int .i64 width] w fun e w' => e = .returned (.tuple #[.string (leS n width.toNat), .bool (n / 2 ^ (8 * width.toNat) == 0)]) ∧ Below w.heap.size w w' := by
  obtain ⟨k, rfl⟩ := Int.eq_ofNat_of_zero_le (show 0 ≤ width by omega)
  rw [Int.toNat_natCast]
  obtain ⟨i0, hi, hz0, hz1, hz2⟩ := info_parts Tryd.info_u8
  have hlen : (k : Int) ≤ 8 := by omega
  go_enter Tryd.func74, Tryd.ntmps74
  go_wp2
  go_loopw [0, 6, 7] (fun m v i wr => ∃ j : Nat, j ≤ k ∧ i = .int .i64 j ∧ m = .int .u64 (n / 2 ^ (8 * j)) ∧ wr.ownsRow w.heap.size 5 1 v j ((le n j).map (Value.int .u8)) ∧ Below w.heap.size w wr) (fun _ _ i _ => k - (intOf i).toNat)
  case atStart => exact ⟨0, by omega, rfl, by simp, World.ownsRow_nil _ _ _ _, Below.refl _ _⟩
  case round =>
    obtain ⟨j, hj, rfl, rfl, ho, hb⟩ := hrel
    by_cases hlt : j < k
    · have hn' : 0 ≤ n / 2 ^ (8 * j) := Int.ediv_nonneg hn (Int.le_of_lt (Int.pow_pos (by omega)))
      go_wp2_with (first | (at_builtin; go_must (refine wpList_append_own _ rfl _ _ 54 rfl w.heap.size 5 i0 (.int .u8 0) 1 1 Tryd.underlying54 hi hz0 hz1 hz2 rfl (by decide) _ _ _ rfl (ho.alloc _) ⟨wr.heap.size, 0, none⟩ 1 1 [.int .u8 (n / 2 ^ (8 * j) % 256)] rfl rfl (cell_one_new _ _ _) (by simp [Value.oneCell']) (by unfold maxLen; omega) (by omega) (by have := hb.size; simp; omega) ?_); rintro v' w1 ho1 hg1 _))
      have ho2 : w1.ownsRow w.heap.size 5 1 v' (j + 1) ((le n (j + 1)).map (Value.int .u8)) := by rw [le_succ]; simpa using ho1
      have hb2 : Below w.heap.size w w1 := (hb.alloc (by have := hb.size; omega) _).grown hg1 (by have := hb.size; simp; omega) (fun q hq => (ho.lt q hq).1)
      clear ho1 hg1 ho hb
      go_wp2
      go_roundw
      case rel => exact ⟨j + 1, by omega, by go_num, by rw [tdiv_step n j hn hn64.out], ho2, hb2⟩
      case measure => simp [intOf]; omega
    · obtain rfl : j = k := by omega
      have hx := convert_owned (P := Tryd.prog) wr 54 5 Tryd.underlying54 Tryd.underlying5 _ _ _ _ ho 9 Tryd.underlying9
      clear ho
      go_wp2
      go_ret2
      exact ⟨rfl, hb⟩

def Rd (w : World) (b : Nat) (s : ByteArray) (bad : Bool) : Prop := w.heap[b]? = some (.cells #[.string s, .bool bad] 155 (0, 0))
theorem Rd.c0 {w b s bad} (h : Rd w b s bad) : w.cell? ⟨b, 0, none⟩ = some (.string s) := cell_at h 0
theorem Rd.c1 {w b s bad} (h : Rd w b s bad) : w.cell? ⟨b, 1, none⟩ = some (.bool bad) := cell_at h 1
theorem Rd.f (j : Nat) {w b s bad} (h : Rd w b s bad) : w.frozen? ⟨b, j, none⟩ = false := free_at h j

set_option maxHeartbeats 400000 in
theorem oct_read (s : ByteArray) (w : World) :
    Calls Tryd.prog 59 #[.string s] w fun e w' => e = .returned (.pointer (some ⟨w.heap.size, 0, none⟩)) ∧ Rd w' w.heap.size s false ∧ Below w.heap.size w w' := by
  go_enter Tryd.func59, Tryd.ntmps59
  go_wp2
  go_ret
  exact ⟨rfl, heap_alloc_new _ _, (Below.refl _ _).alloc (Nat.le_refl _) _⟩
set_option maxHeartbeats 400000 in
theorem oct_bytes_nil (n : Int) (w : World) :
    Calls Tryd.prog 61 #[.pointer none, .int .i64 n] w fun e w' => e = .returned (.string ⟨#[]⟩) ∧ w = w' := by
  go_enter Tryd.func61, Tryd.ntmps61
  go_wp2
  go_ret
  exact ⟨rfl, rfl⟩
set_option maxHeartbeats 400000 in
theorem oct_bytes_ok (b : Nat) (s : ByteArray) (n : Int) (h0 : 0 ≤ n) (hn : n ≤ s.size) (w : World) (hR : Rd w b s false) (hs : s.size ≤ maxLen) :
    Calls Tryd.prog 61 #[.pointer (some ⟨b, 0, none⟩), .int .i64 n] w fun e w' =>
      e = .returned (.string (s.extract 0 n.toNat)) ∧ Rd w' b (s.extract n.toNat s.size) false ∧ Keeps (· = b) w w' := by
  have c0 := hR.c0
  have c1 := hR.c1
  have f0 := hR.f 0
  have f1 := hR.f 1
  have HR := Lib.hid hR
  clear hR
  unfold maxLen at hs
  go_enter Tryd.func61, Tryd.ntmps61
  go_wp2
  go_ret
  refine ⟨rfl, ?_, (Keeps.refl _ _).setCell _ _ (Or.inl rfl)⟩
  have := heap_set HR.out 0 (.string (s.extract n.toNat s.size))
  simpa [Rd] using this
set_option maxHeartbeats 400000 in
theorem oct_bytes_no (b : Nat) (s : ByteArray) (bad : Bool) (n : Int) (h : bad = true ∨ n < 0 ∨ s.size < n) (w : World) (hR : Rd w b s bad) (hs : s.size ≤ maxLen) :
    Calls Tryd.prog 61 #[.pointer (some ⟨b, 0, none⟩), .int .i64 n] w fun e w' =>
      e = .returned (.string ⟨#[]⟩) ∧ Rd w' b s true ∧ Keeps (· = b) w w' := by
  have c0 := hR.c0
  have c1 := hR.c1
  have f0 := hR.f 0
  have f1 := hR.f 1
  have HR := Lib.hid hR
  have hk : Keeps (· = b) w (w.setCell ⟨b, 1, none⟩ (.bool true)) := (Keeps.refl _ _).setCell _ _ (Or.inl rfl)
  have hr : Rd (w.setCell ⟨b, 1, none⟩ (.bool true)) b s true := by have := heap_set hR 1 (.bool true); simpa [Rd] using this
  have HK := Lib.hid hk
  have HR' := Lib.hid hr
  clear hR hk hr
  unfold maxLen at hs
  by_cases h1 : bad = true
  · subst h1
    go_enter Tryd.func61, Tryd.ntmps61
    go_wp2
    go_ret
    exact ⟨rfl, HR'.out, HK.out⟩
  · obtain rfl : bad = false := by simpa using h1
    clear h1
    have h : n < 0 ∨ s.size < n := by simpa using h
    rcases h with h | h
    · go_enter Tryd.func61, Tryd.ntmps61
      go_wp2
      go_ret
      exact ⟨rfl, HR'.out, HK.out⟩
    · have h' : ¬ n < 0 := by omega
      go_enter Tryd.func61, Tryd.ntmps61
      go_wp2
      go_ret
      exact ⟨rfl, HR'.out, HK.out⟩

/-- what the reader answers, what is left, is it bad -/
def rdBytes (s : ByteArray) (bad : Bool) (n : Int) : ByteArray × ByteArray × Bool :=
  if bad = false ∧ 0 ≤ n ∧ n ≤ s.size then (s.extract 0 n.toNat, s.extract n.toNat s.size, false) else (⟨#[]⟩, s, true)
def rdNum (s : ByteArray) (bad : Bool) (width : Int) : Int × ByteArray × Bool :=
  if width < 1 ∨ 8 < width then (0, s, true) else (valS (rdBytes s bad width).1, (rdBytes s bad width).2)
def rdText (s : ByteArray) (bad : Bool) : ByteArray × ByteArray × Bool :=
  rdBytes (rdNum s bad 1).2.1 (rdNum s bad 1).2.2 (rdNum s bad 1).1
theorem rdBytes_yes {s : ByteArray} {bad : Bool} {n : Int} (h : bad = false ∧ 0 ≤ n ∧ n ≤ s.size) : rdBytes s bad n = (s.extract 0 n.toNat, s.extract n.toNat s.size, false) := if_pos h
theorem rdBytes_no {s : ByteArray} {bad : Bool} {n : Int} (h : ¬(bad = false ∧ 0 ≤ n ∧ n ≤ s.size)) : rdBytes s bad n = (⟨#[]⟩, s, true) := if_neg h
theorem valS_empty : valS ⟨#[]⟩ = 0 := rfl
theorem oct_bytes (b : Nat) (s : ByteArray) (bad : Bool) (n : Int) (w : World) (hR : Rd w b s bad) (hs : s.size ≤ maxLen) :
    Calls Tryd.prog 61 #[.pointer (some ⟨b, 0, none⟩), .int .i64 n] w fun e w' =>
      e = .returned (.string (rdBytes s bad n).1) ∧ Rd w' b (rdBytes s bad n).2.1 (rdBytes s bad n).2.2 ∧ Keeps (· = b) w w' := by
  by_cases h : bad = false ∧ 0 ≤ n ∧ n ≤ s.size
  · rw [rdBytes_yes h]
    obtain ⟨rfl, h0, h1⟩ := h
    exact oct_bytes_ok b s n h0 h1 w hR hs
  · rw [rdBytes_no h]
    exact oct_bytes_no b s bad n (by cases bad <;> simp_all; omega) w hR hs
theorem rdBytes_size (s : ByteArray) (bad : Bool) (n : Int) : (rdBytes s bad n).2.1.size ≤ s.size ∧ (rdBytes s bad n).1.size ≤ s.size := by
  unfold rdBytes; split
  · simp [ByteArray.size_extract]; omega
  · exact ⟨Nat.le_refl _, Nat.zero_le _⟩
theorem rdBytes_len (s : ByteArray) (bad : Bool) (n : Int) : (rdBytes s bad n).1.size = n ∨ (rdBytes s bad n).1 = ⟨#[]⟩ := by
  unfold rdBytes; split
  · left; simp [ByteArray.size_extract]; omega
  · right; rfl
set_option maxHeartbeats 400000 in
theorem oct_rnum_nil (n : Int) (w : World) :
    Calls Tryd.prog 60 #[.pointer none, .int .i64 n] w fun e w' => e = .returned (.int .u64 0) ∧ w = w' := by
  go_enter Tryd.func60, Tryd.ntmps60
  go_wp2
  go_ret
  exact ⟨rfl, rfl⟩
set_option maxHeartbeats 400000 in
theorem oct_rnum_bad (b : Nat) (s : ByteArray) (bad : Bool) (n : Int) (h : n < 1 ∨ 8 < n) (w : World) (hR : Rd w b s bad) :
    Calls Tryd.prog 60 #[.pointer (some ⟨b, 0, none⟩), .int .i64 n] w fun e w' =>
      e = .returned (.int .u64 0) ∧ Rd w' b s true ∧ Keeps (· = b) w w' := by
  have c1 := hR.c1
  have f1 := hR.f 1
  have hk : Keeps (· = b) w (w.setCell ⟨b, 1, none⟩ (.bool true)) := (Keeps.refl _ _).setCell _ _ (Or.inl rfl)
  have hr : Rd (w.setCell ⟨b, 1, none⟩ (.bool true)) b s true := by have := heap_set hR 1 (.bool true); simpa [Rd] using this
  have HK := Lib.hid hk
  have HR' := Lib.hid hr
  clear hR hk hr
  rcases h with h | h
  · go_enter Tryd.func60, Tryd.ntmps60
    go_wp2
    go_ret
    exact ⟨rfl, HR'.out, HK.out⟩
  · have h' : ¬ n < 1 := by omega
    go_enter Tryd.func60, Tryd.ntmps60
    go_wp2
    go_ret
    exact ⟨rfl, HR'.out, HK.out⟩
def valE (s : ByteArray) : Int := if s.size = 0 then 1 else 0
theorem oct_val (s : ByteArray) (h8 : (s.size : Int) ≤ 8) (w : World) :
    Calls Tryd.prog 39 #[.string s] w fun e w' => e = .returned (.tuple #[.int .u64 (valS s), .int .i64 (valE s)]) ∧ w = w' := by
  unfold valE
  by_cases h : s.size = 0
  · rw [if_pos h]
    have : valS s = 0 := by
      unfold valS; rw [List.eq_nil_of_length_eq_zero (show s.data.toList.length = 0 from by rw [Array.length_toList]; exact h)]; rfl
    rw [this]
    exact oct_val_bad s (by omega) w (by unfold maxLen; omega)
  · rw [if_neg h]
    exact oct_val_ok s (by omega) h8 w
set_option maxHeartbeats 400000 in
theorem oct_rnum_good (b : Nat) (s : ByteArray) (bad : Bool) (n : Int) (h1 : 1 ≤ n) (h8 : n ≤ 8) (w : World) (hR : Rd w b s bad) (hs : s.size ≤ maxLen) :
    Calls Tryd.prog 60 #[.pointer (some ⟨b, 0, none⟩), .int .i64 n] w fun e w' =>
      e = .returned (.int .u64 (valS (rdBytes s bad n).1)) ∧ Rd w' b (rdBytes s bad n).2.1 (rdBytes s bad n).2.2 ∧ Keeps (· = b) w w' := by
  have hl : ((rdBytes s bad n).1.size : Int) ≤ 8 := by
    rcases rdBytes_len s bad n with h | h
    · omega
    · rw [h]; decide
  have HB := Lib.hid (oct_bytes b s bad n w hR hs)
  clear hR
  generalize rdBytes s bad n = r at *
  go_enter Tryd.func60, Tryd.ntmps60
  go_wp2_with fail
  refine HB.out.mono ?_
  rintro e w1 ⟨rfl, hr1, hk1⟩
  have HR1 := Lib.hid hr1
  have HK1 := Lib.hid hk1
  clear hr1 hk1
  go_wp2_with fail
  refine (oct_val r.1 hl w1).mono ?_
  rintro e w2 ⟨rfl, rfl⟩
  go_wp2_with fail
  go_ret
  exact ⟨rfl, HR1.out, HK1.out⟩
theorem oct_rnum (b : Nat) (s : ByteArray) (bad : Bool) (n : Int) (w : World) (hR : Rd w b s bad) (hs : s.size ≤ maxLen) :
    Calls Tryd.prog 60 #[.pointer (some ⟨b, 0, none⟩), .int .i64 n] w fun e w' =>
      e = .returned (.int .u64 (rdNum s bad n).1) ∧ Rd w' b (rdNum s bad n).2.1 (rdNum s bad n).2.2 ∧ Keeps (· = b) w w' := by
  unfold rdNum
  split
  · rename_i h
    exact oct_rnum_bad b s bad n h w hR
  · rename_i h
    exact oct_rnum_good b s bad n (by omega) (by omega) w hR hs
theorem rdNum_size (s : ByteArray) (bad : Bool) (n : Int) : (rdNum s bad n).2.1.size ≤ s.size := by
  unfold rdNum; split
  · exact Nat.le_refl _
  · exact (rdBytes_size s bad n).1
theorem rdNum_range (s : ByteArray) (bad : Bool) (n : Int) : 0 ≤ (rdNum s bad n).1 ∧ ((rdNum s bad n).1 < 256 ^ n.toNat) := by
  unfold rdNum; split
  · exact ⟨Int.le_refl _, Int.pow_pos (by omega)⟩
  · refine ⟨valL_nonneg _, ?_⟩
    rcases rdBytes_len s bad n with h | h
    · have := valL_lt (rdBytes s bad n).1.data.toList
      rw [Array.length_toList] at this
      have e : (rdBytes s bad n).1.data.size = n.toNat := by
        have : (rdBytes s bad n).1.size = n := h
        show (rdBytes s bad n).1.size = _
        omega
      rw [e] at this
      exact this
    · rw [h]; exact Int.pow_pos (by omega)
end Go.Proofs.YtdkilpjebmhkkaaDoor

namespace Go.Proofs.YtdkilpjebmhkkaaDoor
open Go.Shelf
def Tryd.lays160_ren : Go.Shelf.Ren := ⟨fun | 160 => 71 | 232 => 89 | 231 => 88 | 227 => 90 | 234 => 92 | 233 => 91 | 236 => 94 | 235 => 93 | 228 => 101 | 271 => 104 | 151 => 103 | 197 => 102 | 120 => 108 | 152 => 107 | 260 => 106 | 137 => 109 | 119 => 110 | 224 => 111 | 225 => 112 | 217 => 113 | 266 => 114 | n => n, fun | 9 => 9 | 4 => 4 | 3 => 3 | 5 => 5 | 117 => 174 | 116 => 173 | 0 => 0 | 124 => 177 | 21 => 21 | 105 => 185 | 46 => 111 | 119 => 192 | 139 => 195 | 138 => 194 | n => n, fun | 3 => 1 | 4 => 2 | n => n⟩
theorem Tryd.lays160 : Go.Proofs.Lays.n160 Tryd.prog Tryd.lays160_ren := {
  mixed := by kernel_rfl
  f119 := Tryd.func110.trans (congrArg some (by kernel_rfl))
  f120 := Tryd.func108.trans (congrArg some (by kernel_rfl))
  f137 := Tryd.func109.trans (congrArg some (by kernel_rfl))
  f151 := Tryd.func103.trans (congrArg some (by kernel_rfl))
  f152 := Tryd.func107.trans (congrArg some (by kernel_rfl))
  f160 := Tryd.func71.trans (congrArg some (by kernel_rfl))
  f197 := Tryd.func102.trans (congrArg some (by kernel_rfl))
  f217 := Tryd.func113.trans (congrArg some (by kernel_rfl))
  f224 := Tryd.func111.trans (congrArg some (by kernel_rfl))
  f225 := Tryd.func112.trans (congrArg some (by kernel_rfl))
  f227 := Tryd.func90.trans (congrArg some (by kernel_rfl))
  f228 := Tryd.func101.trans (congrArg some (by kernel_rfl))
  f231 := Tryd.func88.trans (congrArg some (by kernel_rfl))
  f232 := Tryd.func89.trans (congrArg some (by kernel_rfl))
  f233 := Tryd.func91.trans (congrArg some (by kernel_rfl))
  f234 := Tryd.func92.trans (congrArg some (by kernel_rfl))
  f235 := Tryd.func93.trans (congrArg some (by kernel_rfl))
  f236 := Tryd.func94.trans (congrArg some (by kernel_rfl))
  f260 := Tryd.func106.trans (congrArg some (by kernel_rfl))
  f266 := Tryd.func114.trans (congrArg some (by kernel_rfl))
  f271 := Tryd.func104.trans (congrArg some (by kernel_rfl))
  t0 := Tryd.underlying0
  a0 := Tryd.isAgg0
  z0 := Tryd.sizeOf0
  v0 := Tryd.zeroValue0
  t3 := Tryd.underlying3
  a3 := Tryd.isAgg3
  z3 := Tryd.sizeOf3
  v3 := Tryd.zeroValue3
  t4 := Tryd.underlying4
  a4 := Tryd.isAgg4
  z4 := Tryd.sizeOf4
  v4 := Tryd.zeroValue4
  t5 := Tryd.underlying5
  a5 := Tryd.isAgg5
  z5 := Tryd.sizeOf5
  v5 := Tryd.zeroValue5
  t9 := Tryd.underlying9
  a9 := Tryd.isAgg9
  z9 := Tryd.sizeOf9
  v9 := Tryd.zeroValue9
  t21 := Tryd.underlying21
  a21 := Tryd.isAgg21
  z21 := Tryd.sizeOf21
  v21 := Tryd.zeroValue21
  t46 := Tryd.underlying111
  a46 := Tryd.isAgg111
  z46 := Tryd.sizeOf111
  v46 := Tryd.zeroValue111
  t105 := Tryd.underlying185
  a105 := Tryd.isAgg185
  z105 := Tryd.sizeOf185
  v105 := Tryd.zeroValue185
  t116 := Tryd.underlying173
  a116 := Tryd.isAgg173
  z116 := Tryd.sizeOf173
  t117 := Tryd.underlying174
  a117 := Tryd.isAgg174
  z117 := Tryd.sizeOf174
  v117 := Tryd.zeroValue174
  t119 := Tryd.underlying192
  a119 := Tryd.isAgg192
  z119 := Tryd.sizeOf192
  t124 := Tryd.underlying177
  a124 := Tryd.isAgg177
  z124 := Tryd.sizeOf177
  v124 := Tryd.zeroValue177
  t138 := Tryd.underlying194
  a138 := Tryd.isAgg194
  z138 := Tryd.sizeOf194
  v138 := Tryd.zeroValue194
  t139 := Tryd.underlying195
  a139 := Tryd.isAgg195
  z139 := Tryd.sizeOf195
  v139 := Tryd.zeroValue195
  g3 := by kernel_rfl
  g4 := by kernel_rfl }
open Go.RowKit in
theorem Tryd.strings_Trim_one (s : ByteArray) (c : UInt8) (hc : c.toNat < 128) (w : World) (hs : s.size ≤ 9223372036854775807) :
    Calls Tryd.prog 71 #[.string s, .string ⟨#[c]⟩] w fun e w' => e = .returned (.string ⟨(Lib.trimB s.data.toList c).toArray⟩) ∧ (w' = w ∨ w' = w.drew) := Any.strings_Trim_one Tryd.lays160 s c hc w hs
def Tryd.lays105_ren : Go.Shelf.Ren := ⟨fun | 105 => 25 | 167 => 73 | 212 => 46 | 99 => 47 | 165 => 48 | 166 => 49 | 170 => 50 | 169 => 51 | 263 => 66 | 264 => 67 | 206 => 68 | 240 => 69 | 241 => 70 | 276 => 86 | 277 => 87 | n => n, fun | 9 => 9 | 3 => 3 | 4 => 4 | 20 => 20 | 0 => 0 | 46 => 111 | 109 => 112 | 5 => 5 | 72 => 117 | 76 => 120 | 51 => 142 | 146 => 143 | 53 => 64 | 148 => 145 | 70 => 115 | 37 => 54 | 75 => 119 | 127 => 147 | 164 => 168 | 80 => 122 | n => n, fun | n => n⟩
theorem Tryd.lays105 : Go.Proofs.Lays.n105 Tryd.prog Tryd.lays105_ren := {
  mixed := by kernel_rfl
  f99 := Tryd.func47.trans (congrArg some (by kernel_rfl))
  f105 := Tryd.func25.trans (congrArg some (by kernel_rfl))
  f165 := Tryd.func48.trans (congrArg some (by kernel_rfl))
  f166 := Tryd.func49.trans (congrArg some (by kernel_rfl))
  f169 := Tryd.func51.trans (congrArg some (by kernel_rfl))
  f170 := Tryd.func50.trans (congrArg some (by kernel_rfl))
  f206 := Tryd.func68.trans (congrArg some (by kernel_rfl))
  f212 := Tryd.func46.trans (congrArg some (by kernel_rfl))
  f240 := Tryd.func69.trans (congrArg some (by kernel_rfl))
  f241 := Tryd.func70.trans (congrArg some (by kernel_rfl))
  f263 := Tryd.func66.trans (congrArg some (by kernel_rfl))
  f264 := Tryd.func67.trans (congrArg some (by kernel_rfl))
  f276 := Tryd.func86.trans (congrArg some (by kernel_rfl))
  f277 := Tryd.func87.trans (congrArg some (by kernel_rfl))
  t0 := Tryd.underlying0
  a0 := Tryd.isAgg0
  z0 := Tryd.sizeOf0
  v0 := Tryd.zeroValue0
  t3 := Tryd.underlying3
  a3 := Tryd.isAgg3
  z3 := Tryd.sizeOf3
  v3 := Tryd.zeroValue3
  t4 := Tryd.underlying4
  a4 := Tryd.isAgg4
  z4 := Tryd.sizeOf4
  v4 := Tryd.zeroValue4
  t5 := Tryd.underlying5
  a5 := Tryd.isAgg5
  z5 := Tryd.sizeOf5
  v5 := Tryd.zeroValue5
  t9 := Tryd.underlying9
  a9 := Tryd.isAgg9
  z9 := Tryd.sizeOf9
  v9 := Tryd.zeroValue9
  t20 := Tryd.underlying20
  a20 := Tryd.isAgg20
  z20 := Tryd.sizeOf20
  v20 := Tryd.zeroValue20
  t37 := Tryd.underlying54
  a37 := Tryd.isAgg54
  z37 := Tryd.sizeOf54
  v37 := Tryd.zeroValue54
  t46 := Tryd.underlying111
  a46 := Tryd.isAgg111
  z46 := Tryd.sizeOf111
  v46 := Tryd.zeroValue111
  t51 := Tryd.underlying142
  a51 := Tryd.isAgg142
  z51 := Tryd.sizeOf142
  v51 := Tryd.zeroValue142
  t53 := Tryd.underlying64
  a53 := Tryd.isAgg64
  z53 := Tryd.sizeOf64
  v53 := Tryd.zeroValue64
  t70 := Tryd.underlying115
  a70 := Tryd.isAgg115
  z70 := Tryd.sizeOf115
  v70 := Tryd.zeroValue115
  t72 := Tryd.underlying117
  a72 := Tryd.isAgg117
  z72 := Tryd.sizeOf117
  v72 := Tryd.zeroValue117
  t75 := Tryd.underlying119
  a75 := Tryd.isAgg119
  z75 := Tryd.sizeOf119
  v75 := Tryd.zeroValue119
  t76 := Tryd.underlying120
  a76 := Tryd.isAgg120
  z76 := Tryd.sizeOf120
  v76 := Tryd.zeroValue120
  t109 := Tryd.underlying112
  a109 := Tryd.isAgg112
  z109 := Tryd.sizeOf112
  v109 := Tryd.zeroValue112
  t127 := Tryd.underlying147
  a127 := Tryd.isAgg147
  z127 := Tryd.sizeOf147
  v127 := Tryd.zeroValue147
  t146 := Tryd.underlying143
  a146 := Tryd.isAgg143
  z146 := Tryd.sizeOf143
  v146 := Tryd.zeroValue143
  t148 := Tryd.underlying145
  a148 := Tryd.isAgg145
  z148 := Tryd.sizeOf145
  v148 := Tryd.zeroValue145
  t164 := Tryd.underlying168
  a164 := Tryd.isAgg168
  z164 := Tryd.sizeOf168
  v164 := Tryd.zeroValue168 }
theorem Tryd.Builder_Extra_105 : Builder.Extra Tryd.prog Tryd.lays105_ren := {
  sizeBuilder := by kernel_rfl
  liesBuilder := by kernel_rfl
  t5 := Tryd.underlying5
  a5 := Tryd.isAgg5
  z5 := Tryd.sizeOf5
  v5 := Tryd.zeroValue5
  infoByte := by kernel_rfl
  cellsByte := by kernel_rfl
  sizeByte := by kernel_rfl
  neB5 := by decide }
open Go.RowKit Go.Lib in
theorem Tryd.strings_Repeat (s : ByteArray) (c : Nat) (w : World) (hc : c ≤ 9223372036854775807) (hlen : s.size * c ≤ 140737488355328) :
    Calls Tryd.prog 25 #[.string s, .int .i64 c] w fun e w' => e = .returned (.string ⟨(Lib.repeatL s.data.toList c).toArray⟩) ∧ Below w.heap.size w w' := Any.strings_Repeat Tryd.lays105 Tryd.Builder_Extra_105 s c w hc hlen
end Go.Proofs.YtdkilpjebmhkkaaDoor
