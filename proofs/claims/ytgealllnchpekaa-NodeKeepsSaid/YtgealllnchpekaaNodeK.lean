import Derived.Test.YtgealllnchpekaaNodeJ
set_option linter.unusedSimpArgs false
set_option linter.unusedVariables false
namespace Go.Proofs.Ytgealllnchpekaa
open Go.RowKit

set_option maxHeartbeats 1600000 in
theorem rf_data (k r : ByteArray) (hk : k.size ≤ 8) (hr : r.size ≤ 20) (w : World) :
    Calls Try.prog 40 #[.string k, .string r] w fun e w' => e = .returned (.string (textS k ++ r)) ∧ Below w.heap.size w w' := by
  have hx := run_convert_bytes_arg (P := Try.prog) (w.alloc (.cells #[.int .u8 k.size] 5)) 84 5 Try.underlying84 Try.underlying5 w.heap.size 0 1 1 [(k.size : Int)] rfl (fun i hi => by
    obtain rfl : i = 0 := by omega
    exact World.cell?_alloc_new _ _ _ _ ) 9 Try.underlying9
  have h1 := strOfNums_one (k.size : Int)
  have h2 : (strOfNums [(k.size : Int)] ++ k).size = 1 + k.size := by rw [bytes_size, h1]
  unfold textS
  have hk' : (k.size : Int) ≤ 8 := by omega
  go_enter Try.func40, Try.ntmps40
  go_wp2_with fail
  go_ret
  exact ⟨rfl, bA bR⟩
set_option maxHeartbeats 1600000 in
theorem rf_put (c : Int) (h0 : 1 ≤ c) (h1 : c < 1024) (w : World) :
    Calls Try.prog 42 #[.int .i64 c, .int .i64 4] w fun e w' => e = .returned (.string (leS c 4)) ∧ Below w.heap.size w w' := by
  have HN := Lib.hid (fun w => ref_num_ok c 4 (by omega) (by omega) (by omega) (by omega : c < 18446744073709551616) w)
  have hwr : IntKind.u64.wrap c = c := wrap_u64_in c (by omega) (by omega)
  rw [show leS c 4 = leS c (4 : Int).toNat from rfl]
  go_enter Try.func42, Try.ntmps42
  go_wp2_with fail
  refine (HN.out _).mono ?_
  rintro e w1 ⟨rfl, hb⟩
  have HB := Lib.hid hb
  clear hb
  go_wp2_with fail
  go_ret
  exact ⟨rfl, HB.out⟩
set_option maxHeartbeats 1600000 in
theorem rf_leaf (k v : ByteArray) (st : Int) (hk : k.size ≤ maxLen) (hv : v.size ≤ maxLen) (w : World) :
    Calls Try.prog 20 #[.string k, .string v, .int .i64 st] w fun e w' => e = .returned (.tuple #[cellV (leafP k v st).1, .int .i64 (leafP k v st).2]) ∧ Below w.heap.size w w' := by
  unfold leafP
  unfold maxLen at hk hv
  have fin : ∀ w' : World, w' = w.alloc (.cells #[.int .i64 0, .string ⟨#[]⟩] 23) → Below w.heap.size w w' := by
    rintro _ rfl
    exact bA bR
  have fin := Lib.hid fin
  by_cases h : leafOk k v st
  · rw [if_pos h]
    obtain ⟨h1, h2, h3, h4⟩ := h
    have HT := Lib.hid (fun w => rf_data k v h2 h3 w)
    have e0 : (1 : Int) ≤ k.size := by omega
    have e1 : (k.size : Int) ≤ 8 := by omega
    have e2 : (v.size : Int) ≤ 20 := by omega
    clear h1 h2 h3
    generalize textS k ++ v = T at *
    rcases h4 with rfl | rfl
    all_goals
      go_enter Try.func20, Try.ntmps20
      go_wp2_with fail
      refine (HT.out _).mono ?_
      rintro e w1 ⟨rfl, hb⟩
      have HQ := hBs hb (hN rfl)
      have q0 := cell_at HQ 0
      have q1 := cell_at HQ 1
      have f0 := free_at HQ 0
      have f1 := free_at HQ 1
      have HQ := Lib.hid HQ
      have HB := Lib.hid (bT (bA bR) hb)
      clear hb
      go_wp2_with fail
      refine bodyPost_ret (v := .tuple #[cellV (_, T), .int .i64 0]) (by simp [results, Try.results20, go_sem, cellV, q0, q1]) rfl ⟨rfl, ?_⟩
      exact bS (bS HB.out (Nat.le_refl _)) (Nat.le_refl _)
  · rw [if_neg h]
    by_cases h1 : k.size = 0
    · have e0 : (k.size : Int) < 1 := by omega
      go_enter Try.func20, Try.ntmps20
      go_wp2_with fail
      refine bodyPost_ret (v := .tuple #[cellV (0, ⟨#[]⟩), .int .i64 1]) (by simp [results, Try.results20, go_sem, cellV]) rfl ⟨rfl, fin.out _ rfl⟩
    · have e0 : (1 : Int) ≤ k.size := by omega
      by_cases h2 : 8 < k.size
      · have e1 : (8 : Int) < k.size := by omega
        go_enter Try.func20, Try.ntmps20
        go_wp2_with fail
        refine bodyPost_ret (v := .tuple #[cellV (0, ⟨#[]⟩), .int .i64 1]) (by simp [results, Try.results20, go_sem, cellV]) rfl ⟨rfl, fin.out _ rfl⟩
      · have e1 : (k.size : Int) ≤ 8 := by omega
        by_cases h3 : 20 < v.size
        · have e2 : (20 : Int) < v.size := by omega
          go_enter Try.func20, Try.ntmps20
          go_wp2_with fail
          refine bodyPost_ret (v := .tuple #[cellV (0, ⟨#[]⟩), .int .i64 1]) (by simp [results, Try.results20, go_sem, cellV]) rfl ⟨rfl, fin.out _ rfl⟩
        · have e2 : (v.size : Int) ≤ 20 := by omega
          have h5 : ¬ (st = 1 ∨ st = 2) := fun h' => h ⟨h1, by omega, by omega, h'⟩
          by_cases h6 : st < 1
          · clear h h5
            go_enter Try.func20, Try.ntmps20
            go_wp2_with fail
            refine bodyPost_ret (v := .tuple #[cellV (0, ⟨#[]⟩), .int .i64 1]) (by simp [results, Try.results20, go_sem, cellV]) rfl ⟨rfl, fin.out _ rfl⟩
          · have h7 : 2 < st := by omega
            clear h h5
            go_enter Try.func20, Try.ntmps20
            go_wp2_with fail
            refine bodyPost_ret (v := .tuple #[cellV (0, ⟨#[]⟩), .int .i64 1]) (by simp [results, Try.results20, go_sem, cellV]) rfl ⟨rfl, fin.out _ rfl⟩
end Go.Proofs.Ytgealllnchpekaa
