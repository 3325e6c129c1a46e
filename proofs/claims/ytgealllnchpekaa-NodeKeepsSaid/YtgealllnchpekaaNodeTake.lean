import Derived.Test.YtgealllnchpekaaNodePut
set_option linter.unusedSimpArgs false
set_option linter.unusedVariables false
namespace Go.Proofs.Ytgealllnchpekaa
open Go.RowKit

def takeR (P : Pg) (n : Nat) (i : Int) : Pg × Int := if 0 ≤ i ∧ i < n then (takePg P i.toNat n, 0) else (pageZ, 1)
set_option maxRecDepth 100000 in
set_option maxHeartbeats 16000000 in
theorem nd_take {P : Pg} {n : Nat} (i : Int) (hn : IsCount P n) (w : World) :
    Calls Try.prog 28 #[pgV P, .int .i64 i] w fun e w' => e = .returned (.tuple #[pgV (takeR P n i).1, .int .i64 (takeR P n i).2]) ∧ Below w.heap.size w w' := by
  have HN := Lib.hid (fun w => nd_count' hn w)
  have hn6 : n ≤ 6 := hn.1
  clear hn
  unfold takeR
  unfold pgV at *
  have HQc : Hid (((w.alloc (.cells (pgC P) 26)).alloc (.cells (pgC pageZ) 26)).heap[w.heap.size]? = some (.cells (pgC P) 26 (0, 0))) := hO (hN rfl)
  by_cases hi : 0 ≤ i ∧ i < n
  rotate_left
  · rw [if_neg hi]
    by_cases h0 : i < 0
    · go_enter Try.func28, Try.ntmps28
      go_wp2_with (refine wpList_load_row rfl 26 _ rfl _ rfl 26 _ _ _ HQc.out Try.underlying26 rfl (by kernel_rfl) ?_)
      refine (HN.out _).mono ?_
      rintro e w1 ⟨rfl, hb⟩
      have HB1 := Lib.hid (bT (bA (bA bR)) hb)
      have HR1 := Lib.hid (hBs hb (hN (n := w.heap.size + 1) (by simp)))
      clear hb
      go_wp2_with (refine wpList_store_whole rfl 26 _ _ rfl _ (pgC pageZ) rfl rfl _ _ HR1.out rfl (by kernel_rfl) (pgC_one pageZ) ?_; intro wz HRz HKz)
      exact bodyPost_ret (results_row_tmp Try.results28 _ _ _ _ _ _ _ rfl HRz.out Try.underlying26 rfl (by kernel_rfl)) rfl ⟨rfl, bK HB1.out HKz.out (fun j hj => by omega)⟩
    · have h1 : (n : Int) ≤ i := by omega
      go_enter Try.func28, Try.ntmps28
      go_wp2_with (refine wpList_load_row rfl 26 _ rfl _ rfl 26 _ _ _ HQc.out Try.underlying26 rfl (by kernel_rfl) ?_)
      refine (HN.out _).mono ?_
      rintro e w1 ⟨rfl, hb⟩
      have HB1 := Lib.hid (bT (bA (bA bR)) hb)
      have HR1 := Lib.hid (hBs hb (hN (n := w.heap.size + 1) (by simp)))
      clear hb
      go_wp2_with (refine wpList_store_whole rfl 26 _ _ rfl _ (pgC pageZ) rfl rfl _ _ HR1.out rfl (by kernel_rfl) (pgC_one pageZ) ?_; intro wz HRz HKz)
      exact bodyPost_ret (results_row_tmp Try.results28 _ _ _ _ _ _ _ rfl HRz.out Try.underlying26 rfl (by kernel_rfl)) rfl ⟨rfl, bK HB1.out HKz.out (fun j hj => by omega)⟩
  rw [if_pos hi]
  obtain ⟨hi1, hi2⟩ := hi
  obtain ⟨j, rfl⟩ : ∃ j : Nat, i = j := ⟨i.toNat, by omega⟩
  obtain ⟨m, rfl⟩ : ∃ m, n = m + 1 := ⟨n - 1, by omega⟩
  rw [Int.toNat_natCast]
  have hjm : j ≤ m := by omega
  have hi2 : (j : Int) < (m : Int) + 1 := by omega
  have hm5 : (m : Int) < 6 := by omega
  have hm0 : (0 : Int) ≤ m := by omega
  have wr1 : IntKind.i64.wrap ((j : Int) + 1) = (j : Int) + 1 := by rw [IntKind.wrap_i64]; omega
  have wr2 : IntKind.i64.wrap (m : Int) = (m : Int) := by rw [IntKind.wrap_i64]; omega
  go_enter Try.func28, Try.ntmps28
  go_wp2_with (refine wpList_load_row rfl 26 _ rfl _ rfl 26 _ _ _ HQc.out Try.underlying26 rfl (by kernel_rfl) ?_)
  refine (HN.out _).mono ?_
  rintro e w3 ⟨rfl, hb⟩
  have HB3 := Lib.hid (bT (bA (bA bR)) hb)
  have HR3 := Lib.hid (hBs hb (hN (n := w.heap.size + 1) (by simp)))
  replace HQc := Lib.hid (hBs hb HQc.out)
  clear hb HN
  go_wp2_with fail
  refine wp_region_held_drew (S := fun _ => True) (by kernel_rfl) trivial (fun hHeld => ?_)
  refine wpAnyH_take (i := 0) (oi := ⟨some 17, _, _, _, _, _⟩) (v := ?_) rfl (by kernel_rfl) (by kernel_rfl) (by kernel_rfl) (fun _ _ _ h => h) (Or.inl ⟨by rfl, ?_⟩) hHeld ?_
  rotate_left
  · intro w hSw
    go_simp
    try with_reducible rfl
  simp only [Act.put, List.setIfInBounds_toArray, List.set_cons_zero, List.set_cons_succ]
  refine wpAnyH_take (i := 1) (oi := ⟨some 18, _, _, _, _, _⟩) (v := .int .i64 j) rfl (by kernel_rfl) (by kernel_rfl) (by kernel_rfl) (fun _ _ _ h => h) (Or.inl ⟨by rfl, fun _ _ => rfl⟩) hHeld ?_
  simp only [Act.put, List.setIfInBounds_toArray, List.set_cons_zero, List.set_cons_succ]
  refine wpAnyH_take (i := 2) (oi := ⟨some 19, _, _, _, _, _⟩) (v := .int .i64 ((m : Int) + 1)) rfl (by kernel_rfl) (by kernel_rfl) (by kernel_rfl) (fun _ _ _ h => h) (Or.inl ⟨by rfl, fun _ _ => rfl⟩) hHeld ?_
  simp only [Act.put, List.setIfInBounds_toArray, List.set_cons_zero, List.set_cons_succ]
  refine wpAnyH_take (i := 3) (oi := ⟨some 20, _, _, _, _, _⟩) (v := .int .i64 m) rfl (by kernel_rfl) (by kernel_rfl) (by kernel_rfl) (fun _ _ _ h => h) (Or.inl ⟨by rfl, ?_⟩) hHeld ?_
  · intro w hSw
    go_simp
    try with_reducible rfl
  simp only [Act.put, List.setIfInBounds_toArray, List.set_cons_zero, List.set_cons_succ]
  refine wpAnyH_take (i := 4) (oi := ⟨some 21, _, _, _, _, _⟩) (v := .slice (some ⟨w.heap.size, if j = 6 then 4 else 4 + j * 2, none⟩) (m - j) (6 - j)) rfl (by kernel_rfl) (by kernel_rfl) (by kernel_rfl) (fun _ _ _ h => h) (yieldsIf_slice (by rfl) _ _ _ _ rfl _ _ _ _ rfl rfl rfl (fun w' => run_slice_pg w.heap.size (j) (m) (by omega) (by omega) w')) hHeld ?_
  simp only [Act.put, List.setIfInBounds_toArray, List.set_cons_zero, List.set_cons_succ]
  refine wpAnyH_take (i := 5) (oi := ⟨some 22, _, _, _, _, _⟩) (v := ?_) rfl (by kernel_rfl) (by kernel_rfl) (by kernel_rfl) (fun _ _ _ h => h) (Or.inl ⟨by rfl, ?_⟩) hHeld ?_
  rotate_left
  · intro w hSw
    go_simp
    try with_reducible rfl
  simp only [Act.put, List.setIfInBounds_toArray, List.set_cons_zero, List.set_cons_succ]
  refine wpAnyH_take (i := 6) (oi := ⟨some 23, _, _, _, _, _⟩) (v := .int .i64 j) rfl (by kernel_rfl) (by kernel_rfl) (by kernel_rfl) (fun _ _ _ h => h) (Or.inl ⟨by rfl, fun _ _ => rfl⟩) hHeld ?_
  simp only [Act.put, List.setIfInBounds_toArray, List.set_cons_zero, List.set_cons_succ]
  refine wpAnyH_take (i := 7) (oi := ⟨some 24, _, _, _, _, _⟩) (v := .int .i64 ((j : Int) + 1)) rfl (by kernel_rfl) (by kernel_rfl) (by kernel_rfl) (fun _ _ _ h => h) (Or.inl ⟨by rfl, ?_⟩) hHeld ?_
  · intro w hSw
    go_simp
    try with_reducible rfl
  simp only [Act.put, List.setIfInBounds_toArray, List.set_cons_zero, List.set_cons_succ]
  refine wpAnyH_take (i := 8) (oi := ⟨some 25, _, _, _, _, _⟩) (v := .int .i64 ((m : Int) + 1)) rfl (by kernel_rfl) (by kernel_rfl) (by kernel_rfl) (fun _ _ _ h => h) (Or.inl ⟨by rfl, fun _ _ => rfl⟩) hHeld ?_
  simp only [Act.put, List.setIfInBounds_toArray, List.set_cons_zero, List.set_cons_succ]
  refine wpAnyH_take (i := 9) (oi := ⟨some 26, _, _, _, _, _⟩) (v := .slice (some ⟨w.heap.size, if j + 1 = 6 then 4 else 4 + (j + 1) * 2, none⟩) (m + 1 - (j + 1)) (6 - (j + 1))) rfl (by kernel_rfl) (by kernel_rfl) (by kernel_rfl) (fun _ _ _ h => h) (yieldsIf_slice (by rfl) _ _ _ _ rfl _ _ _ _ rfl rfl rfl (fun w' => run_slice_pg w.heap.size (j + 1) (m + 1) (by omega) (by omega) w')) hHeld ?_
  simp only [Act.put, List.setIfInBounds_toArray, List.set_cons_zero, List.set_cons_succ]
  have hj6 : ¬ j = 6 := by omega
  rw [if_neg hj6]
  have hmin : Nat.min (m + 1 - (j + 1)) (m - j) = m - j := by rw [show m + 1 - (j + 1) = m - j by omega]; exact Nat.min_self _
  refine wpAnyH_ready (rs := [10]) (by kernel_rfl) (by simp) ?_
  refine AllReadyH.cons (o := ⟨some 27, _, _, _, _, _⟩) rfl (fun K hK => ?_) AllReadyH.nil
  refine step_copy_rowk rfl (.tmp 21) (.tmp 26) 62 62 rfl 23 2 Try.underlying62 (by kernel_rfl) w.heap.size _ _ _ _ _ _ rfl rfl (pgC P) 26 HQc.out (segL P (j + 1) (m - j)) (by rw [segL_length, hmin]) (segL_src' HQc.out (j + 1) (m - j) (by omega)) (by rw [segL_length, show (pgC P).size = 16 from rfl]; omega) (segL_one P _ _) ?_
  intro w4 HQ4 HK4
  refine hK.out _ _ trivial (fun _ => ?_)
  clear hK K hHeld
  refine wpAnyH_done (by kernel_rfl) ?_ _
  refine ‹∀ (a : Act) (w : World), Code.wp Try.prog _ _ a w → _› _ _ ?_
  simp only [Act.put, List.setIfInBounds_toArray, List.set_cons_zero, List.set_cons_succ]
  have HK4' : Hid (Keeps (· = w.heap.size) w3 w4) := (Keeps.refl (· = w.heap.size) w3).drew.trans HK4.out (fun _ _ h => h)
  have HR4 := Lib.hid (HK4'.out.keep HR3.out (by omega))
  have HB4 := Lib.hid (bK HB3.out HK4'.out (fun j hj => by omega))
  have hput : Hid (((((pgC P).toList.take (4 + j * 2) ++ segL P (j + 1) (m - j) ++ (pgC P).toList.drop (4 + j * 2 + (segL P (j + 1) (m - j)).length)).toArray).setIfInBounds (4 + m * 2) (.int .i64 0)).setIfInBounds (4 + m * 2 + 1) (.string ⟨#[]⟩) = pgC (takePg P j (m + 1))) := take_cells P j (m + 1) (by omega) (by omega)
  clear HK4 HK4' HR3 HB3 HQc
  generalize hC1 : (List.take (4 + j * 2) (pgC P).toList ++ segL P (j + 1) (m - j) ++ List.drop (4 + j * 2 + (segL P (j + 1) (m - j)).length) (pgC P).toList).toArray = C1 at *
  clear hC1
  generalize (if j + 1 = 6 then 4 else 4 + (j + 1) * 2) = off
  have hsz1 : C1.size = 16 := by have := congrArg Array.size hput.out; simpa [pgC] using this
  obtain ⟨u0, hu0⟩ : ∃ u, C1[4 + m * 2]? = some u := ⟨_, Array.getElem?_eq_getElem (by omega)⟩
  obtain ⟨u1, hu1⟩ : ∃ u, C1[4 + m * 2 + 1]? = some u := ⟨_, Array.getElem?_eq_getElem (by omega)⟩
  have k0 : w4.cell? ⟨w.heap.size, 4 + m * 2, none⟩ = some u0 := (cell_at HQ4.out _).trans hu0
  have k1 : w4.cell? ⟨w.heap.size, 4 + m * 2 + 1, none⟩ = some u1 := (cell_at HQ4.out _).trans hu1
  have f0 := free_at HQ4.out (4 + m * 2)
  have f1 := free_at HQ4.out (4 + m * 2 + 1)
  have K5 : Hid (Keeps (· = w.heap.size) w4 ((w4.setCell ⟨w.heap.size, 4 + m * 2, none⟩ (.int .i64 0)).setCell ⟨w.heap.size, 4 + m * 2 + 1, none⟩ (.string ⟨#[]⟩))) := ((Keeps.refl (· = w.heap.size) w4).setCell _ _ (.inl rfl)).setCell _ _ (.inl rfl)
  have HQc : Hid (((w4.setCell ⟨w.heap.size, 4 + m * 2, none⟩ (.int .i64 0)).setCell ⟨w.heap.size, 4 + m * 2 + 1, none⟩ (.string ⟨#[]⟩)).heap[w.heap.size]? = some (.cells (pgC (takePg P j (m + 1))) 26 (0, 0))) := by
    have := heap_set (heap_set HQ4.out (4 + m * 2) (.int .i64 0)) (4 + m * 2 + 1) (.string ⟨#[]⟩)
    rw [hput.out] at this
    exact this
  have HR5 := Lib.hid (K5.out.keep HR4.out (by omega))
  have HB5 := Lib.hid (bK HB4.out K5.out (fun j hj => by omega))
  clear hput hsz1 HQ4 HR4 HB4 K5 hu0 hu1 hmin
  go_wp2_with (first
    | (refine wpList_load_row rfl 26 _ rfl _ rfl 26 _ _ _ HQc.out Try.underlying26 rfl (by kernel_rfl) ?_)
    | (refine wpList_store_whole rfl 26 _ _ rfl _ (pgC (takePg P j (m + 1))) rfl rfl _ _ HR5.out rfl (by kernel_rfl) (pgC_one _) ?_; intro wz HRz HKz))
  exact bodyPost_ret (results_row_tmp Try.results28 _ _ _ _ _ _ _ rfl HRz.out Try.underlying26 rfl (by kernel_rfl)) rfl ⟨rfl, bK HB5.out HKz.out (fun j hj => by omega)⟩
end Go.Proofs.Ytgealllnchpekaa
