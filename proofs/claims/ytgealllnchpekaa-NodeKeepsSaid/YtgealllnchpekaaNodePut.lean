import Derived.Test.YtgealllnchpekaaNodeZ
import Derived.Test.YtgealllnchpekaaNodeP
import Derived.Test.YtgealllnchpekaaNodeQ
import Derived.Test.YtgealllnchpekaaNodeG
set_option linter.unusedSimpArgs false
set_option linter.unusedVariables false
namespace Go.Proofs.Ytgealllnchpekaa
open Go.RowKit

def putR (P : Pg) (s : Int) (d : ByteArray) (n i : Nat) (t : Bool) : Pg × Int :=
  if (keyP s d).2.2 = false then (pageZ, 1) else if t = true then (pageZ, 160) else if n = 6 then (pageZ, 140) else (putPg P i n s d, 0)
set_option maxRecDepth 100000 in
set_option maxHeartbeats 16000000 in
theorem nd_put {P : Pg} {s : Int} {d : ByteArray} {n i : Nat} {t : Bool} (hn : IsCount P n) (hf : FindAt P (keyP s d).1 n i t) (hd : ∀ i, (P.dt i).size ≤ maxLen) (hz : d.size ≤ maxLen) (w : World) :
    Calls Try.prog 26 #[pgV P, cellV (s, d)] w fun e w' => e = .returned (.tuple #[pgV (putR P s d n i t).1, .int .i64 (putR P s d n i t).2]) ∧ Below w.heap.size w w' := by
  have HK := Lib.hid (fun w => nd_key s d hz w)
  have HN := Lib.hid (fun w => nd_count' hn w)
  have HF := Lib.hid (fun w => nd_find' hn hf hd (Nat.le_trans (keyP_size s d) (by unfold maxLen; omega)) w)
  have hin : i ≤ n := hf.1
  have hn6 : n ≤ 6 := hn.1
  clear hn hf
  unfold putR
  unfold cellV at *
  unfold pgV at *
  dsimp only at *
  generalize keyP s d = r at *
  obtain ⟨own, rest, ok⟩ := r
  dsimp only at HK HF ⊢
  obtain ⟨res, hres⟩ : ∃ r : Pg × Int, (if ok = false then (pageZ, 1) else if t = true then (pageZ, 160) else if n = 6 then (pageZ, 140) else (putPg P i n s d, 0)) = r := ⟨_, rfl⟩
  rw [hres]
  replace hres := Lib.hid hres
  go_enter Try.func26, Try.ntmps26
  go_wp2_with fail
  refine (HK.out _).mono ?_
  rintro e w1 ⟨rfl, hb⟩
  have HB1 := Lib.hid (bT (bA (bA (bA bR))) hb)
  have HQc := Lib.hid (hBs hb (hO (hO (hN rfl))))
  have HC1 := Lib.hid (hBs hb (hO (hN (n := w.heap.size + 1) (by simp))))
  have HR1 := Lib.hid (hBs hb (hN (n := w.heap.size + 1 + 1) (by simp)))
  clear hb
  cases ok with
  | false =>
    obtain rfl := hres.out.symm.trans (if_pos rfl)
    go_wp2_with (refine wpList_store_whole rfl 26 _ _ rfl _ (pgC pageZ) rfl rfl _ _ HR1.out rfl (by kernel_rfl) (pgC_one pageZ) ?_; intro wz HRz HKz)
    exact bodyPost_ret (results_row_tmp Try.results26 _ _ _ _ _ _ _ rfl HRz.out Try.underlying26 rfl (by kernel_rfl)) rfl ⟨rfl, bK HB1.out HKz.out (fun j hj => by omega)⟩
  | true =>
    replace hres := Lib.hid (hres.out.symm.trans (if_neg (by simp)))
    go_wp2_with (refine wpList_load_row rfl 26 _ rfl _ rfl 26 _ _ _ HQc.out Try.underlying26 rfl (by kernel_rfl) ?_)
    refine (HN.out _).mono ?_
    rintro e w2 ⟨rfl, hb⟩
    have HB2 := Lib.hid (bT HB1.out hb)
    replace HQc := Lib.hid (hBs hb HQc.out)
    have HC2 := Lib.hid (hBs hb HC1.out)
    have HR2 := Lib.hid (hBs hb HR1.out)
    clear hb HC1 HR1 HB1
    go_wp2_with (refine wpList_load_row rfl 26 _ rfl _ rfl 26 _ _ _ HQc.out Try.underlying26 rfl (by kernel_rfl) ?_)
    refine (HF.out _).mono ?_
    rintro e w3 ⟨rfl, hb⟩
    have HB3 := Lib.hid (bT HB2.out hb)
    replace HQc := Lib.hid (hBs hb HQc.out)
    have HC3 := Lib.hid (hBs hb HC2.out)
    have HR3 := Lib.hid (hBs hb HR2.out)
    clear hb HC2 HR2 HB2 HK HN HF
    cases t with
    | true =>
      obtain rfl := hres.out.trans (if_pos rfl)
      go_wp2_with (refine wpList_store_whole rfl 26 _ _ rfl _ (pgC pageZ) rfl rfl _ _ HR3.out rfl (by kernel_rfl) (pgC_one pageZ) ?_; intro wz HRz HKz)
      exact bodyPost_ret (results_row_tmp Try.results26 _ _ _ _ _ _ _ rfl HRz.out Try.underlying26 rfl (by kernel_rfl)) rfl ⟨rfl, bK HB3.out HKz.out (fun j hj => by omega)⟩
    | false =>
      replace hres := Lib.hid (hres.out.trans (if_neg (by simp)))
      by_cases hn66 : n = 6
      · subst hn66
        obtain rfl := hres.out.trans (if_pos rfl)
        go_wp2_with (refine wpList_store_whole rfl 26 _ _ rfl _ (pgC pageZ) rfl rfl _ _ HR3.out rfl (by kernel_rfl) (pgC_one pageZ) ?_; intro wz HRz HKz)
        exact bodyPost_ret (results_row_tmp Try.results26 _ _ _ _ _ _ _ rfl HRz.out Try.underlying26 rfl (by kernel_rfl)) rfl ⟨rfl, bK HB3.out HKz.out (fun j hj => by omega)⟩
      obtain rfl := hres.out.trans (if_neg hn66)
      have hq : ((n : Int) == 6) = false := by simp; omega
      have hi1 : (0 : Int) ≤ i := by omega
      have hin' : (i : Int) ≤ n := by omega
      have hn5 : (n : Int) ≤ 5 := by omega
      have wr1 : IntKind.i64.wrap ((i : Int) + 1) = (i : Int) + 1 := by rw [IntKind.wrap_i64]; omega
      have wr2 : IntKind.i64.wrap ((n : Int) + 1) = (n : Int) + 1 := by rw [IntKind.wrap_i64]; omega
      go_wp2_with fail
      refine wp_region_held_drew (S := fun _ => True) (by kernel_rfl) trivial (fun hHeld => ?_)
      refine wpAnyH_take (i := 0) (oi := ⟨some 36, _, _, _, _, _⟩) (v := ?_) rfl (by kernel_rfl) (by kernel_rfl) (by kernel_rfl) (fun _ _ _ h => h) (Or.inl ⟨by rfl, ?_⟩) hHeld ?_
      rotate_left
      · intro w hSw
        go_simp
        try with_reducible rfl
      simp only [Act.put, List.setIfInBounds_toArray, List.set_cons_zero, List.set_cons_succ]
      refine wpAnyH_take (i := 1) (oi := ⟨some 37, _, _, _, _, _⟩) (v := .int .i64 i) rfl (by kernel_rfl) (by kernel_rfl) (by kernel_rfl) (fun _ _ _ h => h) (Or.inl ⟨by rfl, fun _ _ => rfl⟩) hHeld ?_
      simp only [Act.put, List.setIfInBounds_toArray, List.set_cons_zero, List.set_cons_succ]
      refine wpAnyH_take (i := 2) (oi := ⟨some 38, _, _, _, _, _⟩) (v := ?_) rfl (by kernel_rfl) (by kernel_rfl) (by kernel_rfl) (fun _ _ _ h => h) (Or.inl ⟨by rfl, ?_⟩) hHeld ?_
      rotate_left
      · intro w hSw
        go_simp
        try with_reducible rfl
      simp only [Act.put, List.setIfInBounds_toArray, List.set_cons_zero, List.set_cons_succ]
      refine wpAnyH_take (i := 3) (oi := ⟨some 39, _, _, _, _, _⟩) (v := .int .i64 n) rfl (by kernel_rfl) (by kernel_rfl) (by kernel_rfl) (fun _ _ _ h => h) (Or.inl ⟨by rfl, fun _ _ => rfl⟩) hHeld ?_
      simp only [Act.put, List.setIfInBounds_toArray, List.set_cons_zero, List.set_cons_succ]
      refine wpAnyH_take (i := 4) (oi := ⟨some 40, _, _, _, _, _⟩) (v := ?_) rfl (by kernel_rfl) (by kernel_rfl) (by kernel_rfl) (fun _ _ _ h => h) (Or.inl ⟨by rfl, ?_⟩) hHeld ?_
      rotate_left
      · intro w hSw
        go_simp
        try with_reducible rfl
      simp only [Act.put, List.setIfInBounds_toArray, List.set_cons_zero, List.set_cons_succ]
      refine wpAnyH_take (i := 5) (oi := ⟨some 41, _, _, _, _, _⟩) (v := .slice (some ⟨w.heap.size, if i + 1 = 6 then 4 else 4 + (i + 1) * 2, none⟩) (n + 1 - (i + 1)) (6 - (i + 1))) rfl (by kernel_rfl) (by kernel_rfl) (by kernel_rfl) (fun _ _ _ h => h) (yieldsIf_slice (by rfl) _ _ _ _ rfl _ _ _ _ rfl rfl rfl (fun w' => run_slice_pg w.heap.size (i + 1) (n + 1) (by omega) (by omega) w')) hHeld ?_
      simp only [Act.put, List.setIfInBounds_toArray, List.set_cons_zero, List.set_cons_succ]
      refine wpAnyH_take (i := 6) (oi := ⟨some 42, _, _, _, _, _⟩) (v := ?_) rfl (by kernel_rfl) (by kernel_rfl) (by kernel_rfl) (fun _ _ _ h => h) (Or.inl ⟨by rfl, ?_⟩) hHeld ?_
      rotate_left
      · intro w hSw
        go_simp
        try with_reducible rfl
      simp only [Act.put, List.setIfInBounds_toArray, List.set_cons_zero, List.set_cons_succ]
      refine wpAnyH_take (i := 7) (oi := ⟨some 43, _, _, _, _, _⟩) (v := .int .i64 i) rfl (by kernel_rfl) (by kernel_rfl) (by kernel_rfl) (fun _ _ _ h => h) (Or.inl ⟨by rfl, fun _ _ => rfl⟩) hHeld ?_
      simp only [Act.put, List.setIfInBounds_toArray, List.set_cons_zero, List.set_cons_succ]
      refine wpAnyH_take (i := 8) (oi := ⟨some 44, _, _, _, _, _⟩) (v := .int .i64 n) rfl (by kernel_rfl) (by kernel_rfl) (by kernel_rfl) (fun _ _ _ h => h) (Or.inl ⟨by rfl, fun _ _ => rfl⟩) hHeld ?_
      simp only [Act.put, List.setIfInBounds_toArray, List.set_cons_zero, List.set_cons_succ]
      refine wpAnyH_take (i := 9) (oi := ⟨some 45, _, _, _, _, _⟩) (v := .slice (some ⟨w.heap.size, if i = 6 then 4 else 4 + i * 2, none⟩) (n - i) (6 - i)) rfl (by kernel_rfl) (by kernel_rfl) (by kernel_rfl) (fun _ _ _ h => h) (yieldsIf_slice (by rfl) _ _ _ _ rfl _ _ _ _ rfl rfl rfl (fun w' => run_slice_pg w.heap.size (i) (n) (by omega) (by omega) w')) hHeld ?_
      simp only [Act.put, List.setIfInBounds_toArray, List.set_cons_zero, List.set_cons_succ]
      have hi6 : ¬ i = 6 := by omega
      rw [if_neg hi6]
      have hmin : Nat.min (n - i) (n + 1 - (i + 1)) = n - i := by rw [show n + 1 - (i + 1) = n - i by omega]; exact Nat.min_self _
      refine wpAnyH_ready (rs := [10]) (by kernel_rfl) (by simp) ?_
      refine AllReadyH.cons (o := ⟨some 46, _, _, _, _, _⟩) rfl (fun K hK => ?_) AllReadyH.nil
      refine step_copy_rowk rfl (.tmp 41) (.tmp 45) 62 62 rfl 23 2 Try.underlying62 (by kernel_rfl) w.heap.size _ _ _ _ _ _ rfl rfl (pgC P) 26 HQc.out (segL P i (n - i)) (by rw [segL_length, hmin]) (segL_src HQc.out i (n - i) (by omega)) (by rw [segL_length, show (pgC P).size = 16 from rfl]; split <;> omega) (segL_one P _ _) ?_
      intro w4 HQ4 HK4
      refine hK.out _ _ trivial (fun _ => ?_)
      clear hK K hHeld
      refine wpAnyH_done (by kernel_rfl) ?_ _
      refine ‹∀ (a : Act) (w : World), Code.wp Try.prog _ _ a w → _› _ _ ?_
      simp only [Act.put, List.setIfInBounds_toArray, List.set_cons_zero, List.set_cons_succ]
      have HK4' : Hid (Keeps (· = w.heap.size) w3 w4) := (Keeps.refl (· = w.heap.size) w3).drew.trans HK4.out (fun _ _ h => h)
      have HC4 := Lib.hid (HK4'.out.keep HC3.out (by omega))
      have HR4 := Lib.hid (HK4'.out.keep HR3.out (by omega))
      have HB4 := Lib.hid (bK HB3.out HK4'.out (fun j hj => by omega))
      have hput := Lib.hid (put_cells' P i n s d hin (by omega))
      clear HK4 HK4' HC3 HR3 HB3 HQc
      generalize hC1 : (List.take (if i + 1 = 6 then 4 else 4 + (i + 1) * 2) (pgC P).toList ++ segL P i (n - i) ++ List.drop ((if i + 1 = 6 then 4 else 4 + (i + 1) * 2) + (segL P i (n - i)).length) (pgC P).toList).toArray = C1 at *
      clear hC1
      generalize (if i + 1 = 6 then 4 else 4 + (i + 1) * 2) = off
      have hsz1 : C1.size = 16 := by have := congrArg Array.size hput.out; simpa [pgC] using this
      obtain ⟨u0, hu0⟩ : ∃ u, C1[4 + i * 2]? = some u := ⟨_, Array.getElem?_eq_getElem (by omega)⟩
      obtain ⟨u1, hu1⟩ : ∃ u, C1[4 + i * 2 + 1]? = some u := ⟨_, Array.getElem?_eq_getElem (by omega)⟩
      have k0 : w4.cell? ⟨w.heap.size, 4 + i * 2, none⟩ = some u0 := (cell_at HQ4.out _).trans hu0
      have k1 : w4.cell? ⟨w.heap.size, 4 + i * 2 + 1, none⟩ = some u1 := (cell_at HQ4.out _).trans hu1
      have f0 := free_at HQ4.out (4 + i * 2)
      have f1 := free_at HQ4.out (4 + i * 2 + 1)
      have c0 := cell_at HC4.out 0
      have c1 := cell_at HC4.out 1
      have K5 : Hid (Keeps (· = w.heap.size) w4 ((w4.setCell ⟨w.heap.size, 4 + i * 2, none⟩ (.int .i64 s)).setCell ⟨w.heap.size, 4 + i * 2 + 1, none⟩ (.string d))) := ((Keeps.refl (· = w.heap.size) w4).setCell _ _ (.inl rfl)).setCell _ _ (.inl rfl)
      have HQc : Hid (((w4.setCell ⟨w.heap.size, 4 + i * 2, none⟩ (.int .i64 s)).setCell ⟨w.heap.size, 4 + i * 2 + 1, none⟩ (.string d)).heap[w.heap.size]? = some (.cells (pgC (putPg P i n s d)) 26 (0, 0))) := by
        have := heap_set (heap_set HQ4.out (4 + i * 2) (.int .i64 s)) (4 + i * 2 + 1) (.string d)
        rw [hput.out] at this
        exact this
      have HR5 := Lib.hid (K5.out.keep HR4.out (by omega))
      have HB5 := Lib.hid (bK HB4.out K5.out (fun j hj => by omega))
      have hi6' : (i : Int) < 6 := by omega
      clear hput hsz1 HQ4 HC4 HR4 HB4 K5 hu0 hu1 hmin
      go_wp2_with (first
        | (refine wpList_load_row rfl 26 _ rfl _ rfl 26 _ _ _ HQc.out Try.underlying26 rfl (by kernel_rfl) ?_)
        | (refine wpList_store_whole rfl 26 _ _ rfl _ (pgC (putPg P i n s d)) rfl rfl _ _ HR5.out rfl (by kernel_rfl) (pgC_one _) ?_; intro wz HRz HKz))
      exact bodyPost_ret (results_row_tmp Try.results26 _ _ _ _ _ _ _ rfl HRz.out Try.underlying26 rfl (by kernel_rfl)) rfl ⟨rfl, bK HB5.out HKz.out (fun j hj => by omega)⟩
end Go.Proofs.Ytgealllnchpekaa
