import Derived.Test.YtblakognnfilaaaDoorRcJ
import Derived.Deep.DeepCutAuto
import Derived.Deep.CutBlock
set_option linter.unusedSimpArgs false
set_option linter.unusedVariables false
namespace Go.Proofs.YtblakognnfilaaaDoor
open Go.RowKit

/-! ### jettyref06.Decode -/
set_option maxRecDepth 100000 in
set_option maxHeartbeats 16000000 in
theorem rr_decode (s : ByteArray) (hs : s.size ≤ maxLen) (w : World) : Calls Tryd.prog 14 #[.string s] w fun e w' => DecIs s e w' ∧ Below w.heap.size w w' := by
  obtain ⟨X1, e1, C1⟩ := rnum_any 1 (by decide) (s, false)
  obtain ⟨X2, e2, C2⟩ := rnum_any 4 (by decide) X1.2
  obtain ⟨X3, e3, C3⟩ := rnum_any 8 (by decide) X2.2
  obtain ⟨X4, e4, C4⟩ := rnum_any 8 (by decide) X3.2
  obtain ⟨X5, e5, C5⟩ := rnum_any 4 (by decide) X4.2
  obtain ⟨X6, e6, C6⟩ := rnum_any 1 (by decide) X5.2
  obtain ⟨X7, e7, C7⟩ := rnum_any 1 (by decide) X6.2
  obtain ⟨X8, e8, C8⟩ := rnum_any 4 (by decide) X7.2
  obtain ⟨X9, e9, C9⟩ := rnum_any 1 (by decide) X8.2
  obtain ⟨X10, e10, C10⟩ := rtx_any X9.2
  obtain ⟨X11, e11, C11⟩ := rnum_any 1 (by decide) X10.2
  obtain ⟨X12, e12, C12⟩ := rtx_any X11.2
  obtain ⟨X13, e13, C13⟩ := rnum_any 1 (by decide) X12.2
  have hkey : X10.1.size ≤ 255 := by rw [← e10]; exact rT_len _
  have hbd : X12.1.size ≤ 255 := by rw [← e12]; exact rT_len _
  obtain ⟨hHd, hCt⟩ := hdR_eq e1 e2 e3 e4 e5 e6 e7 e8 e9 e10 e11 e12 e13
  obtain ⟨q0, q1⟩ := rN1_range X12.2
  rw [e13] at q0 q1
  replace hHd := Lib.hid hHd
  replace hCt := Lib.hid hCt
  clear e1 e2 e3 e4 e5 e6 e7 e8 e9 e10 e11 e12 e13
  obtain ⟨i0, hi, hi0, hi1, hi2⟩ := info_parts Tryd.info_img
  obtain ⟨j0, hj, hj0, hj1, hj2⟩ := info_parts Tryd.info_alv
  have HZ : Hid ((((w.alloc (.cells (rcC rcZ nilS nilS) 29)).alloc (.cells #[.string s, .bool false] 85)).alloc (.cells (rcC rcZ nilS nilS) 29)).heap[w.heap.size]? = some (.cells (rcC rcZ nilS nilS) 29 (0, 0))) := hO (hO (hN rfl))
  have HR : Hid (Rf (((w.alloc (.cells (rcC rcZ nilS nilS) 29)).alloc (.cells #[.string s, .bool false] 85)).alloc (.cells (rcC rcZ nilS nilS) 29)) (w.heap.size + 1) (s, false)) := ⟨s, ⟨hs, fun _ => rfl⟩, hO (hN (by simp))⟩
  have HX : Hid ((((w.alloc (.cells (rcC rcZ nilS nilS) 29)).alloc (.cells #[.string s, .bool false] 85)).alloc (.cells (rcC rcZ nilS nilS) 29)).heap[w.heap.size + 1 + 1]? = some (.cells (rcC rcZ nilS nilS) 29 (0, 0))) := hN (by simp)
  have HB : Hid (Below w.heap.size w (((w.alloc (.cells (rcC rcZ nilS nilS) 29)).alloc (.cells #[.string s, .bool false] 85)).alloc (.cells (rcC rcZ nilS nilS) 29))) := bA (bA (bA bR))
  go_enter Tryd.func14, Tryd.ntmps14
  go_wp2_with fail
  refine (C1.out (w.heap.size + 1) _ HR.out).mono ?_
  rintro e wn ⟨rfl, hr, hk⟩
  replace HZ := Lib.hid (hk.keep HZ.out (by omega))
  replace HX := Lib.hid (hk.keep HX.out (by omega))
  replace HB := Lib.hid (bK HB.out hk (fun j hj => by omega))
  replace HR := Lib.hid hr
  have hx := block_lt HX.out
  clear hr hk C1
  have c0 := cell_at HX.out 0
  have f0 := free_at HX.out 0
  have HXn : Hid ((wn.setCell ⟨w.heap.size + 1 + 1, 0, none⟩ (.int .i64 X1.1)).heap[w.heap.size + 1 + 1]? = some (.cells (rcC { rcZ with kind := X1.1 } nilS nilS) 29 (0, 0))) := heap_set_eq HX.out rfl
  replace HZ := Lib.hid (hSO (p := ⟨w.heap.size + 1 + 1, 0, none⟩) (u := .int .i64 X1.1) HZ.out (by show _ ≠ w.heap.size + 1 + 1; omega))
  replace HR := Lib.hid (HR.out.keep ((Keeps.refl (· = w.heap.size + 1 + 1) wn).setCell ⟨w.heap.size + 1 + 1, 0, none⟩ (.int .i64 X1.1) (.inl rfl)) (by show ¬ _ = _; omega))
  replace HB := Lib.hid (bS (p := ⟨w.heap.size + 1 + 1, 0, none⟩) (u := .int .i64 X1.1) HB.out (by show _ ≤ w.heap.size + 1 + 1; omega))
  clear HX
  have HX := HXn
  clear HXn
  go_wp2_with fail
  refine (C2.out (w.heap.size + 1) _ HR.out).mono ?_
  rintro e wn ⟨rfl, hr, hk⟩
  replace HZ := Lib.hid (hk.keep HZ.out (by omega))
  replace HX := Lib.hid (hk.keep HX.out (by omega))
  replace HB := Lib.hid (bK HB.out hk (fun j hj => by omega))
  replace HR := Lib.hid hr
  have hx := block_lt HX.out
  clear hr hk C2
  have c1 := cell_at HX.out 1
  have f1 := free_at HX.out 1
  have HXn : Hid ((wn.setCell ⟨w.heap.size + 1 + 1, 1, none⟩ (.int .i64 X2.1)).heap[w.heap.size + 1 + 1]? = some (.cells (rcC { rcZ with kind := X1.1, xct := X2.1 } nilS nilS) 29 (0, 0))) := heap_set_eq HX.out rfl
  replace HZ := Lib.hid (hSO (p := ⟨w.heap.size + 1 + 1, 1, none⟩) (u := .int .i64 X2.1) HZ.out (by show _ ≠ w.heap.size + 1 + 1; omega))
  replace HR := Lib.hid (HR.out.keep ((Keeps.refl (· = w.heap.size + 1 + 1) wn).setCell ⟨w.heap.size + 1 + 1, 1, none⟩ (.int .i64 X2.1) (.inl rfl)) (by show ¬ _ = _; omega))
  replace HB := Lib.hid (bS (p := ⟨w.heap.size + 1 + 1, 1, none⟩) (u := .int .i64 X2.1) HB.out (by show _ ≤ w.heap.size + 1 + 1; omega))
  clear HX
  have HX := HXn
  clear HXn
  go_wp2_with fail
  refine (C3.out (w.heap.size + 1) _ HR.out).mono ?_
  rintro e wn ⟨rfl, hr, hk⟩
  replace HZ := Lib.hid (hk.keep HZ.out (by omega))
  replace HX := Lib.hid (hk.keep HX.out (by omega))
  replace HB := Lib.hid (bK HB.out hk (fun j hj => by omega))
  replace HR := Lib.hid hr
  have hx := block_lt HX.out
  clear hr hk C3
  have c2 := cell_at HX.out 2
  have f2 := free_at HX.out 2
  have HXn : Hid ((wn.setCell ⟨w.heap.size + 1 + 1, 2, none⟩ (.int .i64 X3.1)).heap[w.heap.size + 1 + 1]? = some (.cells (rcC { rcZ with kind := X1.1, xct := X2.1, prev := X3.1 } nilS nilS) 29 (0, 0))) := heap_set_eq HX.out rfl
  replace HZ := Lib.hid (hSO (p := ⟨w.heap.size + 1 + 1, 2, none⟩) (u := .int .i64 X3.1) HZ.out (by show _ ≠ w.heap.size + 1 + 1; omega))
  replace HR := Lib.hid (HR.out.keep ((Keeps.refl (· = w.heap.size + 1 + 1) wn).setCell ⟨w.heap.size + 1 + 1, 2, none⟩ (.int .i64 X3.1) (.inl rfl)) (by show ¬ _ = _; omega))
  replace HB := Lib.hid (bS (p := ⟨w.heap.size + 1 + 1, 2, none⟩) (u := .int .i64 X3.1) HB.out (by show _ ≤ w.heap.size + 1 + 1; omega))
  clear HX
  have HX := HXn
  clear HXn
  go_wp2_with fail
  refine (C4.out (w.heap.size + 1) _ HR.out).mono ?_
  rintro e wn ⟨rfl, hr, hk⟩
  replace HZ := Lib.hid (hk.keep HZ.out (by omega))
  replace HX := Lib.hid (hk.keep HX.out (by omega))
  replace HB := Lib.hid (bK HB.out hk (fun j hj => by omega))
  replace HR := Lib.hid hr
  have hx := block_lt HX.out
  clear hr hk C4
  have c3 := cell_at HX.out 3
  have f3 := free_at HX.out 3
  have HXn : Hid ((wn.setCell ⟨w.heap.size + 1 + 1, 3, none⟩ (.int .i64 X4.1)).heap[w.heap.size + 1 + 1]? = some (.cells (rcC { rcZ with kind := X1.1, xct := X2.1, prev := X3.1, next := X4.1 } nilS nilS) 29 (0, 0))) := heap_set_eq HX.out rfl
  replace HZ := Lib.hid (hSO (p := ⟨w.heap.size + 1 + 1, 3, none⟩) (u := .int .i64 X4.1) HZ.out (by show _ ≠ w.heap.size + 1 + 1; omega))
  replace HR := Lib.hid (HR.out.keep ((Keeps.refl (· = w.heap.size + 1 + 1) wn).setCell ⟨w.heap.size + 1 + 1, 3, none⟩ (.int .i64 X4.1) (.inl rfl)) (by show ¬ _ = _; omega))
  replace HB := Lib.hid (bS (p := ⟨w.heap.size + 1 + 1, 3, none⟩) (u := .int .i64 X4.1) HB.out (by show _ ≤ w.heap.size + 1 + 1; omega))
  clear HX
  have HX := HXn
  clear HXn
  go_wp2_with fail
  refine (C5.out (w.heap.size + 1) _ HR.out).mono ?_
  rintro e wn ⟨rfl, hr, hk⟩
  replace HZ := Lib.hid (hk.keep HZ.out (by omega))
  replace HX := Lib.hid (hk.keep HX.out (by omega))
  replace HB := Lib.hid (bK HB.out hk (fun j hj => by omega))
  replace HR := Lib.hid hr
  have hx := block_lt HX.out
  clear hr hk C5
  have c13 := cell_at HX.out 13
  have f13 := free_at HX.out 13
  have HXn : Hid ((wn.setCell ⟨w.heap.size + 1 + 1, 13, none⟩ (.int .i64 X5.1)).heap[w.heap.size + 1 + 1]? = some (.cells (rcC { rcZ with kind := X1.1, xct := X2.1, prev := X3.1, next := X4.1, fresh := X5.1 } nilS nilS) 29 (0, 0))) := heap_set_eq HX.out rfl
  replace HZ := Lib.hid (hSO (p := ⟨w.heap.size + 1 + 1, 13, none⟩) (u := .int .i64 X5.1) HZ.out (by show _ ≠ w.heap.size + 1 + 1; omega))
  replace HR := Lib.hid (HR.out.keep ((Keeps.refl (· = w.heap.size + 1 + 1) wn).setCell ⟨w.heap.size + 1 + 1, 13, none⟩ (.int .i64 X5.1) (.inl rfl)) (by show ¬ _ = _; omega))
  replace HB := Lib.hid (bS (p := ⟨w.heap.size + 1 + 1, 13, none⟩) (u := .int .i64 X5.1) HB.out (by show _ ≤ w.heap.size + 1 + 1; omega))
  clear HX
  have HX := HXn
  clear HXn
  go_wp2_with fail
  refine (C6.out (w.heap.size + 1) _ HR.out).mono ?_
  rintro e wn ⟨rfl, hr, hk⟩
  replace HZ := Lib.hid (hk.keep HZ.out (by omega))
  replace HX := Lib.hid (hk.keep HX.out (by omega))
  replace HB := Lib.hid (bK HB.out hk (fun j hj => by omega))
  replace HR := Lib.hid hr
  have hx := block_lt HX.out
  clear hr hk C6
  have c4 := cell_at HX.out 4
  have f4 := free_at HX.out 4
  have HXn : Hid ((wn.setCell ⟨w.heap.size + 1 + 1, 4, none⟩ (.int .i64 X6.1)).heap[w.heap.size + 1 + 1]? = some (.cells (rcC { rcZ with kind := X1.1, xct := X2.1, prev := X3.1, next := X4.1, fresh := X5.1, uk := X6.1 } nilS nilS) 29 (0, 0))) := heap_set_eq HX.out rfl
  replace HZ := Lib.hid (hSO (p := ⟨w.heap.size + 1 + 1, 4, none⟩) (u := .int .i64 X6.1) HZ.out (by show _ ≠ w.heap.size + 1 + 1; omega))
  replace HR := Lib.hid (HR.out.keep ((Keeps.refl (· = w.heap.size + 1 + 1) wn).setCell ⟨w.heap.size + 1 + 1, 4, none⟩ (.int .i64 X6.1) (.inl rfl)) (by show ¬ _ = _; omega))
  replace HB := Lib.hid (bS (p := ⟨w.heap.size + 1 + 1, 4, none⟩) (u := .int .i64 X6.1) HB.out (by show _ ≤ w.heap.size + 1 + 1; omega))
  clear HX
  have HX := HXn
  clear HXn
  go_wp2_with fail
  refine (C7.out (w.heap.size + 1) _ HR.out).mono ?_
  rintro e wn ⟨rfl, hr, hk⟩
  replace HZ := Lib.hid (hk.keep HZ.out (by omega))
  replace HX := Lib.hid (hk.keep HX.out (by omega))
  replace HB := Lib.hid (bK HB.out hk (fun j hj => by omega))
  replace HR := Lib.hid hr
  have hx := block_lt HX.out
  clear hr hk C7
  have c5 := cell_at HX.out 5
  have f5 := free_at HX.out 5
  have HXn : Hid ((wn.setCell ⟨w.heap.size + 1 + 1, 5, none⟩ (.int .i64 X7.1)).heap[w.heap.size + 1 + 1]? = some (.cells (rcC { rcZ with kind := X1.1, xct := X2.1, prev := X3.1, next := X4.1, fresh := X5.1, uk := X6.1, us := X7.1 } nilS nilS) 29 (0, 0))) := heap_set_eq HX.out rfl
  replace HZ := Lib.hid (hSO (p := ⟨w.heap.size + 1 + 1, 5, none⟩) (u := .int .i64 X7.1) HZ.out (by show _ ≠ w.heap.size + 1 + 1; omega))
  replace HR := Lib.hid (HR.out.keep ((Keeps.refl (· = w.heap.size + 1 + 1) wn).setCell ⟨w.heap.size + 1 + 1, 5, none⟩ (.int .i64 X7.1) (.inl rfl)) (by show ¬ _ = _; omega))
  replace HB := Lib.hid (bS (p := ⟨w.heap.size + 1 + 1, 5, none⟩) (u := .int .i64 X7.1) HB.out (by show _ ≤ w.heap.size + 1 + 1; omega))
  clear HX
  have HX := HXn
  clear HXn
  go_wp2_with fail
  refine (C8.out (w.heap.size + 1) _ HR.out).mono ?_
  rintro e wn ⟨rfl, hr, hk⟩
  replace HZ := Lib.hid (hk.keep HZ.out (by omega))
  replace HX := Lib.hid (hk.keep HX.out (by omega))
  replace HB := Lib.hid (bK HB.out hk (fun j hj => by omega))
  replace HR := Lib.hid hr
  have hx := block_lt HX.out
  clear hr hk C8
  have c6 := cell_at HX.out 6
  have f6 := free_at HX.out 6
  have HXn : Hid ((wn.setCell ⟨w.heap.size + 1 + 1, 6, none⟩ (.int .i64 X8.1)).heap[w.heap.size + 1 + 1]? = some (.cells (rcC { rcZ with kind := X1.1, xct := X2.1, prev := X3.1, next := X4.1, fresh := X5.1, uk := X6.1, us := X7.1, up := X8.1 } nilS nilS) 29 (0, 0))) := heap_set_eq HX.out rfl
  replace HZ := Lib.hid (hSO (p := ⟨w.heap.size + 1 + 1, 6, none⟩) (u := .int .i64 X8.1) HZ.out (by show _ ≠ w.heap.size + 1 + 1; omega))
  replace HR := Lib.hid (HR.out.keep ((Keeps.refl (· = w.heap.size + 1 + 1) wn).setCell ⟨w.heap.size + 1 + 1, 6, none⟩ (.int .i64 X8.1) (.inl rfl)) (by show ¬ _ = _; omega))
  replace HB := Lib.hid (bS (p := ⟨w.heap.size + 1 + 1, 6, none⟩) (u := .int .i64 X8.1) HB.out (by show _ ≤ w.heap.size + 1 + 1; omega))
  clear HX
  have HX := HXn
  clear HXn
  go_wp2_with fail
  refine (C9.out (w.heap.size + 1) _ HR.out).mono ?_
  rintro e wn ⟨rfl, hr, hk⟩
  replace HZ := Lib.hid (hk.keep HZ.out (by omega))
  replace HX := Lib.hid (hk.keep HX.out (by omega))
  replace HB := Lib.hid (bK HB.out hk (fun j hj => by omega))
  replace HR := Lib.hid hr
  have hx := block_lt HX.out
  clear hr hk C9
  have c7 := cell_at HX.out 7
  have f7 := free_at HX.out 7
  have HXn : Hid ((wn.setCell ⟨w.heap.size + 1 + 1, 7, none⟩ (.int .i64 X9.1)).heap[w.heap.size + 1 + 1]? = some (.cells (rcC { rcZ with kind := X1.1, xct := X2.1, prev := X3.1, next := X4.1, fresh := X5.1, uk := X6.1, us := X7.1, up := X8.1, ul := X9.1 } nilS nilS) 29 (0, 0))) := heap_set_eq HX.out rfl
  replace HZ := Lib.hid (hSO (p := ⟨w.heap.size + 1 + 1, 7, none⟩) (u := .int .i64 X9.1) HZ.out (by show _ ≠ w.heap.size + 1 + 1; omega))
  replace HR := Lib.hid (HR.out.keep ((Keeps.refl (· = w.heap.size + 1 + 1) wn).setCell ⟨w.heap.size + 1 + 1, 7, none⟩ (.int .i64 X9.1) (.inl rfl)) (by show ¬ _ = _; omega))
  replace HB := Lib.hid (bS (p := ⟨w.heap.size + 1 + 1, 7, none⟩) (u := .int .i64 X9.1) HB.out (by show _ ≤ w.heap.size + 1 + 1; omega))
  clear HX
  have HX := HXn
  clear HXn
  go_wp2_with fail
  refine (C10.out (w.heap.size + 1) _ HR.out).mono ?_
  rintro e wn ⟨rfl, hr, hk⟩
  replace HZ := Lib.hid (hk.keep HZ.out (by omega))
  replace HX := Lib.hid (hk.keep HX.out (by omega))
  replace HB := Lib.hid (bK HB.out hk (fun j hj => by omega))
  replace HR := Lib.hid hr
  have hx := block_lt HX.out
  clear hr hk C10
  have c8 := cell_at HX.out 8
  have f8 := free_at HX.out 8
  have HXn : Hid ((wn.setCell ⟨w.heap.size + 1 + 1, 8, none⟩ (.string X10.1)).heap[w.heap.size + 1 + 1]? = some (.cells (rcC { rcZ with kind := X1.1, xct := X2.1, prev := X3.1, next := X4.1, fresh := X5.1, uk := X6.1, us := X7.1, up := X8.1, ul := X9.1, key := X10.1 } nilS nilS) 29 (0, 0))) := heap_set_eq HX.out rfl
  replace HZ := Lib.hid (hSO (p := ⟨w.heap.size + 1 + 1, 8, none⟩) (u := .string X10.1) HZ.out (by show _ ≠ w.heap.size + 1 + 1; omega))
  replace HR := Lib.hid (HR.out.keep ((Keeps.refl (· = w.heap.size + 1 + 1) wn).setCell ⟨w.heap.size + 1 + 1, 8, none⟩ (.string X10.1) (.inl rfl)) (by show ¬ _ = _; omega))
  replace HB := Lib.hid (bS (p := ⟨w.heap.size + 1 + 1, 8, none⟩) (u := .string X10.1) HB.out (by show _ ≤ w.heap.size + 1 + 1; omega))
  clear HX
  have HX := HXn
  clear HXn
  go_wp2_with fail
  refine (C11.out (w.heap.size + 1) _ HR.out).mono ?_
  rintro e wn ⟨rfl, hr, hk⟩
  replace HZ := Lib.hid (hk.keep HZ.out (by omega))
  replace HX := Lib.hid (hk.keep HX.out (by omega))
  replace HB := Lib.hid (bK HB.out hk (fun j hj => by omega))
  replace HR := Lib.hid hr
  have hx := block_lt HX.out
  clear hr hk C11
  have c9 := cell_at HX.out 9
  have f9 := free_at HX.out 9
  have HXn : Hid ((wn.setCell ⟨w.heap.size + 1 + 1, 9, none⟩ (.int .i64 X11.1)).heap[w.heap.size + 1 + 1]? = some (.cells (rcC { rcZ with kind := X1.1, xct := X2.1, prev := X3.1, next := X4.1, fresh := X5.1, uk := X6.1, us := X7.1, up := X8.1, ul := X9.1, key := X10.1, bs := X11.1 } nilS nilS) 29 (0, 0))) := heap_set_eq HX.out rfl
  replace HZ := Lib.hid (hSO (p := ⟨w.heap.size + 1 + 1, 9, none⟩) (u := .int .i64 X11.1) HZ.out (by show _ ≠ w.heap.size + 1 + 1; omega))
  replace HR := Lib.hid (HR.out.keep ((Keeps.refl (· = w.heap.size + 1 + 1) wn).setCell ⟨w.heap.size + 1 + 1, 9, none⟩ (.int .i64 X11.1) (.inl rfl)) (by show ¬ _ = _; omega))
  replace HB := Lib.hid (bS (p := ⟨w.heap.size + 1 + 1, 9, none⟩) (u := .int .i64 X11.1) HB.out (by show _ ≤ w.heap.size + 1 + 1; omega))
  clear HX
  have HX := HXn
  clear HXn
  go_wp2_with fail
  refine (C12.out (w.heap.size + 1) _ HR.out).mono ?_
  rintro e wn ⟨rfl, hr, hk⟩
  replace HZ := Lib.hid (hk.keep HZ.out (by omega))
  replace HX := Lib.hid (hk.keep HX.out (by omega))
  replace HB := Lib.hid (bK HB.out hk (fun j hj => by omega))
  replace HR := Lib.hid hr
  have hx := block_lt HX.out
  clear hr hk C12
  have c10 := cell_at HX.out 10
  have f10 := free_at HX.out 10
  have HXn : Hid ((wn.setCell ⟨w.heap.size + 1 + 1, 10, none⟩ (.string X12.1)).heap[w.heap.size + 1 + 1]? = some (.cells (rcC { rcZ with kind := X1.1, xct := X2.1, prev := X3.1, next := X4.1, fresh := X5.1, uk := X6.1, us := X7.1, up := X8.1, ul := X9.1, key := X10.1, bs := X11.1, bd := X12.1 } nilS nilS) 29 (0, 0))) := heap_set_eq HX.out rfl
  replace HZ := Lib.hid (hSO (p := ⟨w.heap.size + 1 + 1, 10, none⟩) (u := .string X12.1) HZ.out (by show _ ≠ w.heap.size + 1 + 1; omega))
  replace HR := Lib.hid (HR.out.keep ((Keeps.refl (· = w.heap.size + 1 + 1) wn).setCell ⟨w.heap.size + 1 + 1, 10, none⟩ (.string X12.1) (.inl rfl)) (by show ¬ _ = _; omega))
  replace HB := Lib.hid (bS (p := ⟨w.heap.size + 1 + 1, 10, none⟩) (u := .string X12.1) HB.out (by show _ ≤ w.heap.size + 1 + 1; omega))
  clear HX
  have HX := HXn
  clear HXn
  go_wp2_with fail
  refine (C13.out (w.heap.size + 1) _ HR.out).mono ?_
  rintro e wn ⟨rfl, hr, hk⟩
  replace HZ := Lib.hid (hk.keep HZ.out (by omega))
  replace HX := Lib.hid (hk.keep HX.out (by omega))
  replace HB := Lib.hid (bK HB.out hk (fun j hj => by omega))
  replace HR := Lib.hid hr
  have hx := block_lt HX.out
  clear hr hk C13
  have hHd2 : Hid ((hdR s).1 = { rcZ with kind := X1.1, xct := X2.1, prev := X3.1, next := X4.1, fresh := X5.1, uk := X6.1, us := X7.1, up := X8.1, ul := X9.1, key := X10.1, bs := X11.1, bd := X12.1 }) := hHd.out
  obtain ⟨RH, hRH⟩ : ∃ RH : Rc, { rcZ with kind := X1.1, xct := X2.1, prev := X3.1, next := X4.1, fresh := X5.1, uk := X6.1, us := X7.1, up := X8.1, ul := X9.1, key := X10.1, bs := X11.1, bd := X12.1 } = RH := ⟨_, rfl⟩
  have hkb : Hid (RH.key.size ≤ 255 ∧ RH.bd.size ≤ 255) := by rw [← hRH]; exact ⟨hkey, hbd⟩
  rw [hRH] at HX hHd2
  replace hRH := Lib.hid hRH
  obtain ⟨n0, hn0⟩ : ∃ n0 : Nat, X13.1 = n0 := ⟨X13.1.toNat, by omega⟩
  have hdec : Hid (∀ acc σ, imgsR n0 X13.2 [] = some (acc, σ) → decR s = tailR RH (acc, σ)) := fun acc σ h => by
    unfold decR
    rw [hCt.out, hn0, Int.toNat_natCast, h, hHd2.out]
  have hdecN : Hid (imgsR n0 X13.2 [] = none → decR s = none) := fun h => by
    unfold decR
    rw [hCt.out, hn0, Int.toNat_natCast, h]
  rw [hn0]
  have hn255 : n0 ≤ 255 := by omega
  clear hn0 q0 q1 hCt hHd hHd2 hRH hkey hbd
  go_upto_block 0 with fail
  go_cut [] from 7 to 108 (fun wx => ∃ (σ : St) (acc : List (Int × Pg)) (iv : Value), acc.length ≤ 255 ∧ Hid (decR s = tailR RH (acc, σ)) ∧ Hid (Rf wx (w.heap.size + 1) σ) ∧ Hid (wx.heap[w.heap.size]? = some (.cells (rcC rcZ nilS nilS) 29 (0, 0))) ∧ Hid (wx.heap[w.heap.size + 1 + 1]? = some (.cells (rcC RH iv nilS) 29 (0, 0))) ∧ Hid (OwnS wx 62 17 iv acc.length (acc.flatMap imL)) ∧ Hid (∀ j ∈ blk iv, w.heap.size + 1 + 1 < j) ∧ Hid (∀ x ∈ acc, ∀ i, i < 6 → (x.2.dt i).size ≤ maxLen) ∧ Hid (Below w.heap.size w wx))
  case first =>
    go_wp2_with fail
    go_loopw [7] (fun t wr => ∃ (i : Nat) (σ : St) (acc : List (Int × Pg)) (iv : Value), t = .int .i64 i ∧ i ≤ n0 ∧ acc.length ≤ i ∧ Hid (imgsR n0 X13.2 [] = imgsR (n0 - i) σ acc) ∧ Hid (Rf wr (w.heap.size + 1) σ) ∧ Hid (wr.heap[w.heap.size]? = some (.cells (rcC rcZ nilS nilS) 29 (0, 0))) ∧ Hid (wr.heap[w.heap.size + 1 + 1]? = some (.cells (rcC RH iv nilS) 29 (0, 0))) ∧ Hid (OwnS wr 62 17 iv acc.length (acc.flatMap imL)) ∧ Hid (∀ j ∈ blk iv, w.heap.size + 1 + 1 < j) ∧ Hid (∀ x ∈ acc, ∀ i, i < 6 → (x.2.dt i).size ≤ maxLen) ∧ Hid (Below w.heap.size w wr)) (fun t _ => n0 - (intOf t).toNat)
    case atStart => exact ⟨0, X13.2, [], nilS, rfl, Nat.zero_le _, Nat.le_refl _, rfl, HR.out, HZ.out, HX.out, OwnS.nil _ _ _, Lib.hid (by simp [blk, nilS, Value.ownBlock]), Lib.hid (by simp), HB.out⟩
    case round =>
      clear HR HZ HX HB
      obtain ⟨i, σ, acc, iv, rfl, hi0n, hal, him, HR, HZ, HX, HO, HF, HD, HB⟩ := hrel
      have hxr := block_lt HX.out
      obtain ⟨s', hA, hRb⟩ := HR.out
      replace hRb := Lib.hid hRb
      have hA := Lib.hid hA
      have d1 : wr.cell? ⟨w.heap.size + 1, 1, none⟩ = some (.bool σ.2) := cell_at hRb.out 1
      have d0 : wr.cell? ⟨w.heap.size + 1, 0, none⟩ = some (.string s') := cell_at hRb.out 0
      have hb := block_lt hRb.out
      by_cases hin : i < n0
      rotate_left
      · obtain rfl : i = n0 := by omega
        have hend := Lib.hid (hdec.out acc σ (him.out.trans (imgs_end (.inl (Nat.sub_self _)))))
        go_wp2_with fail
        go_meet
        exact ⟨σ, acc, iv, by omega, hend.out, HR.out, HZ.out, HX.out, HO.out, HF.out, HD.out, HB.out⟩
      by_cases hbad : σ.2 = true
      · have hend := Lib.hid (hdec.out acc σ (him.out.trans (imgs_end (.inr hbad))))
        go_wp2_with fail
        go_meet
        exact ⟨σ, acc, iv, by omega, hend.out, HR.out, HZ.out, HX.out, HO.out, HF.out, HD.out, HB.out⟩
      replace hbad : σ.2 = false := by simpa using hbad
      obtain ⟨k', hk'⟩ : ∃ k', n0 - i = k' + 1 := ⟨n0 - i - 1, by omega⟩
      obtain ⟨X, eX, CX⟩ := rnum_any 4 (by decide) σ
      obtain ⟨hgo, hstop⟩ := imgs_go (k := k') (acc := acc) hbad eX rfl
      rw [hk'] at him
      replace hgo := Lib.hid hgo
      replace hstop := Lib.hid hstop
      rw [hbad] at d1
      clear eX
      replace hk' := Lib.hid hk'
      have hba := Lib.hid hbad
      clear hbad hA hRb hb
      go_wp2_with fail
      refine (CX.out (w.heap.size + 1) _ HR.out).mono ?_
      rintro e w3 ⟨rfl, hr, hk⟩
      replace HZ := Lib.hid (hk.keep HZ.out (by omega))
      replace HX := Lib.hid (hk.keep HX.out (by omega))
      replace HO := Lib.hid (HO.out.keep hk (fun j hj => by have := HF.out j hj; omega))
      replace HB := Lib.hid (bK HB.out hk (fun j hj => by omega))
      obtain ⟨s3, hA, hRb⟩ := hr
      replace hRb := Lib.hid hRb
      clear d0 d1 hk CX HR
      have d0 : w3.cell? ⟨w.heap.size + 1, 0, none⟩ = some (.string s3) := cell_at hRb.out 0
      have d1 : w3.cell? ⟨w.heap.size + 1, 1, none⟩ = some (.bool X.2.2) := cell_at hRb.out 1
      obtain ⟨a1, a2, a3⟩ := bytes_alike hA 224
      obtain ⟨Y, eY⟩ : ∃ Y, rB X.2 = Y := ⟨_, rfl⟩
      have CY := Lib.hid (fun w => ref_bytes s3 X.2.2 224 w hA.1)
      rw [show (rdBytes X.2.1 X.2.2 224) = Y from eY] at a1 a2 a3
      rw [eY] at hgo hstop
      have hz3 := hA.1
      have zY : Y.1.size ≤ maxLen := by
        rw [← a1]
        rcases rfBytes_len s3 X.2.2 224 with h | h
        · unfold maxLen; omega
        · rw [h]; exact Nat.zero_le _
      clear eY
      generalize rfBytes s3 X.2.2 224 = T at *
      obtain ⟨t1, t2, t3⟩ := T
      obtain ⟨y1, y2, y3⟩ := Y
      dsimp only at a1 a2 a3 hgo hstop zY CY
      subst a1 a2
      have a3 := Lib.hid a3
      have CD := Lib.hid (fun w => rf_decode t1 zY w)
      replace hz3 := Lib.hid hz3
      clear hA
      go_wp2_with fail
      refine (CY.out _).mono ?_
      rintro e w4 ⟨rfl, hb4⟩
      replace HZ := Lib.hid (hBs hb4 HZ.out)
      replace HX := Lib.hid (hBs hb4 HX.out)
      replace HO := Lib.hid (HO.out.keep (Keeps.of_below (fun _ => False) hb4) (fun _ _ h => h))
      replace HB := Lib.hid (bT HB.out hb4)
      replace hRb := Lib.hid (hBs hb4 hRb.out)
      clear hb4 d0 d1 CY
      have d0 : w4.cell? ⟨w.heap.size + 1, 0, none⟩ = some (.string s3) := cell_at hRb.out 0
      have d1 : w4.cell? ⟨w.heap.size + 1, 1, none⟩ = some (.bool X.2.2) := cell_at hRb.out 1
      have f0 := free_at hRb.out 0
      have f1 := free_at hRb.out 1
      have hb := block_lt hRb.out
      have hx4 := block_lt HX.out
      go_wp2_with fail
      have HR : Hid (Rf (((w4.setCell ⟨w.heap.size + 1, 0, none⟩ (.string t2)).setCell ⟨w.heap.size + 1, 1, none⟩ (.bool t3)).alloc (.cells #[.string t2, .bool t3] 83)) (w.heap.size + 1) (y2, t3)) := ⟨t2, a3.out, hO (heap_set_eq (heap_set hRb.out 0 (.string t2)) rfl)⟩
      have KK : Keeps (· = w.heap.size + 1) w4 (((w4.setCell ⟨w.heap.size + 1, 0, none⟩ (.string t2)).setCell ⟨w.heap.size + 1, 1, none⟩ (.bool t3)).alloc (.cells #[.string t2, .bool t3] 83)) := (((Keeps.refl (· = w.heap.size + 1) w4).setCell ⟨w.heap.size + 1, 0, none⟩ (.string t2) (.inl rfl)).setCell ⟨w.heap.size + 1, 1, none⟩ (.bool t3) (.inl rfl)).alloc _
      replace HZ := Lib.hid (KK.keep HZ.out (by omega))
      replace HX := Lib.hid (KK.keep HX.out (by omega))
      replace HO := Lib.hid (HO.out.keep KK (fun j hj => by have := HF.out j hj; omega))
      replace HB := Lib.hid (bK HB.out KK (fun j hj => by omega))
      clear KK d0 d1 f0 f1 hRb hb hx4
      refine (CD.out _).mono ?_
      rintro e w5 ⟨h, hb⟩
      replace HZ := Lib.hid (hBs hb HZ.out)
      replace HX := Lib.hid (hBs hb HX.out)
      replace HR := Lib.hid (HR.out.keep (Keeps.of_below (fun _ => False) hb) id)
      replace HO := Lib.hid (HO.out.keep (Keeps.of_below (fun _ => False) hb) (fun _ _ h => h))
      replace HB := Lib.hid (bT HB.out hb)
      have hx5 := block_lt HX.out
      clear hb CD
      have HP : Hid ((w5.alloc (.cells (pgC pageZ) 60)).heap[w5.heap.size]? = some (.cells (pgC pageZ) 60 (0, 0))) := hN rfl
      have HBp := bA (o := .cells (pgC pageZ) 60) (bR (w := w5))
      have HZa := Lib.hid (hBs HBp HZ.out)
      have HXa := Lib.hid (hBs HBp HX.out)
      have HRa := Lib.hid (HR.out.keep (Keeps.of_below (fun _ => False) HBp) id)
      have HOa := Lib.hid (HO.out.keep (Keeps.of_below (fun _ => False) HBp) (fun _ _ h => h))
      have HBa := Lib.hid (bT HB.out HBp)
      have HOl : Hid (∀ j ∈ blk iv, j < w5.heap.size) := fun j hj => HO.out.lt hj
      clear HZ HX HR HO HBp
      rcases h with ⟨rfl, hok⟩ | ⟨rfl, hno⟩
      · have him2 := Lib.hid (him.out.trans (hgo.out hok))
        obtain ⟨D, eD⟩ : ∃ D, decP t1 = D := ⟨_, rfl⟩
        have hDz : Hid (∀ i, i < 6 → (D.dt i).size ≤ maxLen) := fun i hi => by
          have := dtD_size t1 i
          rw [← eD]
          unfold maxLen
          show (dtD t1 i).size ≤ _
          omega
        unfold pgV
        rw [eD] at him2 ⊢
        replace eD := Lib.hid eD
        have hpc : pgC D = #[.int .i64 D.kind, .int .i64 D.level, .int .i64 D.store, .int .i64 D.next, .int .i64 (D.st 0), .string (D.dt 0), .int .i64 (D.st 1), .string (D.dt 1), .int .i64 (D.st 2), .string (D.dt 2), .int .i64 (D.st 3), .string (D.dt 3), .int .i64 (D.st 4), .string (D.dt 4), .int .i64 (D.st 5), .string (D.dt 5)] := rfl
        replace hpc := Lib.hid hpc
        have hone : ∀ u ∈ imL (X.1, D), u.oneCell' = true := imA_one (X.1, D)
        have hacc255 : acc.length ≤ 255 := by omega
        clear hgo hstop hok him
        go_wp2_with (first
          | (refine wpList_store_whole rfl 60 _ _ rfl _ (pgC D) rfl rfl _ (pgC pageZ) HP.out rfl (by kernel_rfl) (pgC_one _) ?_; intro wz HRz KZ; (have hzz := KZ.out.size); (have HZz : Hid ((wz.alloc (.cells (imA (X.1, D)) 62)).heap[w.heap.size]? = _) := hO (KZ.out.keep HZa.out (by omega))); (have HXz := Lib.hid (KZ.out.keep HXa.out (by omega))); (have HXq : Hid ((wz.alloc (.cells (imA (X.1, D)) 62)).heap[w.heap.size + 1 + 1]? = _) := hO HXz.out); (have HRRz := Lib.hid ((HRa.out.keep KZ.out (by omega)).keep (Keeps.of_below (fun _ => False) (bA (o := .cells (imA (X.1, D)) 62) (bR (w := wz)))) id)); (have HOz := Lib.hid ((HOa.out.keep KZ.out (fun j hj => by have := HOl.out j hj; omega)).keep (Keeps.of_below (fun _ => False) (bA (o := .cells (imA (X.1, D)) 62) (bR (w := wz)))) (fun _ _ h => h))); (have HBz : Hid (Below w.heap.size w (wz.alloc (.cells (imA (X.1, D)) 62))) := bA (bK HBa.out KZ.out (fun j hj => by omega))); (have c11 : wz.cell? ⟨w.heap.size + 1 + 1, 11, none⟩ = some iv := cell_at HXz.out 11); clear HP KZ HZa HXa HRa HOa HBa HXz)
          | (refine wpList_load_row rfl 60 _ rfl _ rfl 60 _ _ _ HRz.out Tryd.underlying60 rfl (by kernel_rfl) ?_; (have hpc' := hpc.out); (have hwz : w5.heap.size < wz.heap.size := block_lt HRz.out); clear HRz)
          | (at_builtin; refine wpList_append_frame _ rfl _ _ 26 rfl 62 i0 (.agg (imA (0, pageZ))) 17 184 Tryd.underlying26 hi hi0 hi1 hi2 rfl (by decide) _ _ _ rfl HOz.out ⟨wz.heap.size, 0, none⟩ 1 1 (imL (X.1, D)) rfl rfl (cells_new wz (imA (X.1, D)) 62 rfl) hone (by unfold maxLen; omega) (by omega) ?_; intro v9 w9 ho9 hk9 hb9 hn9; (have HZ9 := Lib.hid (hk9.keep HZz.out (fun h => by have := HF.out _ h; omega))); (have HX9 := Lib.hid (hk9.keep HXq.out (fun h => by have := HF.out _ h; omega))); (have HR9 := Lib.hid (HRRz.out.keep hk9 (fun h => by have := HF.out _ h; omega))); (have HB9 := Lib.hid (bK HBz.out hk9 (fun j h => by have := HF.out _ h; omega))); (have HO9 := Lib.hid ho9); (have hF9 := Lib.hid hb9); (obtain ⟨av, cv, rfl⟩ := OwnS.shape ho9); (have d11 : w9.cell? ⟨w.heap.size + 1 + 1, 11, none⟩ = some iv := cell_at HX9.out 11); (have f11 := free_at HX9.out 11); (have h9 := block_lt HX9.out); clear ho9 hk9 hb9 hn9 hpc' HZz HXq HRRz HOz HBz c11))
        go_roundw
        case rel =>
          refine ⟨i + 1, (y2, t3), acc ++ [(X.1, D)], .slice av (acc.length + 1) cv, by first | rfl | go_num, by omega, by rw [List.length_append]; simp; omega, ?_, HR9.out.keep ((Keeps.refl (· = w.heap.size + 1 + 1) w9).setCell ⟨w.heap.size + 1 + 1, 11, none⟩ (.slice av (acc.length + 1) cv) (.inl rfl)) (by show ¬ _ = _; omega), hSO HZ9.out (by show _ ≠ w.heap.size + 1 + 1; omega), heap_set_eq HX9.out rfl, ?_, ?_, ?_, bS HB9.out (by show _ ≤ w.heap.size + 1 + 1; omega)⟩
          · rw [show n0 - (i + 1) = k' by have := hk'.out; omega]
            exact him2.out
          · have hne : ∀ j ∈ blk (.slice av (acc.length + 1) cv), ¬ j = w.heap.size + 1 + 1 := fun j hj => by
              rcases hF9.out j hj with h | h
              · have := HF.out j h; omega
              · have h' : wz.heap.size ≤ j := Nat.le_trans (by simp) h
                omega
            have h := HO9.out.keep ((Keeps.refl (· = w.heap.size + 1 + 1) w9).setCell ⟨w.heap.size + 1 + 1, 11, none⟩ (.slice av (acc.length + 1) cv) (.inl rfl)) hne
            rw [append_flat]
            exact Lib.hid (by simpa using h)
          · intro j hj
            rcases hF9.out j hj with h | h
            · exact HF.out j h
            · have h' : wz.heap.size ≤ j := Nat.le_trans (by simp) h
              omega
          · intro x hx
            rcases List.mem_append.1 hx with h | h
            · exact HD.out x h
            · rw [List.mem_singleton.1 h]; exact hDz.out
        case measure => simp [intOf] <;> omega
      · have hnone := Lib.hid (hdecN.out (him.out.trans (hstop.out hno)))
        clear hgo hstop hno him hdec hdecN
        unfold pgV
        go_wp2_with (first
          | (refine wpList_store_whole rfl 60 _ _ rfl _ (pgC pageZ) rfl rfl _ (pgC pageZ) HP.out rfl (by kernel_rfl) (pgC_one _) ?_; intro wz HRz KZ; (have hzz := KZ.out.size); (have HZz := Lib.hid (KZ.out.keep HZa.out (by omega))); (have HBz := Lib.hid (bK HBa.out KZ.out (fun j hj => by omega))); clear HP KZ HZa HXa HRa HOa HBa)
          | (refine wpList_store_whole rfl 29 _ _ rfl _ (rcC rcZ nilS nilS) rfl rfl _ (rcC rcZ nilS nilS) HZz.out rfl (by kernel_rfl) (rcC_one rfl rfl) ?_; intro wy HRy KY))
        refine bodyPost_ret (results_row_tmp Tryd.results14 _ _ _ _ _ _ _ rfl HRy.out Tryd.underlying29 rfl (by kernel_rfl)) rfl ⟨.inr ⟨hnone.out, rfl⟩, bK HBz.out KY.out (fun j hj => by omega)⟩
  case rest =>
    obtain ⟨σ, acc, iv, hacc, hend, HR, HZ, HX, HO, HF, HD, HB⟩ := hcut
    obtain ⟨M, eM, CM⟩ := rnum_any 1 (by decide) σ
    obtain ⟨m0, hm0, hm255⟩ := rN1_pos σ eM
    have htail : Hid (∀ l τ, livesR m0 M.2 [] = (l, τ) → decR s = endR { RH with ims := acc, lvs := l } τ) := fun l τ h => hend.out.trans (tail_eq eM hm0 h)
    rw [hm0] at CM
    clear eM hm0 hdec hdecN hend
    go_wp2_with fail
    refine (CM.out (w.heap.size + 1) _ HR.out).mono ?_
    rintro e wq ⟨rfl, hr, hk⟩
    have HZ0 := Lib.hid (hk.keep HZ.out (by omega))
    have HX0 := Lib.hid (hk.keep HX.out (by omega))
    have HO0 := Lib.hid (HO.out.keep hk (fun j hj => by have := HF.out j hj; omega))
    have HB0 := Lib.hid (bK HB.out hk (fun j hj => by omega))
    have HR0 := Lib.hid hr
    have HI : Hid (∀ j ∈ blk iv, w.heap.size + 1 + 1 < j ∧ j < wq.heap.size) := fun j hj => ⟨HF.out j hj, Nat.lt_of_lt_of_le (HO.out.lt hj) hk.size⟩
    clear hr hk CM HZ HX HO HB HR HF
    go_upto_block 2 with fail
    go_cut [] from 6 to 138 (fun wx => ∃ (τ : St) (l : List (Int × Int × Int)) (lv : Value), l.length ≤ 255 ∧ Hid (decR s = endR { RH with ims := acc, lvs := l } τ) ∧ Hid (Rf wx (w.heap.size + 1) τ) ∧ Hid (wx.heap[w.heap.size]? = some (.cells (rcC rcZ nilS nilS) 29 (0, 0))) ∧ Hid (wx.heap[w.heap.size + 1 + 1]? = some (.cells (rcC RH iv lv) 29 (0, 0))) ∧ Hid (OwnS wx 62 17 iv acc.length (acc.flatMap imL)) ∧ Hid (OwnS wx 65 3 lv l.length (l.flatMap lvL)) ∧ Hid (∀ j ∈ blk lv, w.heap.size + 1 + 1 < j) ∧ Hid (Below w.heap.size w wx))
    case first =>
      go_wp2_with fail
      go_loopw [13] (fun t wr => ∃ (i : Nat) (σ : St) (acc2 : List (Int × Int × Int)) (lv : Value), t = .int .i64 i ∧ i ≤ m0 ∧ acc2.length ≤ i ∧ Hid (livesR m0 M.2 [] = livesR (m0 - i) σ acc2) ∧ Hid (Rf wr (w.heap.size + 1) σ) ∧ Hid (wr.heap[w.heap.size]? = some (.cells (rcC rcZ nilS nilS) 29 (0, 0))) ∧ Hid (wr.heap[w.heap.size + 1 + 1]? = some (.cells (rcC RH iv lv) 29 (0, 0))) ∧ Hid (OwnS wr 62 17 iv acc.length (acc.flatMap imL)) ∧ Hid (OwnS wr 65 3 lv acc2.length (acc2.flatMap lvL)) ∧ Hid (∀ j ∈ blk lv, wq.heap.size ≤ j) ∧ w.heap.size + 1 + 1 < wq.heap.size ∧ wq.heap.size ≤ wr.heap.size ∧ Hid (Below w.heap.size w wr)) (fun t _ => m0 - (intOf t).toNat)
      case atStart => exact ⟨0, M.2, [], nilS, rfl, Nat.zero_le _, Nat.le_refl _, rfl, HR0.out, HZ0.out, HX0.out, HO0.out, OwnS.nil _ _ _, Lib.hid (by simp [blk, nilS, Value.ownBlock]), block_lt HX0.out, Nat.le_refl _, HB0.out⟩
      case round =>
        clear HR0 HZ0 HX0 HO0 HB0
        obtain ⟨i, σ, acc2, lv, rfl, him0, hal, hli, HR, HZ, HX, HO, HL, HJ, hwq, hqr, HB⟩ := hrel
        have hxr := block_lt HX.out
        obtain ⟨s', hA, hRb⟩ := HR.out
        replace hRb := Lib.hid hRb
        clear hA
        have d1 : wr.cell? ⟨w.heap.size + 1, 1, none⟩ = some (.bool σ.2) := cell_at hRb.out 1
        have hb := block_lt hRb.out
        by_cases hin : i < m0
        rotate_left
        · obtain rfl : i = m0 := by omega
          have hend := Lib.hid (htail.out acc2 σ (hli.out.trans (lives_end (.inl (Nat.sub_self _)))))
          go_wp2_with fail
          go_meet
          exact ⟨σ, acc2, lv, by omega, hend.out, HR.out, HZ.out, HX.out, HO.out, HL.out, fun j hj => by have := HJ.out j hj; omega, HB.out⟩
        by_cases hbad : σ.2 = true
        · have hend := Lib.hid (htail.out acc2 σ (hli.out.trans (lives_end (.inr hbad))))
          go_wp2_with fail
          go_meet
          exact ⟨σ, acc2, lv, by omega, hend.out, HR.out, HZ.out, HX.out, HO.out, HL.out, fun j hj => by have := HJ.out j hj; omega, HB.out⟩
        replace hbad : σ.2 = false := by simpa using hbad
        obtain ⟨k', hk'⟩ : ∃ k', m0 - i = k' + 1 := ⟨m0 - i - 1, by omega⟩
        obtain ⟨X, eX, CX⟩ := rnum_any 4 (by decide) σ
        obtain ⟨Y, eY, CY⟩ := rnum_any 8 (by decide) X.2
        obtain ⟨Z, eZ, CZ⟩ := rnum_any 8 (by decide) Y.2
        rw [hk'] at hli
        have hli2 := Lib.hid (hli.out.trans (lives_go (k := k') (acc := acc2) hbad eX eY eZ))
        have hone : ∀ u ∈ lvL (X.1, Y.1, Z.1), u.oneCell' = true := by simp [lvL, Value.oneCell']
        rw [hbad] at d1
        replace hk' := Lib.hid hk'
        have hba := Lib.hid hbad
        clear eX eY eZ hli hbad hRb hb
        have HBn := bA (o := .cells #[.int .i64 0, .int .i64 0, .int .i64 0] 65) (bR (w := wr))
        have HL0 : Hid ((wr.alloc (.cells #[.int .i64 0, .int .i64 0, .int .i64 0] 65)).heap[wr.heap.size]? = some (.cells #[.int .i64 0, .int .i64 0, .int .i64 0] 65 (0, 0))) := hN rfl
        replace HZ := Lib.hid (hBs HBn HZ.out)
        replace HX := Lib.hid (hBs HBn HX.out)
        replace HR := Lib.hid (HR.out.keep (Keeps.of_below (fun _ => False) HBn) id)
        replace HO := Lib.hid (HO.out.keep (Keeps.of_below (fun _ => False) HBn) (fun _ _ h => h))
        have HLl : Hid (∀ j ∈ blk lv, j < wr.heap.size) := fun j hj => HL.out.lt hj
        replace HL := Lib.hid (HL.out.keep (Keeps.of_below (fun _ => False) HBn) (fun _ _ h => h))
        replace HB := Lib.hid (bT HB.out HBn)
        clear HBn
        go_wp2_with fail
        refine (CX.out (w.heap.size + 1) _ HR.out).mono ?_
        rintro e w3 ⟨rfl, hr, hk⟩
        replace HZ := Lib.hid (hk.keep HZ.out (by omega))
        replace HX := Lib.hid (hk.keep HX.out (by omega))
        replace HL0 := Lib.hid (hk.keep HL0.out (by omega))
        replace HO := Lib.hid (HO.out.keep hk (fun j hj => by have := HI.out j hj; omega))
        replace HL := Lib.hid (HL.out.keep hk (fun j hj => by have := HJ.out j hj; omega))
        replace HB := Lib.hid (bK HB.out hk (fun j hj => by omega))
        have c0 := cell_at HL0.out 0
        have f0 := free_at HL0.out 0
        have hl0 := block_lt HL0.out
        have KK := (Keeps.refl (· = wr.heap.size) w3).setCell ⟨wr.heap.size, 0, none⟩ (.int .i64 X.1) (.inl rfl)
        replace HZ := Lib.hid (KK.keep HZ.out (by omega))
        replace HX := Lib.hid (KK.keep HX.out (by omega))
        replace HO := Lib.hid (HO.out.keep KK (fun j hj => by have := HI.out j hj; omega))
        replace HL := Lib.hid (HL.out.keep KK (fun j hj => by have := HLl.out j hj; omega))
        replace HB := Lib.hid (bK HB.out KK (fun j hj => by omega))
        replace HR := Lib.hid (hr.keep KK (by omega))
        replace HL0 := Lib.hid (heap_set HL0.out 0 (.int .i64 X.1))
        clear hr hk KK CX
        go_wp2_with fail
        refine (CY.out (w.heap.size + 1) _ HR.out).mono ?_
        rintro e w4 ⟨rfl, hr, hk⟩
        replace HZ := Lib.hid (hk.keep HZ.out (by omega))
        replace HX := Lib.hid (hk.keep HX.out (by omega))
        replace HL0 := Lib.hid (hk.keep HL0.out (by omega))
        replace HO := Lib.hid (HO.out.keep hk (fun j hj => by have := HI.out j hj; omega))
        replace HL := Lib.hid (HL.out.keep hk (fun j hj => by have := HJ.out j hj; omega))
        replace HB := Lib.hid (bK HB.out hk (fun j hj => by omega))
        have c1 := cell_at HL0.out 1
        have f1 := free_at HL0.out 1
        have hl1 := block_lt HL0.out
        have KK := (Keeps.refl (· = wr.heap.size) w4).setCell ⟨wr.heap.size, 1, none⟩ (.int .i64 Y.1) (.inl rfl)
        replace HZ := Lib.hid (KK.keep HZ.out (by omega))
        replace HX := Lib.hid (KK.keep HX.out (by omega))
        replace HO := Lib.hid (HO.out.keep KK (fun j hj => by have := HI.out j hj; omega))
        replace HL := Lib.hid (HL.out.keep KK (fun j hj => by have := HLl.out j hj; omega))
        replace HB := Lib.hid (bK HB.out KK (fun j hj => by omega))
        replace HR := Lib.hid (hr.keep KK (by omega))
        replace HL0 := Lib.hid (heap_set HL0.out 1 (.int .i64 Y.1))
        clear hr hk KK CY
        go_wp2_with fail
        refine (CZ.out (w.heap.size + 1) _ HR.out).mono ?_
        rintro e w6 ⟨rfl, hr, hk⟩
        replace HZ := Lib.hid (hk.keep HZ.out (by omega))
        replace HX := Lib.hid (hk.keep HX.out (by omega))
        replace HL0 := Lib.hid (hk.keep HL0.out (by omega))
        replace HO := Lib.hid (HO.out.keep hk (fun j hj => by have := HI.out j hj; omega))
        replace HL := Lib.hid (HL.out.keep hk (fun j hj => by have := HJ.out j hj; omega))
        replace HB := Lib.hid (bK HB.out hk (fun j hj => by omega))
        have c2 := cell_at HL0.out 2
        have f2 := free_at HL0.out 2
        have hl2 := block_lt HL0.out
        have hx6 := block_lt HX.out
        have KK := ((Keeps.refl (· = wr.heap.size) w6).setCell ⟨wr.heap.size, 2, none⟩ (.int .i64 Z.1) (.inl rfl))
        have KA := KK.alloc (.cells #[.int .i64 X.1, .int .i64 Y.1, .int .i64 Z.1] 65)
        have HLq : Hid ((w6.setCell ⟨wr.heap.size, 2, none⟩ (.int .i64 Z.1)).heap[wr.heap.size]? = some (.cells #[.int .i64 X.1, .int .i64 Y.1, .int .i64 Z.1] 65 (0, 0))) := heap_set_eq HL0.out rfl
        have c12 : (w6.setCell ⟨wr.heap.size, 2, none⟩ (.int .i64 Z.1)).cell? ⟨w.heap.size + 1 + 1, 12, none⟩ = some lv := cell_at (KK.keep HX.out (by omega)) 12
        replace HZ := Lib.hid (KA.keep HZ.out (by omega))
        replace HX := Lib.hid (KA.keep HX.out (by omega))
        replace HO := Lib.hid (HO.out.keep KA (fun j hj => by have := HI.out j hj; omega))
        replace HL := Lib.hid (HL.out.keep KA (fun j hj => by have := HLl.out j hj; omega))
        replace HB := Lib.hid (bK HB.out KA (fun j hj => by omega))
        replace HR := Lib.hid (hr.keep KA (by omega))
        have hsz6 : wq.heap.size ≤ (w6.setCell ⟨wr.heap.size, 2, none⟩ (.int .i64 Z.1)).heap.size := Nat.le_trans (by omega) KK.size
        have hacc2 : acc2.length ≤ 255 := by omega
        clear hr hk KK KA CZ HL0
        go_wp2_with (first
          | (refine wpList_load_row rfl 65 _ rfl _ rfl 65 _ _ _ HLq.out Tryd.underlying65 rfl (by kernel_rfl) ?_)
          | (at_builtin; refine wpList_append_frame _ rfl _ _ 27 rfl 65 j0 (.agg #[.int .i64 0, .int .i64 0, .int .i64 0]) 3 24 Tryd.underlying27 hj hj0 hj1 hj2 rfl (by decide) _ _ _ rfl HL.out ⟨w6.heap.size, 0, none⟩ 1 1 (lvL (X.1, Y.1, Z.1)) rfl rfl (cells_new _ #[.int .i64 X.1, .int .i64 Y.1, .int .i64 Z.1] 65 (by simp [World.setCell])) hone (by unfold maxLen; omega) (by omega) ?_; intro v9 w9 ho9 hk9 hb9 hn9; (have HZ9 := Lib.hid (hk9.keep HZ.out (fun h => by have := HJ.out _ h; omega))); (have HX9 := Lib.hid (hk9.keep HX.out (fun h => by have := HJ.out _ h; omega))); (have HR9 := Lib.hid (HR.out.keep hk9 (fun h => by have := HJ.out _ h; omega))); (have HO9 := Lib.hid (HO.out.keep hk9 (fun j hj h => by have := HJ.out _ h; have := HI.out j hj; omega))); (have HB9 := Lib.hid (bK HB.out hk9 (fun j h => by have := HJ.out _ h; omega))); (have HL9 := Lib.hid ho9); (have hF9 := Lib.hid hb9); (have hs9 := hk9.size); (obtain ⟨av, cv, rfl⟩ := OwnS.shape ho9); (have d12 : w9.cell? ⟨w.heap.size + 1 + 1, 12, none⟩ = some lv := cell_at HX9.out 12); (have f12 := free_at HX9.out 12); (have h9 := block_lt HX9.out); clear ho9 hk9 hb9 hn9 HZ HX HR HO HB HL c12))
        have hsz9 : wq.heap.size ≤ w9.heap.size := Nat.le_trans hsz6 (Nat.le_trans (by simp) hs9)
        go_roundw
        case rel =>
          refine ⟨i + 1, Z.2, acc2 ++ [(X.1, Y.1, Z.1)], .slice av (acc2.length + 1) cv, by first | rfl | go_num, by omega, by rw [List.length_append]; simp; omega, ?_, HR9.out.keep ((Keeps.refl (· = w.heap.size + 1 + 1) w9).setCell ⟨w.heap.size + 1 + 1, 12, none⟩ (.slice av (acc2.length + 1) cv) (.inl rfl)) (by show ¬ _ = _; omega), hSO HZ9.out (by show _ ≠ w.heap.size + 1 + 1; omega), heap_set_eq HX9.out rfl, ?_, ?_, ?_, hwq, by simpa [World.setCell] using hsz9, bS HB9.out (by show _ ≤ w.heap.size + 1 + 1; omega)⟩
          · rw [show m0 - (i + 1) = k' by have := hk'.out; omega]
            exact hli2.out
          · exact HO9.out.keep ((Keeps.refl (· = w.heap.size + 1 + 1) w9).setCell ⟨w.heap.size + 1 + 1, 12, none⟩ (.slice av (acc2.length + 1) cv) (.inl rfl)) (fun j hj h => by have := HI.out j hj; omega)
          · have hne : ∀ j ∈ blk (.slice av (acc2.length + 1) cv), ¬ j = w.heap.size + 1 + 1 := fun j hj => by
              rcases hF9.out j hj with h | h
              · have := HJ.out j h; omega
              · have h' := Nat.le_trans hsz6 (Nat.le_trans (by simp) h)
                omega
            have h := HL9.out.keep ((Keeps.refl (· = w.heap.size + 1 + 1) w9).setCell ⟨w.heap.size + 1 + 1, 12, none⟩ (.slice av (acc2.length + 1) cv) (.inl rfl)) hne
            rw [append_flat]
            exact Lib.hid (by simpa using h)
          · intro j hj
            rcases hF9.out j hj with h | h
            · exact HJ.out j h
            · exact Nat.le_trans hsz6 (Nat.le_trans (by simp) h)
        case measure => simp [intOf] <;> omega
    case rest =>
      clear HR0 HZ0 HX0 HO0 HB0 htail
      obtain ⟨τ, l, lv, hl, hend, HR, HZ, HX, HO, HL, HJ, HB⟩ := hcut
      have hRFc : Hid (rcC { RH with ims := acc, lvs := l } iv lv = rcC RH iv lv) := rfl
      have hsl : ∀ (wx : World), OwnS wx 62 17 iv acc.length (acc.flatMap imL) → OwnS wx 65 3 lv l.length (l.flatMap lvL) → RcSl wx { RH with ims := acc, lvs := l } iv lv := fun wx h1 h2 =>
        ⟨own_sl imL imL_length acc h1 rfl (by unfold maxLen; omega) (by omega), own_sl lvL lvL_length l h2 rfl (by unfold maxLen; omega) (by omega), (by have := hkb.out.1; unfold maxLen; show RH.key.size ≤ _; omega), (by have := hkb.out.2; unfold maxLen; show RH.bd.size ≤ _; omega), HD.out⟩
      replace hsl := Lib.hid hsl
      obtain ⟨RF, hRF⟩ : ∃ RF : Rc, ({ RH with ims := acc, lvs := l } : Rc) = RF := ⟨_, rfl⟩
      rw [hRF] at hRFc hsl hend
      clear hRF
      rw [← hRFc.out] at HX
      clear hRFc
      obtain ⟨s', hA, hRb⟩ := HR.out
      obtain ⟨hA1, hA2⟩ := hA
      replace hRb := Lib.hid hRb
      have d1 : World.cell? _ ⟨w.heap.size + 1, 1, none⟩ = some (.bool τ.2) := cell_at hRb.out 1
      have d0 : World.cell? _ ⟨w.heap.size + 1, 0, none⟩ = some (.string s') := cell_at hRb.out 0
      have hb := block_lt hRb.out
      by_cases hbad : τ.2 = true
      · have hnone := Lib.hid (hend.out.trans (endR_none (.inl hbad)))
        clear hend hsl hA2
        go_wp2_with (refine wpList_store_whole rfl 29 _ _ rfl _ (rcC rcZ nilS nilS) rfl rfl _ (rcC rcZ nilS nilS) HZ.out rfl (by kernel_rfl) (rcC_one rfl rfl) ?_; intro wy HRy KY)
        refine bodyPost_ret (results_row_tmp Tryd.results14 _ _ _ _ _ _ _ rfl HRy.out Tryd.underlying29 rfl (by kernel_rfl)) rfl ⟨.inr ⟨hnone.out, rfl⟩, bK HB.out KY.out (fun j hj => by omega)⟩
      replace hbad : τ.2 = false := by simpa using hbad
      have hs' := hA2 hbad
      clear hA2
      by_cases hz : τ.1.size = 0
      rotate_left
      · have hnone := Lib.hid (hend.out.trans (endR_none (.inr (.inl hz))))
        have hz' : s'.size ≠ 0 := by rw [hs']; exact hz
        obtain ⟨n1, n2⟩ := str_some hz'
        rw [hbad] at d1
        clear hend hsl hz hz' hs' hbad
        go_wp2_with (refine wpList_store_whole rfl 29 _ _ rfl _ (rcC rcZ nilS nilS) rfl rfl _ (rcC rcZ nilS nilS) HZ.out rfl (by kernel_rfl) (rcC_one rfl rfl) ?_; intro wy HRy KY)
        refine bodyPost_ret (results_row_tmp Tryd.results14 _ _ _ _ _ _ _ rfl HRy.out Tryd.underlying29 rfl (by kernel_rfl)) rfl ⟨.inr ⟨hnone.out, rfl⟩, bK HB.out KY.out (fun j hj => by omega)⟩
      have hend2 := Lib.hid (fun h => hend.out.trans (endR_some (R := RF) hbad hz h))
      have hend3 := Lib.hid (fun h => hend.out.trans (endR_none (R := RF) (σ := τ) (.inr (.inr h))))
      have HCk := Lib.hid (rc_right RF iv lv _ (hsl.out _ HO.out HL.out))
      have h1c : iv.oneCell' = true := by obtain ⟨_, _, e⟩ := OwnS.shape HO.out; rw [e]; rfl
      have h2c : lv.oneCell' = true := by obtain ⟨_, _, e⟩ := OwnS.shape HL.out; rw [e]; rfl
      have h1c := Lib.hid h1c
      have h2c := Lib.hid h2c
      rw [hbad] at d1
      obtain rfl := str_none (show s'.size = 0 by rw [hs']; exact hz)
      clear hz hend hbad hs' hA1
      go_wp2_with (refine wpList_load_want (by rfl) 29 _ rfl (w.heap.size + 1 + 1) rfl 29 _ _ _ HX.out Tryd.underlying29 rfl (by kernel_rfl) ?_)
      refine HCk.out.mono ?_
      rintro e w4 ⟨h, hb4⟩
      replace HZ := Lib.hid (hBs hb4 HZ.out)
      replace HX := Lib.hid (hBs hb4 HX.out)
      replace HO := Lib.hid (HO.out.keep (Keeps.of_below (fun _ => False) hb4) (fun _ _ h => h))
      replace HL := Lib.hid (HL.out.keep (Keeps.of_below (fun _ => False) hb4) (fun _ _ h => h))
      replace HB := Lib.hid (bT HB.out hb4)
      clear hb4 HCk HR d0 d1 hRb hb
      rcases h with ⟨rfl, hok⟩ | ⟨rfl, hno⟩
      · have hsome := Lib.hid (hend2.out hok)
        clear hend2 hend3 hok
        go_wp2_with (first
          | (refine wpList_load_row rfl 29 _ rfl _ rfl 29 _ _ _ HX.out Tryd.underlying29 rfl (by kernel_rfl) ?_)
          | (refine wpList_store_whole rfl 29 _ _ rfl _ (rcC RF iv lv) rfl rfl _ (rcC rcZ nilS nilS) HZ.out rfl (by kernel_rfl) (rcC_one h1c.out h2c.out) ?_; intro wy HRy KY))
        refine bodyPost_ret (results_row_tmp Tryd.results14 _ _ _ _ _ _ _ rfl HRy.out Tryd.underlying29 rfl (by kernel_rfl)) rfl ⟨.inl ⟨RF, iv, lv, hsome.out, rfl, hsl.out _ (HO.out.keep KY.out (fun j hj => by have := HI.out j hj; omega)) (HL.out.keep KY.out (fun j hj => by have := HJ.out j hj; omega))⟩, bK HB.out KY.out (fun j hj => by omega)⟩
      · have hnone := Lib.hid (hend3.out hno)
        clear hend2 hend3 hno
        go_wp2_with (refine wpList_store_whole rfl 29 _ _ rfl _ (rcC rcZ nilS nilS) rfl rfl _ (rcC rcZ nilS nilS) HZ.out rfl (by kernel_rfl) (rcC_one rfl rfl) ?_; intro wy HRy KY)
        refine bodyPost_ret (results_row_tmp Tryd.results14 _ _ _ _ _ _ _ rfl HRy.out Tryd.underlying29 rfl (by kernel_rfl)) rfl ⟨.inr ⟨hnone.out, rfl⟩, bK HB.out KY.out (fun j hj => by omega)⟩

end Go.Proofs.YtblakognnfilaaaDoor
