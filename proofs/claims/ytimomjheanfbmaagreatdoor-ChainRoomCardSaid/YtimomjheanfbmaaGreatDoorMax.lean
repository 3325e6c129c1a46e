import Derived.Test.YtimomjheanfbmaaGreatDoorMaw
import Derived.Test.YtimomjheanfbmaaGreatDoorMaj
import Derived.Laws.StructEq
import Derived.Test.YtimomjheanfbmaaGreatDoorMac
set_option linter.unusedSimpArgs false
set_option linter.unusedVariables false
namespace Go.Proofs.YtimomjheanfbmaaGreatDoor
open Go.RowKit

set_option maxRecDepth 100000 in
set_option maxHeartbeats 16000000 in
theorem rf_encode_no (P : Pg) (hd : ∀ i, i < 6 → (P.dt i).size ≤ maxLen) (hok : ¬ PgOk P) (w : World) : Calls Tryz.prog 129 #[pgV P] w fun e w' => e = .returned (.tuple #[.string ⟨#[]⟩, .int .i64 1]) ∧ Below w.heap.size w w' := by
  have HC := Lib.hid (fun w => rf_right P hd w)
  have HQc : Hid ((w.alloc (.cells (pgC P) 49)).heap[w.heap.size]? = some (.cells (pgC P) 49 (0, 0))) := hN rfl
  unfold pgV at *
  go_enter Tryz.func129, Tryz.ntmps129
  go_wp2_with (refine wpList_load_row rfl 49 _ rfl _ rfl 49 _ _ _ HQc.out Tryz.underlying49 rfl (by kernel_rfl) ?_)
  refine (HC.out _).mono ?_
  rintro e w1 ⟨h, hb⟩
  obtain rfl : e = .returned (.bool false) := h.elim (fun h => absurd h.2 hok) (fun h => h.1)
  have HB1 := Lib.hid (bT (bA bR) hb)
  clear hb h
  go_wp2_with fail
  go_ret2
  exact ⟨rfl, HB1.out⟩
theorem rf_encode (P : Pg) (hd : ∀ i, i < 6 → (P.dt i).size ≤ maxLen) (w : World) : Calls Tryz.prog 129 #[pgV P] w fun e w' => (e = .returned (.tuple #[.string (pageS P), .int .i64 0]) ∧ PgOk P ∨ e = .returned (.tuple #[.string ⟨#[]⟩, .int .i64 1]) ∧ ¬ PgOk P) ∧ Below w.heap.size w w' := by
  by_cases h : PgOk P
  · exact (rf_encode_ok P h w).mono fun e w' ⟨he, hb⟩ => ⟨.inl ⟨he, h⟩, hb⟩
  · exact (rf_encode_no P hd h w).mono fun e w' ⟨he, hb⟩ => ⟨.inr ⟨he, h⟩, hb⟩
theorem lists_ne {a b : ByteArray} (h : ¬ a = b) : (¬ a.toList = b.toList) ∧ (a.toList == b.toList) = false ∧ (a.toList != b.toList) = true := by
  have h1 : ¬ a.toList = b.toList := fun e => h (by rw [ByteArray.toList_eq, ByteArray.toList_eq] at e; exact ba_ext e)
  exact ⟨h1, beq_eq_false_iff_ne.2 h1, bne_iff_ne.2 h1⟩
theorem x_spec {s : ByteArray} {k : Nat} (hs : s.size = 224) (hk : k < 6) : ∃ (X : ByteArray) (a b : UInt8), s.extract (8 + 36 * k) (44 + 36 * k) = X ∧ ∃ (h : X.size = 36), X[0]'(by omega) = a ∧ X[1]'(by omega) = b ∧ stD s k = a.toNat ∧ nD s k = b.toNat ∧ (b.toNat ≤ 34 → dtD s k = X.extract 2 (2 + b.toNat)) := by
  obtain ⟨a, b, R, hc, hR, e1, e2, e3, e4⟩ := chunk_spec hs hk
  have hX : (s.extract (8 + 36 * k) (44 + 36 * k)).data.toList = a :: b :: R := by
    rw [ext_list, ← hc, show 44 + 36 * k - (8 + 36 * k) = 36 by omega]; rfl
  have hz : (s.extract (8 + 36 * k) (44 + 36 * k)).size = 36 := by rw [ByteArray.size_extract]; omega
  have hget : ∀ (i : Nat) (h : i < (s.extract (8 + 36 * k) (44 + 36 * k)).size), (s.extract (8 + 36 * k) (44 + 36 * k))[i] = (a :: b :: R)[i]'(by rw [← hX, list_size]; exact h) := fun i h => by
    show (s.extract (8 + 36 * k) (44 + 36 * k)).data[i] = _
    rw [← Array.getElem_toList]
    congr 1
  refine ⟨_, a, b, rfl, hz, hget 0 (by omega), hget 1 (by omega), e1, e2, fun hb => ?_⟩
  apply ba_ext
  rw [e4, ext_list, hX]
  show _ = R.take (2 + b.toNat - 2)
  rw [show 2 + b.toNat - 2 = b.toNat by omega]
set_option maxHeartbeats 1600000 in
theorem rf_decode_size (s : ByteArray) (hs : s.size ≠ 224) (hz : s.size ≤ maxLen) (w : World) : Calls Tryz.prog 85 #[.string s] w fun e w' => e = .returned (.tuple #[pgV pageZ, .int .i64 40]) ∧ Below w.heap.size w w' := by
  have hne : ((s.size : Int) != 224) = true := by simp; omega
  have HZ : Hid ((w.alloc (.cells (pgC pageZ) 49)).heap[w.heap.size]? = some (.cells (pgC pageZ) 49 (0, 0))) := hN rfl
  go_enter Tryz.func85, Tryz.ntmps85
  go_wp2_with (refine wpList_store_whole rfl 49 _ _ rfl _ (pgC pageZ) rfl rfl _ (pgC pageZ) HZ.out rfl (by kernel_rfl) (pgC_one _) ?_; intro wz HRz KZ)
  refine bodyPost_ret (results_row_tmp Tryz.results85 _ _ _ _ _ _ _ rfl HRz.out Tryz.underlying49 rfl (by kernel_rfl)) rfl ⟨rfl, bK (bA bR) KZ.out (fun j hj => by omega)⟩
set_option maxRecDepth 100000 in
set_option maxHeartbeats 16000000 in
theorem rf_decode_go (s : ByteArray) (hs : s.size = 224) (w : World) : Calls Tryz.prog 85 #[.string s] w fun e w' => (e = .returned (.tuple #[pgV (decP s), .int .i64 0]) ∧ DecOk s ∨ e = .returned (.tuple #[pgV pageZ, .int .i64 40]) ∧ ¬ DecOk s) ∧ Below w.heap.size w w' := by
  have hne : ((s.size : Int) != 224) = false := by simp; omega
  go_enter Tryz.func85, Tryz.ntmps85
  have HZ0 : Hid ((w.alloc (.cells (pgC pageZ) 49)).heap[w.heap.size]? = some (.cells (pgC pageZ) 49 (0, 0))) := hN rfl
  have hbl := Lib.hid (bld_none s)
  obtain ⟨t1, t2⟩ := valS_one_lt s 0 1 (by omega)
  obtain ⟨t3, t4⟩ := valS_one_lt s 1 2 (by omega)
  obtain ⟨t5, t6⟩ := valS_two_lt s 2 4 (by omega)
  obtain ⟨t7, t8⟩ := valS_four_lt s 4 8 (by omega)
  have y1 := fun w => ref_val_ok (s.extract 0 1) (by rw [ByteArray.size_extract]; omega) (by rw [ByteArray.size_extract]; omega) w
  have y2 := fun w => ref_val_ok (s.extract 1 2) (by rw [ByteArray.size_extract]; omega) (by rw [ByteArray.size_extract]; omega) w
  have y3 := fun w => ref_val_ok (s.extract 2 4) (by rw [ByteArray.size_extract]; omega) (by rw [ByteArray.size_extract]; omega) w
  have y4 := fun w => ref_val_ok (s.extract 4 8) (by rw [ByteArray.size_extract]; omega) (by rw [ByteArray.size_extract]; omega) w
  obtain ⟨x1, e1⟩ : ∃ x, valS (s.extract 0 1) = x := ⟨_, rfl⟩
  obtain ⟨x2, e2⟩ : ∃ x, valS (s.extract 1 2) = x := ⟨_, rfl⟩
  obtain ⟨x3, e3⟩ : ∃ x, valS (s.extract 2 4) = x := ⟨_, rfl⟩
  obtain ⟨x4, e4⟩ : ∃ x, valS (s.extract 4 8) = x := ⟨_, rfl⟩
  rw [e1, e2, e3, e4] at hbl
  rw [e1] at t1 t2 y1
  rw [e2] at t3 t4 y2
  rw [e3] at t5 t6 y3
  rw [e4] at t7 t8 y4
  clear e1 e2 e3 e4
  replace y1 := Lib.hid y1
  replace y2 := Lib.hid y2
  replace y3 := Lib.hid y3
  replace y4 := Lib.hid y4
  obtain ⟨D, eD⟩ : ∃ D, bld s 0 = D := ⟨_, rfl⟩
  rw [eD] at hbl
  replace eD := Lib.hid eD
  go_wp2_with fail
  refine (y1.out _).mono ?_
  rintro e w1 ⟨rfl, ew⟩
  subst ew
  go_wp2_with fail
  refine (y2.out _).mono ?_
  rintro e w1 ⟨rfl, ew⟩
  subst ew
  go_wp2_with fail
  refine (y3.out _).mono ?_
  rintro e w1 ⟨rfl, ew⟩
  subst ew
  go_wp2_with fail
  refine (y4.out _).mono ?_
  rintro e w1 ⟨rfl, ew⟩
  subst ew
  have HB0 : Hid (Below w.heap.size w (w.alloc (.cells (pgC pageZ) 49))) := bA bR
  have hw0 : (w.alloc (.cells (pgC pageZ) 49)).heap.size = w.heap.size + 1 := by simp
  have hpz : Hid (pgC pageZ = #[.int .i64 0, .int .i64 0, .int .i64 0, .int .i64 0, .int .i64 0, .string ⟨#[]⟩, .int .i64 0, .string ⟨#[]⟩, .int .i64 0, .string ⟨#[]⟩, .int .i64 0, .string ⟨#[]⟩, .int .i64 0, .string ⟨#[]⟩, .int .i64 0, .string ⟨#[]⟩]) := rfl
  rw [hpz.out] at HZ0 HB0 hw0
  generalize (w.alloc _) = w1 at *
  rw [← hpz.out] at HZ0
  clear hpz
  clear y1 y2 y3 y4
  go_wp2_with fail
  -- LOOP
  have HP0 : Hid ((w1.alloc (.cells (pgC D) 49)).heap[w.heap.size + 1]? = some (.cells (pgC D) 49 (0, 0))) := hN hw0.symm
  rw [← hbl.out]
  rw [← eD.out] at HP0 ⊢
  clear hbl eD t1 t2 t3 t4 t5 t6 t7 t8
  have HENC := Lib.hid (fun w => rf_encode (decP s) (fun i hi => by have := dtD_size s i; unfold maxLen; show (dtD s i).size ≤ _; omega) w)
  go_loopw [13] (fun i wr => ∃ (k : Nat), k ≤ 6 ∧ i = .int .i64 k ∧ Hid (∀ j, j < k → nD s j ≤ 34) ∧ Hid (wr.heap[w.heap.size]? = some (.cells (pgC pageZ) 49 (0, 0))) ∧ Hid (wr.heap[w.heap.size + 1]? = some (.cells (pgC (bld s k)) 49 (0, 0))) ∧ Hid (Below w.heap.size w wr)) (fun i _ => 6 - (intOf i).toNat)
  case atStart => exact ⟨0, by omega, rfl, fun j h => by omega, hO HZ0, HP0, bA HB0.out⟩
  case round =>
    clear HZ0 HP0 HB0 hw0
    obtain ⟨k, hk, rfl, hall, HZ, HP, HB⟩ := hrel
    have hpr := block_lt HP.out
    by_cases hk6 : k < 6
    rotate_left
    · obtain rfl : k = 6 := by omega
      have hP6 : Hid (wr.heap[w.heap.size + 1]? = some (.cells (pgC (decP s)) 49 (0, 0))) := bld_six s ▸ HP.out
      have hok : Hid (DecOk s ↔ PgOk (decP s) ∧ pageS (decP s) = s) := dec_iff hs hall.out
      obtain ⟨E, eE⟩ : ∃ E, decP s = E := ⟨_, rfl⟩
      rw [eE] at hP6 HENC hok
      replace eE := Lib.hid eE
      unfold pgV at HENC
      clear HP
      go_wp2_with (refine wpList_load_row rfl 49 _ rfl _ rfl 49 _ _ _ hP6.out Tryz.underlying49 rfl (by kernel_rfl) ?_)
      refine (HENC.out _).mono ?_
      rintro e w2 ⟨h, hb⟩
      have HB2 := Lib.hid (bT HB.out hb)
      have HZ2 := Lib.hid (hBs hb HZ.out)
      have HP2 := Lib.hid (hBs hb hP6.out)
      clear hb HENC HZ hP6 HB
      rcases h with ⟨rfl, hyes⟩ | ⟨rfl, hno⟩
      rotate_left
      · have hfin : Hid (¬ DecOk s) := fun h => hno (hok.out.1 h).1
        clear hno hok
        go_wp2_with (refine wpList_store_whole rfl 49 _ _ rfl _ (pgC pageZ) rfl rfl _ (pgC pageZ) HZ2.out rfl (by kernel_rfl) (pgC_one _) ?_; intro wz HRz KZ)
        refine bodyPost_ret (results_row_tmp Tryz.results85 _ _ _ _ _ _ _ rfl HRz.out Tryz.underlying49 rfl (by kernel_rfl)) rfl ⟨.inr ⟨rfl, hfin.out⟩, bK HB2.out KZ.out (fun j hj => by omega)⟩
      have hyH := Lib.hid hyes
      clear hyes
      obtain ⟨T, eT⟩ : ∃ T, pageS E = T := ⟨_, rfl⟩
      rw [eT] at hok ⊢
      replace eT := Lib.hid eT
      by_cases hT : T = s
      · have hfin : Hid (DecOk s) := hok.out.2 ⟨hyH.out, hT⟩
        subst hT
        clear hok
        go_wp2_with (first | (refine wpList_load_row rfl 49 _ rfl _ rfl 49 _ _ _ HP2.out Tryz.underlying49 rfl (by kernel_rfl) ?_) | (refine wpList_store_whole rfl 49 _ _ rfl _ (pgC E) rfl rfl _ (pgC pageZ) HZ2.out rfl (by kernel_rfl) (pgC_one _) ?_; intro wz HRz KZ))
        refine bodyPost_ret (results_row_tmp Tryz.results85 _ _ _ _ _ _ _ rfl HRz.out Tryz.underlying49 rfl (by kernel_rfl)) rfl ⟨.inl ⟨by rw [eE.out]; rfl, hfin.out⟩, bK HB2.out KZ.out (fun j hj => by omega)⟩
      · have hfin : Hid (¬ DecOk s) := fun h => hT (hok.out.1 h).2
        obtain ⟨hTa, hTb, hTc⟩ := lists_ne hT
        clear hok
        go_wp2_with (refine wpList_store_whole rfl 49 _ _ rfl _ (pgC pageZ) rfl rfl _ (pgC pageZ) HZ2.out rfl (by kernel_rfl) (pgC_one _) ?_; intro wz HRz KZ)
        refine bodyPost_ret (results_row_tmp Tryz.results85 _ _ _ _ _ _ _ rfl HRz.out Tryz.underlying49 rfl (by kernel_rfl)) rfl ⟨.inr ⟨rfl, hfin.out⟩, bK HB2.out KZ.out (fun j hj => by omega)⟩
    have hk6' : (k : Int) < 6 := by omega
    obtain ⟨X, a, b, eX, zX, hX0, hX1, est, en, edt⟩ := x_spec hs hk6
    have ha := a.toNat_lt
    have hb' := b.toNat_lt
    replace est := Lib.hid est
    replace en := Lib.hid en
    replace edt := Lib.hid edt
    have z0 : (0 : Nat) < X.size := by omega
    have z1 : (1 : Nat) < X.size := by omega
    have wrb : ∀ b : UInt8, wrap64 (b.toNat : Int) = b.toNat := fun b => by have := b.toNat_lt; unfold wrap64; omega
    have wrc : ∀ b : UInt8, IntKind.i64.wrap (b.toNat : Int) = b.toNat := fun b => by have := b.toNat_lt; rw [IntKind.wrap_i64]; omega
    have wr1 : IntKind.i64.wrap (36 * (k : Int)) = 36 * (k : Int) := by rw [IntKind.wrap_i64]; omega
    have wr2 : IntKind.i64.wrap (8 + 36 * (k : Int)) = 8 + 36 * (k : Int) := by rw [IntKind.wrap_i64]; omega
    have wr3 : IntKind.i64.wrap (44 + 36 * (k : Int)) = 44 + 36 * (k : Int) := by rw [IntKind.wrap_i64]; omega
    have ex : s.extract (8 + 36 * (k : Int)).toNat (44 + 36 * (k : Int)).toNat = X := by
      rw [show (8 + 36 * (k : Int)).toNat = 8 + 36 * k by omega, show (44 + 36 * (k : Int)).toNat = 44 + 36 * k by omega]
      exact eX
    by_cases hm : b.toNat ≤ 34
    rotate_left
    · have hm' : (34 : Int) < b.toNat := by omega
      have hfin : Hid (¬ DecOk s) := fun h => hm (by have := (h.2.1 k hk6).1; rw [en.out] at this; omega)
      clear HP
      go_wp2_with (refine wpList_store_whole rfl 49 _ _ rfl _ (pgC pageZ) rfl rfl _ (pgC pageZ) HZ.out rfl (by kernel_rfl) (pgC_one _) ?_; intro wz HRz KZ)
      refine bodyPost_ret (results_row_tmp Tryz.results85 _ _ _ _ _ _ _ rfl HRz.out Tryz.underlying49 rfl (by kernel_rfl)) rfl ⟨.inr ⟨rfl, hfin.out⟩, bK HB.out KZ.out (fun j hj => by omega)⟩
    have hm' : (b.toNat : Int) ≤ 34 := by omega
    have hall' : Hid (∀ j, j < k + 1 → nD s j ≤ 34) := fun j hj => by
      by_cases e : j = k
      · subst e; rw [en.out]; exact hm'
      · exact hall.out j (by omega)
    have wr8 : IntKind.i64.wrap (2 + (b.toNat : Int)) = 2 + (b.toNat : Int) := by rw [IntKind.wrap_i64]; omega
    have ez : X.extract 2 (2 + (b.toNat : Int)).toNat = dtD s k := by rw [edt.out hm, show (2 + (b.toNat : Int)).toNat = 2 + b.toNat by omega]
    obtain ⟨dd, edd⟩ : ∃ dd, dtD s k = dd := ⟨_, rfl⟩
    rw [edd] at ez
    replace edd := Lib.hid edd
    go_wp2_with fail
    have c0 := cell_at (hDr HP.out) (4 + k * 2)
    have c1 := cell_at (hDr HP.out) (4 + k * 2 + 1)
    have f0 := free_at (hDr HP.out) (4 + k * 2)
    have f1 := free_at (hDr HP.out) (4 + k * 2 + 1)
    have c2 := cell_at HP.out (4 + k * 2 + 1)
    have f2 := free_at HP.out (4 + k * 2 + 1)
    rw [Array.getElem?_eq_getElem (by simp [pgC]; omega)] at c0
    rw [Array.getElem?_eq_getElem (by simp [pgC]; omega)] at c1
    rw [Array.getElem?_eq_getElem (by simp [pgC]; omega)] at c2
    refine wp_region_held_drew (S := fun _ => True) (by kernel_rfl) trivial (fun hHeld => ?_)
  
    refine wpAnyH_take (i := 0) (oi := ⟨some 73, _, _, _, _, _⟩) (v := .int .i64 k) rfl (by kernel_rfl) (by kernel_rfl) (by kernel_rfl) (fun _ _ _ h => h) (Or.inl ⟨by rfl, ?_⟩) hHeld ?_
    · intro w hSw
      go_simp
      try with_reducible rfl
      try (rw [if_pos (by omega), if_pos (by omega)])
    simp only [Act.put, List.setIfInBounds_toArray, List.set_cons_zero, List.set_cons_succ]
    refine wpAnyH_take (i := 1) (oi := ⟨some 74, _, _, _, _, _⟩) (v := .string X) rfl (by kernel_rfl) (by kernel_rfl) (by kernel_rfl) (fun _ _ _ h => h) (Or.inl ⟨by rfl, ?_⟩) hHeld ?_
    · intro w hSw
      go_simp
      try with_reducible rfl
      try (rw [if_pos (by omega), if_pos (by omega)])
    simp only [Act.put, List.setIfInBounds_toArray, List.set_cons_zero, List.set_cons_succ]
    refine wpAnyH_take (i := 2) (oi := ⟨some 75, _, _, _, _, _⟩) (v := .int .u8 a.toNat) rfl (by kernel_rfl) (by kernel_rfl) (by kernel_rfl) (fun _ _ _ h => h) (Or.inl ⟨by rfl, ?_⟩) hHeld ?_
    · intro w hSw
      go_simp
      try with_reducible rfl
      try (rw [if_pos (by omega), if_pos (by omega)])
    simp only [Act.put, List.setIfInBounds_toArray, List.set_cons_zero, List.set_cons_succ]
    refine wpAnyH_take (i := 3) (oi := ⟨some 76, _, _, _, _, _⟩) (v := .int .i64 a.toNat) rfl (by kernel_rfl) (by kernel_rfl) (by kernel_rfl) (fun _ _ _ h => h) (Or.inl ⟨by rfl, ?_⟩) hHeld ?_
    · intro w hSw
      go_simp
      try with_reducible rfl
      try (rw [if_pos (by omega), if_pos (by omega)])
    simp only [Act.put, List.setIfInBounds_toArray, List.set_cons_zero, List.set_cons_succ]
    refine wpAnyH_take (i := 4) (oi := ⟨some 77, _, _, _, _, _⟩) (v := .string X) rfl (by kernel_rfl) (by kernel_rfl) (by kernel_rfl) (fun _ _ _ h => h) (Or.inl ⟨by rfl, ?_⟩) hHeld ?_
    · intro w hSw
      go_simp
      try with_reducible rfl
      try (rw [if_pos (by omega), if_pos (by omega)])
    simp only [Act.put, List.setIfInBounds_toArray, List.set_cons_zero, List.set_cons_succ]
    refine wpAnyH_take (i := 5) (oi := ⟨some 78, _, _, _, _, _⟩) (v := .int .i64 b.toNat) rfl (by kernel_rfl) (by kernel_rfl) (by kernel_rfl) (fun _ _ _ h => h) (Or.inl ⟨by rfl, ?_⟩) hHeld ?_
    · intro w hSw
      go_simp
      try with_reducible rfl
      try (rw [if_pos (by omega), if_pos (by omega)])
    simp only [Act.put, List.setIfInBounds_toArray, List.set_cons_zero, List.set_cons_succ]
    refine wpAnyH_take (i := 6) (oi := ⟨some 79, _, _, _, _, _⟩) (v := .int .i64 (2 + (b.toNat : Int))) rfl (by kernel_rfl) (by kernel_rfl) (by kernel_rfl) (fun _ _ _ h => h) (Or.inl ⟨by rfl, ?_⟩) hHeld ?_
    · intro w hSw
      go_simp
      try with_reducible rfl
      try (rw [if_pos (by omega), if_pos (by omega)])
    simp only [Act.put, List.setIfInBounds_toArray, List.set_cons_zero, List.set_cons_succ]
    refine wpAnyH_take (i := 7) (oi := ⟨some 80, _, _, _, _, _⟩) (v := .string dd) rfl (by kernel_rfl) (by kernel_rfl) (by kernel_rfl) (fun _ _ _ h => h) (Or.inl ⟨by rfl, ?_⟩) hHeld ?_
    · intro w hSw
      go_simp
      try with_reducible rfl
      try (rw [if_pos (by omega), if_pos (by omega)])
    simp only [Act.put, List.setIfInBounds_toArray, List.set_cons_zero, List.set_cons_succ]
    refine wpAnyH_take (i := 8) (oi := ⟨some 81, _, _, _, _, _⟩) (v := .agg #[.int .i64 a.toNat, .string dd]) rfl (by kernel_rfl) (by kernel_rfl) (by kernel_rfl) (fun _ _ _ h => h) (Or.inl ⟨by rfl, ?_⟩) hHeld ?_
    · intro w hSw
      go_simp
      try with_reducible rfl
      try (rw [if_pos (by omega), if_pos (by omega)])
    simp only [Act.put, List.setIfInBounds_toArray, List.set_cons_zero, List.set_cons_succ]
    refine wpAnyH_take (i := 9) (oi := ⟨some 82, _, _, _, _, _⟩) (v := .pointer (some ⟨w.heap.size + 1, 4, none⟩)) rfl (by kernel_rfl) (by kernel_rfl) (by kernel_rfl) (fun _ _ _ h => h) (Or.inl ⟨by rfl, ?_⟩) hHeld ?_
    · intro w hSw
      go_simp
      try with_reducible rfl
      try (rw [if_pos (by omega), if_pos (by omega)])
    simp only [Act.put, List.setIfInBounds_toArray, List.set_cons_zero, List.set_cons_succ]
    refine wpAnyH_take (i := 10) (oi := ⟨some 83, _, _, _, _, _⟩) (v := .pointer (some ⟨w.heap.size + 1, 4 + k * 2, none⟩)) rfl (by kernel_rfl) (by kernel_rfl) (by kernel_rfl) (fun _ _ _ h => h) (Or.inl ⟨by rfl, ?_⟩) hHeld ?_
    · intro w hSw
      go_simp
      try with_reducible rfl
      try (rw [if_pos (by omega), if_pos (by omega)])
    simp only [Act.put, List.setIfInBounds_toArray, List.set_cons_zero, List.set_cons_succ]
    refine wpAnyH_ready (rs := [11]) (by kernel_rfl) (by simp) ?_
    refine AllReadyH.cons (o := ⟨none, _, _, _, _, _⟩) rfl (fun K hK => ?_) AllReadyH.nil
    go_simp
    refine hK.out _ _ trivial (fun hHeld => ?_)
    clear hK K
    try simp only [Act.put, List.setIfInBounds_toArray, List.set_cons_zero, List.set_cons_succ]
    refine wpAnyH_done (by kernel_rfl) ?_ _
    have HPn : Hid ((World.drew ((wr.setCell ⟨w.heap.size + 1, 4 + k * 2, none⟩ (.int .i64 a.toNat)).setCell ⟨w.heap.size + 1, 4 + k * 2 + 1, none⟩ (.string dd))).heap[w.heap.size + 1]? = some (.cells (pgC (bld s (k + 1))) 49 (0, 0))) := hDr (heap_set_eq (heap_set HP.out (4 + k * 2) (.int .i64 a.toNat)) (bld_next s k hk6 _ _ est.out edd.out))
    have HZn : Hid ((World.drew ((wr.setCell ⟨w.heap.size + 1, 4 + k * 2, none⟩ (.int .i64 a.toNat)).setCell ⟨w.heap.size + 1, 4 + k * 2 + 1, none⟩ (.string dd))).heap[w.heap.size]? = some (.cells (pgC pageZ) 49 (0, 0))) := hDr (hSO (hSO HZ.out (by show _ ≠ w.heap.size + 1; omega)) (by show _ ≠ w.heap.size + 1; omega))
    have HBn : Hid (Below w.heap.size w (World.drew ((wr.setCell ⟨w.heap.size + 1, 4 + k * 2, none⟩ (.int .i64 a.toNat)).setCell ⟨w.heap.size + 1, 4 + k * 2 + 1, none⟩ (.string dd)))) := bD (bS (bS HB.out (by show _ ≤ w.heap.size + 1; omega)) (by show _ ≤ w.heap.size + 1; omega))
    go_wp2_with fail
    go_roundw
    case rel => exact ⟨k + 1, by omega, rfl, hall'.out, HZn.out, HPn.out, HBn.out⟩
    case measure => simp [intOf]; omega

theorem rf_decode (s : ByteArray) (hz : s.size ≤ maxLen) (w : World) : Calls Tryz.prog 85 #[.string s] w fun e w' => (e = .returned (.tuple #[pgV (decP s), .int .i64 0]) ∧ DecOk s ∨ e = .returned (.tuple #[pgV pageZ, .int .i64 40]) ∧ ¬ DecOk s) ∧ Below w.heap.size w w' := by
  by_cases hs : s.size = 224
  · exact rf_decode_go s hs w
  · exact (rf_decode_size s hs hz w).mono fun e w' ⟨he, hb⟩ => ⟨.inr ⟨he, fun h => hs h.1⟩, hb⟩
end Go.Proofs.YtimomjheanfbmaaGreatDoor

namespace Go.Proofs.YtimomjheanfbmaaGreatDoor
open Go.RowKit

/-! ### two pages, compared -/
theorem Tryz.info_cell : (Tryz.prog.info? 33).map (fun i => (i.zero, i.size, i.bytes)) = some (some (.agg #[.int .i64 0, .string .empty]), 2, 24) := by kernel_rfl
def eqCl (s : Int) (d : ByteArray) (s' : Int) (d' : ByteArray) : Bool := s == s' && d.toList == d'.toList
theorem eq_cell (s : Int) (d : ByteArray) (s' : Int) (d' : ByteArray) (w : World) : (Op.equalIn 9998 33 (.agg #[.int .i64 s, .string d]) (.agg #[.int .i64 s', .string d'])).run Tryz.prog w = .ok (eqCl s d s' d') w := by
  have u1 := Tryz.underlying33
  unfold eqCl
  cases h1 : (s == s') <;> cases h2 : (d.toList == d'.toList) <;> (go_simp)
theorem eq_arr6 (X Y : Pg) (w : World) : (Op.equalIn 9999 47 (.agg (pgA X)) (.agg (pgA Y))).run Tryz.prog w =
    .ok (eqCl (X.st 0) (X.dt 0) (Y.st 0) (Y.dt 0) && (eqCl (X.st 1) (X.dt 1) (Y.st 1) (Y.dt 1) && (eqCl (X.st 2) (X.dt 2) (Y.st 2) (Y.dt 2) && (eqCl (X.st 3) (X.dt 3) (Y.st 3) (Y.dt 3) && (eqCl (X.st 4) (X.dt 4) (Y.st 4) (Y.dt 4) && eqCl (X.st 5) (X.dt 5) (Y.st 5) (Y.dt 5)))))) w := by
  obtain ⟨i0, hi, hz0, hz1, hz2⟩ := info_parts Tryz.info_cell
  have hs : (sizeOf 33).run Tryz.prog w = .ok 2 w := by simp [sizeOf, typeInfo, hi, hz1]
  unfold pgA
  rw [run_equalIn_array w 9998 47 33 6 i0 _ _ Tryz.underlying47 hi, hz1]
  have hr : List.range 6 = [0, 1, 2, 3, 4, 5] := rfl
  rw [hr]
  have e0 := eq_cell (X.st 0) (X.dt 0) (Y.st 0) (Y.dt 0) w
  have e1 := eq_cell (X.st 1) (X.dt 1) (Y.st 1) (Y.dt 1) w
  have e2 := eq_cell (X.st 2) (X.dt 2) (Y.st 2) (Y.dt 2) w
  have e3 := eq_cell (X.st 3) (X.dt 3) (Y.st 3) (Y.dt 3) w
  have e4 := eq_cell (X.st 4) (X.dt 4) (Y.st 4) (Y.dt 4) w
  have e5 := eq_cell (X.st 5) (X.dt 5) (Y.st 5) (Y.dt 5) w
  generalize eqCl (X.st 0) _ _ _ = b0 at *
  generalize eqCl (X.st 1) _ _ _ = b1 at *
  generalize eqCl (X.st 2) _ _ _ = b2 at *
  generalize eqCl (X.st 3) _ _ _ = b3 at *
  generalize eqCl (X.st 4) _ _ _ = b4 at *
  generalize eqCl (X.st 5) _ _ _ = b5 at *
  cases b0 with
  | false => simp [eqElems, part, isAgg, Sem.run_bind, run_underlying Tryz.underlying33, Result.andThen_ok, Sem.run_pure, Sem.run_ite, hs, e0, e1, e2, e3, e4, e5]
  | true =>
    cases b1 with
    | false => simp [eqElems, part, isAgg, Sem.run_bind, run_underlying Tryz.underlying33, Result.andThen_ok, Sem.run_pure, Sem.run_ite, hs, e0, e1, e2, e3, e4, e5]
    | true =>
      cases b2 with
      | false => simp [eqElems, part, isAgg, Sem.run_bind, run_underlying Tryz.underlying33, Result.andThen_ok, Sem.run_pure, Sem.run_ite, hs, e0, e1, e2, e3, e4, e5]
      | true =>
        cases b3 with
        | false => simp [eqElems, part, isAgg, Sem.run_bind, run_underlying Tryz.underlying33, Result.andThen_ok, Sem.run_pure, Sem.run_ite, hs, e0, e1, e2, e3, e4, e5]
        | true =>
          cases b4 with
          | false => simp [eqElems, part, isAgg, Sem.run_bind, run_underlying Tryz.underlying33, Result.andThen_ok, Sem.run_pure, Sem.run_ite, hs, e0, e1, e2, e3, e4, e5]
          | true =>
            cases b5 with
            | false => simp [eqElems, part, isAgg, Sem.run_bind, run_underlying Tryz.underlying33, Result.andThen_ok, Sem.run_pure, Sem.run_ite, hs, e0, e1, e2, e3, e4, e5]
            | true =>
              simp [eqElems, part, isAgg, Sem.run_bind, run_underlying Tryz.underlying33, Result.andThen_ok, Sem.run_pure, Sem.run_ite, hs, e0, e1, e2, e3, e4, e5]
def eqPg (X Y : Pg) : Bool := X.kind == Y.kind && (X.level == Y.level && (X.store == Y.store && (X.next == Y.next && (eqCl (X.st 0) (X.dt 0) (Y.st 0) (Y.dt 0) && (eqCl (X.st 1) (X.dt 1) (Y.st 1) (Y.dt 1) && (eqCl (X.st 2) (X.dt 2) (Y.st 2) (Y.dt 2) && (eqCl (X.st 3) (X.dt 3) (Y.st 3) (Y.dt 3) && (eqCl (X.st 4) (X.dt 4) (Y.st 4) (Y.dt 4) && eqCl (X.st 5) (X.dt 5) (Y.st 5) (Y.dt 5)))))))))
set_option maxRecDepth 100000 in
set_option maxHeartbeats 3200000 in
theorem run_eq_pg (X Y : Pg) (w : World) : (binOp .eql 49 (.agg (pgC X)) (.agg (pgC Y))).run Tryz.prog w = .ok (.bool (eqPg X Y)) w := by
  have u1 := Tryz.underlying49
  have h6 := eq_arr6 X Y w
  unfold eqPg
  unfold pgA at h6
  unfold pgC
  generalize (eqCl (X.st 0) _ _ _ && _) = b at *
  cases h1 : (X.kind == Y.kind) <;> cases h2 : (X.level == Y.level) <;> cases h3 : (X.store == Y.store) <;> cases h4 : (X.next == Y.next) <;> cases b <;> (go_simp)
theorem eqCl_iff (s : Int) (d : ByteArray) (s' : Int) (d' : ByteArray) : eqCl s d s' d' = true ↔ s = s' ∧ d = d' := by
  unfold eqCl
  rw [Bool.and_eq_true, beq_iff_eq, beq_iff_eq]
  exact ⟨fun h => ⟨h.1, by have := h.2; rw [ByteArray.toList_eq, ByteArray.toList_eq] at this; exact ba_ext this⟩, fun h => ⟨h.1, by rw [h.2]⟩⟩
theorem eqPg_same {X Y : Pg} (h : pgC X = pgC Y) : eqPg X Y = true := by
  unfold pgC at h
  simp only [Array.mk.injEq, List.cons.injEq, Value.int.injEq, Value.string.injEq, true_and, and_true] at h
  obtain ⟨h1, h2, h3, h4, h5, h6, h7, h8, h9, h10, h11, h12, h13, h14, h15, h16⟩ := h
  unfold eqPg
  simp only [Bool.and_eq_true, beq_iff_eq, eqCl_iff]
  simp [*]
end Go.Proofs.YtimomjheanfbmaaGreatDoor

namespace Go.Proofs.YtimomjheanfbmaaGreatDoor
open Go.RowKit

theorem wpList_eq_pg {ops : Array Oper} {rest : List Oper} {o : Oper} {a : Act} {w : World} {Q : Exit → Act → World → Prop} (hw : Region.wanted o (yielded ops a.tmps) = true) (x y : Operand) (r : TypeId) (ho : o.op = .binOp .eql 49 x y r)
    (X Y : Pg) (b : Bool) (hb : eqPg X Y = b) (hx : a.eval x = .agg (pgC X)) (hy : a.eval y = .agg (pgC Y)) (h : wpList Tryz.prog ops Q rest (a.put o.dst (.bool b)) w) : wpList Tryz.prog ops Q (o :: rest) a w :=
  wpList_want hw fun K hK => by
    subst hb
    unfold Oper.wp execOp
    simp only [ho, hx, hy, Sem.run_bind, Sem.run_pure, Result.andThen_ok, run_eqGuard_agg (P := Tryz.prog) w .eql 49 x y _ _ (by kernel_rfl), run_eq_pg X Y w]
    exact hK _ _ h
/-! ### awake -/
def awP : Pg := { kind := 3, level := 0, store := 258, next := 5, st := fun i => if i = 0 then 1 else 0, dt := fun i => if i = 0 then ⟨#[97, 98]⟩ else ⟨#[]⟩ }
theorem awP_ok : PgOk awP := by
  refine ⟨by unfold HdOk awP; decide, fun i hi => ?_⟩
  unfold ClOk awP
  match i, hi with
  | 0, _ => decide
  | 1, _ => decide
  | 2, _ => decide
  | 3, _ => decide
  | 4, _ => decide
  | 5, _ => decide
theorem awP_head : (pageS awP).extract 0 12 = ⟨#[3, 0, 2, 1, 5, 0, 0, 0, 1, 2, 97, 98]⟩ := by decide +kernel
def k5P : Pg := { pageZ with kind := 5 }
theorem k5P_no : ¬ PgOk k5P := fun h => by have := h.1; unfold HdOk k5P at this; simp at this
theorem aw_facts : ∃ (A D : Pg) (S : ByteArray), pgC A = #[.int .i64 3, .int .i64 0, .int .i64 258, .int .i64 5, .int .i64 1, .string ⟨#[97, 98]⟩, .int .i64 0, .string ⟨#[]⟩, .int .i64 0, .string ⟨#[]⟩, .int .i64 0, .string ⟨#[]⟩, .int .i64 0, .string ⟨#[]⟩, .int .i64 0, .string ⟨#[]⟩] ∧ S.size = 224 ∧ S.extract 0 12 = ⟨#[3, 0, 2, 1, 5, 0, 0, 0, 1, 2, 97, 98]⟩ ∧ eqPg D A = true
    ∧ (∀ w, Calls Tryz.prog 123 #[.agg (pgC A)] w fun e w' => e = .returned (.tuple #[.string S, .int .i64 0]) ∧ Below w.heap.size w w')
    ∧ (∀ w, Calls Tryz.prog 67 #[.string S] w fun e w' => e = .returned (.tuple #[.agg (pgC D), .int .i64 0]) ∧ Below w.heap.size w w') := by
  refine ⟨awP, decP (pageS awP), pageS awP, rfl, pageS_size awP_ok, awP_head, eqPg_same (dec_enc awP_ok), fun w => pg_encode_ok awP awP_ok w, fun w => (pg_decode (pageS awP) (by rw [pageS_size awP_ok]; unfold maxLen; omega) w).mono ?_⟩
  rintro e w' ⟨h, hb⟩
  exact ⟨h.elim (fun h => h.1) (fun h => absurd (dec_ok awP_ok) h.2), hb⟩
theorem k5_check (w : World) : Calls Tryz.prog 80 #[.agg #[.int .i64 5, .int .i64 0, .int .i64 0, .int .i64 0, .int .i64 0, .string ⟨#[]⟩, .int .i64 0, .string ⟨#[]⟩, .int .i64 0, .string ⟨#[]⟩, .int .i64 0, .string ⟨#[]⟩, .int .i64 0, .string ⟨#[]⟩, .int .i64 0, .string ⟨#[]⟩]] w fun e w' => e = .returned (.int .i64 1) ∧ Below w.heap.size w w' :=
  (pg_check k5P (fun i hi => by unfold k5P pageZ maxLen; show (0 : Nat) ≤ _; omega) w).mono fun e w' ⟨h, hb⟩ => ⟨h.elim (fun h => absurd h.2 k5P_no) (fun h => h.1), hb⟩
end Go.Proofs.YtimomjheanfbmaaGreatDoor
