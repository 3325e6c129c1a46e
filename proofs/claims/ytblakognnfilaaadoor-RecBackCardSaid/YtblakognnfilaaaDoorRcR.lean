import Derived.Test.YtblakognnfilaaaDoorRcP
set_option linter.unusedSimpArgs false
set_option linter.unusedVariables false
namespace Go.Proofs.YtblakognnfilaaaDoor
open Go.RowKit

/-! ### RecBack -/
theorem dec_none {s : ByteArray} (hd : decR s = none) {e : Ending} {w : World} (h : DecIs s e w) : e = .returned (.tuple #[.agg (rcC rcZ nilS nilS), .int .i64 40]) :=
  h.elim (fun ⟨R, iv, lv, h1, _⟩ => by rw [hd] at h1; cases h1) (fun h => h.2)
theorem dec_some {s : ByteArray} {Q : Rc} (hd : decR s = some Q) {e : Ending} {w : World} (h : DecIs s e w) : ∃ iv lv, e = .returned (.tuple #[.agg (rcC Q iv lv), .int .i64 0]) ∧ RcSl w Q iv lv :=
  h.elim (fun ⟨R, iv, lv, h1, h2, h3⟩ => by rw [hd] at h1; obtain rfl := Option.some.inj h1; exact ⟨iv, lv, h2, h3⟩) (fun h => by rw [hd] at h; cases h.1)
set_option maxRecDepth 100000 in
set_option maxHeartbeats 16000000 in
theorem recBack_walk (v0 : Value) (R : Rc) (s : ByteArray) (hs : s.size ≤ maxLen) (w : World) (h0 : RcIs w v0 R) : Calls Tryd.prog 5 #[v0, .string s] w fun e w' => e = .returned (.bool true) ∧ Below w.heap.size w w' := by
  obtain ⟨iv, lv, rfl, hsl⟩ := h0
  have HA := Lib.hid (fun w => awake06 w)
  obtain ⟨S, n, hS, HE⟩ := rc_encs R
  replace HE := Lib.hid (HE.out iv lv)
  have hn : n = 0 ∨ n = 1 := hS.imp (fun h => h.2.2) (fun h => h.2.2)
  have hok : Hid (n = 0 → RcOk R ∧ S = rcS R) := fun e => by
    obtain ⟨k1, k2, -⟩ := hS.resolve_right (fun h => by omega)
    exact ⟨k1, k2⟩
  clear hS
  have HP : Hid ((w.alloc (.cells (rcC R iv lv) 29)).heap[w.heap.size]? = some (.cells (rcC R iv lv) 29 (0, 0))) := hN rfl
  have HB := Lib.hid (bA (o := .cells (rcC R iv lv) 29) (bR (w := w)))
  replace hsl := Lib.hid (hsl.later HB.out)
  have HDs := Lib.hid (fun w => rc_decode s hs w)
  go_enter Tryd.func5, Tryd.ntmps5
  go_wp2_with fail
  refine (HA.out _).mono ?_
  rintro e w1 ⟨rfl, hb⟩
  replace HP := Lib.hid (hBs hb HP.out)
  replace hsl := Lib.hid (hsl.out.later hb)
  replace HB := Lib.hid (bT HB.out hb)
  clear hb HA
  go_wp2_with (refine wpList_load_row rfl 29 _ rfl _ rfl 29 _ _ _ HP.out Tryd.underlying29 rfl (by kernel_rfl) ?_)
  refine (HE.out _ hsl.out).mono ?_
  rintro e w2 ⟨rfl, hb⟩
  replace HP := Lib.hid (hBs hb HP.out)
  replace hsl := Lib.hid (hsl.out.later hb)
  replace HB := Lib.hid (bT HB.out hb)
  clear hb HE
  rcases hn with rfl | rfl
  rotate_left
  · clear hok
    go_wp2_with fail
    refine (HDs.out _).mono ?_
    rintro e wa ⟨h, hb⟩
    replace HB := Lib.hid (bT HB.out hb)
    have hza := HB.out.size
    cases hdd : decR s with
    | none =>
      obtain rfl := dec_none hdd h
      clear hb h HDs HP hsl
      have HZ : Hid ((wa.alloc (.cells (rcC rcZ nilS nilS) 29)).heap[wa.heap.size]? = some (.cells (rcC rcZ nilS nilS) 29 (0, 0))) := hN rfl
      have HBa : Hid (Below w.heap.size w (wa.alloc (.cells (rcC rcZ nilS nilS) 29))) := bA HB.out
      go_wp2_with (first
        | (refine wpList_store_whole rfl 29 _ _ rfl _ (rcC rcZ nilS nilS) rfl rfl _ (rcC rcZ nilS nilS) HZ.out rfl (by kernel_rfl) (rcC_one rfl rfl) ?_; intro wq HRq KQ; (have HBq := Lib.hid (bK HBa.out KQ.out (fun j hj => by omega))); clear KQ HZ HBa)
        | (refine wpList_load_row rfl 29 _ rfl wa.heap.size rfl 29 _ _ _ HRq.out Tryd.underlying29 rfl (by kernel_rfl) ?_))
      refine (rr_same rcZ rcZ nilS nilS nilS nilS _ (empty_sl rfl rfl rfl rfl _) (empty_sl rfl rfl rfl rfl _)).mono ?_
      rintro e wb ⟨h, hb⟩
      obtain rfl := h.elim (fun h => h.1) (fun h => absurd (SameRc.refl rcZ) h.2)
      have HBe := Lib.hid (bT HBq.out hb)
      clear hb h
      go_wp2_with fail
      go_ret
      exact ⟨rfl, HBe.out⟩
    | some Q =>
      obtain ⟨iv2, lv2, rfl, hq⟩ := dec_some hdd h
      obtain ⟨hQok, hQs⟩ := decR_back hdd
      obtain ⟨h1c, h2c⟩ := hq.ones
      have HEq := Lib.hid (fun w h => rc_encode_ok Q iv2 lv2 w h hQok)
      rw [hQs] at HEq
      replace hq := Lib.hid hq
      clear hb h HDs HP hsl hQs hQok hdd
      have HZ : Hid ((wa.alloc (.cells (rcC rcZ nilS nilS) 29)).heap[wa.heap.size]? = some (.cells (rcC rcZ nilS nilS) 29 (0, 0))) := hN rfl
      have HBl := bA (o := .cells (rcC rcZ nilS nilS) 29) (bR (w := wa))
      have HBa : Hid (Below wa.heap.size wa (wa.alloc (.cells (rcC rcZ nilS nilS) 29))) := HBl
      clear HBl
      go_wp2_with (first
        | (refine wpList_store_whole rfl 29 _ _ rfl _ (rcC Q iv2 lv2) rfl rfl _ (rcC rcZ nilS nilS) HZ.out rfl (by kernel_rfl) (rcC_one h1c h2c) ?_; intro wq HRq KQ; (have HBq := Lib.hid (bK HBa.out KQ.out (fun j hj => by omega))); clear KQ HZ HBa)
        | (refine wpList_load_row rfl 29 _ rfl wa.heap.size rfl 29 _ _ _ HRq.out Tryd.underlying29 rfl (by kernel_rfl) ?_))
      refine (HEq.out _ (hq.out.later HBq.out)).mono ?_
      rintro e wb ⟨rfl, hb⟩
      have HBe := Lib.hid (bT (bT HB.out HBq.out) hb)
      clear hb
      have hself : (s.toList == s.toList) = true := beq_self_eq_true _
      go_wp2_with fail
      go_ret
      exact ⟨rfl, HBe.out⟩
  obtain ⟨hRok, rfl⟩ := hok.out rfl
  have hz := rcS_size hRok
  obtain ⟨Q1, hd1, hsm⟩ := dec_same hRok
  have hd2 := dec_less hRok ((rcS R).size - 1) (by omega)
  have hd3 := dec_more hRok ⟨#[0]⟩ (by decide)
  obtain ⟨-, -, -, -, -, -, -, -, -, k3, -, k4, k5, k6⟩ := hRok.1
  have hzz : 37 ≤ (rcS R).size ∧ (rcS R).size ≤ 6000 := by omega
  clear hz k3 k4 k5 k6 hok hRok
  obtain ⟨S, hS⟩ : ∃ S, rcS R = S := ⟨_, rfl⟩
  rw [hS] at hd1 hd2 hd3 hzz ⊢
  obtain ⟨z1, z2⟩ := hzz
  have HD1 := Lib.hid (fun w => rc_decode S (by unfold maxLen; omega) w)
  have HD2 := Lib.hid (fun w => rc_decode (S.extract 0 (S.size - 1)) (by rw [ByteArray.size_extract]; unfold maxLen; omega) w)
  have HD3 := Lib.hid (fun w => rc_decode (S ++ ⟨#[0]⟩) (by rw [ByteArray.size_append]; unfold maxLen; show S.size + 1 ≤ _; omega) w)
  replace hd1 := Lib.hid hd1
  replace hd2 := Lib.hid hd2
  replace hd3 := Lib.hid hd3
  replace hsm := Lib.hid hsm
  replace hS := Lib.hid hS
  go_wp2_with fail
  refine (HD1.out _).mono ?_
  rintro e w3 ⟨h, hb⟩
  obtain ⟨iv1, lv1, rfl, hq1⟩ := dec_some hd1.out h
  replace HP := Lib.hid (hBs hb HP.out)
  replace hsl := Lib.hid (hsl.out.later hb)
  replace HB := Lib.hid (bT HB.out hb)
  obtain ⟨h1c, h2c⟩ := hq1.ones
  replace hq1 := Lib.hid hq1
  clear hb h HD1 hd1
  have HZ : Hid ((w3.alloc (.cells (rcC rcZ nilS nilS) 29)).heap[w3.heap.size]? = some (.cells (rcC rcZ nilS nilS) 29 (0, 0))) := hN rfl
  have HBa : Hid (Below w3.heap.size w3 (w3.alloc (.cells (rcC rcZ nilS nilS) 29))) := bA bR
  have hzi : (S.size : Int) - 1 = ((S.size - 1 : Nat) : Int) := by omega
  have hzi2 := Lib.hid hzi
  clear hzi
  go_wp2_with (refine wpList_store_whole rfl 29 _ _ rfl _ (rcC Q1 iv1 lv1) rfl rfl _ (rcC rcZ nilS nilS) HZ.out rfl (by kernel_rfl) (rcC_one h1c h2c) ?_; intro wz HRz KZ; (have HBz := Lib.hid (bK HBa.out KZ.out (fun j hj => by omega))); clear KZ HZ HBa)
  refine (HD2.out _).mono ?_
  rintro e w4 ⟨h, hb⟩
  obtain rfl := dec_none hd2.out h
  have HK4 := bT HBz.out hb
  have HT4 := Lib.hid (hBs hb HRz.out)
  replace HP := Lib.hid (hBs HK4 HP.out)
  replace hsl := Lib.hid (hsl.out.later HK4)
  replace hq1 := Lib.hid (hq1.out.later HK4)
  replace HB := Lib.hid (bT HB.out HK4)
  have ht4 := block_lt HT4.out
  clear hb h HD2 hd2 HK4 HBz HRz
  have HZ : Hid ((w4.alloc (.cells (rcC rcZ nilS nilS) 29)).heap[w4.heap.size]? = some (.cells (rcC rcZ nilS nilS) 29 (0, 0))) := hN rfl
  have HBa : Hid (Below w4.heap.size w4 (w4.alloc (.cells (rcC rcZ nilS nilS) 29))) := bA bR
  have hl3 : ¬ 9223372036854775807 < S.size + 1 := by omega
  go_wp2_with (refine wpList_store_whole rfl 29 _ _ rfl _ (rcC rcZ nilS nilS) rfl rfl _ (rcC rcZ nilS nilS) HZ.out rfl (by kernel_rfl) (rcC_one rfl rfl) ?_; intro wy HRy KY; (have HBy := Lib.hid (bK HBa.out KY.out (fun j hj => by omega))); clear KY HZ HBa HRy)
  refine (HD3.out _).mono ?_
  rintro e w5 ⟨h, hb⟩
  obtain rfl := dec_none hd3.out h
  have HK5 := bT HBy.out hb
  have HT5 := Lib.hid (hBs HK5 HT4.out)
  replace HP := Lib.hid (hBs HK5 HP.out)
  replace hsl := Lib.hid (hsl.out.later HK5)
  replace hq1 := Lib.hid (hq1.out.later HK5)
  replace HB := Lib.hid (bT HB.out HK5)
  have hp5 := block_lt HP.out
  have ht5 := block_lt HT5.out
  clear hb h HD3 hd3 HK5 HBy HT4
  have HZ : Hid ((w5.alloc (.cells (rcC rcZ nilS nilS) 29)).heap[w5.heap.size]? = some (.cells (rcC rcZ nilS nilS) 29 (0, 0))) := hN rfl
  have HBa : Hid (Below w5.heap.size w5 (w5.alloc (.cells (rcC rcZ nilS nilS) 29))) := bA bR
  go_wp2_with (first
    | (refine wpList_store_whole rfl 29 _ _ rfl _ (rcC rcZ nilS nilS) rfl rfl _ (rcC rcZ nilS nilS) HZ.out rfl (by kernel_rfl) (rcC_one rfl rfl) ?_; intro wx HRx KX; (have HBx := Lib.hid (bK HBa.out KX.out (fun j hj => by omega))); (have HPx := Lib.hid (hBs HBx.out HP.out)); (have HTx := Lib.hid (hBs HBx.out HT5.out)); clear KX HZ HBa HRx)
    | (refine wpList_load_want (by rfl) 29 _ rfl w3.heap.size rfl 29 _ _ _ HTx.out Tryd.underlying29 rfl (by kernel_rfl) ?_)
    | (refine wpList_load_want (by rfl) 29 _ rfl w.heap.size rfl 29 _ _ _ HPx.out Tryd.underlying29 rfl (by kernel_rfl) ?_))
  refine (rr_same Q1 R iv1 lv1 iv lv _ (hq1.out.later HBx.out) (hsl.out.later HBx.out)).mono ?_
  rintro e w6 ⟨h, hb⟩
  obtain rfl := h.elim (fun h => h.1) (fun h => absurd hsm.out h.2)
  have HK6 := bT HBx.out hb
  replace HP := Lib.hid (hBs HK6 HP.out)
  replace hsl := Lib.hid (hsl.out.later HK6)
  replace HB := Lib.hid (bT HB.out HK6)
  clear hb h HK6 HBx HTx HPx HT5 hq1 hsm
  go_wp2_with fail
  refine (HDs.out _).mono ?_
  rintro e wa ⟨h, hb⟩
  replace HB := Lib.hid (bT HB.out hb)
  have hza := HB.out.size
  cases hdd : decR s with
  | none =>
    obtain rfl := dec_none hdd h
    clear hb h HDs HP hsl
    have HZ : Hid ((wa.alloc (.cells (rcC rcZ nilS nilS) 29)).heap[wa.heap.size]? = some (.cells (rcC rcZ nilS nilS) 29 (0, 0))) := hN rfl
    have HBa : Hid (Below w.heap.size w (wa.alloc (.cells (rcC rcZ nilS nilS) 29))) := bA HB.out
    go_wp2_with (first
      | (refine wpList_store_whole rfl 29 _ _ rfl _ (rcC rcZ nilS nilS) rfl rfl _ (rcC rcZ nilS nilS) HZ.out rfl (by kernel_rfl) (rcC_one rfl rfl) ?_; intro wq HRq KQ; (have HBq := Lib.hid (bK HBa.out KQ.out (fun j hj => by omega))); clear KQ HZ HBa)
      | (refine wpList_load_row rfl 29 _ rfl wa.heap.size rfl 29 _ _ _ HRq.out Tryd.underlying29 rfl (by kernel_rfl) ?_))
    refine (rr_same rcZ rcZ nilS nilS nilS nilS _ (empty_sl rfl rfl rfl rfl _) (empty_sl rfl rfl rfl rfl _)).mono ?_
    rintro e wb ⟨h, hb⟩
    obtain rfl := h.elim (fun h => h.1) (fun h => absurd (SameRc.refl rcZ) h.2)
    have HBe := Lib.hid (bT HBq.out hb)
    clear hb h
    go_wp2_with fail
    go_ret
    exact ⟨rfl, HBe.out⟩
  | some Q =>
    obtain ⟨iv2, lv2, rfl, hq⟩ := dec_some hdd h
    obtain ⟨hQok, hQs⟩ := decR_back hdd
    obtain ⟨h1c, h2c⟩ := hq.ones
    have HEq := Lib.hid (fun w h => rc_encode_ok Q iv2 lv2 w h hQok)
    rw [hQs] at HEq
    replace hq := Lib.hid hq
    clear hb h HDs HP hsl hQs hQok hdd
    have HZ : Hid ((wa.alloc (.cells (rcC rcZ nilS nilS) 29)).heap[wa.heap.size]? = some (.cells (rcC rcZ nilS nilS) 29 (0, 0))) := hN rfl
    have HBl := bA (o := .cells (rcC rcZ nilS nilS) 29) (bR (w := wa))
    have HBa : Hid (Below wa.heap.size wa (wa.alloc (.cells (rcC rcZ nilS nilS) 29))) := HBl
    clear HBl
    go_wp2_with (first
      | (refine wpList_store_whole rfl 29 _ _ rfl _ (rcC Q iv2 lv2) rfl rfl _ (rcC rcZ nilS nilS) HZ.out rfl (by kernel_rfl) (rcC_one h1c h2c) ?_; intro wq HRq KQ; (have HBq := Lib.hid (bK HBa.out KQ.out (fun j hj => by omega))); clear KQ HZ HBa)
      | (refine wpList_load_row rfl 29 _ rfl wa.heap.size rfl 29 _ _ _ HRq.out Tryd.underlying29 rfl (by kernel_rfl) ?_))
    refine (HEq.out _ (hq.out.later HBq.out)).mono ?_
    rintro e wb ⟨rfl, hb⟩
    have HBe := Lib.hid (bT (bT HB.out HBq.out) hb)
    clear hb
    have hself : (s.toList == s.toList) = true := beq_self_eq_true _
    go_wp2_with fail
    go_ret
    exact ⟨rfl, HBe.out⟩
end Go.Proofs.YtblakognnfilaaaDoor
