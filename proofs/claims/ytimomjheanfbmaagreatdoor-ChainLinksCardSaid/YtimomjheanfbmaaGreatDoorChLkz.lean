import Derived.Test.YtimomjheanfbmaaGreatDoorChUz
set_option linter.unusedSimpArgs false
set_option linter.unusedVariables false
namespace Go.Proofs.YtimomjheanfbmaaGreatDoor
open Go.RowKit

set_option maxRecDepth 100000 in
set_option maxHeartbeats 1600000 in
theorem chainLinks_walk (v : Value) (cs : List LCall) (w : World) (h : LcIs w v cs) :
    Calls Tryz.prog 3 #[v] w fun e w' => e = .returned (.bool true) ∧ Below w.heap.size w w' := by
  have HA := Lib.hid awake18
  obtain ⟨va, vc, rfl⟩ := h.form
  have hmx := h.max
  unfold maxLen at hmx
  obtain ⟨n, hn⟩ : ∃ n, cs.length = n := ⟨_, rfl⟩
  rw [hn] at h hmx ⊢
  replace hn := Lib.hid hn
  have H := Lib.hid h
  clear h
  go_enter Tryz.func3, Tryz.ntmps3
  go_wp2_with fail
  refine (HA.out _).mono ?_
  rintro e w1 ⟨rfl, hb⟩
  have HB1 := Lib.hid hb
  clear hb HA
  by_cases hbig : 100 < n
  · have b1 : decide (100 < (n : Int)) = true := by apply decide_eq_true; omega
    go_wp2_with fail
    go_ret
    exact ⟨rfl, HB1.out⟩
  have b1 : decide (100 < (n : Int)) = false := by apply decide_eq_false; omega
  have hn100 : Hid (n ≤ 100) := by show n ≤ 100; omega
  clear hbig hmx
  have HM := Lib.hid (cx_made w w1 [] (fun k hk => by cases hk) HB1.out 1 (by omega))
  go_wp2_with fail
  refine (HM.out).mono ?_
  rintro e w2 ⟨c, lp, p, dp, lb, mb, rfl, hx, -⟩
  have HX2 := Lib.hid hx
  clear hx HM
  have HN := Lib.hid (mx_new 54 6912 1 w2)
  go_wp2_with fail
  refine (HN.out).mono ?_
  rintro e w3 ⟨m, g, rfl, hm, hb, hm1, hg1⟩
  have HM3 := Lib.hid hm
  have HX3 : Hid (Cx w w3 [m, g] c lp p dp 6 lb mb 0 (.slice none 0 0) (CS.init 1)) := HX2.out.more hb [m, g] hm.lt (fun k hk => .inr (by simp at hk; rcases hk with rfl | rfl <;> assumption))
  have hgw : Hid (w.heap.size ≤ g) := Nat.le_trans (HX2.out.bel).size hg1
  have hmg : Hid (m ≠ g) := hm.nd
  clear hm hb hm1 hg1 HN HX2 HB1
  go_wp2_with fail
  go_loopw [36] (fun x wr => ∃ (k : Nat) (σ : CS) (nk : Nat) (lv : Value) (f : Nat → Pg), k ≤ n ∧ x = .int .i64 k ∧ Hid (Cx w wr [m, g] c lp p dp 6 lb mb nk lv σ) ∧ Hid (Mx wr m g f) ∧ Hid (∀ i, i < 6 → PgOk (f i)) ∧ Hid (Inv 6 σ) ∧ Hid (σ.fresh ≤ 1 + k ∧ σ.cnt ≤ 1000 * k)) (fun x _ => n - (intOf x).toNat)
  case atStart => exact ⟨0, CS.init 1, 0, _, _, by omega, rfl, HX3, HM3, fun i hi => by decide, Inv.init 6 1 (by omega), by show (1 : Int) ≤ 1 + ((0 : Nat) : Int); omega, by show 0 ≤ 1000 * 0; omega⟩
  case round =>
    clear HX3 HM3
    obtain ⟨k, σ, nk, lv, f, hk, rfl, HX, HMx, HF, HI, HC⟩ := hrel
    by_cases hkn : k < n
    · obtain ⟨y, hy⟩ : ∃ y, cs[k]? = some y := ⟨_, List.getElem?_eq_getElem (by rw [hn.out]; exact hkn)⟩
      obtain ⟨b, off, rfl, hbl, hrg, hyo⟩ := H.out.at k y hy
      have HRg := Lib.hid (range_below hrg hbl HX.out.bel)
      have hkI : (k : Int) < n := by omega
      have hk0 : (0 : Int) ≤ k := by omega
      have hkw : IntKind.i64.wrap ((k : Int) + 1) = (k : Int) + 1 := by have := hn100.out; rw [IntKind.wrap_i64]; omega
      have HN : Hid ((wr.alloc (.cells (lcL lcZ).toArray 35)).heap[wr.heap.size]? = some (.cells (lcL lcZ).toArray 35 (0, 0))) := hN rfl
      have hyo' := Lib.hid hyo
      have hkN := Lib.hid hkn
      clear hrg hy hyo hk hkn
      go_upto_region 12 with (first
        | (refine wpList_load_mid rfl 35 _ rfl b (off + k * 8) rfl (lcL y) _ HRg.out Tryz.underlying35 rfl lcl_info ?_)
        | (refine wpList_store_whole rfl 35 _ _ rfl _ (lcL y).toArray rfl rfl _ _ HN.out rfl lcl_info (fun v hv => lcL_cells y v (by simpa using hv)) ?_; intro w5 HC5 K5; (have HK5 : Hid (Keeps (fun _ => False) wr w5) := ((Keeps.refl (fun _ => False) wr).alloc _).trans K5.out (fun q hq e => by omega)); clear HN K5))
      obtain ⟨ck, cx, cn⟩ := lc_at HC5.out
      have HX5 := Lib.hid (HX.out.later HK5.out.below)
      have HM5 := Lib.hid (HMx.out.later HK5.out.below)
      clear HX HMx HRg
      by_cases h0 : y.kind = 0
      · have HBg := Lib.hid (cx_begin_inv HX5.out HI.out (by have := HC.out.1; have := hn100.out; have := hkN.out; omega) (by have := HC.out.2; have := hn100.out; have := hkN.out; omega))
        go_wp2_with fail
        refine (HBg.out).mono ?_
        rintro e w6 ⟨a, b', n', lv', σ', rfl, hk6, hx6, hi6, hf6, hc6⟩
        have HX6 := Lib.hid hx6
        have HI6 := Lib.hid hi6
        have HM6 : Hid (Mx w6 m g f) := HM5.out.keep hk6 (fun q hq h => h.2 hq)
        have HC6 : Hid (σ'.fresh ≤ 1 + ((k + 1 : Nat) : Int) ∧ σ'.cnt ≤ 1000 * (k + 1)) := ⟨by have := HC.out.1; push_cast; omega, by have := HC.out.2; omega⟩
        clear hk6 hx6 hi6 hf6 hc6 HBg HX5 HM5 ck cx cn HC5
        go_wp2_with fail
        go_roundw
        case rel => exact ⟨k + 1, σ', n', lv', f, hkN.out, rfl, HX6, HM6, HF, HI6, HC6⟩
        case measure => have := hkN.out; simp [intOf]; omega
      by_cases h2 : y.kind = 2
      · have HBk := Lib.hid (cx_back_inv HX5.out HI.out y.x (max y.n 0) (by have := HC.out.1; have := hn100.out; have := hkN.out; omega) (by have := HC.out.2; have := hn100.out; have := hkN.out; omega))
        unfold kitV at HBk
        go_wp2_with fail
        refine (HBk.out).mono ?_
        rintro e w6 ⟨cd, n', σ', rfl, hk6, hx6, hi6, hf6, hc6⟩
        have HX6 := Lib.hid hx6
        have HI6 := Lib.hid hi6
        have HM6 : Hid (Mx w6 m g f) := HM5.out.keep hk6 (fun q hq h => h.2 hq)
        have HC6 : Hid (σ'.fresh ≤ 1 + ((k + 1 : Nat) : Int) ∧ σ'.cnt ≤ 1000 * (k + 1)) := ⟨by have := HC.out.1; push_cast; omega, by have := HC.out.2; omega⟩
        clear hk6 hx6 hi6 hf6 hc6 HBk HX5 HM5 ck cx cn HC5
        go_wp2_with fail
        go_roundw
        case rel => exact ⟨k + 1, σ', n', lv, f, hkN.out, rfl, HX6, HM6, HF, HI6, HC6⟩
        case measure => have := hkN.out; simp [intOf]; omega
      have HIm := Lib.hid (mx_image HM5.out y)
      go_wp2_with (refine wpList_load_row rfl 35 _ rfl _ rfl 35 _ _ _ HC5.out Tryz.underlying35 rfl lcl_info ?_)
      refine (HIm.out).mono ?_
      rintro e w6 ⟨ib, rfl, hib, hb6, hibl⟩
      have HX6 : Hid (Cx w w6 [ib, m, g] c lp p dp 6 lb mb nk lv σ) := HX5.out.push hb6 _ hibl (block_lt hib)
      have HM6 := Lib.hid (HM5.out.later hb6)
      have HI6 := Lib.hid hib
      have HC6 : Hid (w6.heap[wr.heap.size]? = some (.cells (lcL y).toArray 35 (0, 0))) := by
        have h1 := hb6.block wr.heap.size (block_lt HC5.out)
        show _ = _
        rw [h1]; exact HC5.out
      have hig : Hid (ib ≠ g) := by have := HM5.out.lt g (by simp); show ib ≠ g; omega
      have HNu : Hid ((w6.alloc (.cells #[.int .i64 0, .int .i64 0, .int .i64 0, .int .i64 0, .string ⟨#[]⟩, .int .i64 0, .string ⟨#[]⟩] 42)).heap[w6.heap.size]? = some (.cells #[.int .i64 0, .int .i64 0, .int .i64 0, .int .i64 0, .string ⟨#[]⟩, .int .i64 0, .string ⟨#[]⟩] 42 (0, 0))) := hN rfl
      have hUo : Hid (∀ v ∈ (unL (imgU f y)).toArray.toList, v.oneCell' = true) := fun v hv => un_cells _ v (by simpa using hv)
      obtain ⟨U, hU⟩ : ∃ U, imgU f y = U := ⟨_, rfl⟩
      rw [hU] at hUo ⊢
      clear hib hb6 hibl HIm HX5 HM5 HC5 ck cx cn
      go_upto_region 14 with (refine wpList_store_whole rfl 42 _ _ rfl _ (unL U).toArray rfl rfl _ _ HNu.out rfl un_info hUo.out ?_; intro w7 HU7 K7; (have hk7 : Hid (Keeps (fun _ => False) w6 w7) := ((Keeps.refl (fun _ => False) w6).alloc _).trans K7.out (fun q hq e => by omega)); (have HX7 := Lib.hid (HX6.out.later hk7.out.below)); (have HM7 := Lib.hid (HM6.out.later hk7.out.below)); (have HI7 := Lib.hid (hk7.out.keep HI6.out (fun h => h))); (have HC7 := Lib.hid (hk7.out.keep HC6.out (fun h => h))); clear HNu K7 hk7 HX6 HM6 HI6 HC6)
      obtain ⟨ck, cx, cn⟩ := lc_at HC7.out
      have HCh := Lib.hid (cx_change_inv HX7.out HI.out (by have := HC.out.2; have := hn100.out; have := hkN.out; omega) HF.out y.x hyo'.out.2.1 y hyo'.out.1 ib (by simp) HI7.out)
      rw [hU] at HCh
      replace hU := Lib.hid hU
      go_wp2_with (refine wpList_load_row rfl 42 _ rfl _ rfl 42 _ _ _ HU7.out Tryz.underlying42 rfl un_info ?_)
      refine (HCh.out).mono ?_
      rintro e w8 ⟨cd, n', σ', rfl, hk8, hx8, hi8, hf8, hc8, hok8⟩
      have HX8 := Lib.hid hx8
      have HI8 := Lib.hid hi8
      have HM8 : Hid (Mx w8 m g f) := HM7.out.keep hk8 (fun q hq h => h.2 (List.mem_cons_of_mem _ hq))
      have HIb8 := Lib.hid (hk8.keep HI7.out (fun h => h.2 (by simp)))
      have HC8 : Hid (σ'.fresh ≤ 1 + ((k + 1 : Nat) : Int) ∧ σ'.cnt ≤ 1000 * (k + 1)) := ⟨by have := HC.out.1; push_cast; omega, by have := HC.out.2; omega⟩
      have hok9 := Lib.hid hok8
      clear hk8 hx8 hi8 hf8 hc8 hok8 HCh HX7 HM7 HI7 HC7 HU7 ck cx cn
      by_cases hcd : cd = 0
      rotate_left
      · have HX9 : Hid (Cx w w8 [m, g] c lp p dp 6 lb mb n' lv σ') := HX8.out.pop
        go_wp2_with fail
        go_roundw
        case rel => exact ⟨k + 1, σ', n', lv, f, hkN.out, rfl, HX9, HM8, HF, HI8, HC8⟩
        case measure => have := hkN.out; simp [intOf]; omega
      have hP9 := Lib.hid (hok9.out hcd)
      subst hcd
      obtain ⟨pi, hpi⟩ : ∃ q, pos6 y.page = q := ⟨_, rfl⟩
      have hpl : Hid (pi < 6) := hpi ▸ (pos6_eq y.page).2
      obtain ⟨R, hR⟩ : ∃ R, imgP f y = R := ⟨_, rfl⟩
      rw [hpi, hR] at HIb8
      rw [hR] at hP9
      clear hpi hR hok9
      have HMd : Hid (Mx w8.drew m g f) := HM8.out.later (bD bR)
      have HXd : Hid (Cx w w8.drew [ib, m, g] c lp p dp 6 lb mb n' lv σ') := HX8.out.later (bD bR)
      have HRow := Lib.hid HMd.out.row
      have hS0 : MpS m g ib pi R w8.drew := mps_of HMd.out (hDr HIb8.out)
      have hpI : (pi : Int) < 6 := by have := hpl.out; omega
      have hp0 : (0 : Int) ≤ pi := by omega
      clear HIb8 HM8 HX8
      go_upto_region 15 with fail
      refine wp_region_held_drew (S := MpS m g ib pi R) (by kernel_rfl) hS0 (fun hHeld => ?_)
      clear hS0
      refine wpAnyH_take (i := 0) (oi := ⟨some 55, _, _, _, _, _⟩) (v := .pointer (some ⟨m, 0, none⟩)) rfl (by kernel_rfl) (by kernel_rfl) (by kernel_rfl) (fun _ _ _ h => h) (Or.inl ⟨by rfl, ?_⟩) hHeld ?_
      · intro w' hSw
        obtain ⟨s0, s1, s2⟩ := hSw
        go_simp
        try with_reducible rfl
        try omega
      simp only [Act.put, List.setIfInBounds_toArray, List.set_cons_zero, List.set_cons_succ]
      refine wpAnyH_take (i := 1) (oi := ⟨some 56, _, _, _, _, _⟩) (v := .pointer (some ⟨m, 0, none⟩)) rfl (by kernel_rfl) (by kernel_rfl) (by kernel_rfl) (fun _ _ _ h => h) (Or.inl ⟨by rfl, ?_⟩) hHeld ?_
      · intro w' hSw
        obtain ⟨s0, s1, s2⟩ := hSw
        go_simp
        try with_reducible rfl
        try omega
      simp only [Act.put, List.setIfInBounds_toArray, List.set_cons_zero, List.set_cons_succ]
      refine wpAnyH_take (i := 2) (oi := ⟨some 57, _, _, _, _, _⟩) (v := .pointer (some ⟨m, 6, none⟩)) rfl (by kernel_rfl) (by kernel_rfl) (by kernel_rfl) (fun _ _ _ h => h) (Or.inl ⟨by rfl, ?_⟩) hHeld ?_
      · intro w' hSw
        obtain ⟨s0, s1, s2⟩ := hSw
        go_simp
        try with_reducible rfl
        try omega
      simp only [Act.put, List.setIfInBounds_toArray, List.set_cons_zero, List.set_cons_succ]
      refine wpAnyH_take (i := 3) (oi := ⟨some 58, _, _, _, _, _⟩) (v := .slice (some ⟨g, 0, none⟩) 6 6) rfl (by kernel_rfl) (by kernel_rfl) (by kernel_rfl) (fun _ _ _ h => h) (Or.inl ⟨by rfl, ?_⟩) hHeld ?_
      · intro w' hSw
        obtain ⟨s0, s1, s2⟩ := hSw
        go_simp
        try with_reducible rfl
        try omega
      simp only [Act.put, List.setIfInBounds_toArray, List.set_cons_zero, List.set_cons_succ]
      refine wpAnyH_take (i := 4) (oi := ⟨some 59, _, _, _, _, _⟩) (v := .slice (some ⟨ib, 0, none⟩) 1 1) rfl (by kernel_rfl) (by kernel_rfl) (by kernel_rfl) (fun _ _ _ h => h) (Or.inl ⟨by rfl, ?_⟩) hHeld ?_
      · intro w' hSw
        obtain ⟨s0, s1, s2⟩ := hSw
        go_simp
        try with_reducible rfl
        try omega
      simp only [Act.put, List.setIfInBounds_toArray, List.set_cons_zero, List.set_cons_succ]
      refine wpAnyH_take (i := 5) (oi := ⟨some 60, _, _, _, _, _⟩) (v := .pointer (some ⟨ib, 0, none⟩)) rfl (by kernel_rfl) (by kernel_rfl) (by kernel_rfl) (fun _ _ _ h => h) (Or.inl ⟨by rfl, ?_⟩) hHeld ?_
      · intro w' hSw
        obtain ⟨s0, s1, s2⟩ := hSw
        go_simp
        try with_reducible rfl
        try omega
      simp only [Act.put, List.setIfInBounds_toArray, List.set_cons_zero, List.set_cons_succ]
      refine wpAnyH_take (i := 6) (oi := ⟨some 61, _, _, _, _, _⟩) (v := .pointer (some ⟨ib, 0, none⟩)) rfl (by kernel_rfl) (by kernel_rfl) (by kernel_rfl) (fun _ _ _ h => h) (Or.inl ⟨by rfl, ?_⟩) hHeld ?_
      · intro w' hSw
        obtain ⟨s0, s1, s2⟩ := hSw
        go_simp
        try with_reducible rfl
        try omega
      simp only [Act.put, List.setIfInBounds_toArray, List.set_cons_zero, List.set_cons_succ]
      refine wpAnyH_take (i := 7) (oi := ⟨some 62, _, _, _, _, _⟩) (v := .int .i64 pi) rfl (by kernel_rfl) (by kernel_rfl) (by kernel_rfl) (fun _ _ _ h => h) (Or.inl ⟨by rfl, ?_⟩) hHeld ?_
      · intro w' hSw
        obtain ⟨s0, s1, s2⟩ := hSw
        go_simp
        try with_reducible rfl
        try omega
      simp only [Act.put, List.setIfInBounds_toArray, List.set_cons_zero, List.set_cons_succ]
      refine wpAnyH_take (i := 8) (oi := ⟨some 63, _, _, _, _, _⟩) (v := .slice (some ⟨ib, 0, none⟩) 1 1) rfl (by kernel_rfl) (by kernel_rfl) (by kernel_rfl) (fun _ _ _ h => h) (Or.inl ⟨by rfl, ?_⟩) hHeld ?_
      · intro w' hSw
        obtain ⟨s0, s1, s2⟩ := hSw
        go_simp
        try with_reducible rfl
        try omega
      simp only [Act.put, List.setIfInBounds_toArray, List.set_cons_zero, List.set_cons_succ]
      refine wpAnyH_take (i := 9) (oi := ⟨some 64, _, _, _, _, _⟩) (v := .pointer (some ⟨ib, 0, none⟩)) rfl (by kernel_rfl) (by kernel_rfl) (by kernel_rfl) (fun _ _ _ h => h) (Or.inl ⟨by rfl, ?_⟩) hHeld ?_
      · intro w' hSw
        obtain ⟨s0, s1, s2⟩ := hSw
        go_simp
        try with_reducible rfl
        try omega
      simp only [Act.put, List.setIfInBounds_toArray, List.set_cons_zero, List.set_cons_succ]
      refine wpAnyH_take (i := 10) (oi := ⟨some 65, _, _, _, _, _⟩) (v := .pointer (some ⟨ib, 1, none⟩)) rfl (by kernel_rfl) (by kernel_rfl) (by kernel_rfl) (fun _ _ _ h => h) (Or.inl ⟨by rfl, ?_⟩) hHeld ?_
      · intro w' hSw
        obtain ⟨s0, s1, s2⟩ := hSw
        go_simp
        try with_reducible rfl
        try omega
      simp only [Act.put, List.setIfInBounds_toArray, List.set_cons_zero, List.set_cons_succ]
      refine wpAnyH_take (i := 11) (oi := ⟨some 66, _, _, _, _, _⟩) (v := .agg (pgC R)) rfl (by kernel_rfl) (by kernel_rfl) (by kernel_rfl) (fun _ _ _ h => h) (yieldsIf_load_mid (by rfl) _ _ rfl ib 1 rfl (pgC R).toList _ (fun _ h => h.2.2) Tryz.underlying49 rfl (by kernel_rfl)) hHeld ?_
      simp only [Act.put, List.setIfInBounds_toArray, List.set_cons_zero, List.set_cons_succ]
      refine wpAnyH_take (i := 12) (oi := ⟨some 67, _, _, _, _, _⟩) (v := .pointer (some ⟨g, pi * 16, none⟩)) rfl (by kernel_rfl) (by kernel_rfl) (by kernel_rfl) (fun _ _ _ h => h) (Or.inl ⟨by rfl, ?_⟩) hHeld ?_
      · intro w' hSw
        obtain ⟨s0, s1, s2⟩ := hSw
        go_simp
        try with_reducible rfl
        try omega
      simp only [Act.put, List.setIfInBounds_toArray, List.set_cons_zero, List.set_cons_succ]
      refine wpAnyH_ready (rs := [13]) (by kernel_rfl) (by simp) ?_
      refine AllReadyH.cons (o := ⟨none, _, _, _, _, _⟩) rfl (fun K hK => ?_) AllReadyH.nil
      refine step_store_row rfl _ _ rfl 49 g pi 6 6 f R rfl rfl HRow.out hpl.out ?_
      intro wz HRz Kz
      refine hK.out _ _ ⟨cell_keep Kz.out hmg.out hHeld.1, cell_keep Kz.out hig.out hHeld.2.1, fun j v hj => cell_keep Kz.out hig.out (hHeld.2.2 j v hj)⟩ (fun hHeld => ?_)
      clear hK K
      try simp only [Act.put, List.setIfInBounds_toArray, List.set_cons_zero, List.set_cons_succ]
      clear hHeld
      refine wpAnyH_done (by kernel_rfl) ?_ _
      go_wp2_with fail
      have HM9 : Hid (Mx wz m g (fun k => if k = pi then R else f k)) := ⟨by obtain ⟨C, h1, h2⟩ := HMd.out.blkm; exact ⟨C, Kz.out.keep h1 hmg.out, h2⟩, HRz.out, hmg.out⟩
      have HX9 : Hid (Cx w wz [m, g] c lp p dp 6 lb mb n' lv σ') := (HXd.out.loc Kz.out (fun q hq => by subst hq; exact ⟨by simp, hgw.out⟩)).pop
      have HF9 : Hid (∀ i, i < 6 → PgOk ((fun k => if k = pi then R else f k) i)) := fun i hi => by
        show PgOk (if i = pi then R else f i)
        split
        · exact hP9.out
        · exact HF.out i hi
      clear HRz Kz HMd HXd HRow
      go_roundw
      case rel => exact ⟨k + 1, σ', n', lv, _, hkN.out, rfl, HX9, HM9, HF9, HI8, HC8⟩
      case measure => have := hkN.out; simp [intOf]; omega
    · obtain rfl : k = n := by omega
      have hkI : ¬ (k : Int) < k := by omega
      have HL := Lib.hid (cx_lives HX.out)
      go_wp2_with fail
      refine (HL.out).mono ?_
      rintro e wL ⟨v', ho, -, rfl, hbl⟩
      have HXL := Lib.hid (HX.out.later hbl)
      obtain ⟨sa, sc, rfl⟩ := ho.form
      obtain ⟨l, hl⟩ : ∃ l, σ.lives = l := ⟨_, rfl⟩
      have HLv : Hid (∀ (i : Nat) (s : Lv), l[i]? = some s → GoodL 6 σ s) := hl ▸ HI.out.live
      have htk : Hid (lenL σ.rs ≤ 6912) := by have := HI.out.tk; show _ ≤ _; omega
      rw [hl] at ho ⊢
      obtain ⟨nl, hnl⟩ : ∃ q, l.length = q := ⟨_, rfl⟩
      have hn8 : Hid (nl ≤ 8) := by rw [← hnl, ← hl]; exact HX.out.ch.len
      rw [hnl] at ho ⊢
      have HO := Lib.hid ho
      replace hnl := Lib.hid hnl
      clear ho hbl HL HX hl HMx HF HI HC hkI hk
      go_wp2_with fail
      go_loopw [88] (fun x wr => ∃ (j : Nat), j ≤ nl ∧ x = .int .i64 j ∧ Hid (Below wL.heap.size wL wr)) (fun x _ => nl - (intOf x).toNat)
      case atStart => exact ⟨0, by omega, rfl, bR⟩
      case round =>
        obtain ⟨j, hj, rfl, HB⟩ := hrel
        by_cases hjn : j < nl
        rotate_left
        · obtain rfl : j = nl := by omega
          have hjI : ¬ (j : Int) < j := by omega
          have HBw : Hid (Below w.heap.size w wr) := (HXL.out.later HB.out).bel
          go_wp2_with fail
          go_ret
          exact ⟨rfl, HBw.out⟩
        obtain ⟨s, hs⟩ : ∃ s, l[j]? = some s := ⟨_, List.getElem?_eq_getElem (by rw [hnl.out]; exact hjn)⟩
        obtain ⟨-, q0, -, -, -, hlk, -, -, -⟩ := HLv.out j s hs
        have HOr : OwnS wr 61 3 (.slice sa nl sc) nl (lvV l) := HO.out.keep (Keeps.of_below (fun _ => False) HB.out) (fun _ _ h => h)
        obtain ⟨gb, rfl⟩ := HOr.spot (by omega)
        have HRl := Lib.hid (lv_range HOr j s hs)
        have hq0 : Hid (q0 ≤ 180) := by
          have h1 := hlk.cnt HXL.out.ok
          rcases hlk.top with ⟨_, h2⟩ | ⟨R, _, _, h2, _⟩
          · show q0 ≤ 180; omega
          · have h3 := h2.lo.2
            have h4 := htk.out
            unfold CS.rs at h4
            show q0 ≤ 180
            omega
        have HK0 := Lib.hid hlk
        have hjI : (j : Int) < nl := by omega
        have hj0 : (0 : Int) ≤ j := by omega
        have hjw : IntKind.i64.wrap ((j : Int) + 1) = (j : Int) + 1 := by have := hn8.out; rw [IntKind.wrap_i64]; omega
        obtain ⟨s0, s1, s2⟩ := s
        dsimp only at HK0
        have HNa : Hid ((wr.alloc (.cells #[.int .i64 0, .int .i64 0, .int .i64 0] 61)).heap[wr.heap.size]? = some (.cells #[.int .i64 0, .int .i64 0, .int .i64 0] 61 (0, 0))) := hN rfl
        have hjN := Lib.hid hjn
        clear hlk hs HOr hj hjn
        go_upto_region 25 with (first
          | (refine wpList_load_mid rfl 61 _ rfl gb (j * 3) rfl (lvL (s0, s1, s2)) _ HRl.out Tryz.underlying61 rfl (by kernel_rfl) ?_)
          | (refine wpList_store_whole rfl 61 _ _ rfl _ #[.int .i64 s0, .int .i64 s1, .int .i64 s2] rfl rfl _ _ HNa.out rfl (by kernel_rfl) (by simp [Value.oneCell']) ?_; intro w5 HS5 K5; (have HB5 : Hid (Below wL.heap.size wL w5) := bT HB.out (((Keeps.refl (fun _ => False) wr).alloc _).trans K5.out (fun q hq e => by omega)).below); (have A2 : w5.cell? ⟨wr.heap.size, 2, none⟩ = some (.int .i64 s2) := cell_at HS5.out 2); clear HNa K5))
        clear A2 HB HRl
        obtain ⟨ab, hab⟩ : ∃ q, wr.heap.size = q := ⟨_, rfl⟩
        rw [hab] at HS5 ⊢
        clear hab
        go_loopw [14, 15] (fun x y wr => ∃ (t : Int) (nn q : Nat), x = .int .i64 t ∧ y = .int .i64 nn ∧ Hid (Lnk σ.recs s0 s1 t q) ∧ Hid (nn + q ≤ 180) ∧ Hid (Below w5.heap.size w5 wr)) (fun x _ _ => (intOf x).toNat)
        case atStart => exact ⟨s2, 0, q0, rfl, rfl, HK0, by have := hq0.out; show 0 + q0 ≤ 180; omega, bR⟩
        case round =>
          obtain ⟨t, nn, q, rfl, rfl, HLn, hnq, HBr⟩ := hrel
          by_cases ht : t = 0
          · subst ht
            have HBo := Lib.hid (bT HB5.out HBr.out)
            go_wp2_with fail
            go_roundw
            case rel => exact ⟨j + 1, hjN.out, rfl, HBo⟩
            case measure => have := hjN.out; simp [intOf]; omega
          obtain ⟨R, q', rfl, hat, hx, hp0, hplt, hpf, hln'⟩ : ∃ R m, q = m + 1 ∧ AtR σ.recs t R ∧ R.xct = s0 ∧ 0 ≤ R.prev ∧ R.prev < t ∧ (R.prev = 0 → t = s1) ∧ Lnk σ.recs s0 s1 R.prev m := by
            rcases HLn.out.top with ⟨h1, _⟩ | h
            · exact absurd h1 ht
            · exact h
          have HXr := Lib.hid (HXL.out.later (bT HB5.out HBr.out))
          have hok := HXL.out.ok R hat.mem
          obtain ⟨Q0, hdec0, hsame⟩ := dec_same hok
          have HRd := Lib.hid (cx_read HXr.out hat)
          have hRsz := rc_sizes hok
          obtain ⟨S, hS⟩ : ∃ S, rcS R = S := ⟨_, rfl⟩
          rw [hS] at hdec0 HRd hRsz
          have HDc := Lib.hid (fun w => rc_decode S (by unfold maxLen; omega) w)
          have hdecN := Lib.hid hdec0
          have hsameN := Lib.hid hsame
          have HSr : Hid (wr.heap[ab]? = some (.cells #[.int .i64 s0, .int .i64 s1, .int .i64 s2] 61 (0, 0))) := (Keeps.of_below (fun _ => False) HBr.out).keep HS5.out (fun h => h)
          have htN := Lib.hid (show t ≠ 0 from ht)
          have hpN := Lib.hid (And.intro hp0 (And.intro hplt hpf))
          have hxN := Lib.hid hx
          have hlN := Lib.hid hln'
          have hnqN : Hid (nn + 1 + q' ≤ 180) := by have := hnq.out; show _ ≤ _; omega
          clear hat hok hdec0 hsame hRsz hS hx hp0 hplt hpf hln' HLn hnq
          go_wp2_with fail
          refine (HRd.out).mono ?_
          rintro e wx ⟨rfl, hbx⟩
          have HBx := Lib.hid (bT HBr.out hbx)
          have HSx : Hid (wx.heap[ab]? = some (.cells #[.int .i64 s0, .int .i64 s1, .int .i64 s2] 61 (0, 0))) := (Keeps.of_below (fun _ => False) hbx).keep HSr.out (fun h => h)
          clear hbx HRd HXr HBr HSr
          go_wp2_with fail
          refine (HDc.out _).mono ?_
          rintro e wy ⟨hdi, hby⟩
          obtain ⟨Q, iv, lw, rfl, hsl, hsQ⟩ : ∃ (Q : Rc) (iv lw : Value), e = .returned (.tuple #[.agg (rcC Q iv lw), .int .i64 0]) ∧ RcSl wy Q iv lw ∧ SameRc Q R := by
            rcases hdi with ⟨Q, iv, lw, hd, he, hsl⟩ | ⟨hd, _⟩
            · have hq : Q = Q0 := by have := hd.symm.trans hdecN.out; injection this
              exact ⟨Q, iv, lw, he, hsl, hq ▸ hsameN.out⟩
            · rw [hdecN.out] at hd; cases hd
          have HBy := Lib.hid (bT HBx.out hby)
          have HSy : Hid (wy.heap[ab]? = some (.cells #[.int .i64 s0, .int .i64 s1, .int .i64 s2] 61 (0, 0))) := (Keeps.of_below (fun _ => False) hby).keep HSx.out (fun h => h)
          have hones : Hid (∀ v ∈ (rcC Q iv lw).toList, v.oneCell' = true) := rcC_one (by obtain ⟨a', m', c', rfl, _⟩ := sl_open hsl.1; rfl) (by obtain ⟨a', m', c', rfl, _⟩ := sl_open hsl.2.1; rfl)
          have HN3 : Hid ((wy.alloc (.cells (rcC rcZ nilS nilS) 65)).heap[wy.heap.size]? = some (.cells (rcC rcZ nilS nilS) 65 (0, 0))) := hN rfl
          have hsQN := Lib.hid hsQ
          clear hby hdi hsl HDc hsQ HBx HSx
          go_upto_region 28 with (refine wpList_store_whole rfl 65 _ _ rfl _ (rcC Q iv lw) rfl rfl _ (rcC rcZ nilS nilS) HN3.out rfl (by kernel_rfl) hones.out ?_; intro wz HR4 K4; (have hk4 : Keeps (fun _ => False) wy wz := ((Keeps.refl (fun _ => False) wy).alloc _).trans K4.out (fun q hq e => by omega)); (have HBz := Lib.hid (bT HBy.out hk4.below)); (have HSz := Lib.hid (hk4.keep HSy.out (fun h => h))); clear K4 hk4 HN3 HBy HSy)
          obtain ⟨q1, q2, q3, -⟩ := hsQN.out
          have R1 : wz.cell? ⟨wy.heap.size, 1, none⟩ = some (.int .i64 s0) := by rw [← hxN.out, ← q2]; exact cell_at HR4.out 1
          have R2 : wz.cell? ⟨wy.heap.size, 2, none⟩ = some (.int .i64 R.prev) := by rw [← q3]; exact cell_at HR4.out 2
          have S0 : wz.cell? ⟨ab, 0, none⟩ = some (.int .i64 s0) := cell_at HSz.out 0
          have S1 : wz.cell? ⟨ab, 1, none⟩ = some (.int .i64 s1) := cell_at HSz.out 1
          have dge : decide (t ≤ R.prev) = false := decide_eq_false (by have := hpN.out.2.1; omega)
          have dgt : decide (500 < (nn : Int)) = false := decide_eq_false (by have := hnqN.out; omega)
          have hnw : IntKind.i64.wrap ((nn : Int) + 1) = ((nn + 1 : Nat) : Int) := by have := hnqN.out; rw [IntKind.wrap_i64]; omega
          obtain ⟨pv, hpv⟩ : ∃ x, R.prev = x := ⟨_, rfl⟩
          rw [hpv] at R2 dge hpN hlN
          clear q1 q2 q3 hpv hsQN hdecN hsameN
          by_cases hp : pv = 0
          · subst hp
            obtain rfl := hpN.out.2.2 rfl
            have hfin := Lib.hid (show (0 : Int) < t from hpN.out.2.1)
            go_wp2_with fail
            go_roundw
            case rel => exact ⟨0, nn + 1, q', rfl, by push_cast; rfl, hlN, by have := hnqN.out; show nn + 1 + q' ≤ 180; omega, HBz⟩
            case measure => have := hfin.out; simp [intOf]; omega
          · have hfin := Lib.hid (show 0 ≤ pv ∧ pv < t from ⟨hpN.out.1, hpN.out.2.1⟩)
            go_wp2_with fail
            go_roundw
            case rel => exact ⟨pv, nn + 1, q', rfl, by push_cast; rfl, hlN, by have := hnqN.out; show nn + 1 + q' ≤ 180; omega, HBz⟩
            case measure => have := hfin.out; simp [intOf]; omega
end Go.Proofs.YtimomjheanfbmaaGreatDoor
