import Derived.Test.YtimomjheanfbmaaGreatDoorChUz
import Derived.Test.YtimomjheanfbmaaGreatDoorChRSTz
set_option linter.unusedSimpArgs false
set_option linter.unusedVariables false
namespace Go.Proofs.YtimomjheanfbmaaGreatDoor
open Go.RowKit

theorem flB128 : flB 128 = 4638707616191610880 := by decide +kernel
theorem flB0 : flB 0 = 0 := rfl
theorem fl_same (a : Nat) (h : a < 2 ^ 53) : Ieee.double.order (flB a) (flB a) = some .eq := by rw [fl_order a a h h]; exact congrArg some (Nat.compare_eq_eq.2 rfl)
set_option maxRecDepth 100000 in
set_option maxHeartbeats 1600000 in
theorem chainFrees_walk (v : Value) (cs : List LCall) (cm : Bool) (w : World) (h : LcIs w v cs) :
    Calls Tryz.prog 6 #[v, .bool cm] w fun e w' => e = .returned (.bool true) ∧ Below w.heap.size w w' := by
  have HA := Lib.hid awake18
  obtain ⟨va, vc, rfl⟩ := h.form
  have hmx := h.max
  unfold maxLen at hmx
  obtain ⟨n, hn⟩ : ∃ n, cs.length = n := ⟨_, rfl⟩
  rw [hn] at h hmx ⊢
  replace hn := Lib.hid hn
  have H := Lib.hid h
  clear h
  go_enter Tryz.func6, Tryz.ntmps6
  go_wp2_with fail
  refine (HA.out _).mono ?_
  rintro e w1 ⟨rfl, hb⟩
  have HB1 := Lib.hid hb
  clear hb HA
  by_cases hbig : 12 < n
  · have b1 : decide (12 < (n : Int)) = true := by apply decide_eq_true; omega
    go_wp2_with fail
    go_ret
    exact ⟨rfl, HB1.out⟩
  have b1 : decide (12 < (n : Int)) = false := by apply decide_eq_false; omega
  have hn100 : Hid (n ≤ 12) := by show n ≤ 12; omega
  clear hbig hmx
  have HM := Lib.hid (cx_made w w1 [] (fun k hk => by cases hk) HB1.out 1 (by omega))
  go_wp2_with fail
  refine (HM.out).mono ?_
  rintro e w2 ⟨c, lp, p, dp, lb, mb, rfl, hx, -⟩
  have HX2 := Lib.hid hx
  clear hx HM
  have HN := Lib.hid (mx_new 54 6912 1 w2)
  go_wp2_with fail
  refine (HN.out).mono ?_
  rintro e w3 ⟨m, g, rfl, hm, hb, hm1, hg1⟩
  have HM3 := Lib.hid hm
  have HX3 : Hid (Cx w w3 [m, g] c lp p dp 6 lb mb 0 (.slice none 0 0) (CS.init 1)) := HX2.out.more hb [m, g] hm.lt (fun k hk => .inr (by simp at hk; rcases hk with rfl | rfl <;> assumption))
  have hgw : Hid (w.heap.size ≤ g) := Nat.le_trans (HX2.out.bel).size hg1
  have hmg : Hid (m ≠ g) := hm.nd
  clear hm hb hm1 hg1 HN HX2 HB1
  obtain ⟨Z, hZ⟩ : ∃ z, flB 0 = z := ⟨_, rfl⟩
  obtain ⟨E, hE⟩ : ∃ z, flB 128 = z := ⟨_, rfl⟩
  have oZ : FloatKind.f64.format.order Z Z = some .eq := hZ ▸ fl_same 0 (by decide)
  have oE : FloatKind.f64.format.order E E = some .eq := hE ▸ fl_same 128 (by decide)
  have aE : ∀ w, (binOp .add 96 (.complex .f64 Z Z) (.complex .f64 4638707616191610880 0)).run Tryz.prog w = .ok (.complex .f64 E Z) w := fun w => by
    have := add_run 0 0 128 0 (by decide) (by decide) 96 w
    rw [flB128, flB0] at this
    rw [← hZ, ← hE, flB128, flB0]
    exact this
  have HR3 := Lib.hid (cx_reserved HX3.out)
  rw [show (CS.init 1).T.1 = 0 from rfl, show (CS.init 1).T.2 = 0 from rfl, hZ] at HR3
  go_wp2_with fail
  refine (HR3.out).mono ?_
  rintro e w4 ⟨rfl, hb4⟩
  have HBg := Lib.hid (cx_begin_one (HX3.out.later hb4))
  have HM4 := Lib.hid (HM3.out.later hb4)
  clear HX3 HM3 hb4 HR3
  go_wp2_with fail
  refine (HBg.out).mono ?_
  rintro e w5 ⟨n5, lv5, rfl, hk5, hx5⟩
  have HX5 := Lib.hid hx5
  have HM5 : Hid (Mx w5 m g _) := HM4.out.keep hk5 (fun q hq h => h.2 hq)
  clear hk5 hx5 HBg HM4
  have HR5 := Lib.hid (cx_reserved HX5.out)
  rw [show (CS.init 1).begun.T.1 = 128 from rfl, show (CS.init 1).begun.T.2 = 0 from rfl, hZ, hE] at HR5
  go_wp2_with fail
  refine (HR5.out).mono ?_
  rintro e w6 ⟨rfl, hb6⟩
  have HX6 := Lib.hid (HX5.out.later hb6)
  have HM6 := Lib.hid (HM5.out.later hb6)
  clear HX5 HM5 hb6 HR5
  go_wp2_with fail

  go_loopw [51, 13] (fun x y wr => ∃ (k : Nat) (σ : CS) (nk : Nat) (lv : Value) (f : Nat → Pg) (q : Nat), k ≤ n ∧ x = .int .i64 k ∧ y = .int .i64 q ∧ Hid (Cx w wr [m, g] c lp p dp 6 lb mb nk lv σ) ∧ Hid (Mx wr m g f) ∧ Hid (∀ i, i < 6 → PgOk (f i)) ∧ Hid (Inv 6 σ) ∧ Hid (One σ q) ∧ Hid (σ.cnt ≤ 10 + k ∧ q ≤ k)) (fun x _ _ => n - (intOf x).toNat)
  case atStart => exact ⟨0, (CS.init 1).begun, n5, lv5, _, 0, by omega, rfl, rfl, HX6, HM6, fun i hi => by decide, inv_begun1 6, One.begun, by show 1 ≤ 10 + 0; omega, Nat.le_refl _⟩
  case round =>
    clear HX6 HM6
    obtain ⟨k, σ, nk, lv, f, q, hk, rfl, rfl, HX, HMx, HF, HI, HO, HC⟩ := hrel
    by_cases hkn : k < n
    · obtain ⟨y, hy⟩ : ∃ y, cs[k]? = some y := ⟨_, List.getElem?_eq_getElem (by rw [hn.out]; exact hkn)⟩
      obtain ⟨b, off, rfl, hbl, hrg, hyo⟩ := H.out.at k y hy
      have HRg := Lib.hid (range_below hrg hbl HX.out.bel)
      have hkI : (k : Int) < n := by omega
      have hk0 : (0 : Int) ≤ k := by omega
      have hkw : IntKind.i64.wrap ((k : Int) + 1) = (k : Int) + 1 := by have := hn100.out; rw [IntKind.wrap_i64]; omega
      have HN : Hid ((wr.alloc (.cells (lcL lcZ).toArray 35)).heap[wr.heap.size]? = some (.cells (lcL lcZ).toArray 35 (0, 0))) := hN rfl
      have hyo' := Lib.hid hyo
      have hkN := Lib.hid hkn
      clear hrg hy hyo hk hkn
      go_upto_region 17 with (first
        | (refine wpList_load_mid rfl 35 _ rfl b (off + k * 8) rfl (lcL y) _ HRg.out Tryz.underlying35 rfl lcl_info ?_)
        | (refine wpList_store_whole rfl 35 _ _ rfl _ (lcL y).toArray rfl rfl _ _ HN.out rfl lcl_info (fun v hv => lcL_cells y v (by simpa using hv)) ?_; intro w5 HC5 K5; (have HK5 : Hid (Keeps (fun _ => False) wr w5) := ((Keeps.refl (fun _ => False) wr).alloc _).trans K5.out (fun q hq e => by omega)); clear HN K5))
      have HX5 := Lib.hid (HX.out.later HK5.out.below)
      have HM5 := Lib.hid (HMx.out.later HK5.out.below)
      clear HX HMx HRg
      have HIm := Lib.hid (mx_image HM5.out y)
      go_wp2_with (refine wpList_load_row rfl 35 _ rfl _ rfl 35 _ _ _ HC5.out Tryz.underlying35 rfl lcl_info ?_)
      refine (HIm.out).mono ?_
      rintro e w6 ⟨ib, rfl, hib, hb6, hibl⟩
      have HX6 : Hid (Cx w w6 [ib, m, g] c lp p dp 6 lb mb nk lv σ) := HX5.out.push hb6 _ hibl (block_lt hib)
      have HM6 := Lib.hid (HM5.out.later hb6)
      have HI6 := Lib.hid hib
      have HC6 : Hid (w6.heap[wr.heap.size]? = some (.cells (lcL y).toArray 35 (0, 0))) := by
        have h1 := hb6.block wr.heap.size (block_lt HC5.out)
        show _ = _
        rw [h1]; exact HC5.out
      have hig : Hid (ib ≠ g) := by have := HM5.out.lt g (by simp); show ib ≠ g; omega
      have HNu : Hid ((w6.alloc (.cells #[.int .i64 0, .int .i64 0, .int .i64 0, .int .i64 0, .string ⟨#[]⟩, .int .i64 0, .string ⟨#[]⟩] 42)).heap[w6.heap.size]? = some (.cells #[.int .i64 0, .int .i64 0, .int .i64 0, .int .i64 0, .string ⟨#[]⟩, .int .i64 0, .string ⟨#[]⟩] 42 (0, 0))) := hN rfl
      have hUo : Hid (∀ v ∈ (unL (imgU f y)).toArray.toList, v.oneCell' = true) := fun v hv => un_cells _ v (by simpa using hv)
      obtain ⟨U, hU⟩ : ∃ U, imgU f y = U := ⟨_, rfl⟩
      rw [hU] at hUo ⊢
      clear hib hb6 hibl HIm HX5 HM5 HC5
      go_upto_region 18 with (refine wpList_store_whole rfl 42 _ _ rfl _ (unL U).toArray rfl rfl _ _ HNu.out rfl un_info hUo.out ?_; intro w7 HU7 K7; (have hk7 : Hid (Keeps (fun _ => False) w6 w7) := ((Keeps.refl (fun _ => False) w6).alloc _).trans K7.out (fun q hq e => by omega)); (have HX7 := Lib.hid (HX6.out.later hk7.out.below)); (have HM7 := Lib.hid (HM6.out.later hk7.out.below)); (have HI7 := Lib.hid (hk7.out.keep HI6.out (fun h => h))); (have HC7 := Lib.hid (hk7.out.keep HC6.out (fun h => h))); clear HNu K7 hk7 HX6 HM6 HI6 HC6)
      have HCh := Lib.hid (cx_change_one HX7.out HI.out HO.out (by have := HC.out.1; have := hn100.out; have := hkN.out; omega) HF.out y hyo'.out.1 ib (by simp) HI7.out)
      rw [hU] at HCh
      replace hU := Lib.hid hU
      go_wp2_with (refine wpList_load_row rfl 42 _ rfl _ rfl 42 _ _ _ HU7.out Tryz.underlying42 rfl un_info ?_)
      refine (HCh.out).mono ?_
      rintro e w8 ⟨cd, n', σ', rfl, hk8, hx8, hi8, hf8, hc8, hok8⟩
      have HX8 := Lib.hid hx8
      have HI8 := Lib.hid hi8
      have HM8 : Hid (Mx w8 m g f) := HM7.out.keep hk8 (fun q hq h => h.2 (List.mem_cons_of_mem _ hq))
      have HIb8 := Lib.hid (hk8.keep HI7.out (fun h => h.2 (by simp)))
      have HC8 : Hid (σ'.cnt ≤ 10 + (k + 1) ∧ q ≤ k) := ⟨by have := HC.out.1; omega, HC.out.2⟩
      have hok9 := Lib.hid hok8
      clear hk8 hx8 hi8 hf8 hc8 hok8 HCh HX7 HM7 HI7 HC7 HU7
      by_cases hcd : cd = 0
      rotate_left
      · have HX9 : Hid (Cx w w8 [m, g] c lp p dp 6 lb mb n' lv σ') := HX8.out.pop
        have HO9 : Hid (One σ' q) := by
          rcases hok9.out with ⟨_, h⟩ | ⟨h, _⟩
          · exact h
          · exact absurd h hcd
        go_wp2_with fail
        go_roundw
        case rel => exact ⟨k + 1, σ', n', lv, f, q, hkN.out, rfl, rfl, HX9, HM8, HF, HI8, HO9, HC8.out.1, by have := HC8.out.2; omega⟩
        case measure => have := hkN.out; simp [intOf]; omega
      obtain ⟨hO9, hP9⟩ : Hid (One σ' (q + 1)) ∧ Hid (PgOk (imgP f y)) := by
        rcases hok9.out with ⟨h, _⟩ | ⟨_, h1, h2⟩
        · exact absurd hcd h
        · exact ⟨h1, h2⟩
      have hqw : IntKind.i64.wrap ((q : Int) + 1) = ((q + 1 : Nat) : Int) := by have := HC8.out.2; have := hn100.out; have := hkN.out; rw [IntKind.wrap_i64]; omega
      subst hcd
      obtain ⟨pi, hpi⟩ : ∃ q, pos6 y.page = q := ⟨_, rfl⟩
      have hpl : Hid (pi < 6) := hpi ▸ (pos6_eq y.page).2
      obtain ⟨R, hR⟩ : ∃ R, imgP f y = R := ⟨_, rfl⟩
      rw [hpi, hR] at HIb8
      rw [hR] at hP9
      clear hpi hR hok9
      have HMd : Hid (Mx w8.drew m g f) := HM8.out.later (bD bR)
      have HXd : Hid (Cx w w8.drew [ib, m, g] c lp p dp 6 lb mb n' lv σ') := HX8.out.later (bD bR)
      have HRow := Lib.hid HMd.out.row
      have hS0 : MpS m g ib pi R w8.drew := mps_of HMd.out (hDr HIb8.out)
      have hpI : (pi : Int) < 6 := by have := hpl.out; omega
      have hp0 : (0 : Int) ≤ pi := by omega
      clear HIb8 HM8 HX8
      go_upto_region 19 with fail
      refine wp_region_held_drew (S := MpS m g ib pi R) (by kernel_rfl) hS0 (fun hHeld => ?_)
      clear hS0
      refine wpAnyH_take (i := 0) (oi := ⟨some 67, _, _, _, _, _⟩) (v := .pointer (some ⟨m, 0, none⟩)) rfl (by kernel_rfl) (by kernel_rfl) (by kernel_rfl) (fun _ _ _ h => h) (Or.inl ⟨by rfl, ?_⟩) hHeld ?_
      · intro w' hSw
        obtain ⟨s0, s1, s2⟩ := hSw
        go_simp
        try with_reducible rfl
        try omega
      simp only [Act.put, List.setIfInBounds_toArray, List.set_cons_zero, List.set_cons_succ]
      refine wpAnyH_take (i := 1) (oi := ⟨some 68, _, _, _, _, _⟩) (v := .pointer (some ⟨m, 0, none⟩)) rfl (by kernel_rfl) (by kernel_rfl) (by kernel_rfl) (fun _ _ _ h => h) (Or.inl ⟨by rfl, ?_⟩) hHeld ?_
      · intro w' hSw
        obtain ⟨s0, s1, s2⟩ := hSw
        go_simp
        try with_reducible rfl
        try omega
      simp only [Act.put, List.setIfInBounds_toArray, List.set_cons_zero, List.set_cons_succ]
      refine wpAnyH_take (i := 2) (oi := ⟨some 69, _, _, _, _, _⟩) (v := .pointer (some ⟨m, 6, none⟩)) rfl (by kernel_rfl) (by kernel_rfl) (by kernel_rfl) (fun _ _ _ h => h) (Or.inl ⟨by rfl, ?_⟩) hHeld ?_
      · intro w' hSw
        obtain ⟨s0, s1, s2⟩ := hSw
        go_simp
        try with_reducible rfl
        try omega
      simp only [Act.put, List.setIfInBounds_toArray, List.set_cons_zero, List.set_cons_succ]
      refine wpAnyH_take (i := 3) (oi := ⟨some 70, _, _, _, _, _⟩) (v := .slice (some ⟨g, 0, none⟩) 6 6) rfl (by kernel_rfl) (by kernel_rfl) (by kernel_rfl) (fun _ _ _ h => h) (Or.inl ⟨by rfl, ?_⟩) hHeld ?_
      · intro w' hSw
        obtain ⟨s0, s1, s2⟩ := hSw
        go_simp
        try with_reducible rfl
        try omega
      simp only [Act.put, List.setIfInBounds_toArray, List.set_cons_zero, List.set_cons_succ]
      refine wpAnyH_take (i := 4) (oi := ⟨some 71, _, _, _, _, _⟩) (v := .slice (some ⟨ib, 0, none⟩) 1 1) rfl (by kernel_rfl) (by kernel_rfl) (by kernel_rfl) (fun _ _ _ h => h) (Or.inl ⟨by rfl, ?_⟩) hHeld ?_
      · intro w' hSw
        obtain ⟨s0, s1, s2⟩ := hSw
        go_simp
        try with_reducible rfl
        try omega
      simp only [Act.put, List.setIfInBounds_toArray, List.set_cons_zero, List.set_cons_succ]
      refine wpAnyH_take (i := 5) (oi := ⟨some 72, _, _, _, _, _⟩) (v := .pointer (some ⟨ib, 0, none⟩)) rfl (by kernel_rfl) (by kernel_rfl) (by kernel_rfl) (fun _ _ _ h => h) (Or.inl ⟨by rfl, ?_⟩) hHeld ?_
      · intro w' hSw
        obtain ⟨s0, s1, s2⟩ := hSw
        go_simp
        try with_reducible rfl
        try omega
      simp only [Act.put, List.setIfInBounds_toArray, List.set_cons_zero, List.set_cons_succ]
      refine wpAnyH_take (i := 6) (oi := ⟨some 73, _, _, _, _, _⟩) (v := .pointer (some ⟨ib, 0, none⟩)) rfl (by kernel_rfl) (by kernel_rfl) (by kernel_rfl) (fun _ _ _ h => h) (Or.inl ⟨by rfl, ?_⟩) hHeld ?_
      · intro w' hSw
        obtain ⟨s0, s1, s2⟩ := hSw
        go_simp
        try with_reducible rfl
        try omega
      simp only [Act.put, List.setIfInBounds_toArray, List.set_cons_zero, List.set_cons_succ]
      refine wpAnyH_take (i := 7) (oi := ⟨some 74, _, _, _, _, _⟩) (v := .int .i64 pi) rfl (by kernel_rfl) (by kernel_rfl) (by kernel_rfl) (fun _ _ _ h => h) (Or.inl ⟨by rfl, ?_⟩) hHeld ?_
      · intro w' hSw
        obtain ⟨s0, s1, s2⟩ := hSw
        go_simp
        try with_reducible rfl
        try omega
      simp only [Act.put, List.setIfInBounds_toArray, List.set_cons_zero, List.set_cons_succ]
      refine wpAnyH_take (i := 8) (oi := ⟨some 75, _, _, _, _, _⟩) (v := .slice (some ⟨ib, 0, none⟩) 1 1) rfl (by kernel_rfl) (by kernel_rfl) (by kernel_rfl) (fun _ _ _ h => h) (Or.inl ⟨by rfl, ?_⟩) hHeld ?_
      · intro w' hSw
        obtain ⟨s0, s1, s2⟩ := hSw
        go_simp
        try with_reducible rfl
        try omega
      simp only [Act.put, List.setIfInBounds_toArray, List.set_cons_zero, List.set_cons_succ]
      refine wpAnyH_take (i := 9) (oi := ⟨some 76, _, _, _, _, _⟩) (v := .pointer (some ⟨ib, 0, none⟩)) rfl (by kernel_rfl) (by kernel_rfl) (by kernel_rfl) (fun _ _ _ h => h) (Or.inl ⟨by rfl, ?_⟩) hHeld ?_
      · intro w' hSw
        obtain ⟨s0, s1, s2⟩ := hSw
        go_simp
        try with_reducible rfl
        try omega
      simp only [Act.put, List.setIfInBounds_toArray, List.set_cons_zero, List.set_cons_succ]
      refine wpAnyH_take (i := 10) (oi := ⟨some 77, _, _, _, _, _⟩) (v := .pointer (some ⟨ib, 1, none⟩)) rfl (by kernel_rfl) (by kernel_rfl) (by kernel_rfl) (fun _ _ _ h => h) (Or.inl ⟨by rfl, ?_⟩) hHeld ?_
      · intro w' hSw
        obtain ⟨s0, s1, s2⟩ := hSw
        go_simp
        try with_reducible rfl
        try omega
      simp only [Act.put, List.setIfInBounds_toArray, List.set_cons_zero, List.set_cons_succ]
      refine wpAnyH_take (i := 11) (oi := ⟨some 78, _, _, _, _, _⟩) (v := .agg (pgC R)) rfl (by kernel_rfl) (by kernel_rfl) (by kernel_rfl) (fun _ _ _ h => h) (yieldsIf_load_mid (by rfl) _ _ rfl ib 1 rfl (pgC R).toList _ (fun _ h => h.2.2) Tryz.underlying49 rfl (by kernel_rfl)) hHeld ?_
      simp only [Act.put, List.setIfInBounds_toArray, List.set_cons_zero, List.set_cons_succ]
      refine wpAnyH_take (i := 12) (oi := ⟨some 79, _, _, _, _, _⟩) (v := .pointer (some ⟨g, pi * 16, none⟩)) rfl (by kernel_rfl) (by kernel_rfl) (by kernel_rfl) (fun _ _ _ h => h) (Or.inl ⟨by rfl, ?_⟩) hHeld ?_
      · intro w' hSw
        obtain ⟨s0, s1, s2⟩ := hSw
        go_simp
        try with_reducible rfl
        try omega
      simp only [Act.put, List.setIfInBounds_toArray, List.set_cons_zero, List.set_cons_succ]
      refine wpAnyH_ready (rs := [13]) (by kernel_rfl) (by simp) ?_
      refine AllReadyH.cons (o := ⟨none, _, _, _, _, _⟩) rfl (fun K hK => ?_) AllReadyH.nil
      refine step_store_row rfl _ _ rfl 49 g pi 6 6 f R rfl rfl HRow.out hpl.out ?_
      intro wz HRz Kz
      refine hK.out _ _ ⟨cell_keep Kz.out hmg.out hHeld.1, cell_keep Kz.out hig.out hHeld.2.1, fun j v hj => cell_keep Kz.out hig.out (hHeld.2.2 j v hj)⟩ (fun hHeld => ?_)
      clear hK K
      try simp only [Act.put, List.setIfInBounds_toArray, List.set_cons_zero, List.set_cons_succ]
      clear hHeld
      refine wpAnyH_done (by kernel_rfl) ?_ _
      go_wp2_with fail
      have HM9 : Hid (Mx wz m g (fun k => if k = pi then R else f k)) := ⟨by obtain ⟨C, h1, h2⟩ := HMd.out.blkm; exact ⟨C, Kz.out.keep h1 hmg.out, h2⟩, HRz.out, hmg.out⟩
      have HX9 : Hid (Cx w wz [m, g] c lp p dp 6 lb mb n' lv σ') := (HXd.out.loc Kz.out (fun q hq => by subst hq; exact ⟨by simp, hgw.out⟩)).pop
      have HF9 : Hid (∀ i, i < 6 → PgOk ((fun k => if k = pi then R else f k) i)) := fun i hi => by
        show PgOk (if i = pi then R else f i)
        split
        · exact hP9.out
        · exact HF.out i hi
      clear HRz Kz HMd HXd HRow
      go_roundw
      case rel => exact ⟨k + 1, σ', n', lv, _, q + 1, hkN.out, rfl, by push_cast; rfl, HX9, HM9, HF9, HI8, hO9, HC8.out.1, by have := HC8.out.2; omega⟩
      case measure => have := hkN.out; simp [intOf]; omega
    · obtain rfl : k = n := by omega
      have hkI : ¬ (k : Int) < k := by omega
      have hqk : Hid (q ≤ 12) := by have := HC.out.2; have := hn100.out; show q ≤ 12; omega
      obtain ⟨⟨s0, hl0, hs0⟩, hT0, hB0⟩ := HO.out
      obtain ⟨F1, hF1⟩ : ∃ z, flB (128 + 320 * q) = z := ⟨_, rfl⟩
      obtain ⟨F2, hF2⟩ : ∃ z, flB q = z := ⟨_, rfl⟩
      have hq12 := hqk.out
      have h53 : (2 : Nat) ^ 53 = 9007199254740992 := by decide
      have oF1 : FloatKind.f64.format.order F1 F1 = some .eq := hF1 ▸ fl_same _ (by omega)
      have oF2 : FloatKind.f64.format.order F2 F2 = some .eq := hF2 ▸ fl_same _ (by omega)
      have aF : ∀ w, (binOp .add 96 (.complex .f64 Z Z) (.complex .f64 F1 F2)).run Tryz.prog w = .ok (.complex .f64 F1 F2) w := fun w => by
        have := add_run 0 0 (128 + 320 * q) q (by omega) (by omega) 96 w
        rw [Nat.zero_add, Nat.zero_add, hF1, hF2, hZ] at this
        exact this
      have hw1 : IntKind.i64.wrap ((q : Int) * 320) = (q : Int) * 320 := by rw [IntKind.wrap_i64]; omega
      have hw2 : IntKind.i64.wrap (128 + (q : Int) * 320) = 128 + (q : Int) * 320 := by rw [IntKind.wrap_i64]; omega
      have hfA : floatOfInt .f64 (128 + (q : Int) * 320) = F1 := by
        rw [← hF1, ← fl_of_int (128 + 320 * q) (by omega)]
        congr 1; push_cast; omega
      have hfA2 : FloatKind.f64.nearest (128 + (q : Int) * 320) = F1 := hfA
      have hfB : floatOfInt .f64 (q : Int) = F2 := by rw [← hF2]; exact fl_of_int q (by omega)
      have hfB2 : FloatKind.f64.nearest (q : Int) = F2 := hfB
      have HFr := Lib.hid (cx_drop HX.out 1 ⟨by omega, by omega⟩)
      replace hl0 := Lib.hid hl0
      replace hs0 := Lib.hid hs0
      have hTN := Lib.hid hT0
      replace hB0 := Lib.hid hB0
      replace hF1 := Lib.hid hF1
      replace hF2 := Lib.hid hF2
      clear HMx HF hk hkn hq12 h53 hT0
      go_wp2_with fail
      refine (HFr.out).mono ?_
      rintro e wa ⟨rfl, hr⟩
      have HXa : Hid (Cx w wa [m, g] c lp p dp 6 lb mb nk lv σ) := by
        rcases hr with ⟨_, hx, _⟩ | ⟨⟨h1, _⟩, _⟩
        · exact hx
        · exact absurd hs0.out (h1 s0 (by rw [hl0.out]; simp))
      have HRa := Lib.hid (cx_reserved HXa.out)
      rw [hTN.out, show ((128 + 320 * q, q) : Nat × Nat).1 = 128 + 320 * q from rfl, show ((128 + 320 * q, q) : Nat × Nat).2 = q from rfl, hF1.out, hF2.out] at HRa
      clear hr HFr HX
      go_wp2_with fail
      refine (HRa.out).mono ?_
      rintro e wb ⟨rfl, hbb⟩
      have HXb := Lib.hid (HXa.out.later hbb)
      clear hbb HXa HRa
      -- the end, wherever the transaction has gone
      have hend : Hid (∀ (wx : World) (n' : Nat) (lv' : Value) (σ' : CS) (A B : Nat), Cx w wx [m, g] c lp p dp 6 lb mb n' lv' σ' → σ'.lives = [] → σ'.T = (A, B) → σ'.B 1 = (A, B) → Calls Tryz.prog 34 #[.pointer (some ⟨c, 0, none⟩), .int .i64 1] wx fun e w' => e = .returned (.tuple #[]) ∧ ∃ σ2, Cx w w' [m, g] c lp p dp 6 lb mb n' lv' σ2 ∧ σ2.T = (0, 0)) := fun wx n' lv' σ' A B hx h1 h2 h3 => by
        refine (cx_drop hx 1 ⟨by omega, by omega⟩).mono ?_
        rintro e w' ⟨rfl, hr⟩
        rcases hr with ⟨h4, _⟩ | ⟨_, h4, _⟩
        · rcases h4 with ⟨s, h5, _⟩ | h5
          · rw [h1] at h5; cases h5
          · omega
        · refine ⟨rfl, _, h4, ?_⟩
          show (σ'.T.1 - (σ'.B 1).1, σ'.T.2 - (σ'.B 1).2) = (0, 0)
          rw [h2, h3]; simp
      cases cm with
      | true =>
        have HCm := Lib.hid (cx_commit_one HXb.out HI.out HO.out)
        go_wp2_with fail
        refine (HCm.out).mono ?_
        rintro e wc ⟨rfl, hkc, n', lv', σ', hxc, h1, h2, h3⟩
        have HXc := Lib.hid hxc
        have HRc := Lib.hid (cx_reserved hxc)
        rw [h2, show ((128 + 320 * q, q) : Nat × Nat).1 = 128 + 320 * q from rfl, show ((128 + 320 * q, q) : Nat × Nat).2 = q from rfl, hF1.out, hF2.out] at HRc
        have hfc := Lib.hid (And.intro h1 (And.intro h2 h3))
        clear hkc hxc h1 h2 h3 HCm HXb
        go_wp2_with fail
        refine (HRc.out).mono ?_
        rintro e wd ⟨rfl, hbd⟩
        have HFd := Lib.hid (hend.out wd n' lv' σ' _ _ (HXc.out.later hbd) hfc.out.1 hfc.out.2.1 hfc.out.2.2)
        clear hbd HXc HRc
        go_wp2_with fail
        refine (HFd.out).mono ?_
        rintro e we ⟨rfl, σ2, hx2, h2⟩
        have HRe := Lib.hid (cx_reserved hx2)
        rw [h2, hZ] at HRe
        have HBe := Lib.hid hx2
        clear hx2 h2 HFd hend
        go_wp2_with fail
        refine (HRe.out).mono ?_
        rintro e wf ⟨rfl, hbf⟩
        have HBf : Hid (Below w.heap.size w wf) := (HBe.out.later hbf).bel
        clear hbf HRe HBe
        go_wp2_with fail
        go_ret
        exact ⟨rfl, HBf.out⟩
      | false =>
        have HAb := Lib.hid (cx_abort_one HXb.out HI.out HO.out (by have := HC.out.1; have := hn100.out; omega) (by omega))
        unfold kitV at HAb
        go_wp2_with fail
        refine (HAb.out).mono ?_
        rintro e wc ⟨rfl, hkc, n', lv', σ', hxc, h1, h2, h3⟩
        have HXc := Lib.hid hxc
        have HRc := Lib.hid (cx_reserved hxc)
        rw [h2, hZ, hE] at HRc
        have hfc := Lib.hid (And.intro h1 (And.intro h2 h3))
        clear hkc hxc h1 h2 h3 HAb HXb
        go_wp2_with fail
        refine (HRc.out).mono ?_
        rintro e wd ⟨rfl, hbd⟩
        have HFd := Lib.hid (hend.out wd n' lv' σ' _ _ (HXc.out.later hbd) hfc.out.1 hfc.out.2.1 hfc.out.2.2)
        clear hbd HXc HRc
        go_wp2_with fail
        refine (HFd.out).mono ?_
        rintro e we ⟨rfl, σ2, hx2, h2⟩
        have HRe := Lib.hid (cx_reserved hx2)
        rw [h2, hZ] at HRe
        have HBe := Lib.hid hx2
        clear hx2 h2 HFd hend
        go_wp2_with fail
        refine (HRe.out).mono ?_
        rintro e wf ⟨rfl, hbf⟩
        have HBf : Hid (Below w.heap.size w wf) := (HBe.out.later hbf).bel
        clear hbf HRe HBe
        go_wp2_with fail
        go_ret
        exact ⟨rfl, HBf.out⟩
end Go.Proofs.YtimomjheanfbmaaGreatDoor
