import Derived.Test.YtgealllnchpekaaNodeRSplitA
import Derived.Test.YtgealllnchpekaaNodeK
set_option linter.unusedSimpArgs false
set_option linter.unusedVariables false
namespace Go.Proofs.Ytgealllnchpekaa
open Go.RowKit

set_option maxHeartbeats 1600000 in
theorem rf_data' (k r : ByteArray) (hk : k.size ≤ 8) (hr : 1 + k.size + r.size ≤ 2 ^ 63 - 1) (w : World) :
    Calls Try.prog 40 #[.string k, .string r] w fun e w' => e = .returned (.string (textS k ++ r)) ∧ Below w.heap.size w w' := by
  have hx := run_convert_bytes_arg (P := Try.prog) (w.alloc (.cells #[.int .u8 k.size] 5)) 84 5 Try.underlying84 Try.underlying5 w.heap.size 0 1 1 [(k.size : Int)] rfl (fun i hi => by
    obtain rfl : i = 0 := by omega
    exact World.cell?_alloc_new _ _ _ _ ) 9 Try.underlying9
  have h1 := strOfNums_one (k.size : Int)
  have h2 : (strOfNums [(k.size : Int)] ++ k).size = 1 + k.size := by rw [bytes_size, h1]
  unfold textS
  have hk' : (k.size : Int) ≤ 8 := by omega
  go_enter Try.func40, Try.ntmps40
  go_wp2_with fail
  go_ret
  exact ⟨rfl, bA bR⟩
theorem text_nil : textS ⟨#[]⟩ = ⟨#[0]⟩ := by decide +kernel
set_option maxRecDepth 100000 in
set_option maxHeartbeats 16000000 in
theorem rf_split {P : Pg} {n : Nat} (hn : IsCount P n) (hd : ∀ i, (P.dt i).size ≤ maxLen) (w : World) :
    Calls Try.prog 31 #[pgV P] w fun e w' => e = .returned (.tuple #[pgV (splitR P n).1, pgV (splitR P n).2.1, .string (splitR P n).2.2.1, .int .i64 (splitR P n).2.2.2]) ∧ Below w.heap.size w w' := by
  have HN := Lib.hid (fun w => rf_cells hn w)
  have hn6 : n ≤ 6 := hn.1
  clear hn
  unfold splitR
  unfold pgV at *
  have HQc : Hid ((((w.alloc (.cells (pgC P) 26)).alloc (.cells (pgC pageZ) 26)).alloc (.cells (pgC pageZ) 26)).heap[w.heap.size]? = some (.cells (pgC P) 26 (0, 0))) := hO (hO (hN rfl))
  by_cases hn2 : n < 2
  · rw [if_pos hn2]
    have hn2' : (n : Int) < 2 := by omega
    go_enter Try.func31, Try.ntmps31
    go_wp2_with (refine wpList_load_row rfl 26 _ rfl _ rfl 26 _ _ _ HQc.out Try.underlying26 rfl (by kernel_rfl) ?_)
    refine (HN.out _).mono ?_
    rintro e w3 ⟨v, rfl, hc, hb, hnil⟩
    obtain ⟨ad, cc, rfl, hcc⟩ := hc.1.cap
    have HB3 := Lib.hid (bT (bA (bA (bA bR))) hb)
    have HR3 := Lib.hid (hBs hb (hO (hN (n := w.heap.size + 1) (by simp))))
    have HS3 := Lib.hid (hBs hb (hN (n := w.heap.size + 1 + 1) (by simp)))
    clear hb HN HQc hc hnil
    go_wp2_with (first
      | (refine wpList_store_whole rfl 26 _ _ rfl _ (pgC pageZ) rfl rfl _ _ HS4.out rfl (by kernel_rfl) (pgC_one pageZ) ?_; intro w5 HS5 HK5; (have HR5 := Lib.hid (HK5.out.keep HR4.out (by omega))))
      | (refine wpList_store_whole rfl 26 _ _ rfl _ (pgC pageZ) rfl rfl _ _ HR3.out rfl (by kernel_rfl) (pgC_one pageZ) ?_; intro w4 HR4 HK4; (have HS4 := Lib.hid (HK4.out.keep HS3.out (by omega)))))
    exact bodyPost_ret (results_two_rows Try.results31 _ _ _ _ _ _ _ _ _ rfl HR5.out rfl HS5.out Try.underlying26 rfl (by kernel_rfl) (by kernel_rfl)) rfl ⟨rfl, bK (bK HB3.out HK4.out (fun j hj => by omega)) HK5.out (fun j hj => by omega)⟩
  rw [if_neg hn2]
  have hn2' : (2 : Int) ≤ n := by omega
  obtain ⟨h, hh⟩ : ∃ h, (n + 1) / 2 = h := ⟨_, rfl⟩
  rw [hh]
  have hh1 : 1 ≤ h := by omega
  have hhn : h < n := by omega
  have hdiv : (n : Int).tdiv 2 = (n : Int) / 2 := Int.tdiv_eq_ediv_of_nonneg (by omega)
  have wr1 : IntKind.i64.wrap ((n : Int) / 2) = (n : Int) / 2 := by rw [IntKind.wrap_i64]; omega
  have wr2 : IntKind.i64.wrap ((n : Int) - (n : Int) / 2) = (h : Int) := by rw [IntKind.wrap_i64]; omega
  clear hh
  have HKy := Lib.hid (fun w => rf_says (P.st h) (P.dt h) (hd h) w)
  unfold cellV at HKy
  dsimp only at HKy
  have hr1 := keyP_rest1 (P.st h) (P.dt h)
  have hdh := hd h
  generalize keyP (P.st h) (P.dt h) = r at *
  obtain ⟨own, rest, ok⟩ := r
  dsimp only at HKy hr1 ⊢
  have hrz : 1 + rest.size ≤ 2 ^ 63 - 1 := by unfold maxLen at hdh; omega
  clear hr1 hdh
  obtain ⟨HX, hHX⟩ : ∃ X : Pg, (if P.level = 0 then highPg P h n else highKey P h n (⟨#[0]⟩ ++ rest)) = X := ⟨_, rfl⟩
  rw [hHX]
  replace hHX := Lib.hid hHX
  go_enter Try.func31, Try.ntmps31
  go_wp2_with (refine wpList_load_row rfl 26 _ rfl _ rfl 26 _ _ _ HQc.out Try.underlying26 rfl (by kernel_rfl) ?_)
  refine (HN.out _).mono ?_
  rintro e w3 ⟨v, rfl, hc, hb, hnil⟩
  have HB3 := Lib.hid (bT (bA (bA (bA bR))) hb)
  have HR3 := Lib.hid (hBs hb (hO (hN (n := w.heap.size + 1) (by simp))))
  have HS3 := Lib.hid (hBs hb (hN (n := w.heap.size + 1 + 1) (by simp)))
  replace HQc := Lib.hid (hBs hb HQc.out)
  have hls := block_lt HS3.out
  obtain ⟨ad, cc, rfl, hcc⟩ := hc.1.cap
  have HL := Lib.hid hc
  obtain ⟨g, c', hv⟩ := HL.out.1.has (by omega)
  obtain ⟨rfl, rfl⟩ : ad = some ⟨g, 0, none⟩ ∧ cc = c' := by simpa using hv
  have hg3 : g < w3.heap.size := HL.out.1.lt (by simp [blk, Value.ownBlock])
  clear hb HN hc hnil hv
  have hcp : (n : Int) ≤ cc := by omega
  have hcp0 : ¬ cc = 0 := by omega
  have hch : ¬ cc = h := by omega
  have hhc : (h : Int) ≤ cc := by omega
  have hh0 : (0 : Int) ≤ h := by omega
  have hhn0 : (h : Int) ≤ n := by omega
  have hhn1 : ¬ n < h := by omega
  have hut := Lib.hid Try.underlying26
  have hi16 : Hid ((Try.prog.info? 26).map (·.size) = some (pgC P).toList.length) := (by kernel_rfl : (Try.prog.info? 26).map (·.size) = some (pgC P).toList.length)
  go_wp2_with fail
  go_cut [8] from 26 to 30 (fun s8 wx => ∃ b8 : Nat, s8 = .pointer (some ⟨b8, 0, none⟩) ∧ w.heap.size + 1 + 1 < b8 ∧ Hid (wx.heap[b8]? = some (.cells (pgC (withPg P P h 6)) 26 (0, 0))) ∧ Hid (Keeps (fun _ => False) w3 wx))
  case first =>
    have hgW : g < w3.drew.heap.size := hg3
    have hcW : ∀ j, j < h → w3.drew.cell? ⟨g, 0 + j * 2, none⟩ = some (.int .i64 (P.st j)) ∧ w3.drew.cell? ⟨g, 0 + j * 2 + 1, none⟩ = some (.string (P.dt j)) := fun j hj => by
      rw [Nat.zero_add]
      exact HL.out.at j (by omega)
    have hS0 : w3.drew.heap[w.heap.size]? = some (.cells (pgC P) 26 (0, 0)) := hDr HQc.out
    refine wp_region_held_drew (S := fun w' => w'.heap[w.heap.size]? = some (.cells (pgC P) 26 (0, 0))) (by kernel_rfl) hS0 (fun hHeld => ?_)
    refine wpAnyH_take (i := 0) (oi := ⟨some 26, _, _, _, _, _⟩) (v := .agg (pgC P)) rfl (by kernel_rfl) (by kernel_rfl) (by kernel_rfl) (fun _ _ _ h => h) (yieldsIf_load_mid (by rfl) _ _ rfl w.heap.size 0 rfl (pgC P).toList _ (fun _ h => range_of0 h) hut.out rfl hi16.out) hHeld ?_
    simp only [Act.put, List.setIfInBounds_toArray, List.set_cons_zero, List.set_cons_succ]
    refine wpAnyH_take (i := 1) (oi := ⟨some 27, _, _, _, _, _⟩) (v := .slice (some ⟨g, 0, none⟩) n cc) rfl (by kernel_rfl) (by kernel_rfl) (by kernel_rfl) (fun _ _ _ h => h) (Or.inl ⟨by rfl, fun _ _ => rfl⟩) hHeld ?_
    simp only [Act.put, List.setIfInBounds_toArray, List.set_cons_zero, List.set_cons_succ]
    refine wpAnyH_take (i := 2) (oi := ⟨some 28, _, _, _, _, _⟩) (v := .int .i64 h) rfl (by kernel_rfl) (by kernel_rfl) (by kernel_rfl) (fun _ _ _ h => h) (Or.inl ⟨by rfl, fun _ _ => rfl⟩) hHeld ?_
    simp only [Act.put, List.setIfInBounds_toArray, List.set_cons_zero, List.set_cons_succ]
    refine wpAnyH_take (i := 3) (oi := ⟨some 29, _, _, _, _, _⟩) (v := .slice (some ⟨g, 0, none⟩) h cc) rfl (by kernel_rfl) (by kernel_rfl) (by kernel_rfl) (fun _ _ _ h => h) (Or.inl ⟨by rfl, ?_⟩) hHeld ?_
    · intro w hSw
      go_simp
    simp only [Act.put, List.setIfInBounds_toArray, List.set_cons_zero, List.set_cons_succ]
    refine wpAnyH_ready (rs := [4, 5]) (by kernel_rfl) (by simp) ?_
    refine AllReadyH.cons (o := ⟨some 30, _, _, _, _, _⟩) rfl (fun K hK => ?_) (AllReadyH.cons (o := ⟨some 8, _, _, _, _, _⟩) rfl (fun K hK => ?_) AllReadyH.nil)
    · go_simp
      go_at_call 46
      refine (rf_withs P P h (by omega) g 0 cc (by omega) w3.drew hgW (fun j hj => hcW j hj)).mono ?_
      rintro e wa ⟨rfl, hb⟩
      have hqa := hBs hb hHeld
      have hba := hb.size
      go_wp2_with fail
      refine hK.out _ _ (hqa) (fun hHeld => ?_)
      clear hK K
      try simp only [Act.put, List.setIfInBounds_toArray, List.set_cons_zero, List.set_cons_succ]
      refine wpAnyH_ready (rs := [5]) (by kernel_rfl) (by simp) ?_
      refine AllReadyH.cons (o := ⟨some 8, _, _, _, _, _⟩) rfl (fun K hK => ?_) AllReadyH.nil
      go_simp
      refine hK.out _ _ (hO hHeld) (fun hHeld => ?_)
      clear hK K
      try simp only [Act.put, List.setIfInBounds_toArray, List.set_cons_zero, List.set_cons_succ]
      have HA : (wa.alloc (.cells (pgC pageZ) 26)).heap[wa.heap.size]? = some (.cells (pgC pageZ) 26 (0, 0)) := hN rfl
      have KA : Keeps (fun _ => False) w3 (wa.alloc (.cells (pgC pageZ) 26)) := ((Keeps.refl (fun _ => False) w3).drew.trans (Keeps.of_below (fun _ => False) hb) (fun _ _ h => h)).alloc _
      have hsa : w3.heap.size ≤ wa.heap.size := hb.size
      refine wpAnyH_ready (rs := [6]) (by kernel_rfl) (by simp) ?_
      refine AllReadyH.cons (o := ⟨none, _, _, _, _, _⟩) rfl (fun K hK => ?_) AllReadyH.nil
      refine step_store_whole rfl 26 _ _ rfl _ (pgC (withPg P P h 6)) rfl rfl _ _ HA rfl (by kernel_rfl) (pgC_one _) ?_
      intro wz HRz HKz
      refine hK.out _ _ (HKz.out.keep hHeld (by omega)) (fun hHeld => ?_)
      clear hK K
      try simp only [Act.put, List.setIfInBounds_toArray, List.set_cons_zero, List.set_cons_succ]
      refine wpAnyH_done (by kernel_rfl) ?_ _
      refine ‹∀ (a' : Act) (w' : World), Met _ a' w' → _› _ _ ?_
      go_meet
      case rel => exact ⟨_, rfl, by omega, HRz, KA.trans HKz.out (fun i hi e => by omega)⟩
    · go_simp
      refine hK.out _ _ (hO hHeld) (fun hHeld => ?_)
      clear hK K
      try simp only [Act.put, List.setIfInBounds_toArray, List.set_cons_zero, List.set_cons_succ]
      refine wpAnyH_ready (rs := [4]) (by kernel_rfl) (by simp) ?_
      refine AllReadyH.cons (o := ⟨some 30, _, _, _, _, _⟩) rfl (fun K hK => ?_) AllReadyH.nil
      have hgW2 : g < (w3.drew.alloc (.cells (pgC pageZ) 26)).heap.size := by simp; omega
      go_simp
      go_at_call 46
      refine (rf_withs P P h (by omega) g 0 cc (by omega) (w3.drew.alloc (.cells (pgC pageZ) 26)) hgW2 (fun j hj => ⟨(cell_keep (((Keeps.refl (fun _ => False) w3).drew).alloc _) hgW id).trans (hcW j hj).1, (cell_keep (((Keeps.refl (fun _ => False) w3).drew).alloc _) hgW id).trans (hcW j hj).2⟩)).mono ?_
      rintro e wa ⟨rfl, hb⟩
      have hqa := hBs hb hHeld
      have HA : wa.heap[w3.heap.size]? = some (.cells (pgC pageZ) 26 (0, 0)) := hBs hb (hN (by simp))
      have KA : Keeps (fun _ => False) w3 wa := (((Keeps.refl (fun _ => False) w3).drew).alloc _).trans (Keeps.of_below (fun _ => False) hb) (fun _ _ h => h)
      go_wp2_with fail
      refine hK.out _ _ (hqa) (fun hHeld => ?_)
      clear hK K
      try simp only [Act.put, List.setIfInBounds_toArray, List.set_cons_zero, List.set_cons_succ]
      refine wpAnyH_ready (rs := [6]) (by kernel_rfl) (by simp) ?_
      refine AllReadyH.cons (o := ⟨none, _, _, _, _, _⟩) rfl (fun K hK => ?_) AllReadyH.nil
      refine step_store_whole rfl 26 _ _ rfl _ (pgC (withPg P P h 6)) rfl rfl _ _ HA rfl (by kernel_rfl) (pgC_one _) ?_
      intro wz HRz HKz
      refine hK.out _ _ (HKz.out.keep hHeld (by omega)) (fun hHeld => ?_)
      clear hK K
      try simp only [Act.put, List.setIfInBounds_toArray, List.set_cons_zero, List.set_cons_succ]
      refine wpAnyH_done (by kernel_rfl) ?_ _
      refine ‹∀ (a' : Act) (w' : World), Met _ a' w' → _› _ _ ?_
      go_meet
      case rel => exact ⟨_, rfl, by omega, HRz, KA.trans HKz.out (fun i hi e => by omega)⟩
  case rest =>
    obtain ⟨b8, rfl, l8, H8, HK⟩ := hcut
    rw [with_low P h] at H8
    replace HQc := Lib.hid (HK.out.keep HQc.out id)
    have HR4 := Lib.hid (HK.out.keep HR3.out id)
    have HS4 := Lib.hid (HK.out.keep HS3.out id)
    have HB4 := Lib.hid (bK HB3.out HK.out (fun _ h => h.elim))
    have HL4 := Lib.hid (HL.out.keep HK.out (fun _ _ h => h))
    have hg4 : g < wc.heap.size := Nat.lt_of_lt_of_le hg3 HK.out.size
    have h8l := block_lt H8.out
    clear HK HB3 HR3 HS3 hls HL hg3
    go_wp2_with fail
    go_cut [9] from 31 to 35 (fun s9 wx => ∃ b9 : Nat, s9 = .pointer (some ⟨b9, 0, none⟩) ∧ wc.heap.size ≤ b9 ∧ Hid (wx.heap[b9]? = some (.cells (pgC (withPg P (shiftPg P h) (n - h) 6)) 26 (0, 0))) ∧ Hid (Keeps (fun _ => False) wc wx))
    case first =>
      have hgW : g < wc.drew.heap.size := hg4
      have hcW : ∀ j, j < n - h → wc.drew.cell? ⟨g, h * 2 + j * 2, none⟩ = some (.int .i64 ((shiftPg P h).st j)) ∧ wc.drew.cell? ⟨g, h * 2 + j * 2 + 1, none⟩ = some (.string ((shiftPg P h).dt j)) := fun j hj => by
        rw [show h * 2 + j * 2 = (h + j) * 2 by omega]
        exact HL4.out.at (h + j) (by omega)
      have hS0 : wc.drew.heap[w.heap.size]? = some (.cells (pgC P) 26 (0, 0)) := hDr HQc.out
      refine wp_region_held_drew (S := fun w' => w'.heap[w.heap.size]? = some (.cells (pgC P) 26 (0, 0))) (by kernel_rfl) hS0 (fun hHeld => ?_)
      refine wpAnyH_take (i := 0) (oi := ⟨some 31, _, _, _, _, _⟩) (v := .agg (pgC P)) rfl (by kernel_rfl) (by kernel_rfl) (by kernel_rfl) (fun _ _ _ h => h) (yieldsIf_load_mid (by rfl) _ _ rfl w.heap.size 0 rfl (pgC P).toList _ (fun _ h => range_of0 h) hut.out rfl hi16.out) hHeld ?_
      simp only [Act.put, List.setIfInBounds_toArray, List.set_cons_zero, List.set_cons_succ]
      refine wpAnyH_take (i := 1) (oi := ⟨some 32, _, _, _, _, _⟩) (v := .slice (some ⟨g, 0, none⟩) n cc) rfl (by kernel_rfl) (by kernel_rfl) (by kernel_rfl) (fun _ _ _ h => h) (Or.inl ⟨by rfl, fun _ _ => rfl⟩) hHeld ?_
      simp only [Act.put, List.setIfInBounds_toArray, List.set_cons_zero, List.set_cons_succ]
      refine wpAnyH_take (i := 2) (oi := ⟨some 33, _, _, _, _, _⟩) (v := .int .i64 h) rfl (by kernel_rfl) (by kernel_rfl) (by kernel_rfl) (fun _ _ _ h => h) (Or.inl ⟨by rfl, fun _ _ => rfl⟩) hHeld ?_
      simp only [Act.put, List.setIfInBounds_toArray, List.set_cons_zero, List.set_cons_succ]
      refine wpAnyH_take (i := 3) (oi := ⟨some 34, _, _, _, _, _⟩) (v := .slice (some ⟨g, h * 2, none⟩) (n - h) (cc - h)) rfl (by kernel_rfl) (by kernel_rfl) (by kernel_rfl) (fun _ _ _ h => h) (Or.inl ⟨by rfl, ?_⟩) hHeld ?_
      · intro w hSw
        go_simp
      simp only [Act.put, List.setIfInBounds_toArray, List.set_cons_zero, List.set_cons_succ]
      refine wpAnyH_ready (rs := [4, 5]) (by kernel_rfl) (by simp) ?_
      refine AllReadyH.cons (o := ⟨some 35, _, _, _, _, _⟩) rfl (fun K hK => ?_) (AllReadyH.cons (o := ⟨some 9, _, _, _, _, _⟩) rfl (fun K hK => ?_) AllReadyH.nil)
      · go_simp
        go_at_call 46
        refine (rf_withs P (shiftPg P h) (n - h) (by omega) g (h * 2) (cc - h) (by omega) wc.drew hgW (fun j hj => hcW j hj)).mono ?_
        rintro e wa ⟨rfl, hb⟩
        have hqa := hBs hb hHeld
        have hba := hb.size
        go_wp2_with fail
        refine hK.out _ _ (hqa) (fun hHeld => ?_)
        clear hK K
        try simp only [Act.put, List.setIfInBounds_toArray, List.set_cons_zero, List.set_cons_succ]
        refine wpAnyH_ready (rs := [5]) (by kernel_rfl) (by simp) ?_
        refine AllReadyH.cons (o := ⟨some 9, _, _, _, _, _⟩) rfl (fun K hK => ?_) AllReadyH.nil
        go_simp
        refine hK.out _ _ (hO hHeld) (fun hHeld => ?_)
        clear hK K
        try simp only [Act.put, List.setIfInBounds_toArray, List.set_cons_zero, List.set_cons_succ]
        have HA : (wa.alloc (.cells (pgC pageZ) 26)).heap[wa.heap.size]? = some (.cells (pgC pageZ) 26 (0, 0)) := hN rfl
        have KA : Keeps (fun _ => False) wc (wa.alloc (.cells (pgC pageZ) 26)) := ((Keeps.refl (fun _ => False) wc).drew.trans (Keeps.of_below (fun _ => False) hb) (fun _ _ h => h)).alloc _
        have hsa : wc.heap.size ≤ wa.heap.size := hb.size
        refine wpAnyH_ready (rs := [6]) (by kernel_rfl) (by simp) ?_
        refine AllReadyH.cons (o := ⟨none, _, _, _, _, _⟩) rfl (fun K hK => ?_) AllReadyH.nil
        refine step_store_whole rfl 26 _ _ rfl _ (pgC (withPg P (shiftPg P h) (n - h) 6)) rfl rfl _ _ HA rfl (by kernel_rfl) (pgC_one _) ?_
        intro wz HRz HKz
        refine hK.out _ _ (HKz.out.keep hHeld (by omega)) (fun hHeld => ?_)
        clear hK K
        try simp only [Act.put, List.setIfInBounds_toArray, List.set_cons_zero, List.set_cons_succ]
        refine wpAnyH_done (by kernel_rfl) ?_ _
        refine ‹∀ (a' : Act) (w' : World), Met _ a' w' → _› _ _ ?_
        go_meet
        case rel => exact ⟨_, rfl, by omega, HRz, KA.trans HKz.out (fun i hi e => by omega)⟩
      · go_simp
        refine hK.out _ _ (hO hHeld) (fun hHeld => ?_)
        clear hK K
        try simp only [Act.put, List.setIfInBounds_toArray, List.set_cons_zero, List.set_cons_succ]
        refine wpAnyH_ready (rs := [4]) (by kernel_rfl) (by simp) ?_
        refine AllReadyH.cons (o := ⟨some 35, _, _, _, _, _⟩) rfl (fun K hK => ?_) AllReadyH.nil
        have hgW2 : g < (wc.drew.alloc (.cells (pgC pageZ) 26)).heap.size := by simp; omega
        go_simp
        go_at_call 46
        refine (rf_withs P (shiftPg P h) (n - h) (by omega) g (h * 2) (cc - h) (by omega) (wc.drew.alloc (.cells (pgC pageZ) 26)) hgW2 (fun j hj => ⟨(cell_keep (((Keeps.refl (fun _ => False) wc).drew).alloc _) hgW id).trans (hcW j hj).1, (cell_keep (((Keeps.refl (fun _ => False) wc).drew).alloc _) hgW id).trans (hcW j hj).2⟩)).mono ?_
        rintro e wa ⟨rfl, hb⟩
        have hqa := hBs hb hHeld
        have HA : wa.heap[wc.heap.size]? = some (.cells (pgC pageZ) 26 (0, 0)) := hBs hb (hN (by simp))
        have KA : Keeps (fun _ => False) wc wa := (((Keeps.refl (fun _ => False) wc).drew).alloc _).trans (Keeps.of_below (fun _ => False) hb) (fun _ _ h => h)
        go_wp2_with fail
        refine hK.out _ _ (hqa) (fun hHeld => ?_)
        clear hK K
        try simp only [Act.put, List.setIfInBounds_toArray, List.set_cons_zero, List.set_cons_succ]
        refine wpAnyH_ready (rs := [6]) (by kernel_rfl) (by simp) ?_
        refine AllReadyH.cons (o := ⟨none, _, _, _, _, _⟩) rfl (fun K hK => ?_) AllReadyH.nil
        refine step_store_whole rfl 26 _ _ rfl _ (pgC (withPg P (shiftPg P h) (n - h) 6)) rfl rfl _ _ HA rfl (by kernel_rfl) (pgC_one _) ?_
        intro wz HRz HKz
        refine hK.out _ _ (HKz.out.keep hHeld (by omega)) (fun hHeld => ?_)
        clear hK K
        try simp only [Act.put, List.setIfInBounds_toArray, List.set_cons_zero, List.set_cons_succ]
        refine wpAnyH_done (by kernel_rfl) ?_ _
        refine ‹∀ (a' : Act) (w' : World), Met _ a' w' → _› _ _ ?_
        go_meet
        case rel => exact ⟨_, rfl, by omega, HRz, KA.trans HKz.out (fun i hi e => by omega)⟩
    case rest =>
      obtain ⟨b9, rfl, l9, H9, HK⟩ := hcut
      rw [with_high P h n] at H9
      have h89 : b8 ≠ b9 := by omega
      have l9' : w.heap.size + 1 + 1 < b9 := by omega
      have HQ5 := Lib.hid (HK.out.keep HQc.out id)
      have HR5 := Lib.hid (HK.out.keep HR4.out id)
      have HS5 := Lib.hid (HK.out.keep HS4.out id)
      have HB5 := Lib.hid (bK HB4.out HK.out (fun _ h => h.elim))
      have HL5 := Lib.hid (HL4.out.keep HK.out (fun _ _ h => h))
      have H85 := Lib.hid (HK.out.keep H8.out id)
      clear HK HB4 HR4 HS4 HL4 hg4 H8 HQc l9 h8l
      obtain ⟨c0, c1⟩ := HL5.out.at h hhn
      have hhn' : (h : Int) < n := by omega
      go_wp2_with fail
      refine (HKy.out _).mono ?_
      rintro e w7 ⟨rfl, hb⟩
      have HB7 := Lib.hid (bT HB5.out hb)
      have H87 := Lib.hid (hBs hb H85.out)
      have H97 := Lib.hid (hBs hb H9.out)
      have HR7 := Lib.hid (hBs hb HR5.out)
      have HS7 := Lib.hid (hBs hb HS5.out)
      have HQ7 := Lib.hid (hBs hb HQ5.out)
      clear hb c0 c1 H85 H9 HR5 HS5 HQ5 HB5 HKy HL5
      have cl : w7.cell? ⟨w.heap.size, 1, none⟩ = some (.int .i64 P.level) := cell_at HQ7.out 1
      by_cases hl : P.level = 0
      · obtain rfl := hHX.out.symm.trans (if_pos hl)
        rw [hl] at cl
        replace hl := Lib.hid hl
        go_wp2_with fail
        have hS0 : w7.drew.heap[b8]? = some (.cells (pgC (lowPg P h)) 26 (0, 0)) ∧ w7.drew.heap[b9]? = some (.cells (pgC (highPg P h n)) 26 (0, 0)) := ⟨hDr H87.out, hDr H97.out⟩
        have hj16 : Hid ((Try.prog.info? 26).map (·.size) = some (pgC (lowPg P h)).toList.length) := (by kernel_rfl : (Try.prog.info? 26).map (·.size) = some (pgC (lowPg P h)).toList.length)
        have hk16 : Hid ((Try.prog.info? 26).map (·.size) = some (pgC (highPg P h n)).toList.length) := (by kernel_rfl : (Try.prog.info? 26).map (·.size) = some (pgC (highPg P h n)).toList.length)
        refine wp_region_held_drew (S := fun w' => w'.heap[b8]? = some (.cells (pgC (lowPg P h)) 26 (0, 0)) ∧ w'.heap[b9]? = some (.cells (pgC (highPg P h n)) 26 (0, 0))) (by kernel_rfl) hS0 (fun hHeld => ?_)
        refine wpAnyH_take (i := 0) (oi := ⟨some 53, _, _, _, _, _⟩) (v := .agg (pgC (lowPg P h))) rfl (by kernel_rfl) (by kernel_rfl) (by kernel_rfl) (fun _ _ _ h => h) (yieldsIf_load_mid (by rfl) _ _ rfl b8 0 rfl (pgC (lowPg P h)).toList _ (fun _ h => range_of0 h.1) hut.out rfl hj16.out) hHeld ?_
        simp only [Act.put, List.setIfInBounds_toArray, List.set_cons_zero, List.set_cons_succ]
        refine wpAnyH_take (i := 1) (oi := ⟨some 54, _, _, _, _, _⟩) (v := .agg (pgC (highPg P h n))) rfl (by kernel_rfl) (by kernel_rfl) (by kernel_rfl) (fun _ _ _ h => h) (yieldsIf_load_mid (by rfl) _ _ rfl b9 0 rfl (pgC (highPg P h n)).toList _ (fun _ h => range_of0 h.2) hut.out rfl hk16.out) hHeld ?_
        simp only [Act.put, List.setIfInBounds_toArray, List.set_cons_zero, List.set_cons_succ]
        refine wpAnyH_take (i := 2) (oi := ⟨some 55, _, _, _, _, _⟩) (v := .string own) rfl (by kernel_rfl) (by kernel_rfl) (by kernel_rfl) (fun _ _ _ h => h) (Or.inl ⟨by rfl, fun _ _ => rfl⟩) hHeld ?_
        simp only [Act.put, List.setIfInBounds_toArray, List.set_cons_zero, List.set_cons_succ]
        refine wpAnyH_ready (rs := [3]) (by kernel_rfl) (by simp) ?_
        refine AllReadyH.cons (o := ⟨none, _, _, _, _, _⟩) rfl (fun K hK => ?_) AllReadyH.nil
        refine step_store_whole rfl 26 _ _ rfl (w.heap.size + 1) (pgC (lowPg P h)) rfl rfl _ _ (hDr HR7.out) rfl (by kernel_rfl) (pgC_one _) ?_
        intro wa HRa Ka
        refine hK.out _ _ ⟨Ka.out.keep hHeld.1 (by omega), Ka.out.keep hHeld.2 (by omega)⟩ (fun hHeld => ?_)
        clear hK K
        try simp only [Act.put, List.setIfInBounds_toArray, List.set_cons_zero, List.set_cons_succ]
        have HSa := Lib.hid (Ka.out.keep (hDr HS7.out) (by omega))
        refine wpAnyH_ready (rs := [4]) (by kernel_rfl) (by simp) ?_
        refine AllReadyH.cons (o := ⟨none, _, _, _, _, _⟩) rfl (fun K hK => ?_) AllReadyH.nil
        refine step_store_whole rfl 26 _ _ rfl (w.heap.size + 1 + 1) (pgC (highPg P h n)) rfl rfl _ _ HSa.out rfl (by kernel_rfl) (pgC_one _) ?_
        intro wb HSb Kb
        refine hK.out _ _ ⟨Kb.out.keep hHeld.1 (by omega), Kb.out.keep hHeld.2 (by omega)⟩ (fun hHeld => ?_)
        clear hK K
        try simp only [Act.put, List.setIfInBounds_toArray, List.set_cons_zero, List.set_cons_succ]
        have HRb := Lib.hid (Kb.out.keep HRa.out (by omega))
        refine wpAnyH_take (i := 5) (oi := ⟨some 4, _, _, _, _, _⟩) (v := .string own) rfl (by kernel_rfl) (by kernel_rfl) (by kernel_rfl) (fun _ _ _ h => h) (Or.inl ⟨by rfl, fun _ _ => rfl⟩) hHeld ?_
        simp only [Act.put, List.setIfInBounds_toArray, List.set_cons_zero, List.set_cons_succ]
        refine wpAnyH_take (i := 6) (oi := ⟨some 5, _, _, _, _, _⟩) (v := .int .i64 0) rfl (by kernel_rfl) (by kernel_rfl) (by kernel_rfl) (fun _ _ _ h => h) (Or.inl ⟨by rfl, fun _ _ => rfl⟩) hHeld ?_
        simp only [Act.put, List.setIfInBounds_toArray, List.set_cons_zero, List.set_cons_succ]
        refine wpAnyH_done (by kernel_rfl) ?_ _
        refine ‹∀ (a : Act) (w : World), Code.wp Try.prog Code.ret _ a w → _› _ _ ?_
        refine wp_ret ?_
        exact bodyPost_ret (results_two_rows Try.results31 _ _ _ _ _ _ _ _ _ rfl HRb.out rfl HSb.out Try.underlying26 rfl (by kernel_rfl) (by kernel_rfl)) rfl ⟨rfl, bK (bK (bD HB7.out) Ka.out (fun j hj => by omega)) Kb.out (fun j hj => by omega)⟩
      · obtain rfl := hHX.out.symm.trans (if_neg hl)
        have hl' : (P.level != 0) = true := by simpa using hl
        have HDt := Lib.hid (fun w => rf_data' ⟨#[]⟩ rest (by decide) (by show 1 + 0 + rest.size ≤ _; omega) w)
        rw [text_nil] at HDt
        go_wp2_with fail
        refine (HDt.out _).mono ?_
        rintro e w9 ⟨rfl, hb⟩
        have HB9 := Lib.hid (bT HB7.out hb)
        have H89 := Lib.hid (hBs hb H87.out)
        have H99 := Lib.hid (hBs hb H97.out)
        have HR9 := Lib.hid (hBs hb HR7.out)
        have HS9 := Lib.hid (hBs hb HS7.out)
        clear hb H87 H97 HR7 HS7 HQ7 HB7 cl HDt
        have hdt0 : (highPg P h n).dt 0 = P.dt h := by simp [highPg, hhn]
        have c1 : w9.cell? ⟨b9, 5, none⟩ = some (.string (P.dt h)) := by
          have := (pg_at H99.out 0 (by omega)).2
          rw [hdt0] at this
          exact this
        have f1 := free_at H99.out 5
        have K8 : Hid (Keeps (· = b9) w9 (w9.setCell ⟨b9, 5, none⟩ (.string (⟨#[0]⟩ ++ rest)))) := (Keeps.refl (· = b9) w9).setCell _ _ (.inl rfl)
        have H98 : Hid ((w9.setCell ⟨b9, 5, none⟩ (.string (⟨#[0]⟩ ++ rest))).heap[b9]? = some (.cells (pgC (highKey P h n (⟨#[0]⟩ ++ rest))) 26 (0, 0))) := by
          have := heap_set H99.out 5 (.string (⟨#[0]⟩ ++ rest))
          rw [key_cells P h n (⟨#[0]⟩ ++ rest)] at this
          exact this
        have H88 := Lib.hid (K8.out.keep H89.out h89)
        have HR8 := Lib.hid (K8.out.keep HR9.out (by omega))
        have HS8 := Lib.hid (K8.out.keep HS9.out (by omega))
        have HB8 := Lib.hid (bK HB9.out K8.out (fun j e => by omega))
        clear K8 H89 H99 HR9 HS9 HB9
        go_wp2_with fail
        generalize w9.setCell ⟨b9, 5, none⟩ (.string (⟨#[0]⟩ ++ rest)) = w8 at *
        have hS0 : w8.drew.heap[b8]? = some (.cells (pgC (lowPg P h)) 26 (0, 0)) ∧ w8.drew.heap[b9]? = some (.cells (pgC (highKey P h n (⟨#[0]⟩ ++ rest))) 26 (0, 0)) := ⟨hDr H88.out, hDr H98.out⟩
        have hj16 : Hid ((Try.prog.info? 26).map (·.size) = some (pgC (lowPg P h)).toList.length) := (by kernel_rfl : (Try.prog.info? 26).map (·.size) = some (pgC (lowPg P h)).toList.length)
        have hk16 : Hid ((Try.prog.info? 26).map (·.size) = some (pgC (highKey P h n (⟨#[0]⟩ ++ rest))).toList.length) := (by kernel_rfl : (Try.prog.info? 26).map (·.size) = some (pgC (highKey P h n (⟨#[0]⟩ ++ rest))).toList.length)
        refine wp_region_held_drew (S := fun w' => w'.heap[b8]? = some (.cells (pgC (lowPg P h)) 26 (0, 0)) ∧ w'.heap[b9]? = some (.cells (pgC (highKey P h n (⟨#[0]⟩ ++ rest))) 26 (0, 0))) (by kernel_rfl) hS0 (fun hHeld => ?_)
        refine wpAnyH_take (i := 0) (oi := ⟨some 53, _, _, _, _, _⟩) (v := .agg (pgC (lowPg P h))) rfl (by kernel_rfl) (by kernel_rfl) (by kernel_rfl) (fun _ _ _ h => h) (yieldsIf_load_mid (by rfl) _ _ rfl b8 0 rfl (pgC (lowPg P h)).toList _ (fun _ h => range_of0 h.1) hut.out rfl hj16.out) hHeld ?_
        simp only [Act.put, List.setIfInBounds_toArray, List.set_cons_zero, List.set_cons_succ]
        refine wpAnyH_take (i := 1) (oi := ⟨some 54, _, _, _, _, _⟩) (v := .agg (pgC (highKey P h n (⟨#[0]⟩ ++ rest)))) rfl (by kernel_rfl) (by kernel_rfl) (by kernel_rfl) (fun _ _ _ h => h) (yieldsIf_load_mid (by rfl) _ _ rfl b9 0 rfl (pgC (highKey P h n (⟨#[0]⟩ ++ rest))).toList _ (fun _ h => range_of0 h.2) hut.out rfl hk16.out) hHeld ?_
        simp only [Act.put, List.setIfInBounds_toArray, List.set_cons_zero, List.set_cons_succ]
        refine wpAnyH_take (i := 2) (oi := ⟨some 55, _, _, _, _, _⟩) (v := .string own) rfl (by kernel_rfl) (by kernel_rfl) (by kernel_rfl) (fun _ _ _ h => h) (Or.inl ⟨by rfl, fun _ _ => rfl⟩) hHeld ?_
        simp only [Act.put, List.setIfInBounds_toArray, List.set_cons_zero, List.set_cons_succ]
        refine wpAnyH_ready (rs := [3]) (by kernel_rfl) (by simp) ?_
        refine AllReadyH.cons (o := ⟨none, _, _, _, _, _⟩) rfl (fun K hK => ?_) AllReadyH.nil
        refine step_store_whole rfl 26 _ _ rfl (w.heap.size + 1) (pgC (lowPg P h)) rfl rfl _ _ (hDr HR8.out) rfl (by kernel_rfl) (pgC_one _) ?_
        intro wa HRa Ka
        refine hK.out _ _ ⟨Ka.out.keep hHeld.1 (by omega), Ka.out.keep hHeld.2 (by omega)⟩ (fun hHeld => ?_)
        clear hK K
        try simp only [Act.put, List.setIfInBounds_toArray, List.set_cons_zero, List.set_cons_succ]
        have HSa := Lib.hid (Ka.out.keep (hDr HS8.out) (by omega))
        refine wpAnyH_ready (rs := [4]) (by kernel_rfl) (by simp) ?_
        refine AllReadyH.cons (o := ⟨none, _, _, _, _, _⟩) rfl (fun K hK => ?_) AllReadyH.nil
        refine step_store_whole rfl 26 _ _ rfl (w.heap.size + 1 + 1) (pgC (highKey P h n (⟨#[0]⟩ ++ rest))) rfl rfl _ _ HSa.out rfl (by kernel_rfl) (pgC_one _) ?_
        intro wb HSb Kb
        refine hK.out _ _ ⟨Kb.out.keep hHeld.1 (by omega), Kb.out.keep hHeld.2 (by omega)⟩ (fun hHeld => ?_)
        clear hK K
        try simp only [Act.put, List.setIfInBounds_toArray, List.set_cons_zero, List.set_cons_succ]
        have HRb := Lib.hid (Kb.out.keep HRa.out (by omega))
        refine wpAnyH_take (i := 5) (oi := ⟨some 4, _, _, _, _, _⟩) (v := .string own) rfl (by kernel_rfl) (by kernel_rfl) (by kernel_rfl) (fun _ _ _ h => h) (Or.inl ⟨by rfl, fun _ _ => rfl⟩) hHeld ?_
        simp only [Act.put, List.setIfInBounds_toArray, List.set_cons_zero, List.set_cons_succ]
        refine wpAnyH_take (i := 6) (oi := ⟨some 5, _, _, _, _, _⟩) (v := .int .i64 0) rfl (by kernel_rfl) (by kernel_rfl) (by kernel_rfl) (fun _ _ _ h => h) (Or.inl ⟨by rfl, fun _ _ => rfl⟩) hHeld ?_
        simp only [Act.put, List.setIfInBounds_toArray, List.set_cons_zero, List.set_cons_succ]
        refine wpAnyH_done (by kernel_rfl) ?_ _
        refine ‹∀ (a : Act) (w : World), Code.wp Try.prog Code.ret _ a w → _› _ _ ?_
        refine wp_ret ?_
        exact bodyPost_ret (results_two_rows Try.results31 _ _ _ _ _ _ _ _ _ rfl HRb.out rfl HSb.out Try.underlying26 rfl (by kernel_rfl) (by kernel_rfl)) rfl ⟨rfl, bK (bK (bD HB8.out) Ka.out (fun j hj => by omega)) Kb.out (fun j hj => by omega)⟩
end Go.Proofs.Ytgealllnchpekaa