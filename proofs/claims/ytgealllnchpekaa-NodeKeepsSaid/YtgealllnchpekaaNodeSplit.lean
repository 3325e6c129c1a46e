import Derived.Test.YtgealllnchpekaaNodeTake
import Derived.Test.YtgealllnchpekaaNodeZB
import Derived.Deep.CutRange
set_option linter.unusedSimpArgs false
set_option linter.unusedVariables false
namespace Go.Proofs.Ytgealllnchpekaa
open Go.RowKit

theorem keyP_rest1 (st : Int) (d : ByteArray) : (keyP st d).2.1.size = 0 ∨ (keyP st d).2.1.size + 1 ≤ d.size := by
  unfold keyP
  split
  · exact .inl rfl
  · rename_i h
    simp only [not_or] at h
    have hb := h.2.1
    unfold rdText at hb ⊢
    by_cases hc : (1 : Int) ≤ d.size
    · right
      have h1 : (rdNum d false 1).2.1.size + 1 ≤ d.size := by
        unfold rdNum
        rw [if_neg (by omega), rdBytes_yes ⟨rfl, by omega, hc⟩]
        simp [ByteArray.size_extract]
        omega
      have := (rdBytes_size (rdNum d false 1).2.1 (rdNum d false 1).2.2 (rdNum d false 1).1).1
      dsimp only
      omega
    · exfalso
      apply hb
      have h2 : (rdNum d false 1).2.2 = true := by
        unfold rdNum
        rw [if_neg (by omega), rdBytes_no (fun h => hc h.2.2)]
      rw [h2, rdBytes_no (fun h => by simp at h)]
def splitR (P : Pg) (n : Nat) : Pg × Pg × ByteArray × Int :=
  if n < 2 then (pageZ, pageZ, ⟨#[]⟩, 1)
  else (lowPg P ((n + 1) / 2), if P.level = 0 then highPg P ((n + 1) / 2) n else highKey P ((n + 1) / 2) n (⟨#[0]⟩ ++ (keyP (P.st ((n + 1) / 2)) (P.dt ((n + 1) / 2))).2.1), (keyP (P.st ((n + 1) / 2)) (P.dt ((n + 1) / 2))).1, 0)
set_option maxRecDepth 100000 in
set_option maxHeartbeats 16000000 in
theorem nd_split {P : Pg} {n : Nat} (hn : IsCount P n) (hd : ∀ i, (P.dt i).size ≤ maxLen) (w : World) :
    Calls Try.prog 30 #[pgV P] w fun e w' => e = .returned (.tuple #[pgV (splitR P n).1, pgV (splitR P n).2.1, .string (splitR P n).2.2.1, .int .i64 (splitR P n).2.2.2]) ∧ Below w.heap.size w w' := by
  have HN := Lib.hid (fun w => nd_count' hn w)
  have hn6 : n ≤ 6 := hn.1
  clear hn
  unfold splitR
  unfold pgV at *
  have HQc : Hid ((((w.alloc (.cells (pgC P) 26)).alloc (.cells (pgC pageZ) 26)).alloc (.cells (pgC pageZ) 26)).heap[w.heap.size]? = some (.cells (pgC P) 26 (0, 0))) := hO (hO (hN rfl))
  by_cases hn2 : n < 2
  · rw [if_pos hn2]
    have hn2' : (n : Int) < 2 := by omega
    go_enter Try.func30, Try.ntmps30
    go_wp2_with (refine wpList_load_row rfl 26 _ rfl _ rfl 26 _ _ _ HQc.out Try.underlying26 rfl (by kernel_rfl) ?_)
    refine (HN.out _).mono ?_
    rintro e w3 ⟨rfl, hb⟩
    have HB3 := Lib.hid (bT (bA (bA (bA bR))) hb)
    have HR3 := Lib.hid (hBs hb (hO (hN (n := w.heap.size + 1) (by simp))))
    have HS3 := Lib.hid (hBs hb (hN (n := w.heap.size + 1 + 1) (by simp)))
    clear hb HN HQc
    go_wp2_with (first
      | (refine wpList_store_whole rfl 26 _ _ rfl _ (pgC pageZ) rfl rfl _ _ HS4.out rfl (by kernel_rfl) (pgC_one pageZ) ?_; intro w5 HS5 HK5; (have HR5 := Lib.hid (HK5.out.keep HR4.out (by omega))))
      | (refine wpList_store_whole rfl 26 _ _ rfl _ (pgC pageZ) rfl rfl _ _ HR3.out rfl (by kernel_rfl) (pgC_one pageZ) ?_; intro w4 HR4 HK4; (have HS4 := Lib.hid (HK4.out.keep HS3.out (by omega)))))
    exact bodyPost_ret (results_two_rows Try.results30 _ _ _ _ _ _ _ _ _ rfl HR5.out rfl HS5.out Try.underlying26 rfl (by kernel_rfl) (by kernel_rfl)) rfl ⟨rfl, bK (bK HB3.out HK4.out (fun j hj => by omega)) HK5.out (fun j hj => by omega)⟩
  rw [if_neg hn2]
  have hn2' : (2 : Int) ≤ n := by omega
  obtain ⟨h, hh⟩ : ∃ h, (n + 1) / 2 = h := ⟨_, rfl⟩
  rw [hh]
  have hh1 : 1 ≤ h := by omega
  have hhn : h < n := by omega
  have hdiv : ((n : Int) + 1).tdiv 2 = (h : Int) := by rw [Int.tdiv_eq_ediv_of_nonneg (by omega)]; omega
  clear hh
  have wr1 : IntKind.i64.wrap ((n : Int) + 1) = (n : Int) + 1 := by rw [IntKind.wrap_i64]; omega
  have wr2 : IntKind.i64.wrap (h : Int) = (h : Int) := by rw [IntKind.wrap_i64]; omega
  have HKy := Lib.hid (fun w => nd_key (P.st h) (P.dt h) (hd h) w)
  unfold cellV at HKy
  dsimp only at HKy
  have hr1 := keyP_rest1 (P.st h) (P.dt h)
  have hdh := hd h
  generalize keyP (P.st h) (P.dt h) = r at *
  obtain ⟨own, rest, ok⟩ := r
  dsimp only at HKy hr1 ⊢
  have hrz : 1 + rest.size ≤ 2 ^ 63 - 1 := by unfold maxLen at hdh; omega
  clear hr1 hdh
  obtain ⟨HX, hHX⟩ : ∃ X : Pg, (if P.level = 0 then highPg P h n else highKey P h n (⟨#[0]⟩ ++ rest)) = X := ⟨_, rfl⟩
  rw [hHX]
  replace hHX := Lib.hid hHX
  go_enter Try.func30, Try.ntmps30
  go_wp2_with (refine wpList_load_row rfl 26 _ rfl _ rfl 26 _ _ _ HQc.out Try.underlying26 rfl (by kernel_rfl) ?_)
  refine (HN.out _).mono ?_
  rintro e w3 ⟨rfl, hb⟩
  have HB3 := Lib.hid (bT (bA (bA (bA bR))) hb)
  have HR3 := Lib.hid (hBs hb (hO (hN (n := w.heap.size + 1) (by simp))))
  have HS3 := Lib.hid (hBs hb (hN (n := w.heap.size + 1 + 1) (by simp)))
  replace HQc := Lib.hid (hBs hb HQc.out)
  have hls := block_lt HS3.out
  clear hb HN
  go_wp2_with fail
  have hut := Lib.hid Try.underlying26
  have hi16 : Hid ((Try.prog.info? 26).map (·.size) = some (pgC P).toList.length) := (by kernel_rfl : (Try.prog.info? 26).map (·.size) = some (pgC P).toList.length)
  go_cut [7, 8] from 20 to 21 (fun s7 s8 wx => ∃ b7 b8 : Nat, s7 = .pointer (some ⟨b7, 0, none⟩) ∧ s8 = .pointer (some ⟨b8, 0, none⟩) ∧ w.heap.size + 1 + 1 < b7 ∧ w.heap.size + 1 + 1 < b8 ∧ b7 ≠ b8 ∧ Hid (wx.heap[b7]? = some (.cells (pgC P) 26 (0, 0))) ∧ Hid (wx.heap[b8]? = some (.cells (pgC P) 26 (0, 0))) ∧ Hid (Keeps (fun _ => False) w3 wx))
  case first =>
    have hS0 : w3.drew.heap[w.heap.size]? = some (.cells (pgC P) 26 (0, 0)) := hDr HQc.out
    refine wp_region_held_drew (S := fun w' => w'.heap[w.heap.size]? = some (.cells (pgC P) 26 (0, 0))) (by kernel_rfl) hS0 (fun hHeld => ?_)
    refine wpAnyH_take (i := 0) (oi := ⟨some 20, _, _, _, _, _⟩) (v := .agg (pgC P)) rfl (by kernel_rfl) (by kernel_rfl) (by kernel_rfl) (fun _ _ _ h => h) (yieldsIf_load_mid (by rfl) _ _ rfl w.heap.size 0 rfl (pgC P).toList _ (fun _ h => range_of0 h) hut.out rfl hi16.out) hHeld ?_
    simp only [Act.put, List.setIfInBounds_toArray, List.set_cons_zero, List.set_cons_succ]
    refine wpAnyH_take (i := 1) (oi := ⟨some 21, _, _, _, _, _⟩) (v := .agg (pgC P)) rfl (by kernel_rfl) (by kernel_rfl) (by kernel_rfl) (fun _ _ _ h => h) (yieldsIf_load_mid (by rfl) _ _ rfl w.heap.size 0 rfl (pgC P).toList _ (fun _ h => range_of0 h) hut.out rfl hi16.out) hHeld ?_
    simp only [Act.put, List.setIfInBounds_toArray, List.set_cons_zero, List.set_cons_succ]
    refine wpAnyH_ready (rs := [2, 3]) (by kernel_rfl) (by simp) ?_
    refine AllReadyH.cons (o := ⟨some 7, _, _, _, _, _⟩) rfl (fun K hK => ?_) (AllReadyH.cons (o := ⟨some 8, _, _, _, _, _⟩) rfl (fun K hK => ?_) AllReadyH.nil)
    · go_simp
      refine hK.out _ _ (hO hHeld) (fun hHeld => ?_)
      clear hK K
      try simp only [Act.put, List.setIfInBounds_toArray, List.set_cons_zero, List.set_cons_succ]
      refine wpAnyH_ready (rs := [3]) (by kernel_rfl) (by simp) ?_
      refine AllReadyH.cons (o := ⟨some 8, _, _, _, _, _⟩) rfl (fun K hK => ?_) AllReadyH.nil
      go_simp
      refine hK.out _ _ (hO hHeld) (fun hHeld => ?_)
      clear hK K
      try simp only [Act.put, List.setIfInBounds_toArray, List.set_cons_zero, List.set_cons_succ]
      have H7 : ((w3.drew.alloc (.cells (pgC pageZ) 26)).alloc (.cells (pgC pageZ) 26)).heap[w3.heap.size]? = some (.cells (pgC pageZ) 26 (0, 0)) := hO (hN (by simp))
      have H8 : ((w3.drew.alloc (.cells (pgC pageZ) 26)).alloc (.cells (pgC pageZ) 26)).heap[w3.heap.size + 1]? = some (.cells (pgC pageZ) 26 (0, 0)) := hN (by simp)
      refine wpAnyH_ready (rs := [4]) (by kernel_rfl) (by simp) ?_
      refine AllReadyH.cons (o := ⟨none, _, _, _, _, _⟩) rfl (fun K hK => ?_) AllReadyH.nil
      refine step_store_whole rfl 26 _ _ rfl _ (pgC P) rfl rfl _ _ H7 rfl (by kernel_rfl) (pgC_one P) ?_
      intro w5 H75 K5
      refine hK.out _ _ (K5.out.keep hHeld (by omega)) (fun hHeld => ?_)
      clear hK K
      try simp only [Act.put, List.setIfInBounds_toArray, List.set_cons_zero, List.set_cons_succ]
      have H85 := K5.out.keep H8 (by omega)
      refine wpAnyH_ready (rs := [5]) (by kernel_rfl) (by simp) ?_
      refine AllReadyH.cons (o := ⟨none, _, _, _, _, _⟩) rfl (fun K hK => ?_) AllReadyH.nil
      refine step_store_whole rfl 26 _ _ rfl _ (pgC P) rfl rfl _ _ H85 rfl (by kernel_rfl) (pgC_one P) ?_
      intro w6 H86 K6
      refine hK.out _ _ (K6.out.keep hHeld (by omega)) (fun hHeld => ?_)
      clear hK K
      try simp only [Act.put, List.setIfInBounds_toArray, List.set_cons_zero, List.set_cons_succ]
      refine wpAnyH_done (by kernel_rfl) ?_ _
      refine ‹∀ (a' : Act) (w' : World), Met _ a' w' → _› _ _ ?_
      go_meet
      case rel => exact ⟨_, _, rfl, rfl, by omega, by omega, by omega, K6.out.keep H75.out (by omega), H86, ((((Keeps.refl (fun _ => False) w3).drew.alloc _).alloc _).trans K5.out (fun i hi e => by omega)).trans K6.out (fun i hi e => by omega)⟩
    · go_simp
      refine hK.out _ _ (hO hHeld) (fun hHeld => ?_)
      clear hK K
      try simp only [Act.put, List.setIfInBounds_toArray, List.set_cons_zero, List.set_cons_succ]
      refine wpAnyH_ready (rs := [2]) (by kernel_rfl) (by simp) ?_
      refine AllReadyH.cons (o := ⟨some 7, _, _, _, _, _⟩) rfl (fun K hK => ?_) AllReadyH.nil
      go_simp
      refine hK.out _ _ (hO hHeld) (fun hHeld => ?_)
      clear hK K
      try simp only [Act.put, List.setIfInBounds_toArray, List.set_cons_zero, List.set_cons_succ]
      have H7 : ((w3.drew.alloc (.cells (pgC pageZ) 26)).alloc (.cells (pgC pageZ) 26)).heap[w3.heap.size + 1]? = some (.cells (pgC pageZ) 26 (0, 0)) := hN (by simp)
      have H8 : ((w3.drew.alloc (.cells (pgC pageZ) 26)).alloc (.cells (pgC pageZ) 26)).heap[w3.heap.size]? = some (.cells (pgC pageZ) 26 (0, 0)) := hO (hN (by simp))
      refine wpAnyH_ready (rs := [4]) (by kernel_rfl) (by simp) ?_
      refine AllReadyH.cons (o := ⟨none, _, _, _, _, _⟩) rfl (fun K hK => ?_) AllReadyH.nil
      refine step_store_whole rfl 26 _ _ rfl _ (pgC P) rfl rfl _ _ H7 rfl (by kernel_rfl) (pgC_one P) ?_
      intro w5 H75 K5
      refine hK.out _ _ (K5.out.keep hHeld (by omega)) (fun hHeld => ?_)
      clear hK K
      try simp only [Act.put, List.setIfInBounds_toArray, List.set_cons_zero, List.set_cons_succ]
      have H85 := K5.out.keep H8 (by omega)
      refine wpAnyH_ready (rs := [5]) (by kernel_rfl) (by simp) ?_
      refine AllReadyH.cons (o := ⟨none, _, _, _, _, _⟩) rfl (fun K hK => ?_) AllReadyH.nil
      refine step_store_whole rfl 26 _ _ rfl _ (pgC P) rfl rfl _ _ H85 rfl (by kernel_rfl) (pgC_one P) ?_
      intro w6 H86 K6
      refine hK.out _ _ (K6.out.keep hHeld (by omega)) (fun hHeld => ?_)
      clear hK K
      try simp only [Act.put, List.setIfInBounds_toArray, List.set_cons_zero, List.set_cons_succ]
      refine wpAnyH_done (by kernel_rfl) ?_ _
      refine ‹∀ (a' : Act) (w' : World), Met _ a' w' → _› _ _ ?_
      go_meet
      case rel => exact ⟨_, _, rfl, rfl, by omega, by omega, by omega, K6.out.keep H75.out (by omega), H86, ((((Keeps.refl (fun _ => False) w3).drew.alloc _).alloc _).trans K5.out (fun i hi e => by omega)).trans K6.out (fun i hi e => by omega)⟩
  case rest =>
    obtain ⟨b7, b8, rfl, rfl, l7, l8, h78, H7, H8, HK⟩ := hcut
    replace HQc := Lib.hid (HK.out.keep HQc.out id)
    have HR4 := Lib.hid (HK.out.keep HR3.out id)
    have HS4 := Lib.hid (HK.out.keep HS3.out id)
    have HB4 := Lib.hid (bK HB3.out HK.out (fun _ h => h.elim))
    clear HK HB3 HR3 HS3 hls
    go_wp2_with ((refine wpList_store_part rfl 24 _ _ rfl b8 4 zeroA rfl rfl _ _ H8.out (by rw [show (pgC P).size = 16 from rfl, show zeroA.size = 12 from rfl]; omega) (by kernel_rfl) zeroA_one ?_; intro w4 H84 K4))
    replace H84 : Hid (w4.heap[b8]? = some (.cells (pgC (emptyPg P)) 26 (0, 0))) := H84
    replace HQc := Lib.hid (K4.out.keep HQc.out (by omega))
    have H74 := Lib.hid (K4.out.keep H7.out (by omega))
    have HR5 := Lib.hid (K4.out.keep HR4.out (by omega))
    have HS5 := Lib.hid (K4.out.keep HS4.out (by omega))
    have HB5 := Lib.hid (bK HB4.out K4.out (fun j e => by omega))
    clear K4 H7 H8 HR4 HS4 HB4
    refine wp_region_held_drew (S := fun _ => True) (by kernel_rfl) trivial (fun hHeld => ?_)
    refine wpAnyH_take (i := 0) (oi := ⟨some 27, _, _, _, _, _⟩) (v := ?_) rfl (by kernel_rfl) (by kernel_rfl) (by kernel_rfl) (fun _ _ _ h => h) (Or.inl ⟨by rfl, ?_⟩) hHeld ?_
    rotate_left
    · intro w hSw
      go_simp
      try with_reducible rfl
    simp only [Act.put, List.setIfInBounds_toArray, List.set_cons_zero, List.set_cons_succ]
    refine wpAnyH_take (i := 1) (oi := ⟨some 28, _, _, _, _, _⟩) (v := ?_) rfl (by kernel_rfl) (by kernel_rfl) (by kernel_rfl) (fun _ _ _ h => h) (Or.inl ⟨by rfl, ?_⟩) hHeld ?_
    rotate_left
    · intro w hSw
      go_simp
      try with_reducible rfl
    simp only [Act.put, List.setIfInBounds_toArray, List.set_cons_zero, List.set_cons_succ]
    refine wpAnyH_take (i := 2) (oi := ⟨some 29, _, _, _, _, _⟩) (v := ?_) rfl (by kernel_rfl) (by kernel_rfl) (by kernel_rfl) (fun _ _ _ h => h) (Or.inl ⟨by rfl, ?_⟩) hHeld ?_
    rotate_left
    · intro w hSw
      go_simp
      try with_reducible rfl
    simp only [Act.put, List.setIfInBounds_toArray, List.set_cons_zero, List.set_cons_succ]
    refine wpAnyH_take (i := 3) (oi := ⟨some 30, _, _, _, _, _⟩) (v := .int .i64 h) rfl (by kernel_rfl) (by kernel_rfl) (by kernel_rfl) (fun _ _ _ h => h) (Or.inl ⟨by rfl, fun _ _ => rfl⟩) hHeld ?_
    simp only [Act.put, List.setIfInBounds_toArray, List.set_cons_zero, List.set_cons_succ]
    refine wpAnyH_take (i := 4) (oi := ⟨some 31, _, _, _, _, _⟩) (v := .int .i64 n) rfl (by kernel_rfl) (by kernel_rfl) (by kernel_rfl) (fun _ _ _ h => h) (Or.inl ⟨by rfl, fun _ _ => rfl⟩) hHeld ?_
    simp only [Act.put, List.setIfInBounds_toArray, List.set_cons_zero, List.set_cons_succ]
    refine wpAnyH_take (i := 5) (oi := ⟨some 32, _, _, _, _, _⟩) (v := .slice (some ⟨w.heap.size, if h = 6 then 4 else 4 + h * 2, none⟩) (n - h) (6 - h)) rfl (by kernel_rfl) (by kernel_rfl) (by kernel_rfl) (fun _ _ _ h => h) (yieldsIf_slice (by rfl) _ _ _ _ rfl _ _ _ _ rfl rfl rfl (fun w' => run_slice_pg w.heap.size (h) (n) (by omega) (by omega) w')) hHeld ?_
    simp only [Act.put, List.setIfInBounds_toArray, List.set_cons_zero, List.set_cons_succ]
    have h6' : ¬ h = 6 := by omega
    rw [if_neg h6']
    have hmin : Nat.min (n - h) 6 = n - h := Nat.min_eq_left (by omega)
    refine wpAnyH_ready (rs := [6]) (by kernel_rfl) (by simp) ?_
    refine AllReadyH.cons (o := ⟨some 33, _, _, _, _, _⟩) rfl (fun K hK => ?_) AllReadyH.nil
    refine step_copy_rowk rfl (.tmp 28) (.tmp 32) 62 62 rfl 23 2 Try.underlying62 (by kernel_rfl) b8 _ _ _ _ _ _ rfl rfl (pgC (emptyPg P)) 26 (hDr H84.out) (segL P h (n - h)) (by rw [segL_length, hmin]) (segL_src (w := w4.drew) (hDr HQc.out) h (n - h) (by omega)) (by rw [segL_length, show (pgC (emptyPg P)).size = 16 from rfl]; omega) (segL_one P _ _) ?_
    intro w5 H85 K5
    rw [high_cells P h n (by omega) hn6 hh1] at H85
    refine hK.out _ _ trivial (fun _ => ?_)
    clear hK K hHeld
    refine wpAnyH_done (by kernel_rfl) ?_ _
    refine ‹∀ (a : Act) (w : World), Code.wp Try.prog _ _ a w → _› _ _ ?_
    simp only [Act.put, List.setIfInBounds_toArray, List.set_cons_zero, List.set_cons_succ]
    have K5' : Hid (Keeps (· = b8) w4 w5) := (Keeps.refl (· = b8) w4).drew.trans K5.out (fun _ _ h => h)
    replace HQc := Lib.hid (K5'.out.keep HQc.out (by omega))
    have H75 := Lib.hid (K5'.out.keep H74.out h78)
    have HR6 := Lib.hid (K5'.out.keep HR5.out (by omega))
    have HS6 := Lib.hid (K5'.out.keep HS5.out (by omega))
    have HB6 := Lib.hid (bK HB5.out K5'.out (fun j e => by omega))
    clear K5 K5' H74 H84 HR5 HS5 HB5 hmin
    rw [← cut_start P h] at H75
    go_wp2_with fail
    go_loopw [10] (fun s wr => ∃ (k : Nat), h ≤ k ∧ k ≤ 6 ∧ s = .int .i64 k ∧ Hid (wr.heap[b7]? = some (.cells (pgC (cutPg P h k)) 26 (0, 0))) ∧ Hid (wr.heap[b8]? = some (.cells (pgC (highPg P h n)) 26 (0, 0))) ∧ Hid (wr.heap[w.heap.size]? = some (.cells (pgC P) 26 (0, 0))) ∧ Hid (wr.heap[w.heap.size + 1]? = some (.cells (pgC pageZ) 26 (0, 0))) ∧ Hid (wr.heap[w.heap.size + 1 + 1]? = some (.cells (pgC pageZ) 26 (0, 0))) ∧ Hid (Below w.heap.size w wr)) (fun s _ => 6 - (intOf s).toNat)
    case atStart => exact ⟨h, by omega, by omega, rfl, H75, H85, HQc, HR6, HS6, HB6⟩
    case round =>
      clear H75 H85 HQc HR6 HS6 HB6
      obtain ⟨k, hk1, hk2, rfl, H7, H8, HQ, HR, HS, HB⟩ := hrel
      by_cases hk : k < 6
      · have hk' : (k : Int) < 6 := by omega
        have hk0 : (0 : Int) ≤ k := by omega
        obtain ⟨c0, c1⟩ := pg_at H7.out k hk
        have f0 := free_at H7.out (4 + k * 2)
        have f1 := free_at H7.out (4 + k * 2 + 1)
        have KK : Hid (Keeps (· = b7) wr ((wr.setCell ⟨b7, 4 + k * 2, none⟩ (.int .i64 0)).setCell ⟨b7, 4 + k * 2 + 1, none⟩ (.string ⟨#[]⟩))) := ((Keeps.refl (· = b7) wr).setCell _ _ (.inl rfl)).setCell _ _ (.inl rfl)
        have H7' : Hid (((wr.setCell ⟨b7, 4 + k * 2, none⟩ (.int .i64 0)).setCell ⟨b7, 4 + k * 2 + 1, none⟩ (.string ⟨#[]⟩)).heap[b7]? = some (.cells (pgC (cutPg P h (k + 1))) 26 (0, 0))) := by
          have := heap_set (heap_set H7.out (4 + k * 2) (.int .i64 0)) (4 + k * 2 + 1) (.string ⟨#[]⟩)
          rw [cut_next P h k hk1 hk] at this
          exact this
        go_wp2_with fail
        go_roundw
        case rel => exact ⟨k + 1, by omega, by omega, rfl, H7', KK.out.keep H8.out (by omega), KK.out.keep HQ.out (by omega), KK.out.keep HR.out (by omega), KK.out.keep HS.out (by omega), bK HB.out KK.out (fun j e => by omega)⟩
        case measure => simp [intOf]; omega
      obtain rfl : k = 6 := by omega
      rw [cut_low P h] at H7
      have hst0 : (highPg P h n).st 0 = P.st h := by simp [highPg, hhn]
      have hdt0 : (highPg P h n).dt 0 = P.dt h := by simp [highPg, hhn]
      obtain ⟨c0, c1⟩ := pg_at H8.out 0 (by omega)
      rw [hst0] at c0
      rw [hdt0] at c1
      have c0 : wr.cell? ⟨b8, 4, none⟩ = some (.int .i64 (P.st h)) := c0
      have c1 : wr.cell? ⟨b8, 5, none⟩ = some (.string (P.dt h)) := c1
      rw [show ((6 : Nat) : Int) = 6 from rfl]
      go_wp2_with fail
      refine (HKy.out _).mono ?_
      rintro e w7 ⟨rfl, hb⟩
      have HB7 := Lib.hid (bT HB.out hb)
      have H77 := Lib.hid (hBs hb H7.out)
      have H87 := Lib.hid (hBs hb H8.out)
      have HR7 := Lib.hid (hBs hb HR.out)
      have HS7 := Lib.hid (hBs hb HS.out)
      have HQ7 := Lib.hid (hBs hb HQ.out)
      clear hb c0 c1 H7 H8 HR HS HQ HB HKy
      have cl : w7.cell? ⟨w.heap.size, 1, none⟩ = some (.int .i64 P.level) := cell_at HQ7.out 1
      by_cases hl : P.level = 0
      · obtain rfl := hHX.out.symm.trans (if_pos hl)
        rw [hl] at cl
        replace hl := Lib.hid hl
        go_wp2_with fail
        have hS0 : w7.drew.heap[b7]? = some (.cells (pgC (lowPg P h)) 26 (0, 0)) ∧ w7.drew.heap[b8]? = some (.cells (pgC (highPg P h n)) 26 (0, 0)) := ⟨hDr H77.out, hDr H87.out⟩
        have hj16 : Hid ((Try.prog.info? 26).map (·.size) = some (pgC (lowPg P h)).toList.length) := (by kernel_rfl : (Try.prog.info? 26).map (·.size) = some (pgC (lowPg P h)).toList.length)
        have hk16 : Hid ((Try.prog.info? 26).map (·.size) = some (pgC (highPg P h n)).toList.length) := (by kernel_rfl : (Try.prog.info? 26).map (·.size) = some (pgC (highPg P h n)).toList.length)
        refine wp_region_held_drew (S := fun w' => w'.heap[b7]? = some (.cells (pgC (lowPg P h)) 26 (0, 0)) ∧ w'.heap[b8]? = some (.cells (pgC (highPg P h n)) 26 (0, 0))) (by kernel_rfl) hS0 (fun hHeld => ?_)
        refine wpAnyH_take (i := 0) (oi := ⟨some 59, _, _, _, _, _⟩) (v := .agg (pgC (lowPg P h))) rfl (by kernel_rfl) (by kernel_rfl) (by kernel_rfl) (fun _ _ _ h => h) (yieldsIf_load_mid (by rfl) _ _ rfl b7 0 rfl (pgC (lowPg P h)).toList _ (fun _ h => range_of0 h.1) hut.out rfl hj16.out) hHeld ?_
        simp only [Act.put, List.setIfInBounds_toArray, List.set_cons_zero, List.set_cons_succ]
        refine wpAnyH_take (i := 1) (oi := ⟨some 60, _, _, _, _, _⟩) (v := .agg (pgC (highPg P h n))) rfl (by kernel_rfl) (by kernel_rfl) (by kernel_rfl) (fun _ _ _ h => h) (yieldsIf_load_mid (by rfl) _ _ rfl b8 0 rfl (pgC (highPg P h n)).toList _ (fun _ h => range_of0 h.2) hut.out rfl hk16.out) hHeld ?_
        simp only [Act.put, List.setIfInBounds_toArray, List.set_cons_zero, List.set_cons_succ]
        refine wpAnyH_take (i := 2) (oi := ⟨some 61, _, _, _, _, _⟩) (v := .string own) rfl (by kernel_rfl) (by kernel_rfl) (by kernel_rfl) (fun _ _ _ h => h) (Or.inl ⟨by rfl, fun _ _ => rfl⟩) hHeld ?_
        simp only [Act.put, List.setIfInBounds_toArray, List.set_cons_zero, List.set_cons_succ]
        refine wpAnyH_ready (rs := [3]) (by kernel_rfl) (by simp) ?_
        refine AllReadyH.cons (o := ⟨none, _, _, _, _, _⟩) rfl (fun K hK => ?_) AllReadyH.nil
        refine step_store_whole rfl 26 _ _ rfl (w.heap.size + 1) (pgC (lowPg P h)) rfl rfl _ _ (hDr HR7.out) rfl (by kernel_rfl) (pgC_one _) ?_
        intro wa HRa Ka
        refine hK.out _ _ ⟨Ka.out.keep hHeld.1 (by omega), Ka.out.keep hHeld.2 (by omega)⟩ (fun hHeld => ?_)
        clear hK K
        try simp only [Act.put, List.setIfInBounds_toArray, List.set_cons_zero, List.set_cons_succ]
        have HSa := Lib.hid (Ka.out.keep (hDr HS7.out) (by omega))
        refine wpAnyH_ready (rs := [4]) (by kernel_rfl) (by simp) ?_
        refine AllReadyH.cons (o := ⟨none, _, _, _, _, _⟩) rfl (fun K hK => ?_) AllReadyH.nil
        refine step_store_whole rfl 26 _ _ rfl (w.heap.size + 1 + 1) (pgC (highPg P h n)) rfl rfl _ _ HSa.out rfl (by kernel_rfl) (pgC_one _) ?_
        intro wb HSb Kb
        refine hK.out _ _ ⟨Kb.out.keep hHeld.1 (by omega), Kb.out.keep hHeld.2 (by omega)⟩ (fun hHeld => ?_)
        clear hK K
        try simp only [Act.put, List.setIfInBounds_toArray, List.set_cons_zero, List.set_cons_succ]
        have HRb := Lib.hid (Kb.out.keep HRa.out (by omega))
        refine wpAnyH_take (i := 5) (oi := ⟨some 4, _, _, _, _, _⟩) (v := .string own) rfl (by kernel_rfl) (by kernel_rfl) (by kernel_rfl) (fun _ _ _ h => h) (Or.inl ⟨by rfl, fun _ _ => rfl⟩) hHeld ?_
        simp only [Act.put, List.setIfInBounds_toArray, List.set_cons_zero, List.set_cons_succ]
        refine wpAnyH_take (i := 6) (oi := ⟨some 5, _, _, _, _, _⟩) (v := .int .i64 0) rfl (by kernel_rfl) (by kernel_rfl) (by kernel_rfl) (fun _ _ _ h => h) (Or.inl ⟨by rfl, fun _ _ => rfl⟩) hHeld ?_
        simp only [Act.put, List.setIfInBounds_toArray, List.set_cons_zero, List.set_cons_succ]
        refine wpAnyH_done (by kernel_rfl) ?_ _
        refine ‹∀ (a : Act) (w : World), Code.wp Try.prog Code.ret _ a w → _› _ _ ?_
        refine wp_ret ?_
        exact bodyPost_ret (results_two_rows Try.results30 _ _ _ _ _ _ _ _ _ rfl HRb.out rfl HSb.out Try.underlying26 rfl (by kernel_rfl) (by kernel_rfl)) rfl ⟨rfl, bK (bK (bD HB7.out) Ka.out (fun j hj => by omega)) Kb.out (fun j hj => by omega)⟩
      · obtain rfl := hHX.out.symm.trans (if_neg hl)
        have hl' : (P.level != 0) = true := by simpa using hl
        have c1 : w7.cell? ⟨b8, 5, none⟩ = some (.string (P.dt h)) := by
          have := (pg_at H87.out 0 (by omega)).2
          rw [hdt0] at this
          exact this
        have f1 := free_at H87.out 5
        have K8 : Hid (Keeps (· = b8) w7 (w7.setCell ⟨b8, 5, none⟩ (.string (⟨#[0]⟩ ++ rest)))) := (Keeps.refl (· = b8) w7).setCell _ _ (.inl rfl)
        have H88 : Hid ((w7.setCell ⟨b8, 5, none⟩ (.string (⟨#[0]⟩ ++ rest))).heap[b8]? = some (.cells (pgC (highKey P h n (⟨#[0]⟩ ++ rest))) 26 (0, 0))) := by
          have := heap_set H87.out 5 (.string (⟨#[0]⟩ ++ rest))
          rw [key_cells P h n (⟨#[0]⟩ ++ rest)] at this
          exact this
        have H78 := Lib.hid (K8.out.keep H77.out h78)
        have HR8 := Lib.hid (K8.out.keep HR7.out (by omega))
        have HS8 := Lib.hid (K8.out.keep HS7.out (by omega))
        have HB8 := Lib.hid (bK HB7.out K8.out (fun j e => by omega))
        clear K8 H77 H87 HR7 HS7 HQ7 HB7
        go_wp2_with fail
        generalize w7.setCell ⟨b8, 5, none⟩ (.string (⟨#[0]⟩ ++ rest)) = w8 at *
        have hS0 : w8.drew.heap[b7]? = some (.cells (pgC (lowPg P h)) 26 (0, 0)) ∧ w8.drew.heap[b8]? = some (.cells (pgC (highKey P h n (⟨#[0]⟩ ++ rest))) 26 (0, 0)) := ⟨hDr H78.out, hDr H88.out⟩
        have hj16 : Hid ((Try.prog.info? 26).map (·.size) = some (pgC (lowPg P h)).toList.length) := (by kernel_rfl : (Try.prog.info? 26).map (·.size) = some (pgC (lowPg P h)).toList.length)
        have hk16 : Hid ((Try.prog.info? 26).map (·.size) = some (pgC (highKey P h n (⟨#[0]⟩ ++ rest))).toList.length) := (by kernel_rfl : (Try.prog.info? 26).map (·.size) = some (pgC (highKey P h n (⟨#[0]⟩ ++ rest))).toList.length)
        refine wp_region_held_drew (S := fun w' => w'.heap[b7]? = some (.cells (pgC (lowPg P h)) 26 (0, 0)) ∧ w'.heap[b8]? = some (.cells (pgC (highKey P h n (⟨#[0]⟩ ++ rest))) 26 (0, 0))) (by kernel_rfl) hS0 (fun hHeld => ?_)
        refine wpAnyH_take (i := 0) (oi := ⟨some 59, _, _, _, _, _⟩) (v := .agg (pgC (lowPg P h))) rfl (by kernel_rfl) (by kernel_rfl) (by kernel_rfl) (fun _ _ _ h => h) (yieldsIf_load_mid (by rfl) _ _ rfl b7 0 rfl (pgC (lowPg P h)).toList _ (fun _ h => range_of0 h.1) hut.out rfl hj16.out) hHeld ?_
        simp only [Act.put, List.setIfInBounds_toArray, List.set_cons_zero, List.set_cons_succ]
        refine wpAnyH_take (i := 1) (oi := ⟨some 60, _, _, _, _, _⟩) (v := .agg (pgC (highKey P h n (⟨#[0]⟩ ++ rest)))) rfl (by kernel_rfl) (by kernel_rfl) (by kernel_rfl) (fun _ _ _ h => h) (yieldsIf_load_mid (by rfl) _ _ rfl b8 0 rfl (pgC (highKey P h n (⟨#[0]⟩ ++ rest))).toList _ (fun _ h => range_of0 h.2) hut.out rfl hk16.out) hHeld ?_
        simp only [Act.put, List.setIfInBounds_toArray, List.set_cons_zero, List.set_cons_succ]
        refine wpAnyH_take (i := 2) (oi := ⟨some 61, _, _, _, _, _⟩) (v := .string own) rfl (by kernel_rfl) (by kernel_rfl) (by kernel_rfl) (fun _ _ _ h => h) (Or.inl ⟨by rfl, fun _ _ => rfl⟩) hHeld ?_
        simp only [Act.put, List.setIfInBounds_toArray, List.set_cons_zero, List.set_cons_succ]
        refine wpAnyH_ready (rs := [3]) (by kernel_rfl) (by simp) ?_
        refine AllReadyH.cons (o := ⟨none, _, _, _, _, _⟩) rfl (fun K hK => ?_) AllReadyH.nil
        refine step_store_whole rfl 26 _ _ rfl (w.heap.size + 1) (pgC (lowPg P h)) rfl rfl _ _ (hDr HR8.out) rfl (by kernel_rfl) (pgC_one _) ?_
        intro wa HRa Ka
        refine hK.out _ _ ⟨Ka.out.keep hHeld.1 (by omega), Ka.out.keep hHeld.2 (by omega)⟩ (fun hHeld => ?_)
        clear hK K
        try simp only [Act.put, List.setIfInBounds_toArray, List.set_cons_zero, List.set_cons_succ]
        have HSa := Lib.hid (Ka.out.keep (hDr HS8.out) (by omega))
        refine wpAnyH_ready (rs := [4]) (by kernel_rfl) (by simp) ?_
        refine AllReadyH.cons (o := ⟨none, _, _, _, _, _⟩) rfl (fun K hK => ?_) AllReadyH.nil
        refine step_store_whole rfl 26 _ _ rfl (w.heap.size + 1 + 1) (pgC (highKey P h n (⟨#[0]⟩ ++ rest))) rfl rfl _ _ HSa.out rfl (by kernel_rfl) (pgC_one _) ?_
        intro wb HSb Kb
        refine hK.out _ _ ⟨Kb.out.keep hHeld.1 (by omega), Kb.out.keep hHeld.2 (by omega)⟩ (fun hHeld => ?_)
        clear hK K
        try simp only [Act.put, List.setIfInBounds_toArray, List.set_cons_zero, List.set_cons_succ]
        have HRb := Lib.hid (Kb.out.keep HRa.out (by omega))
        refine wpAnyH_take (i := 5) (oi := ⟨some 4, _, _, _, _, _⟩) (v := .string own) rfl (by kernel_rfl) (by kernel_rfl) (by kernel_rfl) (fun _ _ _ h => h) (Or.inl ⟨by rfl, fun _ _ => rfl⟩) hHeld ?_
        simp only [Act.put, List.setIfInBounds_toArray, List.set_cons_zero, List.set_cons_succ]
        refine wpAnyH_take (i := 6) (oi := ⟨some 5, _, _, _, _, _⟩) (v := .int .i64 0) rfl (by kernel_rfl) (by kernel_rfl) (by kernel_rfl) (fun _ _ _ h => h) (Or.inl ⟨by rfl, fun _ _ => rfl⟩) hHeld ?_
        simp only [Act.put, List.setIfInBounds_toArray, List.set_cons_zero, List.set_cons_succ]
        refine wpAnyH_done (by kernel_rfl) ?_ _
        refine ‹∀ (a : Act) (w : World), Code.wp Try.prog Code.ret _ a w → _› _ _ ?_
        refine wp_ret ?_
        exact bodyPost_ret (results_two_rows Try.results30 _ _ _ _ _ _ _ _ _ rfl HRb.out rfl HSb.out Try.underlying26 rfl (by kernel_rfl) (by kernel_rfl)) rfl ⟨rfl, bK (bK (bD HB8.out) Ka.out (fun j hj => by omega)) Kb.out (fun j hj => by omega)⟩
end Go.Proofs.Ytgealllnchpekaa
