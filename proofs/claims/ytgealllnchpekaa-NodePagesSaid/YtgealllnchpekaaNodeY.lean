import Derived.Test.YtgealllnchpekaaNodeX
import Derived.Test.YtgealllnchpekaaNodeU
import Derived.Deep.RegionHeld3
import Derived.Deep.MidRow
set_option linter.unusedSimpArgs false
set_option linter.unusedVariables false
namespace Go.Proofs.Ytgealllnchpekaa
open Go.RowKit

theorem checks {P : Pg} {n : Nat} (hn : IsCount P n) (hd : ∀ i, (P.dt i).size ≤ maxLen) : ∃ r : Int, (∀ w, Calls Try.prog 12 #[pgV P] w fun e w' => e = .returned (.int .i64 r) ∧ Below w.heap.size w w') ∧
    (∀ w, Calls Try.prog 13 #[pgV P] w fun e w' => e = .returned (.int .i64 r) ∧ Below w.heap.size w w') := by
  by_cases hok : NodeOk P
  · refine ⟨0, fun w => nd_check_ok hok hd w, fun w => (rf_check hn hd w).mono fun e w' ⟨r, hr, he, hb⟩ => ?_⟩
    rcases hr with ⟨rfl, _⟩ | ⟨_, h'⟩
    · exact ⟨he, hb⟩
    · exact absurd hok h'
  · refine ⟨40, fun w => nd_check_no hok hd w, fun w => (rf_check hn hd w).mono fun e w' ⟨r, hr, he, hb⟩ => ?_⟩
    rcases hr with ⟨_, h'⟩ | ⟨rfl, _⟩
    · exact absurd h' hok
    · exact ⟨he, hb⟩
theorem range_of {w : World} {b : Nat} {C : Array Value} {T : TypeId} {f : Nat × Nat} (h : w.heap[b]? = some (.cells C T f)) : w.rangeAt b 0 C.toList := fun j v hv => by
  rw [Nat.zero_add, cell_at h]
  simpa using hv
set_option maxRecDepth 100000 in
set_option maxHeartbeats 16000000 in
theorem nodePages_run (P : Pg) (key : ByteArray) (hd : ∀ i, (P.dt i).size ≤ maxLen) (hk : key.size ≤ maxLen) (w : World) :
    Calls Try.prog 3 #[pgV P, .string key] w fun e w' => e = .returned (.bool true) ∧ Below w.heap.size w w' := by
  have HA := Lib.hid (fun w => awake05 w)
  obtain ⟨n, hn⟩ := count_is P
  obtain ⟨i, t, hf⟩ := find_is P key n
  obtain ⟨r, hC, hR⟩ := checks hn hd
  have HC := Lib.hid hC
  have HR := Lib.hid hR
  have HN := Lib.hid (fun w => nd_count' hn w)
  have HM := Lib.hid (fun w => rf_count hn w)
  have HF := Lib.hid (fun w => nd_find' hn hf hd hk w)
  have HG := Lib.hid (fun w => rf_find hn hf hd hk w)
  have HD := Lib.hid (fun w => nd_down hn hf hd hk w)
  have HE := Lib.hid (fun w => rf_down hn hf hd hk w)
  clear hC hR hn hf
  unfold pgV at *
  generalize downP i t = dn at *
  go_enter Try.func3, Try.ntmps3
  go_wp2_with fail
  refine (HA.out _).mono ?_
  rintro e w1 ⟨rfl, hb⟩
  have HB1 := Lib.hid (bT (bA bR) hb)
  have HQc := Lib.hid (hBs hb (hN rfl))
  clear hb
  go_wp2_with (refine wpList_load_row rfl 26 _ rfl _ rfl 26 _ _ _ HQc.out Try.underlying26 rfl (by kernel_rfl) ?_)
  refine (HF.out _).mono ?_
  rintro e w2 ⟨rfl, hb⟩
  have HB2 := Lib.hid (bT HB1.out hb)
  replace HQc := Lib.hid (hBs hb HQc.out)
  clear hb HB1
  go_wp2_with (refine wpList_load_row rfl 26 _ rfl _ rfl 26 _ _ _ HQc.out Try.underlying26 rfl (by kernel_rfl) ?_)
  refine (HG.out _).mono ?_
  rintro e w4 ⟨rfl, hb⟩
  have HB4 := Lib.hid (bT HB2.out hb)
  replace HQc := Lib.hid (hBs hb HQc.out)
  clear hb HB2 HA HF HG
  have hsz : (pgC P).size = 16 := rfl
  generalize hpc : pgC P = C at *
  clear hpc
  have SS : Hid (∀ w', Below w4.heap.size w4 w' → w'.rangeAt w.heap.size 0 C.toList) := fun w' hb => range_of (hBs hb HQc.out)
  have hi16 : (Try.prog.info? 26).map (·.size) = some C.toList.length := by
    rw [Array.length_toList, hsz]; kernel_rfl
  replace hi16 := Lib.hid hi16
  have hut := Lib.hid Try.underlying26
  clear HQc hsz
  go_wp2_with fail
  refine wp_region_held_drew (S := fun w' => w'.rangeAt w.heap.size 0 C.toList) (by kernel_rfl) (SS.out _ (bD (Below.refl _ _))) (fun hHeld => ?_)
  have HS4 : Hid (Below w4.heap.size w4 w4.drew) := bD (Below.refl _ _)
  replace HB4 := Lib.hid (bD HB4.out)
  refine wpAnyH_take (i := 0) (oi := ⟨some 23, _, _, _, _, _⟩) (v := .agg C) rfl (by kernel_rfl) (by kernel_rfl) (by kernel_rfl) (fun _ _ _ h => h) (yieldsIf_load_mid (by rfl) _ _ rfl w.heap.size 0 rfl C.toList _ (fun _ h => h) hut.out rfl hi16.out) hHeld ?_
  simp only [Act.put, List.setIfInBounds_toArray, List.set_cons_zero, List.set_cons_succ]
  refine wpAnyH_take (i := 2) (oi := ⟨some 25, _, _, _, _, _⟩) (v := .agg C) rfl (by kernel_rfl) (by kernel_rfl) (by kernel_rfl) (fun _ _ _ h => h) (yieldsIf_load_mid (by rfl) _ _ rfl w.heap.size 0 rfl C.toList _ (fun _ h => h) hut.out rfl hi16.out) hHeld ?_
  simp only [Act.put, List.setIfInBounds_toArray, List.set_cons_zero, List.set_cons_succ]
  refine wpAnyH_ready (rs := [1]) (by kernel_rfl) (by simp) ?_
  refine AllReadyH.cons (o := ⟨some 24, _, _, _, _, _⟩) rfl (fun K hK => ?_) AllReadyH.nil
  go_simp
  go_at_call 12
  refine (HC.out _).mono ?_
  rintro e w5 ⟨rfl, hb⟩
  have HB5 := Lib.hid (bT HB4.out hb)
  have HS5 := Lib.hid (HS4.out.trans (hb.mono HS4.out.size))
  clear hb hHeld HB4
  go_wp2_with fail
  refine hK.out _ _ (SS.out _ HS5.out) (fun hHeld => ?_)
  clear hK K HS4
  try simp only [Act.put, List.setIfInBounds_toArray, List.set_cons_zero, List.set_cons_succ]
  refine wpAnyH_ready (rs := [3]) (by kernel_rfl) (by simp) ?_
  refine AllReadyH.cons (o := ⟨some 26, _, _, _, _, _⟩) rfl (fun K hK => ?_) AllReadyH.nil
  go_simp
  go_at_call 13
  refine (HR.out _).mono ?_
  rintro e w6 ⟨rfl, hb⟩
  have HB6 := Lib.hid (bT HB5.out hb)
  have HS6 := Lib.hid (HS5.out.trans (hb.mono HS5.out.size))
  clear hb hHeld HB5
  go_wp2_with fail
  refine hK.out _ _ (SS.out _ HS6.out) (fun hHeld => ?_)
  clear hK K HS5
  try simp only [Act.put, List.setIfInBounds_toArray, List.set_cons_zero, List.set_cons_succ]
  refine wpAnyH_take (i := 4) (oi := ⟨some 27, _, _, _, _, _⟩) (v := ?_) rfl (by kernel_rfl) (by kernel_rfl) (by kernel_rfl) (fun _ _ _ h => h) (Or.inl ⟨by rfl, ?_⟩) hHeld ?_
  rotate_left
  · intro w hSw
    go_simp
    try with_reducible rfl
  simp only [Act.put, List.setIfInBounds_toArray, List.set_cons_zero, List.set_cons_succ]
  refine wpAnyH_take (i := 5) (oi := ⟨some 28, _, _, _, _, _⟩) (v := .bool true) rfl (by kernel_rfl) (by kernel_rfl) (by kernel_rfl) (fun _ _ _ h => h) (Or.inl ⟨by rfl, fun _ _ => rfl⟩) hHeld ?_
  simp only [Act.put, List.setIfInBounds_toArray, List.set_cons_zero, List.set_cons_succ]
  refine wpAnyH_take (i := 6) (oi := ⟨some 29, _, _, _, _, _⟩) (v := .agg C) rfl (by kernel_rfl) (by kernel_rfl) (by kernel_rfl) (fun _ _ _ h => h) (yieldsIf_load_mid (by rfl) _ _ rfl w.heap.size 0 rfl C.toList _ (fun _ h => h) hut.out rfl hi16.out) hHeld ?_
  simp only [Act.put, List.setIfInBounds_toArray, List.set_cons_zero, List.set_cons_succ]
  refine wpAnyH_take (i := 8) (oi := ⟨some 31, _, _, _, _, _⟩) (v := .agg C) rfl (by kernel_rfl) (by kernel_rfl) (by kernel_rfl) (fun _ _ _ h => h) (yieldsIf_load_mid (by rfl) _ _ rfl w.heap.size 0 rfl C.toList _ (fun _ h => h) hut.out rfl hi16.out) hHeld ?_
  simp only [Act.put, List.setIfInBounds_toArray, List.set_cons_zero, List.set_cons_succ]
  refine wpAnyH_ready (rs := [7]) (by kernel_rfl) (by simp) ?_
  refine AllReadyH.cons (o := ⟨some 30, _, _, _, _, _⟩) rfl (fun K hK => ?_) AllReadyH.nil
  go_simp
  go_at_call 14
  refine (HN.out _).mono ?_
  rintro e w7 ⟨rfl, hb⟩
  have HB7 := Lib.hid (bT HB6.out hb)
  have HS7 := Lib.hid (HS6.out.trans (hb.mono HS6.out.size))
  clear hb hHeld HB6
  go_wp2_with fail
  refine hK.out _ _ (SS.out _ HS7.out) (fun hHeld => ?_)
  clear hK K HS6
  try simp only [Act.put, List.setIfInBounds_toArray, List.set_cons_zero, List.set_cons_succ]
  refine wpAnyH_ready (rs := [9]) (by kernel_rfl) (by simp) ?_
  refine AllReadyH.cons (o := ⟨some 32, _, _, _, _, _⟩) rfl (fun K hK => ?_) AllReadyH.nil
  go_simp
  go_at_call 15
  refine (HM.out _).mono ?_
  rintro e w8 ⟨rfl, hb⟩
  have HB8 := Lib.hid (bT HB7.out hb)
  have HS8 := Lib.hid (HS7.out.trans (hb.mono HS7.out.size))
  clear hb hHeld HB7
  go_wp2_with fail
  refine hK.out _ _ (SS.out _ HS8.out) (fun hHeld => ?_)
  clear hK K HS7
  try simp only [Act.put, List.setIfInBounds_toArray, List.set_cons_zero, List.set_cons_succ]
  refine wpAnyH_take (i := 10) (oi := ⟨some 33, _, _, _, _, _⟩) (v := ?_) rfl (by kernel_rfl) (by kernel_rfl) (by kernel_rfl) (fun _ _ _ h => h) (Or.inl ⟨by rfl, ?_⟩) hHeld ?_
  rotate_left
  · intro w hSw
    go_simp
    try with_reducible rfl
  simp only [Act.put, List.setIfInBounds_toArray, List.set_cons_zero, List.set_cons_succ]
  refine wpAnyH_take (i := 11) (oi := ⟨some 34, _, _, _, _, _⟩) (v := .bool true) rfl (by kernel_rfl) (by kernel_rfl) (by kernel_rfl) (fun _ _ _ h => h) (Or.inl ⟨by rfl, fun _ _ => rfl⟩) hHeld ?_
  simp only [Act.put, List.setIfInBounds_toArray, List.set_cons_zero, List.set_cons_succ]
  refine wpAnyH_take (i := 12) (oi := ⟨some 35, _, _, _, _, _⟩) (v := .bool true) rfl (by kernel_rfl) (by kernel_rfl) (by kernel_rfl) (fun _ _ _ h => h) (Or.inl ⟨by rfl, fun _ _ => rfl⟩) hHeld ?_
  simp only [Act.put, List.setIfInBounds_toArray, List.set_cons_zero, List.set_cons_succ]
  refine wpAnyH_take (i := 13) (oi := ⟨some 36, _, _, _, _, _⟩) (v := .int .i64 i) rfl (by kernel_rfl) (by kernel_rfl) (by kernel_rfl) (fun _ _ _ h => h) (Or.inl ⟨by rfl, fun _ _ => rfl⟩) hHeld ?_
  simp only [Act.put, List.setIfInBounds_toArray, List.set_cons_zero, List.set_cons_succ]
  refine wpAnyH_take (i := 14) (oi := ⟨some 37, _, _, _, _, _⟩) (v := .int .i64 i) rfl (by kernel_rfl) (by kernel_rfl) (by kernel_rfl) (fun _ _ _ h => h) (Or.inl ⟨by rfl, fun _ _ => rfl⟩) hHeld ?_
  simp only [Act.put, List.setIfInBounds_toArray, List.set_cons_zero, List.set_cons_succ]
  refine wpAnyH_take (i := 15) (oi := ⟨some 38, _, _, _, _, _⟩) (v := ?_) rfl (by kernel_rfl) (by kernel_rfl) (by kernel_rfl) (fun _ _ _ h => h) (Or.inl ⟨by rfl, ?_⟩) hHeld ?_
  rotate_left
  · intro w hSw
    go_simp
    try with_reducible rfl
  simp only [Act.put, List.setIfInBounds_toArray, List.set_cons_zero, List.set_cons_succ]
  refine wpAnyH_take (i := 16) (oi := ⟨some 39, _, _, _, _, _⟩) (v := .bool true) rfl (by kernel_rfl) (by kernel_rfl) (by kernel_rfl) (fun _ _ _ h => h) (Or.inl ⟨by rfl, fun _ _ => rfl⟩) hHeld ?_
  simp only [Act.put, List.setIfInBounds_toArray, List.set_cons_zero, List.set_cons_succ]
  refine wpAnyH_take (i := 17) (oi := ⟨some 40, _, _, _, _, _⟩) (v := .bool true) rfl (by kernel_rfl) (by kernel_rfl) (by kernel_rfl) (fun _ _ _ h => h) (Or.inl ⟨by rfl, fun _ _ => rfl⟩) hHeld ?_
  simp only [Act.put, List.setIfInBounds_toArray, List.set_cons_zero, List.set_cons_succ]
  refine wpAnyH_take (i := 18) (oi := ⟨some 41, _, _, _, _, _⟩) (v := .bool t) rfl (by kernel_rfl) (by kernel_rfl) (by kernel_rfl) (fun _ _ _ h => h) (Or.inl ⟨by rfl, fun _ _ => rfl⟩) hHeld ?_
  simp only [Act.put, List.setIfInBounds_toArray, List.set_cons_zero, List.set_cons_succ]
  refine wpAnyH_take (i := 19) (oi := ⟨some 42, _, _, _, _, _⟩) (v := .bool t) rfl (by kernel_rfl) (by kernel_rfl) (by kernel_rfl) (fun _ _ _ h => h) (Or.inl ⟨by rfl, fun _ _ => rfl⟩) hHeld ?_
  simp only [Act.put, List.setIfInBounds_toArray, List.set_cons_zero, List.set_cons_succ]
  refine wpAnyH_take (i := 20) (oi := ⟨some 43, _, _, _, _, _⟩) (v := .bool true) rfl (by kernel_rfl) (by kernel_rfl) (by kernel_rfl) (fun _ _ _ h => h) (Or.inl ⟨by rfl, ?_⟩) hHeld ?_
  · intro w hSw
    cases t <;> go_simp
  simp only [Act.put, List.setIfInBounds_toArray, List.set_cons_zero, List.set_cons_succ]
  refine wpAnyH_take (i := 21) (oi := ⟨some 44, _, _, _, _, _⟩) (v := .bool true) rfl (by kernel_rfl) (by kernel_rfl) (by kernel_rfl) (fun _ _ _ h => h) (Or.inl ⟨by rfl, fun _ _ => rfl⟩) hHeld ?_
  simp only [Act.put, List.setIfInBounds_toArray, List.set_cons_zero, List.set_cons_succ]
  refine wpAnyH_take (i := 22) (oi := ⟨some 45, _, _, _, _, _⟩) (v := .bool true) rfl (by kernel_rfl) (by kernel_rfl) (by kernel_rfl) (fun _ _ _ h => h) (Or.inl ⟨by rfl, fun _ _ => rfl⟩) hHeld ?_
  simp only [Act.put, List.setIfInBounds_toArray, List.set_cons_zero, List.set_cons_succ]
  refine wpAnyH_take (i := 23) (oi := ⟨some 46, _, _, _, _, _⟩) (v := .agg C) rfl (by kernel_rfl) (by kernel_rfl) (by kernel_rfl) (fun _ _ _ h => h) (yieldsIf_load_mid (by rfl) _ _ rfl w.heap.size 0 rfl C.toList _ (fun _ h => h) hut.out rfl hi16.out) hHeld ?_
  simp only [Act.put, List.setIfInBounds_toArray, List.set_cons_zero, List.set_cons_succ]
  refine wpAnyH_take (i := 26) (oi := ⟨some 49, _, _, _, _, _⟩) (v := .agg C) rfl (by kernel_rfl) (by kernel_rfl) (by kernel_rfl) (fun _ _ _ h => h) (yieldsIf_load_mid (by rfl) _ _ rfl w.heap.size 0 rfl C.toList _ (fun _ h => h) hut.out rfl hi16.out) hHeld ?_
  simp only [Act.put, List.setIfInBounds_toArray, List.set_cons_zero, List.set_cons_succ]
  refine wpAnyH_take (i := 24) (oi := ⟨some 47, _, _, _, _, _⟩) (v := .string key) rfl (by kernel_rfl) (by kernel_rfl) (by kernel_rfl) (fun _ _ _ h => h) (Or.inl ⟨by rfl, fun _ _ => rfl⟩) hHeld ?_
  simp only [Act.put, List.setIfInBounds_toArray, List.set_cons_zero, List.set_cons_succ]
  refine wpAnyH_take (i := 27) (oi := ⟨some 50, _, _, _, _, _⟩) (v := .string key) rfl (by kernel_rfl) (by kernel_rfl) (by kernel_rfl) (fun _ _ _ h => h) (Or.inl ⟨by rfl, fun _ _ => rfl⟩) hHeld ?_
  simp only [Act.put, List.setIfInBounds_toArray, List.set_cons_zero, List.set_cons_succ]
  refine wpAnyH_ready (rs := [25]) (by kernel_rfl) (by simp) ?_
  refine AllReadyH.cons (o := ⟨some 48, _, _, _, _, _⟩) rfl (fun K hK => ?_) AllReadyH.nil
  go_simp
  go_at_call 16
  refine (HD.out _).mono ?_
  rintro e w9 ⟨rfl, hb⟩
  have HB9 := Lib.hid (bT HB8.out hb)
  have HS9 := Lib.hid (HS8.out.trans (hb.mono HS8.out.size))
  clear hb hHeld HB8
  go_wp2_with fail
  refine hK.out _ _ (SS.out _ HS9.out) (fun hHeld => ?_)
  clear hK K HS8
  try simp only [Act.put, List.setIfInBounds_toArray, List.set_cons_zero, List.set_cons_succ]
  refine wpAnyH_ready (rs := [28]) (by kernel_rfl) (by simp) ?_
  refine AllReadyH.cons (o := ⟨some 51, _, _, _, _, _⟩) rfl (fun K hK => ?_) AllReadyH.nil
  go_simp
  go_at_call 17
  refine (HE.out _).mono ?_
  rintro e w10 ⟨rfl, hb⟩
  have HB10 := Lib.hid (bT HB9.out hb)
  have HS10 := Lib.hid (HS9.out.trans (hb.mono HS9.out.size))
  clear hb hHeld HB9
  go_wp2_with fail
  refine hK.out _ _ (SS.out _ HS10.out) (fun hHeld => ?_)
  clear hK K HS9
  try simp only [Act.put, List.setIfInBounds_toArray, List.set_cons_zero, List.set_cons_succ]
  refine wpAnyH_take (i := 29) (oi := ⟨some 52, _, _, _, _, _⟩) (v := ?_) rfl (by kernel_rfl) (by kernel_rfl) (by kernel_rfl) (fun _ _ _ h => h) (Or.inl ⟨by rfl, ?_⟩) hHeld ?_
  rotate_left
  · intro w hSw
    go_simp
    try with_reducible rfl
  simp only [Act.put, List.setIfInBounds_toArray, List.set_cons_zero, List.set_cons_succ]
  refine wpAnyH_take (i := 30) (oi := ⟨some 53, _, _, _, _, _⟩) (v := .bool true) rfl (by kernel_rfl) (by kernel_rfl) (by kernel_rfl) (fun _ _ _ h => h) (Or.inl ⟨by rfl, fun _ _ => rfl⟩) hHeld ?_
  simp only [Act.put, List.setIfInBounds_toArray, List.set_cons_zero, List.set_cons_succ]
  refine wpAnyH_take (i := 31) (oi := ⟨some 4, _, _, _, _, _⟩) (v := .bool true) rfl (by kernel_rfl) (by kernel_rfl) (by kernel_rfl) (fun _ _ _ h => h) (Or.inl ⟨by rfl, fun _ _ => rfl⟩) hHeld ?_
  simp only [Act.put, List.setIfInBounds_toArray, List.set_cons_zero, List.set_cons_succ]
  refine wpAnyH_done (by kernel_rfl) ?_ _
  clear HC HR HN HM HD HE SS hHeld hut hi16
  refine ‹∀ (a : Act) (w : World), Code.wp Try.prog Code.ret _ a w → _› _ _ ?_
  refine wp_ret ?_
  exact bodyPost_ret (results_tmp Try.results3 _ _ _) rfl ⟨rfl, HB10.out⟩
end Go.Proofs.Ytgealllnchpekaa
