import Derived.Test.YtgealllnchpekaaNodeV
set_option linter.unusedSimpArgs false
set_option linter.unusedVariables false
namespace Go.Proofs.Ytgealllnchpekaa
open Go.RowKit

set_option maxRecDepth 100000 in
set_option maxHeartbeats 1600000 in
theorem rf_count {P : Pg} {n : Nat} (hn : IsCount P n) (w : World) : Calls Try.prog 15 #[pgV P] w fun e w' => e = .returned (.int .i64 n) ∧ Below w.heap.size w w' := by
  have HC := Lib.hid (fun w => rf_cells hn w)
  have HQc : Hid ((w.alloc (.cells (pgC P) 26)).heap[w.heap.size]? = some (.cells (pgC P) 26 (0, 0))) := hN rfl
  have hn6 := hn.1
  clear hn
  unfold pgV at *
  go_enter Try.func15, Try.ntmps15
  go_wp2_with (refine wpList_load_row rfl 26 _ rfl _ rfl 26 _ _ _ HQc.out Try.underlying26 rfl (by kernel_rfl) ?_)
  refine (HC.out _).mono ?_
  rintro e w1 ⟨v, rfl, hc, hb, -⟩
  have HB1 := Lib.hid (bT (bA bR) hb)
  obtain ⟨ad, cc, rfl⟩ := hc.1.form
  clear hb hc
  go_wp2_with fail
  go_ret
  exact ⟨rfl, HB1.out⟩
set_option maxRecDepth 100000 in
set_option maxHeartbeats 3200000 in
theorem rf_find {P : Pg} {key : ByteArray} {n i : Nat} {t : Bool} (hn : IsCount P n) (hf : FindAt P key n i t) (hd : ∀ i, (P.dt i).size ≤ maxLen) (hk : key.size ≤ maxLen) (w : World) :
    Calls Try.prog 11 #[pgV P, .string key] w fun e w' => e = .returned (.tuple #[.int .i64 i, .bool t]) ∧ Below w.heap.size w w' := by
  have HC := Lib.hid (fun w => rf_cells hn w)
  have HQc : Hid ((w.alloc (.cells (pgC P) 26)).heap[w.heap.size]? = some (.cells (pgC P) 26 (0, 0))) := hN rfl
  have hn6 := hn.1
  have hn6' : (n : Int) ≤ 6 := by omega
  have HF := Lib.hid hf
  clear hn hf
  unfold pgV at *
  go_enter Try.func11, Try.ntmps11
  go_wp2_with (refine wpList_load_row rfl 26 _ rfl _ rfl 26 _ _ _ HQc.out Try.underlying26 rfl (by kernel_rfl) ?_)
  refine (HC.out _).mono ?_
  rintro e w1 ⟨v, rfl, hc, hb, -⟩
  have HB1 := Lib.hid (bT (bA bR) hb)
  obtain ⟨ad, cc, hv⟩ := hc.1.form
  have HV := Lib.hid hc
  subst hv
  clear hb hc HC HQc
  go_wp2_with fail
  go_loopw [7] (fun s wr => ∃ (k : Nat), k ≤ n ∧ s = .int .i64 k ∧ Hid (∀ j, j < k → Op.bytesLess (keyAt P j).toList key.toList = true) ∧ Hid (CellsAt wr (w.heap.size + 1) (.slice ad n cc) P n) ∧ Hid (Below w.heap.size w wr)) (fun s _ => 6 - (intOf s).toNat)
  case atStart => exact ⟨0, by omega, rfl, fun j h => by omega, ⟨HV.out.1, fun j h => by have := HV.out.2 j h; simpa using this⟩, HB1⟩
  case round =>
    obtain ⟨k, hkn, rfl, hno, HVr, HB⟩ := hrel
    clear HB1 HV
    by_cases hk6 : k < n
    rotate_left
    · obtain rfl : k = n := by omega
      obtain ⟨f1, f2, f3, f4⟩ := HF.out
      have hik : i = k := by
        by_cases e : i < k
        · have := hno.out i e; rw [f3 e] at this; simp at this
        · omega
      subst hik
      have ht : t = false := by rw [f4]; simp
      subst ht
      clear f1 f2 f3 f4
      go_wp2_with fail
      go_ret2
      exact ⟨rfl, HB.out⟩
    obtain ⟨g, c, hv⟩ := HVr.out.1.has (by omega)
    obtain ⟨rfl, rfl⟩ : ad = some ⟨g, 0, none⟩ ∧ cc = c := by simpa using hv
    clear hv
    obtain ⟨c0, c1⟩ := HVr.out.at k hk6
    have hk6' : (k : Int) < n := by omega
    have hk66 : (k : Int) < 6 := by omega
    have HK := Lib.hid (fun w => rf_says (P.st k) (P.dt k) (hd k) w)
    unfold cellV at HK
    dsimp only at HK
    obtain ⟨own, how⟩ : ∃ own, keyAt P k = own := ⟨_, rfl⟩
    rw [show (keyP (P.st k) (P.dt k)).1 = own from how] at HK
    replace how := Lib.hid how
    go_wp2_with fail
    refine (HK.out _).mono ?_
    rintro e w2 ⟨rfl, hb⟩
    have HB2 := Lib.hid (bT HB.out hb)
    have HV2 := Lib.hid (HVr.out.keep (Keeps.of_below (fun _ => False) hb) (fun _ _ h => h))
    clear hb
    obtain ⟨f1, f2, f3, f4⟩ := HF.out
    by_cases hki : k < i
    · have hbl : Op.bytesLess own.toList key.toList = true := by rw [← how.out]; exact f2 k hki
      have hno2 : Hid (∀ j, j < k + 1 → Op.bytesLess (keyAt P j).toList key.toList = true) := fun j hj => f2 j (by omega)
      clear f1 f2 f3 f4 hki
      go_wp2_with fail
      go_roundw
      case rel => exact ⟨k + 1, by omega, rfl, hno2, HV2, HB2⟩
      case measure => simp [intOf]; omega
    · have hik : i = k := by
        by_cases e : i < k
        · have := hno.out i e; rw [f3 (by omega)] at this; simp at this
        · omega
      subst hik
      have hbl : Op.bytesLess own.toList key.toList = false := by rw [← how.out]; exact f3 hk6
      have ht : (own.toList == key.toList) = t := by rw [f4, how.out]; simp [hk6]
      clear f1 f2 f3 f4 hki
      go_wp2_with fail
      go_ret2
      exact ⟨rfl, HB2.out⟩
set_option maxHeartbeats 1600000 in
theorem rf_down {P : Pg} {key : ByteArray} {n i : Nat} {t : Bool} (hn : IsCount P n) (hf : FindAt P key n i t) (hd : ∀ i, (P.dt i).size ≤ maxLen) (hk : key.size ≤ maxLen) (w : World) :
    Calls Try.prog 17 #[pgV P, .string key] w fun e w' => e = .returned (.int .i64 (downP i t)) ∧ Below w.heap.size w w' := by
  have HF := Lib.hid (fun w => rf_find hn hf hd hk w)
  have HQc : Hid ((w.alloc (.cells (pgC P) 26)).heap[w.heap.size]? = some (.cells (pgC P) 26 (0, 0))) := hN rfl
  have hi6 : i ≤ 6 := Nat.le_trans hf.1 hn.1
  clear hn hf
  unfold pgV at *
  unfold downP
  cases t with
  | true =>
    rw [if_pos (.inl rfl)]
    go_enter Try.func17, Try.ntmps17
    go_wp2_with (refine wpList_load_row rfl 26 _ rfl _ rfl 26 _ _ _ HQc.out Try.underlying26 rfl (by kernel_rfl) ?_)
    refine (HF.out _).mono ?_
    rintro e w1 ⟨rfl, hb⟩
    have HB1 := Lib.hid (bT (bA bR) hb)
    clear hb
    go_wp2_with fail
    go_ret
    exact ⟨rfl, HB1.out⟩
  | false =>
    by_cases hi : i = 0
    · subst hi
      rw [if_pos (.inr rfl)]
      go_enter Try.func17, Try.ntmps17
      go_wp2_with (refine wpList_load_row rfl 26 _ rfl _ rfl 26 _ _ _ HQc.out Try.underlying26 rfl (by kernel_rfl) ?_)
      refine (HF.out _).mono ?_
      rintro e w1 ⟨rfl, hb⟩
      have HB1 := Lib.hid (bT (bA bR) hb)
      clear hb
      go_wp2_with fail
      go_ret
      exact ⟨rfl, HB1.out⟩
    · rw [if_neg (by simpa using hi)]
      have hi' : ((i : Int) == 0) = false := by simpa using hi
      clear hi
      go_enter Try.func17, Try.ntmps17
      go_wp2_with (refine wpList_load_row rfl 26 _ rfl _ rfl 26 _ _ _ HQc.out Try.underlying26 rfl (by kernel_rfl) ?_)
      refine (HF.out _).mono ?_
      rintro e w1 ⟨rfl, hb⟩
      have HB1 := Lib.hid (bT (bA bR) hb)
      clear hb
      go_wp2_with fail
      go_ret
      exact ⟨rfl, HB1.out⟩
end Go.Proofs.Ytgealllnchpekaa
