import Derived.Test.YtgealllnchpekaaNodeT
set_option linter.unusedSimpArgs false
set_option linter.unusedVariables false
namespace Go.Proofs.Ytgealllnchpekaa
open Go.RowKit

theorem keys_up {P : Pg} {n : Nat} (h : NodeOk P) (hn : IsCount P n) : ∀ k, k < n → ∀ j, j < k → Op.bytesLess (keyAt P j).toList (keyAt P k).toList = true := by
  intro k
  induction k with
  | zero => intro _ j hj; omega
  | succ k ih =>
    intro hk j hj
    have hs := h.2.2.1 (k + 1) (by have := hn.1; omega)
    unfold StepOk at hs
    rw [if_neg (hn.2.1 _ hk)] at hs
    have h1 := hs.2.2.1 k rfl
    by_cases e : j = k
    · subst e; exact h1
    · exact bl_trans _ _ _ (ih (by omega) j (by omega)) h1
theorem key_ok {P : Pg} {n : Nat} (h : NodeOk P) (hn : IsCount P n) (k : Nat) (hk : k < n) : (keyP (P.st k) (P.dt k)).2.2 = true := by
  have hs := h.2.2.1 k (by have := hn.1; omega)
  unfold StepOk at hs
  rw [if_neg (hn.2.1 _ hk)] at hs
  exact hs.2.1
theorem find_lt {P : Pg} {key : ByteArray} {n i : Nat} {t : Bool} (h : NodeOk P) (hn : IsCount P n) (hf : FindAt P key n i t) (k : Nat) (hk : k < n) :
    Op.bytesLess (keyAt P k).toList key.toList = decide (k < i) ∧ ((keyAt P k).toList == key.toList) = (t && decide (k = i)) := by
  obtain ⟨f1, f2, f3, f4⟩ := hf
  rcases Nat.lt_trichotomy k i with h1 | h1 | h1
  · have h2 := f2 k h1
    refine ⟨by rw [h2]; simp [h1], ?_⟩
    have h3 : ¬ k = i := by omega
    have : ¬ (keyAt P k).toList = key.toList := fun e => by rw [e, bl_irrefl] at h2; simp at h2
    simp [h3, this]
  · subst h1
    refine ⟨by rw [f3 hk]; simp, ?_⟩
    rw [f4]
    simp [hk]
  · have h2 := keys_up h hn k hk i h1
    have h3 := f3 (by omega)
    have h4 : Op.bytesLess (keyAt P k).toList key.toList = false := by
      cases e : Op.bytesLess (keyAt P k).toList key.toList with
      | false => rfl
      | true => rw [bl_trans _ _ _ h2 e] at h3; simp at h3
    refine ⟨by rw [h4]; simp; omega, ?_⟩
    have : ¬ (keyAt P k).toList = key.toList := fun e => by rw [e] at h2; rw [h2] at h3; simp at h3
    have h5 : ¬ k = i := by omega
    simp [this, h5]
set_option maxRecDepth 100000 in
set_option maxHeartbeats 16000000 in
theorem nodeFinds_run (P : Pg) (key : ByteArray) (hd : ∀ i, (P.dt i).size ≤ maxLen) (hk : key.size ≤ maxLen) (w : World) :
    Calls Try.prog 4 #[pgV P, .string key] w fun e w' => e = .returned (.bool true) ∧ Below w.heap.size w w' := by
  have HA := Lib.hid (fun w => awake05 w)
  by_cases hok : NodeOk P
  rotate_left
  · have HC := Lib.hid (fun w => nd_check_no hok hd w)
    clear hok
    unfold pgV at *
    go_enter Try.func4, Try.ntmps4
    go_wp2_with fail
    refine (HA.out _).mono ?_
    rintro e w1 ⟨rfl, hb⟩
    have HB1 := Lib.hid (bT (bA bR) hb)
    have HQc := Lib.hid (hBs hb (hN rfl))
    clear hb
    go_wp2_with (refine wpList_load_row rfl 26 _ rfl _ rfl 26 _ _ _ HQc.out Try.underlying26 rfl (by kernel_rfl) ?_)
    refine (HC.out _).mono ?_
    rintro e w2 ⟨rfl, hb⟩
    have HB2 := Lib.hid (bT HB1.out hb)
    clear hb
    go_wp2_with fail
    go_ret
    exact ⟨rfl, HB2.out⟩
  obtain ⟨n, hn⟩ := count_is P
  obtain ⟨i, t, hf⟩ := find_is P key n
  have HC := Lib.hid (fun w => nd_check_ok hok hd w)
  have HN := Lib.hid (fun w => nd_count' hn w)
  have HF := Lib.hid (fun w => nd_find' hn hf hd hk w)
  have HD := Lib.hid (fun w => nd_down hn hf hd hk w)
  have hlaw := Lib.hid (fun k hk => find_lt hok hn hf k hk)
  have hkey := Lib.hid (fun k hk => key_ok hok hn k hk)
  have hn6 : n ≤ 6 := hn.1
  have hin : i ≤ n := hf.1
  clear hok hn hf
  unfold pgV at *
  have hin' : (i : Int) ≤ n := by omega
  have hni : ¬ n < i := by omega
  have hi0 : ¬ (i : Int) < 0 := by omega
  go_enter Try.func4, Try.ntmps4
  go_wp2_with fail
  refine (HA.out _).mono ?_
  rintro e w1 ⟨rfl, hb⟩
  have HB1 := Lib.hid (bT (bA bR) hb)
  have HQc := Lib.hid (hBs hb (hN rfl))
  clear hb
  go_wp2_with (refine wpList_load_row rfl 26 _ rfl _ rfl 26 _ _ _ HQc.out Try.underlying26 rfl (by kernel_rfl) ?_)
  refine (HC.out _).mono ?_
  rintro e w2 ⟨rfl, hb⟩
  have HB2 := Lib.hid (bT HB1.out hb)
  replace HQc := Lib.hid (hBs hb HQc.out)
  clear hb HB1
  go_wp2_with (refine wpList_load_row rfl 26 _ rfl _ rfl 26 _ _ _ HQc.out Try.underlying26 rfl (by kernel_rfl) ?_)
  refine (HN.out _).mono ?_
  rintro e w3 ⟨rfl, hb⟩
  have HB3 := Lib.hid (bT HB2.out hb)
  replace HQc := Lib.hid (hBs hb HQc.out)
  clear hb HB2
  go_wp2_with (refine wpList_load_row rfl 26 _ rfl _ rfl 26 _ _ _ HQc.out Try.underlying26 rfl (by kernel_rfl) ?_)
  refine (HF.out _).mono ?_
  rintro e w4 ⟨rfl, hb⟩
  have HB4 := Lib.hid (bT HB3.out hb)
  replace HQc := Lib.hid (hBs hb HQc.out)
  clear hb HB3
  go_wp2_with fail
  go_loopw [8] (fun s wr => ∃ (k : Nat), k ≤ n ∧ s = .int .i64 k ∧ Hid (wr.heap[w.heap.size]? = some (.cells (pgC P) 26 (0, 0))) ∧ Hid (Below w.heap.size w wr)) (fun s _ => 6 - (intOf s).toNat)
  case atStart => exact ⟨0, by omega, rfl, HQc, HB4⟩
  case round =>
    obtain ⟨k, hkn, rfl, HQ, HB⟩ := hrel
    clear HQc HB4
    have hqr := block_lt HQ.out
    by_cases hk6 : k < n
    rotate_left
    · obtain rfl : k = n := by omega
      have HQc := HQ
      clear hlaw hkey
      go_wp2_with (refine wpList_load_row rfl 26 _ rfl _ rfl 26 _ _ _ HQc.out Try.underlying26 rfl (by kernel_rfl) ?_)
      refine (HD.out _).mono ?_
      rintro e w5 ⟨rfl, hb⟩
      have HB5 := Lib.hid (bT HB.out hb)
      clear hb
      unfold downP
      cases t with
      | true =>
        rw [if_pos (.inl rfl)]
        go_wp2_with fail
        go_ret
        exact ⟨rfl, HB5.out⟩
      | false =>
        by_cases hi : i = 0
        · subst hi
          rw [if_pos (.inr rfl)]
          go_wp2_with fail
          go_ret
          exact ⟨rfl, HB5.out⟩
        · rw [if_neg (by simpa using hi)]
          have hmax : max ((i : Int) - 1) 0 = (i : Int) - 1 := by omega
          clear hi
          go_wp2_with fail
          go_ret
          exact ⟨rfl, HB5.out⟩
    have hk6' : (k : Int) < n := by omega
    have hk66 : (k : Int) < 6 := by omega
    obtain ⟨c0, c1⟩ := pg_at HQ.out k (by omega)
    have HK := Lib.hid (fun w => nd_key (P.st k) (P.dt k) (hd k) w)
    unfold cellV at HK
    dsimp only at HK
    obtain ⟨l1, l2⟩ := hlaw.out k hk6
    have hkk := hkey.out k hk6
    unfold keyAt at l1 l2
    generalize keyP (P.st k) (P.dt k) = r at *
    obtain ⟨own, rest, ok⟩ := r
    dsimp only at HK l1 l2 hkk
    subst hkk
    rcases Nat.lt_trichotomy k i with h1 | h1 | h1
    · have hc1 : (k : Int) < i := by omega
      rw [show decide (k < i) = _ from decide_eq_true h1] at l1
      have l3 : (own.toList == key.toList) = false := l2.trans (by rw [show decide (k = i) = false from decide_eq_false (by omega), Bool.and_false])
      have hq : ((k : Int) == i) = false := by simp; omega
      clear l2 h1
      cases t <;>
        (go_wp2_with fail
         refine (HK.out _).mono ?_
         rintro e w5 ⟨rfl, hb⟩
         have HB5 := Lib.hid (bT HB.out hb)
         have HQ5 := Lib.hid (hBs hb HQ.out)
         clear hb
         go_wp2_with fail
         go_roundw
         case rel => exact ⟨k + 1, by omega, rfl, HQ5, HB5⟩
         case measure => simp [intOf]; omega)
    · have hc1 : (i : Int) ≤ k := by omega
      rw [show decide (k < i) = _ from decide_eq_false (by omega)] at l1
      have l3 : (own.toList == key.toList) = t := l2.trans (by rw [show decide (k = i) = true from decide_eq_true h1, Bool.and_true])
      have hq : ((k : Int) == i) = true := by simp; omega
      clear l2 h1
      cases t <;>
        (go_wp2_with fail
         refine (HK.out _).mono ?_
         rintro e w5 ⟨rfl, hb⟩
         have HB5 := Lib.hid (bT HB.out hb)
         have HQ5 := Lib.hid (hBs hb HQ.out)
         clear hb
         go_wp2_with fail
         go_roundw
         case rel => exact ⟨k + 1, by omega, rfl, HQ5, HB5⟩
         case measure => simp [intOf]; omega)
    · have hc1 : (i : Int) ≤ k := by omega
      rw [show decide (k < i) = _ from decide_eq_false (by omega)] at l1
      have l3 : (own.toList == key.toList) = false := l2.trans (by rw [show decide (k = i) = false from decide_eq_false (by omega), Bool.and_false])
      have hq : ((k : Int) == i) = false := by simp; omega
      clear l2 h1
      cases t <;>
        (go_wp2_with fail
         refine (HK.out _).mono ?_
         rintro e w5 ⟨rfl, hb⟩
         have HB5 := Lib.hid (bT HB.out hb)
         have HQ5 := Lib.hid (hBs hb HQ.out)
         clear hb
         go_wp2_with fail
         go_roundw
         case rel => exact ⟨k + 1, by omega, rfl, HQ5, HB5⟩
         case measure => simp [intOf]; omega)
theorem nodeFinds_walk (v : Value) (P : Pg) (key : ByteArray) (hk : key.size ≤ maxLen) (w : World) (h : PgIs v P) :
    Calls Try.prog 4 #[v, .string key] w fun e w' => e = .returned (.bool true) ∧ Below w.heap.size w w' := by
  obtain ⟨rfl, h1⟩ := h
  exact nodeFinds_run P key h1 hk w
end Go.Proofs.Ytgealllnchpekaa
