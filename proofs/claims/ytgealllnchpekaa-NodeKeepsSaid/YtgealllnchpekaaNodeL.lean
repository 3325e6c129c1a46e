import Derived.Test.YtgealllnchpekaaNodeK
set_option linter.unusedSimpArgs false
set_option linter.unusedVariables false
namespace Go.Proofs.Ytgealllnchpekaa
open Go.RowKit

set_option maxHeartbeats 1600000 in
theorem rf_inner (k : ByteArray) (c : Int) (hk : k.size ≤ maxLen) (w : World) :
    Calls Try.prog 22 #[.string k, .int .i64 c] w fun e w' => e = .returned (.tuple #[cellV (innerP k c).1, .int .i64 (innerP k c).2]) ∧ Below w.heap.size w w' := by
  unfold innerP
  unfold maxLen at hk
  have fin : ∀ w' : World, w' = w.alloc (.cells #[.int .i64 0, .string ⟨#[]⟩] 23) → Below w.heap.size w w' := by
    rintro _ rfl
    exact bA bR
  have fin := Lib.hid fin
  by_cases h : innerOk k c
  · rw [if_pos h]
    obtain ⟨h1, h2, h3⟩ := h
    have hls : (leS c 4).size = 4 := leS_size _ _
    have HU := Lib.hid (fun w => rf_put c h2 h3 w)
    have HT := Lib.hid (fun w => rf_data k (leS c 4) h1 (by rw [hls]; omega) w)
    have e1 : (k.size : Int) ≤ 8 := by omega
    have e2 : c ≤ 1023 := by omega
    clear h1
    generalize textS k ++ leS c 4 = T at *
    generalize leS c 4 = M at *
    clear hls h3
    go_enter Try.func22, Try.ntmps22
    go_wp2_with fail
    refine (HU.out _).mono ?_
    rintro e w1 ⟨rfl, hb⟩
    have HQ := Lib.hid (hBs hb (hN rfl))
    have HB := Lib.hid (bT (bA bR) hb)
    clear hb
    go_wp2_with fail
    refine (HT.out _).mono ?_
    rintro e w2 ⟨rfl, hb⟩
    have HQ2 := hBs hb HQ.out
    have q0 := cell_at HQ2 0
    have q1 := cell_at HQ2 1
    have f0 := free_at HQ2 0
    have f1 := free_at HQ2 1
    have HQ2 := Lib.hid HQ2
    have HB2 := Lib.hid (bT HB.out hb)
    clear hb
    go_wp2_with fail
    refine bodyPost_ret (v := .tuple #[cellV (_, T), .int .i64 0]) (by simp [results, Try.results22, go_sem, cellV, q0, q1]) rfl ⟨rfl, ?_⟩
    exact bS (bS HB2.out (Nat.le_refl _)) (Nat.le_refl _)
  · rw [if_neg h]
    by_cases h2 : 8 < k.size
    · have e1 : (8 : Int) < k.size := by omega
      go_enter Try.func22, Try.ntmps22
      go_wp2_with fail
      refine bodyPost_ret (v := .tuple #[cellV (0, ⟨#[]⟩), .int .i64 1]) (by simp [results, Try.results22, go_sem, cellV]) rfl ⟨rfl, fin.out _ rfl⟩
    · have e1 : (k.size : Int) ≤ 8 := by omega
      by_cases h3 : c < 1
      · go_enter Try.func22, Try.ntmps22
        go_wp2_with fail
        refine bodyPost_ret (v := .tuple #[cellV (0, ⟨#[]⟩), .int .i64 1]) (by simp [results, Try.results22, go_sem, cellV]) rfl ⟨rfl, fin.out _ rfl⟩
      · have h4 : 1024 ≤ c := Int.not_lt.1 (fun h' => h ⟨by omega, by omega, h'⟩)
        have h4' : 1023 < c := by omega
        go_enter Try.func22, Try.ntmps22
        go_wp2_with fail
        refine bodyPost_ret (v := .tuple #[cellV (0, ⟨#[]⟩), .int .i64 1]) (by simp [results, Try.results22, go_sem, cellV]) rfl ⟨rfl, fin.out _ rfl⟩
set_option maxHeartbeats 1600000 in
theorem rf_child (st : Int) (d : ByteArray) (hd : d.size ≤ maxLen) (w : World) :
    Calls Try.prog 25 #[cellV (st, d)] w fun e w' => e = .returned (.int .i64 (childP st d)) ∧ Below w.heap.size w w' := by
  have HK := Lib.hid (fun w => rf_says st d hd w)
  have hr := keyP_rest st d
  unfold childP
  unfold cellV at *
  dsimp only at *
  generalize keyP st d = r at *
  obtain ⟨k, rest, ok⟩ := r
  dsimp only at HK hr ⊢
  have hrl : rest.size ≤ maxLen := Nat.le_trans hr hd
  cases ok with
  | false =>
    rw [if_neg (by simp)]
    go_enter Try.func25, Try.ntmps25
    go_wp2_with fail
    refine (HK.out _).mono ?_
    rintro e w1 ⟨rfl, hb⟩
    have HB1 := Lib.hid (bT (bA bR) hb)
    clear hb
    go_wp2_with fail
    go_ret
    exact ⟨rfl, HB1.out⟩
  | true =>
    by_cases h4 : rest.size = 4
    · have e4 : ((rest.size : Int) != 4) = false := by simp; omega
      have HV := Lib.hid (fun w => ref_val_ok rest (by omega) (by omega) w)
      have hv0 : 0 ≤ valS rest := valL_nonneg _
      have hfin : ∀ (x : Int), x < 1024 → 0 ≤ x → IntKind.i64.wrap x = x := fun x h1 h0 => by rw [IntKind.wrap_i64]; omega
      generalize valS rest = n at *
      by_cases h1 : 1 ≤ n
      · by_cases h2 : n < 1024
        · rw [if_pos ⟨rfl, h4, h1, h2⟩]
          have hw := hfin n h2 hv0
          have h2' : n ≤ 1023 := by omega
          clear hfin
          go_enter Try.func25, Try.ntmps25
          go_wp2_with fail
          refine (HK.out _).mono ?_
          rintro e w1 ⟨rfl, hb⟩
          have HB1 := Lib.hid (bT (bA bR) hb)
          clear hb
          go_wp2_with fail
          refine (HV.out _).mono ?_
          rintro e w2 ⟨rfl, rfl⟩
          go_wp2_with fail
          go_ret
          exact ⟨rfl, HB1.out⟩
        · rw [if_neg (by omega)]
          have h2' : 1023 < n := by omega
          go_enter Try.func25, Try.ntmps25
          go_wp2_with fail
          refine (HK.out _).mono ?_
          rintro e w1 ⟨rfl, hb⟩
          have HB1 := Lib.hid (bT (bA bR) hb)
          clear hb
          go_wp2_with fail
          refine (HV.out _).mono ?_
          rintro e w2 ⟨rfl, rfl⟩
          go_wp2_with fail
          go_ret
          exact ⟨rfl, HB1.out⟩
      · rw [if_neg (by omega)]
        have h1' : n < 1 := by omega
        go_enter Try.func25, Try.ntmps25
        go_wp2_with fail
        refine (HK.out _).mono ?_
        rintro e w1 ⟨rfl, hb⟩
        have HB1 := Lib.hid (bT (bA bR) hb)
        clear hb
        go_wp2_with fail
        refine (HV.out _).mono ?_
        rintro e w2 ⟨rfl, rfl⟩
        go_wp2_with fail
        go_ret
        exact ⟨rfl, HB1.out⟩
    · have e4 : ((rest.size : Int) != 4) = true := by simp; omega
      rw [if_neg (by omega)]
      unfold maxLen at hrl
      go_enter Try.func25, Try.ntmps25
      go_wp2_with fail
      refine (HK.out _).mono ?_
      rintro e w1 ⟨rfl, hb⟩
      have HB1 := Lib.hid (bT (bA bR) hb)
      clear hb
      go_wp2_with fail
      go_ret
      exact ⟨rfl, HB1.out⟩
end Go.Proofs.Ytgealllnchpekaa
