import Derived.Test.YtgealllnchpekaaNodeB
set_option linter.unusedSimpArgs false
set_option linter.unusedVariables false
namespace Go.Proofs.Ytgealllnchpekaa
open Go.RowKit

set_option maxHeartbeats 1600000 in
theorem nd_child (st : Int) (d : ByteArray) (hd : d.size ≤ maxLen) (w : World) :
    Calls Try.prog 24 #[cellV (st, d)] w fun e w' => e = .returned (.int .i64 (childP st d)) ∧ Below w.heap.size w w' := by
  have HK := Lib.hid (fun w => nd_key st d hd w)
  have hr := keyP_rest st d
  unfold childP
  unfold cellV at *
  dsimp only at *
  generalize keyP st d = r at *
  obtain ⟨k, rest, ok⟩ := r
  dsimp only at HK hr ⊢
  have hrl : rest.size ≤ maxLen := Nat.le_trans hr hd
  by_cases h8 : rest.size < 1 ∨ 8 < rest.size
  · have HV := Lib.hid (fun w => oct_val_bad rest (by omega) w hrl)
    rw [if_neg (by omega)]
    cases ok with
    | true =>
      go_enter Try.func24, Try.ntmps24
      go_wp2_with fail
      refine (HK.out _).mono ?_
      rintro e w1 ⟨rfl, hb⟩
      have HB1 := Lib.hid (bT (bA bR) hb)
      clear hb
      go_wp2_with fail
      refine (HV.out _).mono ?_
      rintro e w2 ⟨rfl, rfl⟩
      go_wp2_with fail
      go_ret
      exact ⟨rfl, HB1.out⟩
    | false =>
      go_enter Try.func24, Try.ntmps24
      go_wp2_with fail
      refine (HK.out _).mono ?_
      rintro e w1 ⟨rfl, hb⟩
      have HB1 := Lib.hid (bT (bA bR) hb)
      clear hb
      go_wp2_with fail
      refine (HV.out _).mono ?_
      rintro e w2 ⟨rfl, rfl⟩
      go_wp2_with fail
      go_ret
      exact ⟨rfl, HB1.out⟩
  · have HV := Lib.hid (fun w => oct_val_ok rest (by omega) (by omega) w)
    have hv0 : 0 ≤ valS rest := valL_nonneg _
    have hfin : ∀ (x : Int), x < 1024 → 0 ≤ x → IntKind.i64.wrap x = x := fun x h1 h0 => by rw [IntKind.wrap_i64]; omega
    unfold maxLen at hrl
    clear h8
    generalize valS rest = n at *
    cases ok with
    | false =>
      rw [if_neg (by simp)]
      go_enter Try.func24, Try.ntmps24
      go_wp2_with fail
      refine (HK.out _).mono ?_
      rintro e w1 ⟨rfl, hb⟩
      have HB1 := Lib.hid (bT (bA bR) hb)
      clear hb
      go_wp2_with fail
      refine (HV.out _).mono ?_
      rintro e w2 ⟨rfl, rfl⟩
      go_wp2_with fail
      go_ret
      exact ⟨rfl, HB1.out⟩
    | true =>
      by_cases h4 : rest.size = 4
      · have e4 : ((rest.size : Int) != 4) = false := by simp; omega
        by_cases h1 : 1 ≤ n
        · by_cases h2 : n < 1024
          · rw [if_pos ⟨rfl, h4, h1, h2⟩]
            have hw := hfin n h2 hv0
            clear hfin
            go_enter Try.func24, Try.ntmps24
            go_wp2_with fail
            refine (HK.out _).mono ?_
            rintro e w1 ⟨rfl, hb⟩
            have HB1 := Lib.hid (bT (bA bR) hb)
            clear hb
            go_wp2_with fail
            refine (HV.out _).mono ?_
            rintro e w2 ⟨rfl, rfl⟩
            go_wp2_with fail
            go_ret
            exact ⟨rfl, HB1.out⟩
          · rw [if_neg (by omega)]
            have h2' : 1024 ≤ n := by omega
            go_enter Try.func24, Try.ntmps24
            go_wp2_with fail
            refine (HK.out _).mono ?_
            rintro e w1 ⟨rfl, hb⟩
            have HB1 := Lib.hid (bT (bA bR) hb)
            clear hb
            go_wp2_with fail
            refine (HV.out _).mono ?_
            rintro e w2 ⟨rfl, rfl⟩
            go_wp2_with fail
            go_ret
            exact ⟨rfl, HB1.out⟩
        · rw [if_neg (by omega)]
          have h1' : n < 1 := by omega
          go_enter Try.func24, Try.ntmps24
          go_wp2_with fail
          refine (HK.out _).mono ?_
          rintro e w1 ⟨rfl, hb⟩
          have HB1 := Lib.hid (bT (bA bR) hb)
          clear hb
          go_wp2_with fail
          refine (HV.out _).mono ?_
          rintro e w2 ⟨rfl, rfl⟩
          go_wp2_with fail
          go_ret
          exact ⟨rfl, HB1.out⟩
      · have e4 : ((rest.size : Int) != 4) = true := by simp; omega
        rw [if_neg (by omega)]
        go_enter Try.func24, Try.ntmps24
        go_wp2_with fail
        refine (HK.out _).mono ?_
        rintro e w1 ⟨rfl, hb⟩
        have HB1 := Lib.hid (bT (bA bR) hb)
        clear hb
        go_wp2_with fail
        refine (HV.out _).mono ?_
        rintro e w2 ⟨rfl, rfl⟩
        go_wp2_with fail
        go_ret
        exact ⟨rfl, HB1.out⟩
end Go.Proofs.Ytgealllnchpekaa
