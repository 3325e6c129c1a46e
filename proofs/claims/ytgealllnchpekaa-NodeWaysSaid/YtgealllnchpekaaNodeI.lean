import Derived.Test.YtgealllnchpekaaNodeH
set_option linter.unusedSimpArgs false
set_option linter.unusedVariables false
namespace Go.Proofs.Ytgealllnchpekaa
open Go.RowKit

theorem cases_leaf {k v : ByteArray} (h : ¬ leafOk k v 2) : k = ⟨#[]⟩ ∨ (k.size ≠ 0 ∧ (8 : Int) < k.size) ∨ (k.size ≠ 0 ∧ (k.size : Int) ≤ 8 ∧ (20 : Int) < v.size) := by
  by_cases h0 : k.size = 0
  · exact .inl (str_none h0)
  · by_cases h8 : 8 < k.size
    · exact .inr (.inl ⟨h0, by omega⟩)
    · refine .inr (.inr ⟨h0, by omega, ?_⟩)
      exact Int.not_le.1 (fun h' => h ⟨h0, by omega, by omega, .inr rfl⟩)
theorem cases_inner {k : ByteArray} {c : Int} (h : ¬ innerOk k c) : (8 : Int) < k.size ∨ ((k.size : Int) ≤ 8 ∧ c < 1) ∨ ((k.size : Int) ≤ 8 ∧ 1 ≤ c ∧ 1024 ≤ c) := by
  by_cases h8 : 8 < k.size
  · exact .inl (by omega)
  · by_cases h1 : c < 1
    · exact .inr (.inl ⟨by omega, h1⟩)
    · exact .inr (.inr ⟨by omega, by omega, Int.not_lt.1 (fun h' => h ⟨by omega, by omega, h'⟩)⟩)
theorem child_inner (k : ByteArray) (c : Int) (hk : k.size ≤ 8) (h1 : 1 ≤ c) (h2 : c < 1024) : childP 1 (textS k ++ leS c 4) = c ∧ keyP 1 (textS k ++ leS c 4) = (k, leS c 4, true) := by
  have hkp := keyP_text 1 k (leS c 4) (by omega) hk
  have hv : valS (leS c 4) = c := valS_leS c 4 (by omega) (by
    have : (256 : Int) ^ 4 = 4294967296 := by decide
    omega)
  refine ⟨?_, hkp⟩
  unfold childP
  rw [hkp]
  dsimp only
  rw [hv, if_pos ⟨rfl, leS_size _ _, h1, h2⟩]
set_option maxRecDepth 100000 in
set_option maxHeartbeats 6400000 in
theorem ways_in (key val : ByteArray) (child : Int) (hk : key.size ≤ maxLen) (hv : val.size ≤ maxLen) (hi :  innerOk key child) (w : World) :
    Calls Try.prog 6 #[.string key, .string val, .int .i64 child] w fun e w' => e = .returned (.bool true) ∧ Below w.heap.size w w' := by
  have HA := Lib.hid (fun w => awake05 w)
  have HL := Lib.hid (fun w => nd_leaf key val 2 hk hv w)
  have HI := Lib.hid (fun w => nd_inner key child hk w)
  have hts := textS_size key
  have hls : (leS child 4).size = 4 := leS_size _ _
  unfold leafP at HL
  unfold innerP at HI
  obtain ⟨h1, h2, h3⟩ := id hi
  have hs8 : (key.size : Int) ≤ 8 := by omega
  obtain ⟨hch, hkp⟩ := child_inner key child h1 h2 h3
  have HKi := Lib.hid (fun w => nd_key 1 (textS key ++ leS child 4) (by rw [bytes_size, hts, hls]; unfold maxLen; omega) w)
  have HCi := Lib.hid (fun w => nd_child 1 (textS key ++ leS child 4) (by rw [bytes_size, hts, hls]; unfold maxLen; omega) w)
  rw [hkp] at HKi
  rw [hch] at HCi
  rw [if_pos hi] at HI
  clear hch hkp hi h1
  by_cases hl : leafOk key val 2
  · obtain ⟨g1, g2, g3, g4⟩ := id hl
    have HKl := Lib.hid (fun w => nd_key 2 (textS key ++ val) (by rw [bytes_size, hts]; unfold maxLen; omega) w)
    rw [keyP_text 2 key val (by omega) g2] at HKl
    rw [if_pos hl] at HL
    clear g1 g2 g3 g4 hl
    unfold maxLen at hk hv
    unfold cellV at *
    dsimp only at *
    generalize textS key ++ leS child 4 = M at *
    generalize textS key ++ val = N at *
    clear hts hls
    go_enter Try.func6, Try.ntmps6
    go_wp2_with fail
    refine (HA.out _).mono ?_
    rintro e w1 ⟨rfl, hb⟩
    have HB1 := Lib.hid hb
    clear hb
    go_wp2_with fail
    refine (HL.out _).mono ?_
    rintro e w2 ⟨rfl, hb⟩
    have HB2 := Lib.hid (bT HB1.out hb)
    clear hb
    go_wp2_with fail
    refine (HKl.out _).mono ?_
    rintro e w3 ⟨rfl, hb⟩
    have HB3 := Lib.hid (bT (bA HB2.out) hb)
    have HQ3 := Lib.hid (hBs hb (hN (n := w2.heap.size) rfl))
    have q3 := cell_at HQ3.out
    clear hb
    go_wp2_with fail
    refine (HI.out _).mono ?_
    rintro e w4 ⟨rfl, hb⟩
    have HB4 := Lib.hid (bT HB3.out hb)
    clear hb q3
    go_wp2_with fail
    refine (HKi.out _).mono ?_
    rintro e w5 ⟨rfl, hb⟩
    have HB5 := Lib.hid (bT (bA HB4.out) hb)
    have HQ5 := Lib.hid (hBs hb (hN (n := w4.heap.size) rfl))
    have q5 := cell_at HQ5.out
    clear hb
    go_wp2_with fail
    refine (HCi.out _).mono ?_
    rintro e w6 ⟨rfl, hb⟩
    have HB6 := Lib.hid (bT HB5.out hb)
    have HQ6 := Lib.hid (hBs hb HQ5.out)
    have q6 := cell_at HQ6.out
    clear hb q5
    go_wp2_with fail
    go_ret
    exact ⟨rfl, HB6.out⟩
  · rw [if_neg hl] at HL
    rcases cases_leaf hl with rfl | ⟨f1, f2⟩ | ⟨f1, f2, f3⟩
    · clear hl
      unfold maxLen at hk hv
      unfold cellV at *
      dsimp only at *
      generalize textS (⟨#[]⟩ : ByteArray) ++ leS child 4 = M at *
      generalize textS (⟨#[]⟩ : ByteArray) ++ val = N at *
      clear hts hls
      go_enter Try.func6, Try.ntmps6
      go_wp2_with fail
      refine (HA.out _).mono ?_
      rintro e w1 ⟨rfl, hb⟩
      have HB1 := Lib.hid hb
      clear hb
      go_wp2_with fail
      refine (HL.out _).mono ?_
      rintro e w2 ⟨rfl, hb⟩
      have HB2 := Lib.hid (bT HB1.out hb)
      clear hb
      go_wp2_with fail
      refine (HI.out _).mono ?_
      rintro e w4 ⟨rfl, hb⟩
      have HB4 := Lib.hid (bT (bA HB2.out) hb)
      clear hb
      go_wp2_with fail
      refine (HKi.out _).mono ?_
      rintro e w5 ⟨rfl, hb⟩
      have HB5 := Lib.hid (bT (bA HB4.out) hb)
      have HQ5 := Lib.hid (hBs hb (hN (n := w4.heap.size) rfl))
      have q5 := cell_at HQ5.out
      clear hb
      go_wp2_with fail
      refine (HCi.out _).mono ?_
      rintro e w6 ⟨rfl, hb⟩
      have HB6 := Lib.hid (bT HB5.out hb)
      have HQ6 := Lib.hid (hBs hb HQ5.out)
      have q6 := cell_at HQ6.out
      clear hb q5
      go_wp2_with fail
      go_ret
      exact ⟨rfl, HB6.out⟩
    · omega
    · obtain ⟨f4, f5⟩ := str_some f1
      clear f1
      clear hl
      unfold maxLen at hk hv
      unfold cellV at *
      dsimp only at *
      generalize textS key ++ leS child 4 = M at *
      generalize textS key ++ val = N at *
      clear hts hls
      go_enter Try.func6, Try.ntmps6
      go_wp2_with fail
      refine (HA.out _).mono ?_
      rintro e w1 ⟨rfl, hb⟩
      have HB1 := Lib.hid hb
      clear hb
      go_wp2_with fail
      refine (HL.out _).mono ?_
      rintro e w2 ⟨rfl, hb⟩
      have HB2 := Lib.hid (bT HB1.out hb)
      clear hb
      go_wp2_with fail
      refine (HI.out _).mono ?_
      rintro e w4 ⟨rfl, hb⟩
      have HB4 := Lib.hid (bT (bA HB2.out) hb)
      clear hb
      go_wp2_with fail
      refine (HKi.out _).mono ?_
      rintro e w5 ⟨rfl, hb⟩
      have HB5 := Lib.hid (bT (bA HB4.out) hb)
      have HQ5 := Lib.hid (hBs hb (hN (n := w4.heap.size) rfl))
      have q5 := cell_at HQ5.out
      clear hb
      go_wp2_with fail
      refine (HCi.out _).mono ?_
      rintro e w6 ⟨rfl, hb⟩
      have HB6 := Lib.hid (bT HB5.out hb)
      have HQ6 := Lib.hid (hBs hb HQ5.out)
      have q6 := cell_at HQ6.out
      clear hb q5
      go_wp2_with fail
      go_ret
      exact ⟨rfl, HB6.out⟩
set_option maxRecDepth 100000 in
set_option maxHeartbeats 6400000 in
theorem ways_out (key val : ByteArray) (child : Int) (hk : key.size ≤ maxLen) (hv : val.size ≤ maxLen) (hi : ¬ innerOk key child) (w : World) :
    Calls Try.prog 6 #[.string key, .string val, .int .i64 child] w fun e w' => e = .returned (.bool true) ∧ Below w.heap.size w w' := by
  have HA := Lib.hid (fun w => awake05 w)
  have HL := Lib.hid (fun w => nd_leaf key val 2 hk hv w)
  have HI := Lib.hid (fun w => nd_inner key child hk w)
  have hts := textS_size key
  have hls : (leS child 4).size = 4 := leS_size _ _
  unfold leafP at HL
  unfold innerP at HI
  rw [if_neg hi] at HI
  rcases cases_inner hi with d1 | ⟨d1, d2⟩ | ⟨d1, d2, d3⟩
  all_goals clear hi
  · by_cases hl : leafOk key val 2
    · exact absurd hl.2.1 (by omega)
    · rw [if_neg hl] at HL
      rcases cases_leaf hl with rfl | ⟨f1, f2⟩ | ⟨f1, f2, f3⟩
      · exact absurd d1 (by decide)
      · obtain ⟨f4, f5⟩ := str_some f1
        clear f1
        clear hl
        unfold maxLen at hk hv
        unfold cellV at *
        dsimp only at *
        generalize textS key ++ leS child 4 = M at *
        generalize textS key ++ val = N at *
        clear hts hls
        go_enter Try.func6, Try.ntmps6
        go_wp2_with fail
        refine (HA.out _).mono ?_
        rintro e w1 ⟨rfl, hb⟩
        have HB1 := Lib.hid hb
        clear hb
        go_wp2_with fail
        refine (HL.out _).mono ?_
        rintro e w2 ⟨rfl, hb⟩
        have HB2 := Lib.hid (bT HB1.out hb)
        clear hb
        go_wp2_with fail
        refine (HI.out _).mono ?_
        rintro e w4 ⟨rfl, hb⟩
        have HB4 := Lib.hid (bT (bA HB2.out) hb)
        clear hb
        go_wp2_with fail
        go_ret
        exact ⟨rfl, bA HB4.out⟩
      · omega
  · by_cases hl : leafOk key val 2
    · obtain ⟨g1, g2, g3, g4⟩ := id hl
      have HKl := Lib.hid (fun w => nd_key 2 (textS key ++ val) (by rw [bytes_size, hts]; unfold maxLen; omega) w)
      rw [keyP_text 2 key val (by omega) g2] at HKl
      rw [if_pos hl] at HL
      clear g1 g2 g3 g4 hl
      unfold maxLen at hk hv
      unfold cellV at *
      dsimp only at *
      generalize textS key ++ leS child 4 = M at *
      generalize textS key ++ val = N at *
      clear hts hls
      go_enter Try.func6, Try.ntmps6
      go_wp2_with fail
      refine (HA.out _).mono ?_
      rintro e w1 ⟨rfl, hb⟩
      have HB1 := Lib.hid hb
      clear hb
      go_wp2_with fail
      refine (HL.out _).mono ?_
      rintro e w2 ⟨rfl, hb⟩
      have HB2 := Lib.hid (bT HB1.out hb)
      clear hb
      go_wp2_with fail
      refine (HKl.out _).mono ?_
      rintro e w3 ⟨rfl, hb⟩
      have HB3 := Lib.hid (bT (bA HB2.out) hb)
      have HQ3 := Lib.hid (hBs hb (hN (n := w2.heap.size) rfl))
      have q3 := cell_at HQ3.out
      clear hb
      go_wp2_with fail
      refine (HI.out _).mono ?_
      rintro e w4 ⟨rfl, hb⟩
      have HB4 := Lib.hid (bT HB3.out hb)
      clear hb q3
      go_wp2_with fail
      go_ret
      exact ⟨rfl, bA HB4.out⟩
    · rw [if_neg hl] at HL
      rcases cases_leaf hl with rfl | ⟨f1, f2⟩ | ⟨f1, f2, f3⟩
      · clear hl
        unfold maxLen at hk hv
        unfold cellV at *
        dsimp only at *
        generalize textS (⟨#[]⟩ : ByteArray) ++ leS child 4 = M at *
        generalize textS (⟨#[]⟩ : ByteArray) ++ val = N at *
        clear hts hls
        go_enter Try.func6, Try.ntmps6
        go_wp2_with fail
        refine (HA.out _).mono ?_
        rintro e w1 ⟨rfl, hb⟩
        have HB1 := Lib.hid hb
        clear hb
        go_wp2_with fail
        refine (HL.out _).mono ?_
        rintro e w2 ⟨rfl, hb⟩
        have HB2 := Lib.hid (bT HB1.out hb)
        clear hb
        go_wp2_with fail
        refine (HI.out _).mono ?_
        rintro e w4 ⟨rfl, hb⟩
        have HB4 := Lib.hid (bT (bA HB2.out) hb)
        clear hb
        go_wp2_with fail
        go_ret
        exact ⟨rfl, bA HB4.out⟩
      · omega
      · obtain ⟨f4, f5⟩ := str_some f1
        clear f1
        clear hl
        unfold maxLen at hk hv
        unfold cellV at *
        dsimp only at *
        generalize textS key ++ leS child 4 = M at *
        generalize textS key ++ val = N at *
        clear hts hls
        go_enter Try.func6, Try.ntmps6
        go_wp2_with fail
        refine (HA.out _).mono ?_
        rintro e w1 ⟨rfl, hb⟩
        have HB1 := Lib.hid hb
        clear hb
        go_wp2_with fail
        refine (HL.out _).mono ?_
        rintro e w2 ⟨rfl, hb⟩
        have HB2 := Lib.hid (bT HB1.out hb)
        clear hb
        go_wp2_with fail
        refine (HI.out _).mono ?_
        rintro e w4 ⟨rfl, hb⟩
        have HB4 := Lib.hid (bT (bA HB2.out) hb)
        clear hb
        go_wp2_with fail
        go_ret
        exact ⟨rfl, bA HB4.out⟩
  · by_cases hl : leafOk key val 2
    · obtain ⟨g1, g2, g3, g4⟩ := id hl
      have HKl := Lib.hid (fun w => nd_key 2 (textS key ++ val) (by rw [bytes_size, hts]; unfold maxLen; omega) w)
      rw [keyP_text 2 key val (by omega) g2] at HKl
      rw [if_pos hl] at HL
      clear g1 g2 g3 g4 hl
      unfold maxLen at hk hv
      unfold cellV at *
      dsimp only at *
      generalize textS key ++ leS child 4 = M at *
      generalize textS key ++ val = N at *
      clear hts hls
      go_enter Try.func6, Try.ntmps6
      go_wp2_with fail
      refine (HA.out _).mono ?_
      rintro e w1 ⟨rfl, hb⟩
      have HB1 := Lib.hid hb
      clear hb
      go_wp2_with fail
      refine (HL.out _).mono ?_
      rintro e w2 ⟨rfl, hb⟩
      have HB2 := Lib.hid (bT HB1.out hb)
      clear hb
      go_wp2_with fail
      refine (HKl.out _).mono ?_
      rintro e w3 ⟨rfl, hb⟩
      have HB3 := Lib.hid (bT (bA HB2.out) hb)
      have HQ3 := Lib.hid (hBs hb (hN (n := w2.heap.size) rfl))
      have q3 := cell_at HQ3.out
      clear hb
      go_wp2_with fail
      refine (HI.out _).mono ?_
      rintro e w4 ⟨rfl, hb⟩
      have HB4 := Lib.hid (bT HB3.out hb)
      clear hb q3
      go_wp2_with fail
      go_ret
      exact ⟨rfl, bA HB4.out⟩
    · rw [if_neg hl] at HL
      rcases cases_leaf hl with rfl | ⟨f1, f2⟩ | ⟨f1, f2, f3⟩
      · clear hl
        unfold maxLen at hk hv
        unfold cellV at *
        dsimp only at *
        generalize textS (⟨#[]⟩ : ByteArray) ++ leS child 4 = M at *
        generalize textS (⟨#[]⟩ : ByteArray) ++ val = N at *
        clear hts hls
        go_enter Try.func6, Try.ntmps6
        go_wp2_with fail
        refine (HA.out _).mono ?_
        rintro e w1 ⟨rfl, hb⟩
        have HB1 := Lib.hid hb
        clear hb
        go_wp2_with fail
        refine (HL.out _).mono ?_
        rintro e w2 ⟨rfl, hb⟩
        have HB2 := Lib.hid (bT HB1.out hb)
        clear hb
        go_wp2_with fail
        refine (HI.out _).mono ?_
        rintro e w4 ⟨rfl, hb⟩
        have HB4 := Lib.hid (bT (bA HB2.out) hb)
        clear hb
        go_wp2_with fail
        go_ret
        exact ⟨rfl, bA HB4.out⟩
      · omega
      · obtain ⟨f4, f5⟩ := str_some f1
        clear f1
        clear hl
        unfold maxLen at hk hv
        unfold cellV at *
        dsimp only at *
        generalize textS key ++ leS child 4 = M at *
        generalize textS key ++ val = N at *
        clear hts hls
        go_enter Try.func6, Try.ntmps6
        go_wp2_with fail
        refine (HA.out _).mono ?_
        rintro e w1 ⟨rfl, hb⟩
        have HB1 := Lib.hid hb
        clear hb
        go_wp2_with fail
        refine (HL.out _).mono ?_
        rintro e w2 ⟨rfl, hb⟩
        have HB2 := Lib.hid (bT HB1.out hb)
        clear hb
        go_wp2_with fail
        refine (HI.out _).mono ?_
        rintro e w4 ⟨rfl, hb⟩
        have HB4 := Lib.hid (bT (bA HB2.out) hb)
        clear hb
        go_wp2_with fail
        go_ret
        exact ⟨rfl, bA HB4.out⟩
theorem nodeWays_walk (key val : ByteArray) (child : Int) (hk : key.size ≤ maxLen) (hv : val.size ≤ maxLen) (hc : -9223372036854775808 ≤ child ∧ child ≤ 9223372036854775807) (w : World) :
    Calls Try.prog 6 #[.string key, .string val, .int .i64 child] w fun e w' => e = .returned (.bool true) ∧ Below w.heap.size w w' := by
  by_cases hi : innerOk key child
  · exact ways_in key val child hk hv hi w
  · exact ways_out key val child hk hv hi w
end Go.Proofs.Ytgealllnchpekaa
