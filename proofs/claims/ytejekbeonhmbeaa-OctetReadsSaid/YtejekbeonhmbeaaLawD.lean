import Derived.Test.YtejekbeonhmbeaaLawA
set_option linter.unusedSimpArgs false
set_option linter.unusedVariables false
namespace Go.Proofs.Ytejekbeonhmbeaa
open Go.RowKit

theorem rdBytes_bad (s : ByteArray) (n : Int) : rdBytes s true n = (⟨#[]⟩, s, true) := rdBytes_no (by simp)
theorem rdNum_bad1 (s : ByteArray) : rdNum s true 1 = (0, s, true) := by
  unfold rdNum; rw [if_neg (by omega), rdBytes_bad]; rfl
theorem rdText_bad (s : ByteArray) : rdText s true = (⟨#[]⟩, s, true) := by
  unfold rdText; rw [rdNum_bad1]; exact rdBytes_bad _ _
theorem rdBytes_sum (s : ByteArray) (bad : Bool) (n : Int) : (rdBytes s bad n).1.size + (rdBytes s bad n).2.1.size ≤ s.size := by
  unfold rdBytes; split
  · simp [ByteArray.size_extract]; omega
  · show 0 + s.size ≤ s.size; omega
theorem extract_extract (s : ByteArray) (a b : Nat) (h : a + b ≤ s.size) : (s.extract a s.size).extract 0 b = s.extract a (a + b) := by
  rw [ByteArray.extract_extract]; congr 1; omega
theorem extract_drop (s : ByteArray) (a b : Nat) (h : a + b ≤ s.size) : ((s.extract a s.size).extract b (s.extract a s.size).size) = s.extract (a + b) s.size := by
  rw [ByteArray.extract_extract, ByteArray.size_extract]; congr 1; omega
theorem extract_append (s : ByteArray) (a b : Nat) (h : a + b ≤ s.size) : s.extract 0 a ++ s.extract a (a + b) = s.extract 0 (a + b) := by
  rw [ByteArray.extract_append_extract]; congr 1 <;> omega

set_option maxHeartbeats 800000 in
theorem pieces_bad (s : ByteArray) (a b : Int) (h : a < 0 ∨ b < 0 ∨ (s.size : Int) < a ∨ (s.size : Int) - a < b) (ha : -9223372036854775808 ≤ a ∧ a ≤ 9223372036854775807) (hb : -9223372036854775808 ≤ b ∧ b ≤ 9223372036854775807) (hs : s.size ≤ maxLen) (w : World) :
    Calls Try.prog 8 #[.string s, .int .i64 a, .int .i64 b] w fun e w' => e = .returned (.bool true) ∧ Below w.heap.size w w' := by
  have HA := Lib.hid (fun q w hR => oct_bytes q s false a w hR hs)
  have h1 : (rdBytes s false a).2.1.size ≤ s.size := (rdBytes_size s false a).1
  have h2 := rdBytes_sum s false a
  have hbad : (rdBytes (rdBytes s false a).2.1 (rdBytes s false a).2.2 b).2.2 = true := by
    by_cases h0 : (0 ≤ a ∧ a ≤ s.size)
    · rw [rdBytes_yes ⟨rfl, h0⟩, rdBytes_no]
      simp [ByteArray.size_extract]; omega
    · rw [rdBytes_no (s := s) (n := a) (by simpa using h0), rdBytes_bad]
  generalize rdBytes s false a = r at *
  have HB := Lib.hid (fun q w hR => oct_bytes q r.2.1 r.2.2 b w hR (Nat.le_trans h1 hs))
  have h3 := (rdBytes_size r.2.1 r.2.2 b).1
  have h4 := (rdBytes_size r.2.1 r.2.2 b).2
  generalize rdBytes r.2.1 r.2.2 b = t at *
  obtain ⟨tx, ts, tb⟩ := t
  dsimp only at *
  subst hbad
  have hts : ts.size ≤ maxLen := Nat.le_trans h3 (Nat.le_trans h1 hs)
  have HC := Lib.hid (fun q w hR => oct_bad q ts true w hR)
  have HD := Lib.hid (fun q w hR => oct_left q ts true w hR hts)
  have HE := Lib.hid (fun q w hR => oct_rtext q ts true w hR hts)
  have HF := Lib.hid (fun q w hR => oct_rnum q ts true 1 w hR hts)
  rw [rdText_bad] at HE
  rw [rdNum_bad1] at HF
  have hle : ((r.1.size : Int) + (tx.size : Int)) ≤ (s.size : Int) := by omega
  have hs' : (s.size : Int) ≤ 9223372036854775807 := by unfold maxLen at hs; omega
  have hx : (r.1.size : Int) ≤ 9223372036854775807 := by omega
  have hy : (tx.size : Int) ≤ 9223372036854775807 := by omega
  clear h1 h2 h3 h4 hts
  by_cases c1 : a < 0
  all_goals by_cases c2 : b < 0
  all_goals by_cases c3 : (s.size : Int) < a
  all_goals by_cases c4 : (s.size : Int) - a < b
  all_goals first
    | (exfalso; omega)
    | skip
  all_goals
    clear h
    go_enter Try.func8, Try.ntmps8
    go_wp2_with fail
    refine (awake01 _).mono ?_
    rintro e w1 ⟨rfl, hb1⟩
    go_wp2_with fail
    refine (oct_read s _).mono ?_
    rintro e w2 ⟨rfl, hR2, hb2⟩
    have HR2 := Lib.hid hR2
    clear hR2
    go_wp2_with fail
    refine (HA.out _ _ HR2.out).mono ?_
    rintro e w3 ⟨rfl, hR3, hk3⟩
    have HR3 := Lib.hid hR3
    clear hR3
    go_wp2_with fail
    refine (HB.out _ _ HR3.out).mono ?_
    rintro e w4 ⟨rfl, hR4, hk4⟩
    have HR4 := Lib.hid hR4
    clear hR4
    go_wp2_with fail
    refine (HC.out _ _ HR4.out).mono ?_
    rintro e w5 ⟨rfl, rfl⟩
    go_wp2_with fail
    refine (HD.out _ _ HR4.out).mono ?_
    rintro e w5 ⟨rfl, rfl⟩
    go_wp2_with fail
    refine (HE.out _ _ HR4.out).mono ?_
    rintro e w5 ⟨rfl, hR5, hk5⟩
    have HR5 := Lib.hid hR5
    clear hR5
    go_wp2_with fail
    refine (HF.out _ _ HR5.out).mono ?_
    rintro e w6 ⟨rfl, hR6, hk6⟩
    go_wp2_with fail
    go_ret
    refine ⟨rfl, bK (bK (bK (bK (bT hb1 hb2) hk3 ?_) hk4 ?_) hk5 ?_) hk6 ?_⟩ <;> (rintro i rfl; exact hb1.size)
set_option maxHeartbeats 800000 in
theorem pieces_good (s : ByteArray) (a b : Int) (h0 : 0 ≤ a) (h1 : 0 ≤ b) (h2 : a ≤ (s.size : Int)) (h3 : b ≤ (s.size : Int) - a) (hs : s.size ≤ maxLen) (w : World) :
    Calls Try.prog 8 #[.string s, .int .i64 a, .int .i64 b] w fun e w' => e = .returned (.bool true) ∧ Below w.heap.size w w' := by
  obtain ⟨a, rfl⟩ := Int.eq_ofNat_of_zero_le h0
  obtain ⟨b, rfl⟩ := Int.eq_ofNat_of_zero_le h1
  have hsum : a + b ≤ s.size := by omega
  have HA := Lib.hid (fun q w hR => oct_bytes q s false a w hR hs)
  have HC := Lib.hid (fun q w hR => oct_bytes q s false ((a : Int) + b) w hR hs)
  have HB := Lib.hid (fun q w hR => oct_bytes q (s.extract a s.size) false b w hR (by rw [ByteArray.size_extract]; omega))
  rw [rdBytes_yes ⟨rfl, by omega, by omega⟩, Int.toNat_natCast] at HA
  rw [rdBytes_yes ⟨rfl, by omega, by omega⟩, show ((a : Int) + b).toNat = a + b from by omega] at HC
  rw [rdBytes_yes ⟨rfl, by omega, by rw [ByteArray.size_extract]; omega⟩, Int.toNat_natCast, extract_extract s a b hsum, extract_drop s a b hsum] at HB
  have HL := Lib.hid (fun q w hR => oct_left q (s.extract (a + b) s.size) false w hR (by rw [ByteArray.size_extract]; omega))
  have hl : rdLeft (s.extract (a + b) s.size) false = (s.size : Int) - a - b := by
    unfold rdLeft; rw [if_neg (by simp), ByteArray.size_extract]; omega
  rw [hl] at HL
  have hx := extract_append s a b hsum
  have hm : (s.size : Int) ≤ 9223372036854775807 := by unfold maxLen at hs; omega
  have hsz : (s.extract 0 a).size + (s.extract a (a + b)).size ≤ 9223372036854775807 := by
    rw [ByteArray.size_extract, ByteArray.size_extract]; omega
  clear hl hs
  go_enter Try.func8, Try.ntmps8
  go_wp2_with fail
  refine (awake01 _).mono ?_
  rintro e w1 ⟨rfl, hb1⟩
  go_wp2_with fail
  refine (oct_read s _).mono ?_
  rintro e w2 ⟨rfl, hR2, hb2⟩
  have HR2 := Lib.hid hR2
  have hz2 : w1.heap.size < w2.heap.size := block_lt hR2
  clear hR2
  go_wp2_with fail
  refine (oct_read s _).mono ?_
  rintro e w3 ⟨rfl, hR3, hb3⟩
  have HR3 := Lib.hid hR3
  have HQ3 := Lib.hid (hBs hb3 HR2.out)
  clear hR3
  go_wp2_with fail
  refine (HA.out _ _ HQ3.out).mono ?_
  rintro e w4 ⟨rfl, hR4, hk4⟩
  have HR4 := Lib.hid hR4
  have HQ4 := Lib.hid (hk4.keep HR3.out (by omega))
  clear hR4
  go_wp2_with fail
  refine (HB.out _ _ HR4.out).mono ?_
  rintro e w5 ⟨rfl, hR5, hk5⟩
  have HR5 := Lib.hid hR5
  have HQ5 := Lib.hid (hk5.keep HQ4.out (by omega))
  clear hR5
  go_wp2_with fail
  refine (HC.out _ _ HQ5.out).mono ?_
  rintro e w6 ⟨rfl, hR6, hk6⟩
  have HR6 := Lib.hid hR6
  have HQ6 := Lib.hid (hk6.keep HR5.out (by omega))
  clear hR6
  go_wp2_with fail
  refine (HL.out _ _ HQ6.out).mono ?_
  rintro e w7 ⟨rfl, rfl⟩
  go_wp2_with fail
  refine (HL.out _ _ HR6.out).mono ?_
  rintro e w7 ⟨rfl, rfl⟩
  go_wp2_with fail
  refine (HL.out _ _ HQ6.out).mono ?_
  rintro e w7 ⟨rfl, rfl⟩
  go_wp2_with fail
  go_ret
  refine ⟨rfl, bK (bK (bK (bT (bT hb1 hb2) hb3) hk4 ?_) hk5 ?_) hk6 ?_⟩
  · rintro i rfl; exact hb1.size
  · rintro i rfl; exact hb1.size
  · rintro i rfl; exact (bT hb1 hb2).size
theorem octetPieces_walk (s : ByteArray) (a b : Int) (hs : s.size ≤ maxLen) (ha : -9223372036854775808 ≤ a ∧ a ≤ 9223372036854775807) (hb : -9223372036854775808 ≤ b ∧ b ≤ 9223372036854775807) (w : World) :
    Calls Try.prog 8 #[.string s, .int .i64 a, .int .i64 b] w fun e w' => e = .returned (.bool true) ∧ Below w.heap.size w w' := by
  by_cases h : a < 0 ∨ b < 0 ∨ (s.size : Int) < a ∨ (s.size : Int) - a < b
  · exact pieces_bad s a b h ha hb hs w
  · exact pieces_good s a b (by omega) (by omega) (by omega) (by omega) hs w
end Go.Proofs.Ytejekbeonhmbeaa
