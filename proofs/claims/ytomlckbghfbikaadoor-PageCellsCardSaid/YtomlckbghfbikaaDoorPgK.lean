import Derived.Test.YtomlckbghfbikaaDoorPgJ
set_option linter.unusedSimpArgs false
set_option linter.unusedVariables false
namespace Go.Proofs.YtomlckbghfbikaaDoor
open Go.RowKit

theorem decs (s : ByteArray) (hs : s.size ≤ maxLen) : ∃ (D : Pg) (n : Int), ((DecOk s ∧ D = decP s ∧ n = 0) ∨ (¬ DecOk s ∧ D = pageZ ∧ n = 40))
    ∧ (∀ w, Calls Tryd.prog 9 #[.string s] w fun e w' => e = .returned (.tuple #[.agg (pgC D), .int .i64 n]) ∧ Below w.heap.size w w')
    ∧ (∀ w, Calls Tryd.prog 10 #[.string s] w fun e w' => e = .returned (.tuple #[.agg (pgC D), .int .i64 n]) ∧ Below w.heap.size w w') := by
  by_cases h : DecOk s
  · exact ⟨decP s, 0, .inl ⟨h, rfl, rfl⟩, fun w => (pg_decode s hs w).mono fun e w' ⟨g, hb⟩ => ⟨g.elim (fun g => g.1) (fun g => absurd h g.2), hb⟩, fun w => (rf_decode s hs w).mono fun e w' ⟨g, hb⟩ => ⟨g.elim (fun g => g.1) (fun g => absurd h g.2), hb⟩⟩
  · exact ⟨pageZ, 40, .inr ⟨h, rfl, rfl⟩, fun w => (pg_decode s hs w).mono fun e w' ⟨g, hb⟩ => ⟨g.elim (fun g => absurd g.2 h) (fun g => g.1), hb⟩, fun w => (rf_decode s hs w).mono fun e w' ⟨g, hb⟩ => ⟨g.elim (fun g => absurd g.2 h) (fun g => g.1), hb⟩⟩
theorem encs (P : Pg) (hd : ∀ i, i < 6 → (P.dt i).size ≤ maxLen) : ∃ (S : ByteArray) (n : Int), ((PgOk P ∧ S = pageS P ∧ n = 0) ∨ (¬ PgOk P ∧ S = ⟨#[]⟩ ∧ n = 1))
    ∧ (∀ w, Calls Tryd.prog 11 #[.agg (pgC P)] w fun e w' => e = .returned (.tuple #[.string S, .int .i64 n]) ∧ Below w.heap.size w w')
    ∧ (∀ w, Calls Tryd.prog 13 #[.agg (pgC P)] w fun e w' => e = .returned (.tuple #[.string S, .int .i64 n]) ∧ Below w.heap.size w w') := by
  by_cases h : PgOk P
  · exact ⟨pageS P, 0, .inl ⟨h, rfl, rfl⟩, fun w => (pg_encode P hd w).mono fun e w' ⟨g, hb⟩ => ⟨g.elim (fun g => g.1) (fun g => absurd h g.2), hb⟩, fun w => (rf_encode P hd w).mono fun e w' ⟨g, hb⟩ => ⟨g.elim (fun g => g.1) (fun g => absurd h g.2), hb⟩⟩
  · exact ⟨⟨#[]⟩, 1, .inr ⟨h, rfl, rfl⟩, fun w => (pg_encode P hd w).mono fun e w' ⟨g, hb⟩ => ⟨g.elim (fun g => absurd g.2 h) (fun g => g.1), hb⟩, fun w => (rf_encode P hd w).mono fun e w' ⟨g, hb⟩ => ⟨g.elim (fun g => absurd g.2 h) (fun g => g.1), hb⟩⟩
theorem checks (P : Pg) (hd : ∀ i, i < 6 → (P.dt i).size ≤ maxLen) : ∃ (n : Int) (b : Bool), ((PgOk P ∧ n = 0 ∧ b = true) ∨ (¬ PgOk P ∧ n = 1 ∧ b = false))
    ∧ (∀ w, Calls Tryd.prog 12 #[.agg (pgC P)] w fun e w' => e = .returned (.int .i64 n) ∧ Below w.heap.size w w')
    ∧ (∀ w, Calls Tryd.prog 15 #[.agg (pgC P)] w fun e w' => e = .returned (.bool b) ∧ Below w.heap.size w w') := by
  by_cases h : PgOk P
  · exact ⟨0, true, .inl ⟨h, rfl, rfl⟩, fun w => (pg_check P hd w).mono fun e w' ⟨g, hb⟩ => ⟨g.elim (fun g => g.1) (fun g => absurd h g.2), hb⟩, fun w => (rf_right P hd w).mono fun e w' ⟨g, hb⟩ => ⟨g.elim (fun g => g.1) (fun g => absurd h g.2), hb⟩⟩
  · exact ⟨1, false, .inr ⟨h, rfl, rfl⟩, fun w => (pg_check P hd w).mono fun e w' ⟨g, hb⟩ => ⟨g.elim (fun g => absurd g.2 h) (fun g => g.1), hb⟩, fun w => (rf_right P hd w).mono fun e w' ⟨g, hb⟩ => ⟨g.elim (fun g => absurd g.2 h) (fun g => g.1), hb⟩⟩
/-! ### PageReads -/
set_option maxRecDepth 100000 in
set_option maxHeartbeats 3200000 in
theorem pageReads_walk (s : ByteArray) (hs : s.size ≤ maxLen) (w : World) : Calls Tryd.prog 3 #[.string s] w fun e w' => e = .returned (.bool true) ∧ Below w.heap.size w w' := by
  have HA := Lib.hid (fun w => awake04 w)
  obtain ⟨D, n, hDn, HD, HR⟩ := decs s hs
  have hn : n = 0 ∨ n = 40 := hDn.imp (fun h => h.2.2) (fun h => h.2.2)
  have heq := Lib.hid (eqPg_same (X := D) (Y := D) rfl)
  replace HD := Lib.hid HD
  replace HR := Lib.hid HR
  clear hDn
  go_enter Tryd.func3, Tryd.ntmps3
  go_wp2_with fail
  refine (HA.out _).mono ?_
  rintro e w1 ⟨rfl, hb⟩
  have HB1 := Lib.hid hb
  clear hb HA
  go_wp2_with fail
  refine (HD.out _).mono ?_
  rintro e w2 ⟨rfl, hb⟩
  have HB2 := Lib.hid (bT HB1.out hb)
  clear hb HB1 HD
  have HZ : Hid ((w2.alloc (.cells (pgC pageZ) 27)).heap[w2.heap.size]? = some (.cells (pgC pageZ) 27 (0, 0))) := hN rfl
  have HBa : Hid (Below w.heap.size w (w2.alloc (.cells (pgC pageZ) 27))) := bA HB2.out
  have hw2 := HB2.out.size
  go_wp2_with (first
    | (refine wpList_store_whole rfl 27 _ _ rfl _ (pgC D) rfl rfl _ (pgC pageZ) HZ.out rfl (by kernel_rfl) (pgC_one D) ?_; intro wz HRz KZ; (have HBz := Lib.hid (bK HBa.out KZ.out (fun j hj => by omega))); clear KZ HZ HBa))
  refine (HR.out _).mono ?_
  rintro e w3 ⟨rfl, hb⟩
  have HB3 := Lib.hid (bT HBz.out hb)
  have HP3 := Lib.hid (hBs hb HRz.out)
  clear hb HBz HRz HR
  have HZ : Hid ((w3.alloc (.cells (pgC pageZ) 27)).heap[w3.heap.size]? = some (.cells (pgC pageZ) 27 (0, 0))) := hN rfl
  have HBa : Hid (Below w.heap.size w (w3.alloc (.cells (pgC pageZ) 27))) := bA HB3.out
  have HPa := Lib.hid (hO (o := .cells (pgC pageZ) 27) HP3.out)
  have hw3 := HB3.out.size
  have hp3 := block_lt HP3.out
  rcases hn with rfl | rfl
  all_goals
    go_wp2_with (first
      | (refine wpList_store_whole rfl 27 _ _ rfl _ (pgC D) rfl rfl _ (pgC pageZ) HZ.out rfl (by kernel_rfl) (pgC_one D) ?_; intro wq HRq KZ; (have HPq := Lib.hid (KZ.out.keep HPa.out (by omega))); (have HBq := Lib.hid (bK HBa.out KZ.out (fun j hj => by omega))); clear KZ HZ HBa HPa)
      | (refine wpList_load_want (by rfl) 27 _ rfl _ rfl 27 _ _ _ HPq.out Tryd.underlying27 rfl (by kernel_rfl) ?_)
      | (refine wpList_load_want (by rfl) 27 _ rfl _ rfl 27 _ _ _ HRq.out Tryd.underlying27 rfl (by kernel_rfl) ?_)
      | (refine wpList_eq_pg (by rfl) _ _ _ rfl _ _ true heq.out rfl rfl ?_))
    go_ret
    exact ⟨rfl, HBq.out⟩
end Go.Proofs.YtomlckbghfbikaaDoor
