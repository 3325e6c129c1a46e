import Derived.Test.YtiollfjhfcaogaaWaitsP
set_option linter.unusedSimpArgs false
set_option linter.unusedVariables false
namespace Go.Proofs.Ytiollfjhfcaogaa
open Go.RowKit

set_option maxRecDepth 100000 in
set_option maxHeartbeats 1600000 in
theorem closes_wrong (n : Int) (ad : Option Addr) (m c : Nat) (L : Nat → Int × Int) (hm : m ≤ maxLen) (hbad : WrongP n m L) (w : World) (hA : Arcs w ad m L) :
    Calls Try.prog 8 #[.int .i64 n, .slice ad m c] w fun e w' => e = .returned (.bool true) ∧ Below w.heap.size w w' := by
  have HA := Lib.hid (awake_true w)
  have HD := Lib.hid (fun w1 => wt_digests_bad n ad m c L hm hbad w1)
  have hA := Lib.hid hA
  clear hbad
  go_enter Try.func8, Try.ntmps8
  go_wp2_with fail
  refine (HA.out).mono ?_
  rintro e w1 ⟨rfl, hb⟩
  have HB1 := Lib.hid hb
  clear hb HA
  go_wp2_with fail
  refine (HD.out _ (hA.out.keep HB1.out)).mono ?_
  rintro e w2 ⟨rfl, hb⟩
  have HB2 := Lib.hid (bT HB1.out hb)
  clear hb
  go_wp2_with fail
  go_ret
  exact ⟨rfl, HB2.out⟩
set_option maxRecDepth 100000 in
set_option maxHeartbeats 1600000 in
theorem closes_ok (n : Nat) (ad : Option Addr) (m c : Nat) (L : Nat → Int × Int) (hm : m ≤ maxLen) (hok : ¬ WrongP n m L) (w : World) (hA : Arcs w ad m L) :
    Calls Try.prog 8 #[.int .i64 n, .slice ad m c] w fun e w' => e = .returned (.bool true) ∧ Below w.heap.size w w' := by
  have hn : n ≤ 64 := Classical.byContradiction fun h => hok (.inr (.inl (by omega)))
  have hgood := Lib.hid (good_of hok)
  have HA := Lib.hid (awake_true w)
  have HD := Lib.hid (fun w1 => wt_digests n ad m c L hn hm hok w1)
  have hA := Lib.hid hA
  clear hok
  unfold maxLen at hm
  go_enter Try.func8, Try.ntmps8
  go_wp2_with fail
  refine (HA.out).mono ?_
  rintro e w1 ⟨rfl, hb⟩
  have HB1 := Lib.hid hb
  clear hb HA
  go_wp2_with fail
  refine (HD.out _ (hA.out.keep HB1.out)).mono ?_
  rintro e w2 ⟨N, v, ho, -, hfix, rfl, hb⟩
  obtain ⟨va, vc, rfl, hw⟩ := words_own ho
  have HW2 := Lib.hid hw
  have hA2 := Lib.hid (hA.out.keep (bT HB1.out hb))
  have HB2 := Lib.hid (bT HB1.out hb)
  have hdig := Lib.hid (digest_bits hgood.out hn hfix)
  clear hb ho hw HD hfix hA
  generalize spreadN L m N = D at *
  go_wp2_with fail
  go_loopw [23] (fun s wr => ∃ j : Nat, j ≤ m ∧ s = .int .i64 j ∧ Hid (Below w2.heap.size w2 wr)) (fun s _ => m - (intOf s).toNat)
  case atStart => exact ⟨0, by omega, rfl, bR⟩
  case round =>
    obtain ⟨j, hj, rfl, HB⟩ := hrel
    by_cases hjm : j < m
    · have hj' : (j : Int) < m := by omega
      have hj0 : (0 : Int) ≤ j := by omega
      have wrj : IntKind.i64.wrap ((j : Int) + 1) = (j : Int) + 1 := by rw [IntKind.wrap_i64]; omega
      obtain ⟨ga, oa, rfl, hga, c0, c1⟩ := (hA2.out.keep HB.out) j hjm
      obtain ⟨g1, g2, g3, g4⟩ := hgood.out j hjm
      obtain ⟨x, ex⟩ : ∃ x : Nat, (L j).1 = x := ⟨(L j).1.toNat, by omega⟩
      obtain ⟨y, ey⟩ : ∃ y : Nat, (L j).2 = y := ⟨(L j).2.toNat, by omega⟩
      have hed : Ed L m x y := ⟨j, hjm, ex, ey⟩
      rw [ex] at c0 g1 g2
      rw [ey] at c1 g3 g4
      have hxn : x < n := by omega
      have hyn : y < n := by omega
      replace ex := Lib.hid ex
      replace ey := Lib.hid ey
      have hrx := hdig.out x y hxn
      have b1 : (bits .and .u64 (((D x).toNat : Int) / 2 ^ y) 1 != 1) = false := by rw [and_bit, if_pos (hrx.2 (.one hed))]; rfl
      have b2 : (bits .andNot .u64 ((D y).toNat : Int) ((D x).toNat : Int) != 0) = false := by
        rw [andnot_zero _ _ (fun i hi => (hdig.out x i hxn).2 (.step hed ((hdig.out y i hyn).1 hi)))]; rfl
      obtain ⟨g1', o1, rfl, hg1, d1⟩ := (HW2.out.keep HB.out) x hxn
      obtain ⟨g2', o2, e2, hg2, d2⟩ := (HW2.out.keep HB.out) y hyn
      obtain ⟨rfl, rfl⟩ : g1' = g2' ∧ o1 = o2 := by simpa using e2
      replace d1 : wr.cell? ⟨g1', o1 + x, none⟩ = some (.int .u64 ((D x).toNat : Int)) := d1
      replace d2 : wr.cell? ⟨g1', o1 + y, none⟩ = some (.int .u64 ((D y).toNat : Int)) := d2
      clear hrx e2
      replace hed := Lib.hid hed
      go_wp2_with fail
      have t1 : (wr.alloc (.cells #[.int .i64 (x : Int), .int .i64 (y : Int)] 42)).cell? ⟨wr.heap.size, 0, none⟩ = some (.int .i64 x) := cell_at (hN rfl) 0
      have t2 : (wr.alloc (.cells #[.int .i64 (x : Int), .int .i64 (y : Int)] 42)).cell? ⟨wr.heap.size, 1, none⟩ = some (.int .i64 y) := cell_at (hN rfl) 1
      have t3 := (cell_below (bA (o := .cells #[.int .i64 (x : Int), .int .i64 (y : Int)] 42) (bR (w := wr))) hg1).trans d1
      have t4 := (cell_below (bA (o := .cells #[.int .i64 (x : Int), .int .i64 (y : Int)] 42) (bR (w := wr))) hg1).trans d2
      clear c0 c1 d1 d2
      go_quiet (fail)
      go_wp2_with fail
      go_roundw
      case rel => exact ⟨j + 1, by omega, rfl, bN (bA HB.out) _⟩
      case measure => simp [intOf]; omega
    · obtain rfl : j = m := by omega
      go_wp2_with fail
      go_loopw [54] (fun s w3 => ∃ i : Nat, i ≤ n ∧ s = .int .i64 i ∧ Hid (Below w2.heap.size w2 w3)) (fun s _ => n - (intOf s).toNat)
      case atStart => exact ⟨0, by omega, rfl, HB⟩
      case round =>
        clear HB
        obtain ⟨i, hi, rfl, HB⟩ := hrel
        by_cases hin : i < n
        rotate_left
        · obtain rfl : i = n := by omega
          go_wp2_with fail
          go_ret
          exact ⟨rfl, bT HB2.out HB.out⟩
        · have hi' : (i : Int) < n := by omega
          have hi0 : (0 : Int) ≤ i := by omega
          have wri : IntKind.i64.wrap ((i : Int) + 1) = (i : Int) + 1 := by rw [IntKind.wrap_i64]; omega
          go_wp2_with fail
          go_loopw [59] (fun s w3 => ∃ k : Nat, k ≤ n ∧ s = .int .i64 k ∧ Hid (Below w2.heap.size w2 w3)) (fun s _ => n - (intOf s).toNat)
          case atStart => exact ⟨0, by omega, rfl, HB⟩
          case round =>
            clear HB
            obtain ⟨k, hk, rfl, HB⟩ := hrel
            by_cases hkn : k < n
            rotate_left
            · obtain rfl : k = n := by omega
              go_wp2_with fail
              go_roundw
              case rel => exact ⟨i + 1, by omega, rfl, HB⟩
              case measure => simp [intOf]; omega
            · have hk' : (k : Int) < n := by omega
              have hk0 : (0 : Int) ≤ k := by omega
              have wrk : IntKind.i64.wrap ((k : Int) + 1) = (k : Int) + 1 := by rw [IntKind.wrap_i64]; omega
              obtain ⟨g1', o1, rfl, hg1, d1⟩ := (HW2.out.keep HB.out) i hin
              obtain ⟨g2', o2, e2, hg2, d2⟩ := (HW2.out.keep HB.out) k hkn
              obtain ⟨rfl, rfl⟩ : g1' = g2' ∧ o1 = o2 := by simpa using e2
              replace d1 : World.cell? _ ⟨g1', o1 + i, none⟩ = some (.int .u64 ((D i).toNat : Int)) := d1
              replace d2 : World.cell? _ ⟨g1', o1 + k, none⟩ = some (.int .u64 ((D k).toNat : Int)) := d2
              clear e2
              by_cases hb : (D i).getLsbD k = true
              · have b1 : (bits .and .u64 (((D i).toNat : Int) / 2 ^ k) 1 == 1) = true := by rw [and_bit, if_pos hb]; rfl
                have b2 : (bits .andNot .u64 ((D k).toNat : Int) ((D i).toNat : Int) != 0) = false := by
                  rw [andnot_zero _ _ (fun z hz => (hdig.out i z hin).2 (((hdig.out i k hin).1 hb).trans ((hdig.out k z hkn).1 hz)))]; rfl
                replace hb := Lib.hid hb
                go_wp2_with fail
                go_quiet (fail)
                go_wp2_with fail
                go_roundw
                case rel => exact ⟨k + 1, by omega, rfl, bN HB.out _⟩
                case measure => simp [intOf]; omega
              · have b1 : (bits .and .u64 (((D i).toNat : Int) / 2 ^ k) 1 == 1) = false := by rw [and_bit, if_neg hb]; rfl
                replace hb := Lib.hid hb
                go_wp2_with fail
                go_quiet (fail)
                go_wp2_with fail
                go_roundw
                case rel => exact ⟨k + 1, by omega, rfl, bN HB.out _⟩
                case measure => simp [intOf]; omega
theorem waitsCloses_walk (n : Int) (v1 : Value) (Ls : List (Int × Int)) (hn : -9223372036854775808 ≤ n ∧ n ≤ 9223372036854775807) (w : World) (h1 : ArcSl w v1 Ls) :
    Calls Try.prog 8 #[.int .i64 n, v1] w fun e w' => e = .returned (.bool true) ∧ Below w.heap.size w w' := by
  obtain ⟨ad, c, rfl, hm, hA, _⟩ := h1
  by_cases hbad : WrongP n Ls.length (fun j => Ls.getD j (0, 0))
  · exact closes_wrong n ad Ls.length c _ hm hbad w hA
  · obtain ⟨k, rfl⟩ : ∃ k : Nat, n = k := ⟨n.toNat, by have : ¬ n < 0 := fun h => hbad (.inl h); omega⟩
    exact closes_ok k ad Ls.length c _ hm hbad w hA
end Go.Proofs.Ytiollfjhfcaogaa
