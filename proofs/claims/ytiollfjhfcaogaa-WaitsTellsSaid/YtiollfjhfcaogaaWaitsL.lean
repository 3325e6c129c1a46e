import Derived.Test.YtiollfjhfcaogaaWaitsK
set_option linter.unusedSimpArgs false
set_option linter.unusedVariables false
namespace Go.Proofs.Ytiollfjhfcaogaa
open Go.RowKit

set_option maxRecDepth 100000 in
set_option maxHeartbeats 1600000 in
theorem rf_wrong (n : Int) (ad : Option Addr) (m c : Nat) (L : Nat → Int × Int) (hm : m ≤ maxLen) (b : Bool) (hb : b = true ↔ WrongP n m L) (w : World) (h : Arcs w ad m L) :
    Calls Try.prog 21 #[.int .i64 n, .slice ad m c] w fun e w' => e = .returned (.bool b) ∧ Below w.heap.size w w' := by
  unfold maxLen at hm
  have hyes : WrongP n m L → b = true := hb.2
  have hnot : ¬ WrongP n m L → b = false := fun h => by cases b with
    | false => rfl
    | true => exact absurd (hb.1 rfl) h
  replace hyes := Lib.hid hyes
  replace hnot := Lib.hid hnot
  clear hb
  by_cases h0 : n < 0
  · go_enter Try.func21, Try.ntmps21
    go_wp2_with fail
    go_ret
    exact ⟨by rw [hyes.out (.inl h0)]; rfl, bR⟩
  by_cases h64 : 64 < n
  · go_enter Try.func21, Try.ntmps21
    go_wp2_with fail
    go_ret
    exact ⟨by rw [hyes.out (.inr (.inl h64))]; rfl, bR⟩
  have h := Lib.hid h
  go_enter Try.func21, Try.ntmps21
  go_wp2_with fail
  go_loopw [5] (fun s wr => ∃ (k : Nat), k ≤ m ∧ s = .int .i64 k ∧ Hid (∀ j, j < k → ¬ BadArc n (L j)) ∧ Hid (Below w.heap.size w wr)) (fun s _ => m - (intOf s).toNat)
  case atStart => exact ⟨0, by omega, rfl, fun j h => by omega, bR⟩
  case round =>
    obtain ⟨k, hk, rfl, hno, HB⟩ := hrel
    by_cases hkm : k < m
    · obtain ⟨g, o, rfl, hg, c0, c1⟩ := (h.out.keep HB.out) k hkm
      have hk' : (k : Int) < m := by omega
      have hk0 : (0 : Int) ≤ k := by omega
      obtain ⟨x, ex⟩ : ∃ x, (L k).1 = x := ⟨_, rfl⟩
      obtain ⟨y, ey⟩ : ∃ y, (L k).2 = y := ⟨_, rfl⟩
      rw [ex] at c0
      rw [ey] at c1
      have hB : BadArc n (L k) ↔ (x < 0 ∨ y < 0 ∨ n ≤ x ∨ n ≤ y) := by unfold BadArc; rw [ex, ey]
      have hB := Lib.hid hB
      clear ex ey
      by_cases hx0 : x < 0
      · have hbad : Hid (WrongP n m L) := .inr (.inr ⟨k, hkm, hB.out.2 (by omega)⟩)
        go_wp2_with fail
        go_ret
        exact ⟨by rw [hyes.out hbad.out]; rfl, HB.out⟩
      by_cases hxn : n ≤ x
      · have hbad : Hid (WrongP n m L) := .inr (.inr ⟨k, hkm, hB.out.2 (by omega)⟩)
        go_wp2_with fail
        go_ret
        exact ⟨by rw [hyes.out hbad.out]; rfl, HB.out⟩
      by_cases hy0 : y < 0
      · have hbad : Hid (WrongP n m L) := .inr (.inr ⟨k, hkm, hB.out.2 (by omega)⟩)
        go_wp2_with fail
        go_ret
        exact ⟨by rw [hyes.out hbad.out]; rfl, HB.out⟩
      by_cases hyn : n ≤ y
      · have hbad : Hid (WrongP n m L) := .inr (.inr ⟨k, hkm, hB.out.2 (by omega)⟩)
        go_wp2_with fail
        go_ret
        exact ⟨by rw [hyes.out hbad.out]; rfl, HB.out⟩
      · have hno2 : Hid (∀ j, j < k + 1 → ¬ BadArc n (L j)) := fun j hj => by
          by_cases e : j = k
          · subst e; rw [hB.out]; omega
          · exact hno.out j (by omega)
        have wrk : IntKind.i64.wrap ((k : Int) + 1) = (k : Int) + 1 := by rw [IntKind.wrap_i64]; omega
        go_wp2_with fail
        go_roundw
        case rel => exact ⟨k + 1, by omega, rfl, hno2, HB⟩
        case measure => simp [intOf]; omega
    · obtain rfl : k = m := by omega
      have hok : Hid (¬ WrongP n k L) := fun hw => by
        rcases hw with hw | hw | ⟨j, hj, hb⟩
        · omega
        · omega
        · exact hno.out j hj hb
      go_wp2_with fail
      go_ret
      exact ⟨by rw [hnot.out hok.out]; rfl, HB.out⟩
set_option maxRecDepth 100000 in
set_option maxHeartbeats 1600000 in
theorem same_bits (a1 a2 : Option Addr) (m n c d : Nat) (L M : Nat → Int) (hm : m ≤ maxLen) (b : Bool) (hb : b = true ↔ (m = n ∧ ∀ j, j < m → L j = M j)) (w : World) (h1 : Words w a1 m L) (h2 : Words w a2 n M) :
    Calls Try.prog 14 #[.slice a1 m c, .slice a2 n d] w fun e w' => e = .returned (.bool b) ∧ Below w.heap.size w w' := by
  unfold maxLen at hm
  have hyes : Hid ((m = n ∧ ∀ j, j < m → L j = M j) → b = true) := hb.2
  have hnot : Hid (¬ (m = n ∧ ∀ j, j < m → L j = M j) → b = false) := fun h => by cases b with
    | false => rfl
    | true => exact absurd (hb.1 rfl) h
  have h1 := Lib.hid h1
  have h2 := Lib.hid h2
  clear hb
  by_cases hmn : m = n
  rotate_left
  · have hne : ((m : Int) != n) = true := by simp; omega
    have hbad := Lib.hid (hnot.out (fun h => hmn h.1))
    replace hmn := Lib.hid hmn
    go_enter Try.func14, Try.ntmps14
    go_wp2_with fail
    go_ret
    exact ⟨by rw [hbad.out]; rfl, bR⟩
  subst hmn
  go_enter Try.func14, Try.ntmps14
  go_wp2_with fail
  go_loopw [13] (fun s wr => ∃ (k q : Nat), k ≤ m ∧ s = .int .i64 k ∧ Hid (∀ j, j < k → L j = M j) ∧ Hid (Below w.heap.size w wr)) (fun s _ => m - (intOf s).toNat)
  case atStart => exact ⟨0, 0, by omega, rfl, fun j h => by omega, bR⟩
  case round =>
    obtain ⟨k, q, hk, rfl, hno, HB⟩ := hrel
    by_cases hkm : k < m
    · obtain ⟨g, o, rfl, hg, c0⟩ := h1.out k hkm
      obtain ⟨g2, o2, rfl, hg2, d0⟩ := h2.out k hkm
      have c0' : wr.cell? ⟨g, o + k, none⟩ = some (.int .u64 (L k)) := (cell_below HB.out hg).trans c0
      have d0' : wr.cell? ⟨g2, o2 + k, none⟩ = some (.int .u64 (M k)) := (cell_below HB.out hg2).trans d0
      clear c0 d0
      have hk' : (k : Int) < m := by omega
      have hk0 : (0 : Int) ≤ k := by omega
      have wrk : IntKind.i64.wrap ((k : Int) + 1) = (k : Int) + 1 := by rw [IntKind.wrap_i64]; omega
      by_cases e : L k = M k
      · have hno2 : Hid (∀ j, j < k + 1 → L j = M j) := fun j hj => by
          by_cases e' : j = k
          · subst e'; exact e
          · exact hno.out j (by omega)
        rw [e] at c0'
        replace e := Lib.hid e
        go_wp2_with fail
        go_quiet (fail)
        go_wp2_with fail
        go_roundw
        case rel => exact ⟨k + 1, 0, by omega, rfl, hno2, bN HB.out _⟩
        case measure => simp [intOf]; omega
      · have he : (L k != M k) = true := by simpa using e
        have hbad := Lib.hid (hnot.out (fun h => e (h.2 k hkm)))
        replace e := Lib.hid e
        go_wp2_with fail
        go_quiet (fail)
        go_wp2_with fail
        go_ret
        exact ⟨by rw [hbad.out]; rfl, bN HB.out _⟩
    · obtain rfl : k = m := by omega
      have hok := Lib.hid (hyes.out ⟨by simp, hno.out⟩)
      go_wp2_with fail
      go_ret
      exact ⟨by rw [hok.out]; rfl, HB.out⟩
set_option maxRecDepth 100000 in
set_option maxHeartbeats 1600000 in
theorem same_ints (a1 a2 : Option Addr) (m n c d : Nat) (L M : Nat → Int) (hm : m ≤ maxLen) (b : Bool) (hb : b = true ↔ (m = n ∧ ∀ j, j < m → L j = M j)) (w : World) (h1 : Ints w a1 m L) (h2 : Ints w a2 n M) :
    Calls Try.prog 15 #[.slice a1 m c, .slice a2 n d] w fun e w' => e = .returned (.bool b) ∧ Below w.heap.size w w' := by
  unfold maxLen at hm
  have hyes : Hid ((m = n ∧ ∀ j, j < m → L j = M j) → b = true) := hb.2
  have hnot : Hid (¬ (m = n ∧ ∀ j, j < m → L j = M j) → b = false) := fun h => by cases b with
    | false => rfl
    | true => exact absurd (hb.1 rfl) h
  have h1 := Lib.hid h1
  have h2 := Lib.hid h2
  clear hb
  by_cases hmn : m = n
  rotate_left
  · have hne : ((m : Int) != n) = true := by simp; omega
    have hbad := Lib.hid (hnot.out (fun h => hmn h.1))
    replace hmn := Lib.hid hmn
    go_enter Try.func15, Try.ntmps15
    go_wp2_with fail
    go_ret
    exact ⟨by rw [hbad.out]; rfl, bR⟩
  subst hmn
  go_enter Try.func15, Try.ntmps15
  go_wp2_with fail
  go_loopw [13] (fun s wr => ∃ (k q : Nat), k ≤ m ∧ s = .int .i64 k ∧ Hid (∀ j, j < k → L j = M j) ∧ Hid (Below w.heap.size w wr)) (fun s _ => m - (intOf s).toNat)
  case atStart => exact ⟨0, 0, by omega, rfl, fun j h => by omega, bR⟩
  case round =>
    obtain ⟨k, q, hk, rfl, hno, HB⟩ := hrel
    by_cases hkm : k < m
    · obtain ⟨g, o, rfl, hg, c0⟩ := h1.out k hkm
      obtain ⟨g2, o2, rfl, hg2, d0⟩ := h2.out k hkm
      have c0' : wr.cell? ⟨g, o + k, none⟩ = some (.int .i64 (L k)) := (cell_below HB.out hg).trans c0
      have d0' : wr.cell? ⟨g2, o2 + k, none⟩ = some (.int .i64 (M k)) := (cell_below HB.out hg2).trans d0
      clear c0 d0
      have hk' : (k : Int) < m := by omega
      have hk0 : (0 : Int) ≤ k := by omega
      have wrk : IntKind.i64.wrap ((k : Int) + 1) = (k : Int) + 1 := by rw [IntKind.wrap_i64]; omega
      by_cases e : L k = M k
      · have hno2 : Hid (∀ j, j < k + 1 → L j = M j) := fun j hj => by
          by_cases e' : j = k
          · subst e'; exact e
          · exact hno.out j (by omega)
        rw [e] at c0'
        replace e := Lib.hid e
        go_wp2_with fail
        go_quiet (fail)
        go_wp2_with fail
        go_roundw
        case rel => exact ⟨k + 1, 0, by omega, rfl, hno2, bN HB.out _⟩
        case measure => simp [intOf]; omega
      · have he : (L k != M k) = true := by simpa using e
        have hbad := Lib.hid (hnot.out (fun h => e (h.2 k hkm)))
        replace e := Lib.hid e
        go_wp2_with fail
        go_quiet (fail)
        go_wp2_with fail
        go_ret
        exact ⟨by rw [hbad.out]; rfl, bN HB.out _⟩
    · obtain rfl : k = m := by omega
      have hok := Lib.hid (hyes.out ⟨by simp, hno.out⟩)
      go_wp2_with fail
      go_ret
      exact ⟨by rw [hok.out]; rfl, HB.out⟩
set_option maxHeartbeats 1600000 in
theorem wt_spread_bad (a : Option Addr) (n dc : Nat) (ad : Option Addr) (m c : Nat) (L : Nat → Int × Int) (hm : m ≤ maxLen) (hbad : WrongP n m L) (w : World) (hA : Arcs w ad m L) :
    Calls Try.prog 16 #[.slice a n dc, .slice ad m c] w fun e w' => e = .returned (.tuple #[.slice none 0 0, .int .i64 1]) ∧ Below w.heap.size w w' := by
  have HW := Lib.hid (wt_wrong n ad m c L hm true ⟨fun _ => hbad, fun _ => rfl⟩ w hA)
  clear hbad
  go_enter Try.func16, Try.ntmps16
  go_wp2_with fail
  refine (HW.out).mono ?_
  rintro e w1 ⟨rfl, hb⟩
  have HB1 := Lib.hid hb
  clear hb
  go_wp2_with fail
  go_ret2
  exact ⟨rfl, HB1.out⟩
theorem sl_clone_nil (w : World) : Calls Try.prog 24 #[.slice none 0 0] w fun e w' => e = .returned (.slice none 0 0) ∧ w' = w := by
  have hnil : (binOp .eql 24 (.slice none 0 0) (.slice none 0 0)).run Try.prog w = .ok (.bool true) w := run_eql_nil_slice (P := Try.prog) w 24 41 none 0 0 0 0 Try.underlying24
  go_enter Try.func24, Try.ntmps24
  go_wp2_with fail
  go_ret
  exact ⟨rfl, rfl⟩
set_option maxHeartbeats 1600000 in
theorem wt_spread_nil (ad : Option Addr) (c : Nat) (L : Nat → Int × Int) (w : World) :
    Calls Try.prog 16 #[.slice none 0 0, .slice ad 0 c] w fun e w' => e = .returned (.tuple #[.slice none 0 0, .int .i64 0]) ∧ Below w.heap.size w w' := by
  have HW := Lib.hid (wt_wrong ((0 : Nat) : Int) ad 0 c L (by unfold maxLen; omega) false ⟨fun h => by simp at h, fun h => by rcases h with h | h | ⟨j, hj, _⟩ <;> omega⟩ w (fun j hj => by omega))
  go_enter Try.func16, Try.ntmps16
  go_wp2_with fail
  refine (HW.out).mono ?_
  rintro e w1 ⟨rfl, hb⟩
  have HB1 := Lib.hid hb
  have HC := Lib.hid (sl_clone_nil w1)
  clear hb
  go_wp2_with fail
  refine (HC.out).mono ?_
  rintro e w2 ⟨rfl, rfl⟩
  go_wp2_with fail
  go_loopw [17] (fun s wr => s = .int .i64 0 ∧ wr = w2) (fun s _ => 0)
  case atStart => exact ⟨rfl, rfl⟩
  case round =>
    obtain ⟨rfl, rfl⟩ := hrel
    go_wp2_with fail
    go_ret2
    exact ⟨rfl, HB1.out⟩
end Go.Proofs.Ytiollfjhfcaogaa
