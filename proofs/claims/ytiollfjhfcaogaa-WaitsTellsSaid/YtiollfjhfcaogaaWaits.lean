import Derived.Test.YtiollfjhfcaogaaProg
import Derived.Test.YtiollfjhfcaogaaLibB
set_option linter.unusedSimpArgs false
set_option linter.unusedVariables false
namespace Go.Proofs.Ytiollfjhfcaogaa
open Go.RowKit

theorem cell_below {w wr : World} {g o : Nat} (hb : Below w.heap.size w wr) (hg : g < w.heap.size) : wr.cell? ⟨g, o, none⟩ = w.cell? ⟨g, o, none⟩ := by
  simp [World.cell?, hb.block g hg]
/-- the arcs, as a slice of m pairs reads them -/
def Arcs (w : World) (ad : Option Addr) (m : Nat) (L : Nat → Int × Int) : Prop :=
  ∀ j, j < m → ∃ g o, ad = some ⟨g, o, none⟩ ∧ g < w.heap.size ∧ w.cell? ⟨g, o + j * 2, none⟩ = some (.int .i64 (L j).1) ∧ w.cell? ⟨g, o + j * 2 + 1, none⟩ = some (.int .i64 (L j).2)
theorem Arcs.keep {w wr : World} {ad : Option Addr} {m : Nat} {L : Nat → Int × Int} (h : Arcs w ad m L) (hb : Below w.heap.size w wr) : Arcs wr ad m L := fun j hj => by
  obtain ⟨g, o, h1, h2, h3, h4⟩ := h j hj
  exact ⟨g, o, h1, Nat.lt_of_lt_of_le h2 hb.size, (cell_below hb h2).trans h3, (cell_below hb h2).trans h4⟩
def BadArc (n : Int) (a : Int × Int) : Prop := a.1 < 0 ∨ a.2 < 0 ∨ n ≤ a.1 ∨ n ≤ a.2
def WrongP (n : Int) (m : Nat) (L : Nat → Int × Int) : Prop := n < 0 ∨ 64 < n ∨ ∃ j, j < m ∧ BadArc n (L j)
set_option maxRecDepth 100000 in
set_option maxHeartbeats 1600000 in
theorem wt_wrong (n : Int) (ad : Option Addr) (m c : Nat) (L : Nat → Int × Int) (hm : m ≤ maxLen) (b : Bool) (hb : b = true ↔ WrongP n m L) (w : World) (h : Arcs w ad m L) :
    Calls Try.prog 19 #[.int .i64 n, .slice ad m c] w fun e w' => e = .returned (.bool b) ∧ Below w.heap.size w w' := by
  unfold maxLen at hm
  have hyes : WrongP n m L → b = true := hb.2
  have hnot : ¬ WrongP n m L → b = false := fun h => by cases b with
    | false => rfl
    | true => exact absurd (hb.1 rfl) h
  replace hyes := Lib.hid hyes
  replace hnot := Lib.hid hnot
  clear hb
  by_cases h0 : n < 0
  · go_enter Try.func19, Try.ntmps19
    go_wp2_with fail
    go_ret
    exact ⟨by rw [hyes.out (.inl h0)]; rfl, bR⟩
  by_cases h64 : 64 < n
  · go_enter Try.func19, Try.ntmps19
    go_wp2_with fail
    go_ret
    exact ⟨by rw [hyes.out (.inr (.inl h64))]; rfl, bR⟩
  have h := Lib.hid h
  go_enter Try.func19, Try.ntmps19
  go_wp2_with fail
  go_loopw [15] (fun s wr => ∃ (k : Nat), k ≤ m ∧ s = .int .i64 k ∧ Hid (∀ j, j < k → ¬ BadArc n (L j)) ∧ Hid (Below w.heap.size w wr)) (fun s _ => m - (intOf s).toNat)
  case atStart => exact ⟨0, by omega, rfl, fun j h => by omega, bR⟩
  case round =>
    obtain ⟨k, hk, rfl, hno, HB⟩ := hrel
    by_cases hkm : k < m
    · obtain ⟨g, o, rfl, hg, c0, c1⟩ := (h.out.keep HB.out) k hkm
      have hk' : (k : Int) < m := by omega
      have hk0 : (0 : Int) ≤ k := by omega
      obtain ⟨x, ex⟩ : ∃ x, (L k).1 = x := ⟨_, rfl⟩
      obtain ⟨y, ey⟩ : ∃ y, (L k).2 = y := ⟨_, rfl⟩
      rw [ex] at c0
      rw [ey] at c1
      have hB : BadArc n (L k) ↔ (x < 0 ∨ y < 0 ∨ n ≤ x ∨ n ≤ y) := by unfold BadArc; rw [ex, ey]
      have hB := Lib.hid hB
      clear ex ey
      rcases Int.lt_trichotomy x y with hxy | hxy | hxy
      · have hf : x ≤ y := by omega
        have hf' : ¬ y ≤ x := by omega
        by_cases hn : x < 0
        · have hbad : Hid (WrongP n m L) := .inr (.inr ⟨k, hkm, hB.out.2 (by omega)⟩)
          go_wp2_with fail
          go_ret
          exact ⟨by rw [hyes.out hbad.out]; rfl, bA HB.out⟩
        by_cases hx : n ≤ y
        · have hbad : Hid (WrongP n m L) := .inr (.inr ⟨k, hkm, hB.out.2 (by omega)⟩)
          go_wp2_with fail
          go_ret
          exact ⟨by rw [hyes.out hbad.out]; rfl, bA HB.out⟩
        · have hno2 : Hid (∀ j, j < k + 1 → ¬ BadArc n (L j)) := fun j hj => by
            by_cases e : j = k
            · subst e; rw [hB.out]; omega
            · exact hno.out j (by omega)
          have wrk : IntKind.i64.wrap ((k : Int) + 1) = (k : Int) + 1 := by rw [IntKind.wrap_i64]; omega
          go_wp2_with fail
          go_roundw
          case rel => exact ⟨k + 1, by omega, rfl, hno2, bA HB.out⟩
          case measure => simp [intOf]; omega
      · subst hxy
        by_cases hn : x < 0
        · have hbad : Hid (WrongP n m L) := .inr (.inr ⟨k, hkm, hB.out.2 (by omega)⟩)
          go_wp2_with fail
          go_ret
          exact ⟨by rw [hyes.out hbad.out]; rfl, bA HB.out⟩
        by_cases hx : n ≤ x
        · have hbad : Hid (WrongP n m L) := .inr (.inr ⟨k, hkm, hB.out.2 (by omega)⟩)
          go_wp2_with fail
          go_ret
          exact ⟨by rw [hyes.out hbad.out]; rfl, bA HB.out⟩
        · have hno2 : Hid (∀ j, j < k + 1 → ¬ BadArc n (L j)) := fun j hj => by
            by_cases e : j = k
            · subst e; rw [hB.out]; omega
            · exact hno.out j (by omega)
          have wrk : IntKind.i64.wrap ((k : Int) + 1) = (k : Int) + 1 := by rw [IntKind.wrap_i64]; omega
          go_wp2_with fail
          go_roundw
          case rel => exact ⟨k + 1, by omega, rfl, hno2, bA HB.out⟩
          case measure => simp [intOf]; omega
      · have hf : y ≤ x := by omega
        have hf' : ¬ x ≤ y := by omega
        by_cases hn : y < 0
        · have hbad : Hid (WrongP n m L) := .inr (.inr ⟨k, hkm, hB.out.2 (by omega)⟩)
          go_wp2_with fail
          go_ret
          exact ⟨by rw [hyes.out hbad.out]; rfl, bA HB.out⟩
        by_cases hx : n ≤ x
        · have hbad : Hid (WrongP n m L) := .inr (.inr ⟨k, hkm, hB.out.2 (by omega)⟩)
          go_wp2_with fail
          go_ret
          exact ⟨by rw [hyes.out hbad.out]; rfl, bA HB.out⟩
        · have hno2 : Hid (∀ j, j < k + 1 → ¬ BadArc n (L j)) := fun j hj => by
            by_cases e : j = k
            · subst e; rw [hB.out]; omega
            · exact hno.out j (by omega)
          have wrk : IntKind.i64.wrap ((k : Int) + 1) = (k : Int) + 1 := by rw [IntKind.wrap_i64]; omega
          go_wp2_with fail
          go_roundw
          case rel => exact ⟨k + 1, by omega, rfl, hno2, bA HB.out⟩
          case measure => simp [intOf]; omega
    · obtain rfl : k = m := by omega
      have hok : Hid (¬ WrongP n k L) := fun hw => by
        rcases hw with hw | hw | ⟨j, hj, hb⟩
        · omega
        · omega
        · exact hno.out j hj hb
      go_wp2_with fail
      go_ret
      exact ⟨by rw [hnot.out hok.out]; rfl, HB.out⟩
end Go.Proofs.Ytiollfjhfcaogaa
