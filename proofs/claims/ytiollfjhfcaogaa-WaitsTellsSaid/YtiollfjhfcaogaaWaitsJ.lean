import Derived.Test.YtiollfjhfcaogaaWaitsI
set_option linter.unusedSimpArgs false
set_option linter.unusedVariables false
namespace Go.Proofs.Ytiollfjhfcaogaa
open Go.RowKit

def arcs01 : Nat → Int × Int := fun j => if j = 0 then (0, 1) else (1, 0)
def arcs02 : Nat → Int × Int := fun j => if j = 0 then (0, 2) else (2, 0)
theorem spread01 : ∀ i, spreadN arcs01 2 (i + 2) 0 = 3 ∧ spreadN arcs01 2 (i + 2) 1 = 3
  | 0 => by decide
  | i + 1 => by
    obtain ⟨h0, h1⟩ := spread01 i
    have e0 : spreadN arcs01 2 (i + 1 + 2) 0 = spreadN arcs01 2 (i + 2) 0 ||| (spreadN arcs01 2 (i + 2) 1 ||| BitVec.twoPow 64 1) := rfl
    have e1 : spreadN arcs01 2 (i + 1 + 2) 1 = spreadN arcs01 2 (i + 2) 1 ||| (spreadN arcs01 2 (i + 2) 0 ||| BitVec.twoPow 64 0) := rfl
    rw [e0, e1, h0, h1]
    decide
theorem digests01 (N : Nat) (h : ∀ j, j < 2 → spreadP (spreadN arcs01 2 N) arcs01 2 j = spreadN arcs01 2 N j) : spreadN arcs01 2 N 0 = 3 := by
  match N with
  | 0 => exact absurd (h 0 (by omega)) (by decide)
  | 1 => exact absurd (h 0 (by omega)) (by decide)
  | i + 2 => exact (spread01 i).1
theorem circle02 {w : World} {v : Value} (h : CircleAt w (spreadP zeroB arcs02 2) 0 3 v) : LAt w (fun _ => False) v [0, 2] := by
  obtain ⟨r, hN, h⟩ := h
  have hb1 : (bfs (spreadP zeroB arcs02 2) 0 3 1).2 = [[0, 2]] := by decide
  have hh : Hits (spreadP zeroB arcs02 2) 0 [0, 2] := by unfold Hits; decide
  have hn : ¬ Hits (spreadP zeroB arcs02 2) 0 [0] := by unfold Hits; decide
  match r with
  | 0 =>
    rcases h with ⟨h, _⟩ | ⟨i, l, hl, hi, _⟩
    · cases h
    · have : l ∈ (bfs (spreadP zeroB arcs02 2) 0 3 0).2 := List.mem_of_getElem? hl
      simp only [bfs, List.mem_cons, List.not_mem_nil, or_false] at this
      subst this
      exact absurd hi hn
  | 1 =>
    rw [hb1] at h
    rcases h with ⟨h, _⟩ | ⟨i, l, hl, hi, _, hv⟩
    · cases h
    · have : l ∈ [[0, 2]] := List.mem_of_getElem? hl
      simp only [List.mem_cons, List.not_mem_nil, or_false] at this
      subst this
      exact hv
  | r + 2 => exact absurd hh (hN 1 (by omega) [0, 2] (by rw [hb1]; simp))
theorem not_wrong {n : Nat} {m : Nat} {L : Nat → Int × Int} (hn : n ≤ 64) (h : ∀ j, j < m → 0 ≤ (L j).1 ∧ (L j).1 < n ∧ 0 ≤ (L j).2 ∧ (L j).2 < n) : ¬ WrongP n m L := by
  rintro (hw | hw | ⟨j, hj, hb⟩)
  · omega
  · omega
  · have := h j hj
    unfold BadArc at hb
    omega
theorem arcs_new (w : World) (a b c d : Int) (t : TypeId) (L : Nat → Int × Int) (h0 : L 0 = (a, b)) (h1 : L 1 = (c, d)) : Arcs (w.alloc (.cells #[.int .i64 a, .int .i64 b, .int .i64 c, .int .i64 d] t)) (some ⟨w.heap.size, 0, none⟩) 2 L := fun j hj => by
  refine ⟨w.heap.size, 0, rfl, by simp, ?_⟩
  rcases (show j = 0 ∨ j = 1 by omega) with rfl | rfl
  · rw [h0]; exact ⟨cell_at (hN rfl) 0, cell_at (hN rfl) 1⟩
  · rw [h1]; exact ⟨cell_at (hN rfl) 2, cell_at (hN rfl) 3⟩
set_option maxHeartbeats 1600000 in
theorem awake_true (w : World) : Calls Try.prog 9 #[] w fun e w' => e = .returned (.bool true) ∧ Below w.heap.size w w' := by
  have HD := Lib.hid (fun w1 => wt_digests 2 (some ⟨w.heap.size, 0, none⟩) 2 2 arcs01 (by omega) (by unfold maxLen; omega) (not_wrong (by omega) (fun j hj => by unfold arcs01; split <;> decide)) w1)
  have HC := Lib.hid (fun (w1 : World) g => wt_circle 3 0 (some ⟨g, 0, none⟩) 2 2 arcs02 (by omega) (by omega) (by unfold maxLen; omega) (not_wrong (by omega) (fun j hj => by unfold arcs02; split <;> decide)) w1)
  go_enter Try.func9, Try.ntmps9
  go_wp2_with fail
  refine (HD.out _ (arcs_new _ _ _ _ _ _ arcs01 rfl rfl)).mono ?_
  rintro e w2 ⟨N, v, ho, hbl, hfix, rfl, hb⟩
  have hd := digests01 N hfix
  obtain ⟨g, cap, rfl, hcap, hg⟩ := ho.has' (by omega)
  have c0 : w2.cell? ⟨g, 0, none⟩ = some (.int .u64 3) := by
    rw [ho.cellAt' (by omega), show (wordsB (spreadN arcs01 2 N) 2)[0]? = some (.int .u64 ((spreadN arcs01 2 N 0).toNat : Int)) from wordsL_get _ 2 0 (by omega), hd]
    rfl
  have HB2 : Hid (Below w.heap.size w w2) := bT (bA bR) hb
  have C0 := Lib.hid c0
  clear hb ho hbl hfix hd c0 HD
  go_wp2_with fail
  refine (HC.out _ _ (arcs_new _ _ _ _ _ _ arcs02 rfl rfl)).mono ?_
  rintro e w3 ⟨v, hc, rfl, hb⟩
  obtain ⟨g2, cap2, rfl, hg2, -, hcc⟩ := circle02 hc
  have d0 := hcc 0 0 rfl
  have d1 := hcc 1 2 rfl
  have HI : Ints w3 (some ⟨g2, 0, none⟩) 2 (fun j => if j = 0 then 0 else 2) := fun j hj => by
    refine ⟨g2, 0, rfl, hg2, ?_⟩
    rcases (show j = 0 ∨ j = 1 by omega) with rfl | rfl
    · exact d0
    · exact d1
  have HV := Lib.hid (wt_victim (some ⟨g2, 0, none⟩) 2 cap2 _ (by unfold maxLen; omega) w3 HI)
  have c0 : w3.cell? ⟨g, 0, none⟩ = some (.int .u64 3) := by
    rw [cell_below hb (by simp; omega)]
    rw [World.cell?_alloc_past _ _ _ hg]
    exact C0.out
  have HB3 : Hid (Below w.heap.size w w3) := bT (bA HB2.out) hb
  clear hc hb hcc HI
  go_wp2_with fail
  refine (HV.out).mono ?_
  rintro e w4 ⟨v, hv, -, rfl, rfl⟩
  have hv := hv (by omega)
  have hv2 : v = 2 := by
    have h1 := hv.1 1 (by omega)
    obtain ⟨j, hj, h2⟩ := hv.2
    simp at h1
    rcases (show j = 0 ∨ j = 1 by omega) with rfl | rfl
    · simp at h2; omega
    · simp at h2; omega
  subst hv2
  clear hv
  go_wp2_with fail
  go_ret
  exact ⟨rfl, HB3.out⟩
end Go.Proofs.Ytiollfjhfcaogaa
