import Derived.Test.YtgealllnchpekaaNodeRTake
import Derived.Test.YtgealllnchpekaaNodeSplit
set_option linter.unusedSimpArgs false
set_option linter.unusedVariables false
namespace Go.Proofs.Ytgealllnchpekaa
open Go.RowKit

theorem cell_below {w wr : World} {g o : Nat} (hb : Below w.heap.size w wr) (hg : g < w.heap.size) : wr.cell? ⟨g, o, none⟩ = w.cell? ⟨g, o, none⟩ := by
  simp [World.cell?, hb.block g hg]
theorem cell_keep {S : Nat → Prop} {w wr : World} {g o : Nat} (hk : Keeps S w wr) (hg : g < w.heap.size) (hs : ¬ S g) : wr.cell? ⟨g, o, none⟩ = w.cell? ⟨g, o, none⟩ := by
  simp [World.cell?, hk.block g hg hs]
def shiftPg (P : Pg) (h : Nat) : Pg := { P with st := fun j => P.st (h + j), dt := fun j => P.dt (h + j) }
theorem with_low (P : Pg) (h : Nat) : pgC (withPg P P h 6) = pgC (lowPg P h) := rfl
theorem with_high (P : Pg) (h n : Nat) : pgC (withPg P (shiftPg P h) (n - h) 6) = pgC (highPg P h n) := by
  have es : ∀ j, j < 6 → (withPg P (shiftPg P h) (n - h) 6).st j = (highPg P h n).st j := fun j hj => by
    simp only [withPg, highPg, shiftPg, if_pos hj]
    by_cases c : h + j < n
    · rw [if_pos (by omega), if_pos c]
    · rw [if_neg (by omega), if_neg c]
  have ed : ∀ j, j < 6 → (withPg P (shiftPg P h) (n - h) 6).dt j = (highPg P h n).dt j := fun j hj => by
    simp only [withPg, highPg, shiftPg, if_pos hj]
    by_cases c : h + j < n
    · rw [if_pos (by omega), if_pos c]
    · rw [if_neg (by omega), if_neg c]
  unfold pgC
  rw [es 0 (by omega), es 1 (by omega), es 2 (by omega), es 3 (by omega), es 4 (by omega), es 5 (by omega), ed 0 (by omega), ed 1 (by omega), ed 2 (by omega), ed 3 (by omega), ed 4 (by omega), ed 5 (by omega)]
  rfl
set_option maxRecDepth 100000 in
set_option maxHeartbeats 3200000 in
theorem rf_withs (P L : Pg) (m : Nat) (hm : m ≤ 6) (g o c : Nat) (hmc : m ≤ c) (w : World) (hg : g < w.heap.size) (h : ∀ j, j < m → w.cell? ⟨g, o + j * 2, none⟩ = some (.int .i64 (L.st j)) ∧ w.cell? ⟨g, o + j * 2 + 1, none⟩ = some (.string (L.dt j))) :
    Calls Try.prog 46 #[pgV P, .slice (some ⟨g, o, none⟩) m c] w fun e w' => e = .returned (pgV (withPg P L m 6)) ∧ Below w.heap.size w w' := by
  replace h := Lib.hid h
  unfold pgV at *
  have HQ : Hid (((w.alloc (.cells (pgC P) 26)).alloc (.cells (pgC pageZ) 26)).heap[w.heap.size]? = some (.cells (pgC (withPg P L m 0)) 26 (0, 0))) := hO (hN rfl)
  have HR : Hid (((w.alloc (.cells (pgC P) 26)).alloc (.cells (pgC pageZ) 26)).heap[w.heap.size + 1]? = some (.cells (pgC pageZ) 26 (0, 0))) := hN (by simp)
  have hm' : (m : Int) ≤ 6 := by omega
  go_enter Try.func46, Try.ntmps46
  go_wp2_with fail
  go_loopw [5] (fun s wr => ∃ (k : Nat), k ≤ 6 ∧ s = .int .i64 k ∧ Hid (wr.heap[w.heap.size]? = some (.cells (pgC (withPg P L m k)) 26 (0, 0))) ∧ Hid (wr.heap[w.heap.size + 1]? = some (.cells (pgC pageZ) 26 (0, 0))) ∧ Hid (Below w.heap.size w wr)) (fun s _ => 6 - (intOf s).toNat)
  case atStart => exact ⟨0, by omega, rfl, HQ, HR, bA (bA bR)⟩
  case round =>
    clear HQ HR
    obtain ⟨k, hk, rfl, HQ, HR, HB⟩ := hrel
    by_cases hk6 : k < 6
    rotate_left
    · obtain rfl : k = 6 := by omega
      have HQc := HQ
      go_wp2_with (first
        | (refine wpList_load_row rfl 26 _ rfl _ rfl 26 _ _ _ HQc.out Try.underlying26 rfl (by kernel_rfl) ?_)
        | (refine wpList_store_whole rfl 26 _ _ rfl _ (pgC (withPg P L m 6)) rfl rfl _ _ HR.out rfl (by kernel_rfl) (pgC_one _) ?_; intro wz HRz HKz))
      exact bodyPost_ret (results_one_row Try.results46 _ _ _ _ _ _ _ rfl HRz.out Try.underlying26 rfl (by kernel_rfl)) rfl ⟨rfl, bK HB.out HKz.out (fun j e => by omega)⟩
    have hk6' : (k : Int) < 6 := by omega
    obtain ⟨d0, d1⟩ := pg_at HQ.out k hk6
    have f0 := free_at HQ.out (4 + k * 2)
    have f1 := free_at HQ.out (4 + k * 2 + 1)
    by_cases hkm : k < m
    · obtain ⟨c0, c1⟩ := h.out k hkm
      rw [← cell_below HB.out hg] at c0 c1
      have hk' : (k : Int) < m := by omega
      have KK : Hid (Keeps (· = w.heap.size) wr ((((wr.setCell ⟨w.heap.size, 4 + k * 2, none⟩ (.int .i64 0)).setCell ⟨w.heap.size, 4 + k * 2 + 1, none⟩ (.string ⟨#[]⟩)).setCell ⟨w.heap.size, 4 + k * 2, none⟩ (.int .i64 (L.st k))).setCell ⟨w.heap.size, 4 + k * 2 + 1, none⟩ (.string (L.dt k)))) :=
        ((((Keeps.refl (· = w.heap.size) wr).setCell _ _ (.inl rfl)).setCell _ _ (.inl rfl)).setCell _ _ (.inl rfl)).setCell _ _ (.inl rfl)
      have HQ' : Hid (((((wr.setCell ⟨w.heap.size, 4 + k * 2, none⟩ (.int .i64 0)).setCell ⟨w.heap.size, 4 + k * 2 + 1, none⟩ (.string ⟨#[]⟩)).setCell ⟨w.heap.size, 4 + k * 2, none⟩ (.int .i64 (L.st k))).setCell ⟨w.heap.size, 4 + k * 2 + 1, none⟩ (.string (L.dt k))).heap[w.heap.size]? = some (.cells (pgC (withPg P L m (k + 1))) 26 (0, 0))) := by
        have := heap_set (heap_set (heap_set (heap_set HQ.out (4 + k * 2) (.int .i64 0)) (4 + k * 2 + 1) (.string ⟨#[]⟩)) (4 + k * 2) (.int .i64 (L.st k))) (4 + k * 2 + 1) (.string (L.dt k))
        rw [with_cell P L m k hk6 hkm] at this
        exact this
      go_wp2_with fail
      go_roundw
      case rel => exact ⟨k + 1, by omega, rfl, HQ', KK.out.keep HR.out (by omega), bK HB.out KK.out (fun j e => by omega)⟩
      case measure => simp [intOf]; omega
    · have hk' : (m : Int) ≤ k := by omega
      have KK : Hid (Keeps (· = w.heap.size) wr ((wr.setCell ⟨w.heap.size, 4 + k * 2, none⟩ (.int .i64 0)).setCell ⟨w.heap.size, 4 + k * 2 + 1, none⟩ (.string ⟨#[]⟩))) := ((Keeps.refl (· = w.heap.size) wr).setCell _ _ (.inl rfl)).setCell _ _ (.inl rfl)
      have HQ' : Hid (((wr.setCell ⟨w.heap.size, 4 + k * 2, none⟩ (.int .i64 0)).setCell ⟨w.heap.size, 4 + k * 2 + 1, none⟩ (.string ⟨#[]⟩)).heap[w.heap.size]? = some (.cells (pgC (withPg P L m (k + 1))) 26 (0, 0))) := by
        have := heap_set (heap_set HQ.out (4 + k * 2) (.int .i64 0)) (4 + k * 2 + 1) (.string ⟨#[]⟩)
        rw [with_zero P L m k hk6 (by omega)] at this
        exact this
      go_wp2_with fail
      go_roundw
      case rel => exact ⟨k + 1, by omega, rfl, HQ', KK.out.keep HR.out (by omega), bK HB.out KK.out (fun j e => by omega)⟩
      case measure => simp [intOf]; omega
end Go.Proofs.Ytgealllnchpekaa
