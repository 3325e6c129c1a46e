import Derived.Test.YtbfifakacneacaaDkRefC
import Derived.Test.YtbfifakacneacaaDkWholeW
set_option linter.unusedSimpArgs false
set_option linter.unusedVariables false
namespace Go.Proofs.Ytbfifakacneacaa
open Go.RowKit

set_option maxHeartbeats 1600000 in
theorem ref_new (n : Nat) (h0 : 0 < n) (h1 : n ≤ 16384) (w : World) : Calls Try.prog 21 #[.int .i64 n] w fun e w' =>
    ∃ p S, e = .returned (.pointer (some ⟨p, 0, none⟩)) ∧ RefAt w' p (Dev.new n) S ∧ Below w.heap.size w w' ∧ ∀ k ∈ S, w.heap.size ≤ k := by
  obtain ⟨i1, hj, hy0, hy1, hy2⟩ := info_parts Try.info_st
  have hok := Lib.hid (Dev.new_ok n h0 h1)
  have HBl := Lib.hid ref_blank
  unfold Dev.new at *
  generalize zeros 64 = Z at *
  have hj := Lib.hid hj
  have hy0 := Lib.hid hy0
  have hy1 := Lib.hid hy1
  have hy2 := Lib.hid hy2
  go_enter Try.func21, Try.ntmps21
  go_wp2_with fail
  have HP1 : Hid ((w.alloc (.cells #[.slice none 0 0, .slice none 0 0, .int .i64 (-1), .bool false] 54)).heap[w.heap.size]? = some (.cells #[.slice none 0 0, .slice none 0 0, .int .i64 (-1), .bool false] 54 (0, 0))) := hN rfl
  go_loopw [4] (fun i wr => ∃ (k : Nat) (fv : Value), k ≤ n ∧ i = .int .i64 k ∧ Hid (wr.heap[w.heap.size]? = some (.cells #[fv, .slice none 0 0, .int .i64 (-1), .bool false] 54 (0, 0))) ∧
    Hid (OwnS wr 9 1 fv k (strV (List.replicate k Z))) ∧ Hid (∀ b ∈ blk fv, w.heap.size < b) ∧ Below w.heap.size w wr) (fun i _ => n - (intOf i).toNat)
  case atStart => exact ⟨0, .slice none 0 0, by omega, rfl, HP1, OwnS.nil _ _ _, by simp [Hid, blk, Value.ownBlock], bA bR⟩
  case round =>
    obtain ⟨k, fv, hk, rfl, HP, HO, HF, hbr⟩ := hrel
    have HBr := Lib.hid hbr
    have hszr : w.heap.size < wr.heap.size := block_lt HP.out
    clear hbr HP1
    by_cases hkn : k < n
    · obtain ⟨ma, mc, hmf⟩ := HO.out.form
      subst hmf
      have P0 := cell_at HP.out 0
      have Q0 := free_at HP.out 0
      have P0d : wr.drew.cell? ⟨w.heap.size, 0, none⟩ = some (.slice ma k mc) := P0
      go_wp2_with fail
      go_region_law (first
        | (refine step_append_frame rfl (.tmp 16) (.tmp 18) 22 rfl 9 i1 (.string .empty) 1 16 Try.underlying22 hj.out hy0.out hy1.out hy2.out rfl (by decide) _ _ _ rfl HO6.out ⟨w6.heap.size, 0, none⟩ 1 1 [.string Z] rfl rfl (cell_one_at _ _ _ _ _ rfl) (by simp [Value.oneCell']) (by unfold maxLen; omega) (by omega) (by omega) ?_; rintro g7 c7 w7 ho7 hk7 hb7; (have HP7 := Lib.hid (hk7.keep (hO HP6.out) (fun h => Nat.lt_irrefl _ (HF.out _ h)))); (have C7 := cell_at HP7.out 0); (have F7 := free_at HP7.out 0); (have HO7 := Lib.hid ho7); (have HK7 := Lib.hid hk7); (have HB7 := Lib.hid hb7); clear ho7 hk7 hb7)
        | (go_simp; go_at_call 18; refine (HBl.out _).mono ?_; rintro e w6 ⟨rfl, hb6⟩; (have HP6 := Lib.hid (hBs hb6 HP.out)); (have HB6 := Lib.hid (bT (bD HBr.out) hb6)); (have HO6 := Lib.hid (OwnS.keep (w := wr.drew) HO.out ((Keeps.of_below (fun _ => False) hb6).alloc (.cells #[.string Z] 9)) (fun _ _ => id))); (have hsz6 : wr.heap.size ≤ w6.heap.size := hb6.size); clear hb6; (have hw6 := block_lt HP6.out); (have P6 := cell_at HP6.out 0); (have Q6 := free_at HP6.out 0)))
      all_goals
        have hb7 := HB7.out
        rw [show (w6.alloc (.cells #[.string Z] 9)).heap.size = w6.heap.size + 1 by simp] at hb7
        have hF : Hid (∀ b ∈ blk (.slice (some ⟨g7, 0, none⟩) (k + 1) c7), w.heap.size < b) := fun b hb => (hb7 b hb).elim (HF.out b) (fun h => by omega)
        clear hb7
        go_wp2_with fail
        go_roundw
        case rel =>
          refine ⟨k + 1, .slice (some ⟨g7, 0, none⟩) (k + 1) c7, by omega, rfl, heap_set HP7.out 0 _, ?_, hF, ?_⟩
          · show OwnS _ _ _ _ _ _
            rw [replicate_snoc, show strV (List.replicate k Z ++ [Z]) = strV (List.replicate k Z) ++ [.string Z] from by simp [strV]]
            refine HO7.out.keep ((Keeps.refl (· = w.heap.size) w7).setCell _ _ (.inl rfl)) ?_
            rintro b hb rfl
            exact Nat.lt_irrefl _ (hF.out _ hb)
          · exact (((Keeps.of_below (fun _ => False) (bA HB6.out)).trans HK7.out (fun i hi h => by have := HF.out i h; omega)).below).setCell (Nat.le_refl _) _
        case measure => simp [intOf]; omega
    · obtain rfl : k = n := by omega
      go_wp2_with fail
      go_ret
      refine ⟨w.heap.size, w.heap.size :: (blk fv ++ blk (.slice none 0 0)), rfl, ⟨hok.out, _, _, HP.out, ?_, OwnS.nil _ _ _, rfl, ?_⟩, HBr.out, ?_⟩
      · show OwnS _ _ 1 _ (List.replicate k Z).length _
        rw [List.length_replicate]
        exact HO.out
      · rw [List.nodup_cons]
        refine ⟨fun h => ?_, ?_⟩
        · simp only [List.mem_append] at h
          rcases h with h | h
          · exact Nat.lt_irrefl _ (HF.out _ h)
          · simp [blk, Value.ownBlock] at h
        · have : blk (.slice none 0 0) = [] := rfl
          rw [this, List.append_nil]
          exact blk_nodup _
      · intro b hb
        simp only [List.mem_cons, List.mem_append] at hb
        rcases hb with rfl | h | h
        · omega
        · have := HF.out _ h; omega
        · simp [blk, Value.ownBlock] at h
end Go.Proofs.Ytbfifakacneacaa
