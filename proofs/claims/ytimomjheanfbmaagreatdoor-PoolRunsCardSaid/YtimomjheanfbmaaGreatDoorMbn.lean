import Derived.Test.YtimomjheanfbmaaGreatDoorMbm
import Derived.BigRegion
import Derived.Test.YtimomjheanfbmaaGreatDoorMbl
import Derived.Deep.DeepCutAuto
import Derived.Deep.CutBlock
import Derived.Test.YtimomjheanfbmaaGreatDoorMbj
set_option linter.unusedSimpArgs false
set_option linter.unusedVariables false
namespace Go.Proofs.YtimomjheanfbmaaGreatDoor
open Go.RowKit

def ThS (b g1 g2 n k xb : Nat) (P : Pg) (st : Int) (w : World) : Prop := w.cell? ⟨b, 0, none⟩ = some (.slice (some ⟨g1, 0, none⟩) n n) ∧ w.cell? ⟨b, 1, none⟩ = some (.slice (some ⟨g2, 0, none⟩) n n) ∧ w.rangeAt g1 (k * 16) (pgC P).toList ∧ w.cell? ⟨g2, k, none⟩ = some (.int .i64 st) ∧ w.heap[xb]? = some (.cells (pgC P) 49 (0, 0))
set_option maxRecDepth 100000 in
set_option maxHeartbeats 1600000 in
theorem law_there {w : World} {dp b g1 g2 n : Nat} {Sd : List Nat} {D : Dev} {M : Nat → Pg × Int} (hd : DiskAt w dp D Sd) (hdn : D.down = false) (hr : Rf w b g1 g2 n M) (hn : n ≤ 64) (hfit : 128 + 4 * n ≤ D.firm.length) (hM : ∀ i, i < n → MOk (M i) ∧ OnDev D (128 + 4 * i) (M i)) :
    Calls Tryz.prog 31 #[.pointer (some ⟨dp, 0, none⟩), .pointer (some ⟨b, 0, none⟩)] w fun e w' => e = .returned (.bool true) ∧ Below w.heap.size w w' := by
  have HD := Lib.hid hd
  have HR := Lib.hid hr
  have HM := Lib.hid hM
  have hdn' := Lib.hid hdn
  have hft := Lib.hid hfit
  have C0 := cell_at hr.cell 0
  clear hd hr hM hdn hfit
  go_enter Tryz.func31, Tryz.ntmps31
  go_wp2_with fail
  clear C0
  go_loopw [16] (fun x wr => ∃ k : Nat, k ≤ n ∧ x = .int .i64 k ∧ Hid (Below w.heap.size w wr)) (fun x _ => n - (intOf x).toNat)
  case atStart => exact ⟨0, by omega, rfl, bR⟩
  case round =>
    obtain ⟨k, hk, rfl, HB⟩ := hrel
    by_cases hkn : k < n
    rotate_left
    · obtain rfl : k = n := by omega
      have hkI : ¬ (k : Int) < k := by omega
      go_wp2_with fail
      go_ret
      exact ⟨rfl, HB.out⟩
    have hkI : (k : Int) < n := by omega
    have hk0 : (0 : Int) ≤ k := by omega
    have hkw : IntKind.i64.wrap ((k : Int) + 1) = (k : Int) + 1 := by rw [IntKind.wrap_i64]; omega
    obtain ⟨⟨m1, m2, m3⟩, hdev⟩ := HM.out k hkn
    have hop : opn D (128 + 4 * k) = (pageS (M k).1, (M k).2, 0) := by
      have e0 := hdev 0 (by omega)
      have e1 := hdev 1 (by omega)
      have e2 := hdev 2 (by omega)
      have e3 := hdev 3 (by omega)
      rw [Nat.add_zero] at e0
      unfold opn
      rw [e0, e1, e2, e3]
      exact frOpen_sec _ _ (pageS_size m1) m2 (by rw [show (256 : Int) ^ 8 = 18446744073709551616 by decide]; omega)
    have HRd := Lib.hid (law_read (HD.out.later HB.out) hdn'.out k (by omega) (by have := hft.out; omega))
    rw [hop] at HRd
    dsimp only at HRd
    have hKr : Keeps (fun _ => False) w wr := Keeps.of_below _ HB.out
    have HRr := Lib.hid (HR.out.keep hKr (fun _ _ h => h))
    obtain ⟨P, hP⟩ : ∃ P, (M k).1 = P := ⟨_, rfl⟩
    obtain ⟨st, hst⟩ : ∃ s, (M k).2 = s := ⟨_, rfl⟩
    rw [hP] at m1 HRd
    rw [hst] at m2 m3 HRd
    have hrow : Hid (∀ w', Rf w' b g1 g2 n M → w'.rangeAt g1 (k * 16) (pgC P).toList ∧ w'.cell? ⟨g2, k, none⟩ = some (.int .i64 st)) := fun w' h => by
      refine ⟨hP ▸ row_at (f := fun i => (M i).1) h.now k hkn, ?_⟩
      have := World.ownsRow.cells h.st (g := g2) rfl k _ (stRow_get M n k hkn)
      rwa [Addr.add_mid, Nat.zero_add, hst] at this
    have hsz := pageS_size m1
    have HDc := Lib.hid (fun w => rf_decode (pageS P) (by rw [hsz]; unfold maxLen; omega) w)
    have hdo := Lib.hid (dec_ok m1)
    have hde := Lib.hid (dec_enc m1)
    have heq : Hid ((!eqPg P P) = false) := by show _ = _; rw [eqPg_same rfl]; rfl
    have hcv : IntKind.u64.wrap st = st := by rw [IntKind.wrap_u64]; omega
    have hnn : (st != st) = false := by simp
    obtain ⟨BS, hBS⟩ : ∃ B, pageS P = B := ⟨_, rfl⟩
    rw [hBS] at HRd HDc hdo hde
    unfold pgV at HDc
    rw [hde.out] at HDc
    replace m1 := Lib.hid m1
    replace hP := Lib.hid hP
    replace hst := Lib.hid hst
    replace hk := Lib.hid hk
    replace hdev := Lib.hid hdev
    clear hsz hop hKr hBS
    go_wp2_with fail
    refine (HRd.out).mono ?_
    rintro e w5 ⟨rfl, hb5⟩
    have HB5 := Lib.hid (bT HB.out hb5)
    have HR5 := Lib.hid (HRr.out.keep (Keeps.of_below (fun _ => False) hb5) (fun _ _ h => h))
    clear hb5 HRd HB HRr
    go_wp2_with fail
    refine (HDc.out _).mono ?_
    rintro e w6 ⟨hres, hb6⟩
    have HB6 := Lib.hid (bT HB5.out hb6)
    have HR6 := Lib.hid (HR5.out.keep (Keeps.of_below (fun _ => False) hb6) (fun _ _ h => h))
    obtain rfl : e = .returned (.tuple #[.agg (pgC P), .int .i64 0]) := by
      rcases hres with ⟨h1, _⟩ | ⟨_, h2⟩
      · exact h1
      · exact absurd hdo.out h2
    have HN6 : Hid ((w6.alloc (.cells (pgC pageZ) 49)).heap[w6.heap.size]? = some (.cells (pgC pageZ) 49 (0, 0))) := hN rfl
    clear hb6 hres HDc HB5 HR5
    go_upto_region 6 with (refine wpList_store_whole rfl 49 _ _ rfl _ (pgC P) rfl rfl _ (pgC pageZ) HN6.out rfl (by kernel_rfl) (pgC_one _) ?_; intro wa HX K9; (have HKa : Hid (Keeps (fun _ => False) w6 wa) := ((Keeps.refl (fun _ => False) w6).alloc _).trans K9.out (fun q hq e => by omega)); (have HBa := Lib.hid (bT HB6.out HKa.out.below)); (have HRa := Lib.hid (HR6.out.keep HKa.out (fun _ _ h => h))); clear HN6 K9 HB6 HR6)
    have hS0 : ThS b g1 g2 n k w6.heap.size P st wa.drew := ⟨cell_at HRa.out.cell 0, cell_at HRa.out.cell 1, (hrow.out wa HRa.out).1, (hrow.out wa HRa.out).2, hDr HX.out⟩
    have HBd : Hid (Below w.heap.size w wa.drew) := bD HBa.out
    refine wp_region_held_drew (S := ThS b g1 g2 n k w6.heap.size P st) (by kernel_rfl) hS0 (fun hHeld => ?_)
    clear hS0
    refine wpAnyH_take (i := 0) (oi := ⟨some 31, _, _, _, _, _⟩) (v := ?_) rfl (by kernel_rfl) (by kernel_rfl) (by kernel_rfl) (fun _ _ _ h => h) (Or.inl ⟨by rfl, ?_⟩) hHeld ?_
    rotate_left
    · intro w' hSw
      obtain ⟨s0, s1, s2, s3, s4⟩ := hSw
      go_simp
      try with_reducible rfl
      try omega
    simp only [Act.put, List.setIfInBounds_toArray, List.set_cons_zero, List.set_cons_succ]
    refine wpAnyH_take (i := 1) (oi := ⟨some 32, _, _, _, _, _⟩) (v := ?_) rfl (by kernel_rfl) (by kernel_rfl) (by kernel_rfl) (fun _ _ _ h => h) (Or.inl ⟨by rfl, ?_⟩) hHeld ?_
    rotate_left
    · intro w' hSw
      obtain ⟨s0, s1, s2, s3, s4⟩ := hSw
      go_simp
      try with_reducible rfl
      try omega
    simp only [Act.put, List.setIfInBounds_toArray, List.set_cons_zero, List.set_cons_succ]
    refine wpAnyH_take (i := 2) (oi := ⟨some 33, _, _, _, _, _⟩) (v := ?_) rfl (by kernel_rfl) (by kernel_rfl) (by kernel_rfl) (fun _ _ _ h => h) (Or.inl ⟨by rfl, ?_⟩) hHeld ?_
    rotate_left
    · intro w' hSw
      obtain ⟨s0, s1, s2, s3, s4⟩ := hSw
      go_simp
      try with_reducible rfl
      try omega
    simp only [Act.put, List.setIfInBounds_toArray, List.set_cons_zero, List.set_cons_succ]
    refine wpAnyH_take (i := 3) (oi := ⟨some 34, _, _, _, _, _⟩) (v := ?_) rfl (by kernel_rfl) (by kernel_rfl) (by kernel_rfl) (fun _ _ _ h => h) (Or.inl ⟨by rfl, ?_⟩) hHeld ?_
    rotate_left
    · intro w' hSw
      obtain ⟨s0, s1, s2, s3, s4⟩ := hSw
      go_simp
      try with_reducible rfl
      try omega
    simp only [Act.put, List.setIfInBounds_toArray, List.set_cons_zero, List.set_cons_succ]
    refine wpAnyH_take (i := 4) (oi := ⟨some 35, _, _, _, _, _⟩) (v := ?_) rfl (by kernel_rfl) (by kernel_rfl) (by kernel_rfl) (fun _ _ _ h => h) (Or.inl ⟨by rfl, ?_⟩) hHeld ?_
    rotate_left
    · intro w' hSw
      obtain ⟨s0, s1, s2, s3, s4⟩ := hSw
      go_simp
      try with_reducible rfl
      try omega
    simp only [Act.put, List.setIfInBounds_toArray, List.set_cons_zero, List.set_cons_succ]
    refine wpAnyH_take (i := 5) (oi := ⟨some 36, _, _, _, _, _⟩) (v := ?_) rfl (by kernel_rfl) (by kernel_rfl) (by kernel_rfl) (fun _ _ _ h => h) (Or.inl ⟨by rfl, ?_⟩) hHeld ?_
    rotate_left
    · intro w' hSw
      obtain ⟨s0, s1, s2, s3, s4⟩ := hSw
      go_simp
      try with_reducible rfl
      try omega
    simp only [Act.put, List.setIfInBounds_toArray, List.set_cons_zero, List.set_cons_succ]
    refine wpAnyH_take (i := 6) (oi := ⟨some 37, _, _, _, _, _⟩) (v := ?_) rfl (by kernel_rfl) (by kernel_rfl) (by kernel_rfl) (fun _ _ _ h => h) (Or.inl ⟨by rfl, ?_⟩) hHeld ?_
    rotate_left
    · intro w' hSw
      obtain ⟨s0, s1, s2, s3, s4⟩ := hSw
      go_simp
      try with_reducible rfl
      try omega
    simp only [Act.put, List.setIfInBounds_toArray, List.set_cons_zero, List.set_cons_succ]
    refine wpAnyH_take (i := 7) (oi := ⟨some 38, _, _, _, _, _⟩) (v := .agg (pgC P)) rfl (by kernel_rfl) (by kernel_rfl) (by kernel_rfl) (fun _ _ _ h => h) (yieldsIf_load_mid (by rfl) _ _ rfl w6.heap.size 0 rfl (pgC P).toList _ (fun _ h => range_of h.2.2.2.2) Tryz.underlying49 rfl (by kernel_rfl)) hHeld ?_
    simp only [Act.put, List.setIfInBounds_toArray, List.set_cons_zero, List.set_cons_succ]
    refine wpAnyH_take (i := 8) (oi := ⟨some 39, _, _, _, _, _⟩) (v := ?_) rfl (by kernel_rfl) (by kernel_rfl) (by kernel_rfl) (fun _ _ _ h => h) (Or.inl ⟨by rfl, ?_⟩) hHeld ?_
    rotate_left
    · intro w' hSw
      obtain ⟨s0, s1, s2, s3, s4⟩ := hSw
      go_simp
      try with_reducible rfl
      try omega
    simp only [Act.put, List.setIfInBounds_toArray, List.set_cons_zero, List.set_cons_succ]
    refine wpAnyH_take (i := 9) (oi := ⟨some 40, _, _, _, _, _⟩) (v := ?_) rfl (by kernel_rfl) (by kernel_rfl) (by kernel_rfl) (fun _ _ _ h => h) (Or.inl ⟨by rfl, ?_⟩) hHeld ?_
    rotate_left
    · intro w' hSw
      obtain ⟨s0, s1, s2, s3, s4⟩ := hSw
      go_simp
      try with_reducible rfl
      try omega
    simp only [Act.put, List.setIfInBounds_toArray, List.set_cons_zero, List.set_cons_succ]
    refine wpAnyH_take (i := 10) (oi := ⟨some 41, _, _, _, _, _⟩) (v := ?_) rfl (by kernel_rfl) (by kernel_rfl) (by kernel_rfl) (fun _ _ _ h => h) (Or.inl ⟨by rfl, ?_⟩) hHeld ?_
    rotate_left
    · intro w' hSw
      obtain ⟨s0, s1, s2, s3, s4⟩ := hSw
      go_simp
      try with_reducible rfl
      try omega
    simp only [Act.put, List.setIfInBounds_toArray, List.set_cons_zero, List.set_cons_succ]
    refine wpAnyH_take (i := 11) (oi := ⟨some 42, _, _, _, _, _⟩) (v := ?_) rfl (by kernel_rfl) (by kernel_rfl) (by kernel_rfl) (fun _ _ _ h => h) (Or.inl ⟨by rfl, ?_⟩) hHeld ?_
    rotate_left
    · intro w' hSw
      obtain ⟨s0, s1, s2, s3, s4⟩ := hSw
      go_simp
      try with_reducible rfl
      try omega
    simp only [Act.put, List.setIfInBounds_toArray, List.set_cons_zero, List.set_cons_succ]
    refine wpAnyH_take (i := 12) (oi := ⟨some 43, _, _, _, _, _⟩) (v := ?_) rfl (by kernel_rfl) (by kernel_rfl) (by kernel_rfl) (fun _ _ _ h => h) (Or.inl ⟨by rfl, ?_⟩) hHeld ?_
    rotate_left
    · intro w' hSw
      obtain ⟨s0, s1, s2, s3, s4⟩ := hSw
      go_simp
      try with_reducible rfl
      try omega
    simp only [Act.put, List.setIfInBounds_toArray, List.set_cons_zero, List.set_cons_succ]
    refine wpAnyH_take (i := 13) (oi := ⟨some 44, _, _, _, _, _⟩) (v := .pointer (some ⟨g1, k * 16, none⟩)) rfl (by kernel_rfl) (by kernel_rfl) (by kernel_rfl) (fun _ _ _ h => h) (Or.inl ⟨by rfl, ?_⟩) hHeld ?_
    · intro w' hSw
      obtain ⟨s0, s1, s2, s3, s4⟩ := hSw
      go_simp
      try with_reducible rfl
      try omega
    simp only [Act.put, List.setIfInBounds_toArray, List.set_cons_zero, List.set_cons_succ]
    refine wpAnyH_take (i := 14) (oi := ⟨some 45, _, _, _, _, _⟩) (v := .agg (pgC P)) rfl (by kernel_rfl) (by kernel_rfl) (by kernel_rfl) (fun _ _ _ h => h) (yieldsIf_load_mid (by rfl) _ _ rfl g1 (k * 16) rfl (pgC P).toList _ (fun _ h => h.2.2.1) Tryz.underlying49 rfl (by kernel_rfl)) hHeld ?_
    simp only [Act.put, List.setIfInBounds_toArray, List.set_cons_zero, List.set_cons_succ]
    refine wpAnyH_take (i := 15) (oi := ⟨some 46, _, _, _, _, _⟩) (v := .bool false) rfl (by kernel_rfl) (by kernel_rfl) (by kernel_rfl) (fun _ _ _ h => h) (Or.inl ⟨by rfl, fun w' _ => run_ne_op _ _ _ rfl P P false heq.out rfl rfl w'⟩) hHeld ?_
    simp only [Act.put, List.setIfInBounds_toArray, List.set_cons_zero, List.set_cons_succ]
    refine wpAnyH_take (i := 16) (oi := ⟨some 47, _, _, _, _, _⟩) (v := ?_) rfl (by kernel_rfl) (by kernel_rfl) (by kernel_rfl) (fun _ _ _ h => h) (Or.inl ⟨by rfl, ?_⟩) hHeld ?_
    rotate_left
    · intro w' hSw
      obtain ⟨s0, s1, s2, s3, s4⟩ := hSw
      go_simp
      try with_reducible rfl
      try omega
    simp only [Act.put, List.setIfInBounds_toArray, List.set_cons_zero, List.set_cons_succ]
    refine wpAnyH_take (i := 17) (oi := ⟨some 48, _, _, _, _, _⟩) (v := ?_) rfl (by kernel_rfl) (by kernel_rfl) (by kernel_rfl) (fun _ _ _ h => h) (Or.inl ⟨by rfl, ?_⟩) hHeld ?_
    rotate_left
    · intro w' hSw
      obtain ⟨s0, s1, s2, s3, s4⟩ := hSw
      go_simp
      try with_reducible rfl
      try omega
    simp only [Act.put, List.setIfInBounds_toArray, List.set_cons_zero, List.set_cons_succ]
    refine wpAnyH_take (i := 18) (oi := ⟨some 49, _, _, _, _, _⟩) (v := ?_) rfl (by kernel_rfl) (by kernel_rfl) (by kernel_rfl) (fun _ _ _ h => h) (Or.inl ⟨by rfl, ?_⟩) hHeld ?_
    rotate_left
    · intro w' hSw
      obtain ⟨s0, s1, s2, s3, s4⟩ := hSw
      go_simp
      try with_reducible rfl
      try omega
    simp only [Act.put, List.setIfInBounds_toArray, List.set_cons_zero, List.set_cons_succ]
    refine wpAnyH_take (i := 19) (oi := ⟨some 50, _, _, _, _, _⟩) (v := ?_) rfl (by kernel_rfl) (by kernel_rfl) (by kernel_rfl) (fun _ _ _ h => h) (Or.inl ⟨by rfl, ?_⟩) hHeld ?_
    rotate_left
    · intro w' hSw
      obtain ⟨s0, s1, s2, s3, s4⟩ := hSw
      go_simp
      try with_reducible rfl
      try omega
    simp only [Act.put, List.setIfInBounds_toArray, List.set_cons_zero, List.set_cons_succ]
    refine wpAnyH_take (i := 20) (oi := ⟨some 51, _, _, _, _, _⟩) (v := ?_) rfl (by kernel_rfl) (by kernel_rfl) (by kernel_rfl) (fun _ _ _ h => h) (Or.inl ⟨by rfl, ?_⟩) hHeld ?_
    rotate_left
    · intro w' hSw
      obtain ⟨s0, s1, s2, s3, s4⟩ := hSw
      go_simp
      try with_reducible rfl
      try omega
    simp only [Act.put, List.setIfInBounds_toArray, List.set_cons_zero, List.set_cons_succ]
    refine wpAnyH_take (i := 21) (oi := ⟨some 52, _, _, _, _, _⟩) (v := ?_) rfl (by kernel_rfl) (by kernel_rfl) (by kernel_rfl) (fun _ _ _ h => h) (Or.inl ⟨by rfl, ?_⟩) hHeld ?_
    rotate_left
    · intro w' hSw
      obtain ⟨s0, s1, s2, s3, s4⟩ := hSw
      go_simp
      try with_reducible rfl
      try omega
    simp only [Act.put, List.setIfInBounds_toArray, List.set_cons_zero, List.set_cons_succ]
    refine wpAnyH_take (i := 22) (oi := ⟨some 53, _, _, _, _, _⟩) (v := ?_) rfl (by kernel_rfl) (by kernel_rfl) (by kernel_rfl) (fun _ _ _ h => h) (Or.inl ⟨by rfl, ?_⟩) hHeld ?_
    rotate_left
    · intro w' hSw
      obtain ⟨s0, s1, s2, s3, s4⟩ := hSw
      go_simp
      try with_reducible rfl
      try omega
    simp only [Act.put, List.setIfInBounds_toArray, List.set_cons_zero, List.set_cons_succ]
    refine wpAnyH_take (i := 23) (oi := ⟨some 54, _, _, _, _, _⟩) (v := ?_) rfl (by kernel_rfl) (by kernel_rfl) (by kernel_rfl) (fun _ _ _ h => h) (Or.inl ⟨by rfl, ?_⟩) hHeld ?_
    rotate_left
    · intro w' hSw
      obtain ⟨s0, s1, s2, s3, s4⟩ := hSw
      go_simp
      try with_reducible rfl
      try omega
    simp only [Act.put, List.setIfInBounds_toArray, List.set_cons_zero, List.set_cons_succ]
    refine wpAnyH_take (i := 24) (oi := ⟨some 55, _, _, _, _, _⟩) (v := .pointer (some ⟨g2, k, none⟩)) rfl (by kernel_rfl) (by kernel_rfl) (by kernel_rfl) (fun _ _ _ h => h) (Or.inl ⟨by rfl, ?_⟩) hHeld ?_
    · intro w' hSw
      obtain ⟨s0, s1, s2, s3, s4⟩ := hSw
      go_simp
      try with_reducible rfl
      try omega
    simp only [Act.put, List.setIfInBounds_toArray, List.set_cons_zero, List.set_cons_succ]
    refine wpAnyH_take (i := 25) (oi := ⟨some 56, _, _, _, _, _⟩) (v := ?_) rfl (by kernel_rfl) (by kernel_rfl) (by kernel_rfl) (fun _ _ _ h => h) (Or.inl ⟨by rfl, ?_⟩) hHeld ?_
    rotate_left
    · intro w' hSw
      obtain ⟨s0, s1, s2, s3, s4⟩ := hSw
      go_simp
      try with_reducible rfl
      try omega
    simp only [Act.put, List.setIfInBounds_toArray, List.set_cons_zero, List.set_cons_succ]
    refine wpAnyH_take (i := 26) (oi := ⟨some 57, _, _, _, _, _⟩) (v := .int .u64 st) rfl (by kernel_rfl) (by kernel_rfl) (by kernel_rfl) (fun _ _ _ h => h) (Or.inl ⟨by rfl, ?_⟩) hHeld ?_
    · intro w' hSw
      obtain ⟨s0, s1, s2, s3, s4⟩ := hSw
      go_simp
      try with_reducible rfl
      try omega
    simp only [Act.put, List.setIfInBounds_toArray, List.set_cons_zero, List.set_cons_succ]
    refine wpAnyH_take (i := 27) (oi := ⟨some 58, _, _, _, _, _⟩) (v := .bool false) rfl (by kernel_rfl) (by kernel_rfl) (by kernel_rfl) (fun _ _ _ h => h) (Or.inl ⟨by rfl, ?_⟩) hHeld ?_
    · intro w' hSw
      obtain ⟨s0, s1, s2, s3, s4⟩ := hSw
      go_simp
      try with_reducible rfl
      try omega
    simp only [Act.put, List.setIfInBounds_toArray, List.set_cons_zero, List.set_cons_succ]
    refine wpAnyH_take (i := 28) (oi := ⟨some 59, _, _, _, _, _⟩) (v := ?_) rfl (by kernel_rfl) (by kernel_rfl) (by kernel_rfl) (fun _ _ _ h => h) (Or.inl ⟨by rfl, ?_⟩) hHeld ?_
    rotate_left
    · intro w' hSw
      obtain ⟨s0, s1, s2, s3, s4⟩ := hSw
      go_simp
      try with_reducible rfl
      try omega
    simp only [Act.put, List.setIfInBounds_toArray, List.set_cons_zero, List.set_cons_succ]
    clear hHeld
    refine wpAnyH_done (by kernel_rfl) ?_ _
    go_wp2_with fail
    go_roundw
    case rel => exact ⟨k + 1, by omega, rfl, HBd⟩
    case measure => simp [intOf]; omega
end Go.Proofs.YtimomjheanfbmaaGreatDoor

namespace Go.Proofs.YtimomjheanfbmaaGreatDoor
open Go.RowKit

theorem wpList_load_arr_want {P : Program} {ops : Array Oper} {rest : List Oper} {op : Oper} {a : Act} {w : World} {Q : Exit → Act → World → Prop} (hw : Region.wanted op (yielded ops a.tmps) = true) (ty : TypeId) (x : Operand) (ho : op.op = .load ty x)
    (b o : Nat) (hx : a.eval x = .pointer (some ⟨b, o, none⟩)) (C : Array Value) (d : TypeDesc) (hc : w.rangeAt b o C.toList)
    (hu : P.underlying ty = some d) (hd : d.isRow = true) (hi : (P.info? ty).map (·.size) = some C.size)
    (h : wpList P ops Q rest (a.put op.dst (.agg C)) w) : wpList P ops Q (op :: rest) a w :=
  wpList_want hw fun _ hK => wp_load_mid ty x ho b o hx C.toList d hc hu hd (by rw [hi, Array.length_toList]) (hK _ _ (by rw [Array.toArray_toList]; exact h))
end Go.Proofs.YtimomjheanfbmaaGreatDoor

namespace Go.Proofs.YtimomjheanfbmaaGreatDoor
open Go.RowKit

theorem wpList_ne_pg {ops : Array Oper} {rest : List Oper} {o : Oper} {a : Act} {w : World} {Q : Exit → Act → World → Prop} (hw : Region.wanted o (yielded ops a.tmps) = true) (x y : Operand) (r : TypeId) (ho : o.op = .binOp .neq 49 x y r)
    (X Y : Pg) (b : Bool) (hb : (!eqPg X Y) = b) (hx : a.eval x = .agg (pgC X)) (hy : a.eval y = .agg (pgC Y)) (h : wpList Tryz.prog ops Q rest (a.put o.dst (.bool b)) w) : wpList Tryz.prog ops Q (o :: rest) a w :=
  wpList_want hw fun K hK => by
    subst hb
    unfold Oper.wp execOp
    simp only [ho, hx, hy, Sem.run_bind, Sem.run_pure, Result.andThen_ok, run_eqGuard_agg (P := Tryz.prog) w .neq 49 x y _ _ (by kernel_rfl), run_ne_pg X Y w]
    exact hK _ _ h
/-! ### the pool and the document's pages side by side -/
structure Kr (w0 w : World) (L : List Nat) (p lp dp : Nat) (rs : List ByteArray) (M M' : Nat → Pg × Int) (b g1 g2 pg fr : Nat) (T : Int → Bool) (N : Nat) : Prop where
  kx : Kx w0 w (rfL b g1 g2 ++ L) p lp dp rs M N (DirtyIn pg fr T)
  rf : Rf w b g1 g2 pg M'
  hi : ∀ q ∈ rfL b g1 g2, w0.heap.size ≤ q
def tt : Int → Bool := fun _ => true
def ff : Int → Bool := fun _ => false
section
variable {w0 w w' : World} {L : List Nat} {p lp dp : Nat} {rs : List ByteArray} {M M' : Nat → Pg × Int} {b g1 g2 pg fr : Nat} {T : Int → Bool} {N : Nat}
theorem Kr.later (h : Kr w0 w L p lp dp rs M M' b g1 g2 pg fr T N) (hb : Below w.heap.size w w') : Kr w0 w' L p lp dp rs M M' b g1 g2 pg fr T N :=
  ⟨h.kx.later hb, h.rf.keep (Keeps.of_below (fun _ => False) hb) (fun _ _ h => h), h.hi⟩
theorem Kr.more (h : Kr w0 w L p lp dp rs M M' b g1 g2 pg fr T N) (hb : Below w.heap.size w w') (L' : List Nat) (hl : ∀ k ∈ L', k < w'.heap.size) (hn : ∀ k ∈ L', k ∈ L ∨ w.heap.size ≤ k) : Kr w0 w' L' p lp dp rs M M' b g1 g2 pg fr T N :=
  ⟨h.kx.more hb _ (fun k hk => by
    rcases List.mem_append.1 hk with hk | hk
    · exact Nat.lt_of_lt_of_le (h.rf.lt k hk) hb.size
    · exact hl k hk) (fun k hk => by
    rcases List.mem_append.1 hk with hk | hk
    · exact .inl (List.mem_append_left _ hk)
    · exact (hn k hk).imp (fun h => List.mem_append_right _ h) (fun h => h)), h.rf.keep (Keeps.of_below (fun _ => False) hb) (fun _ _ h => h), h.hi⟩
theorem Kr.less (h : Kr w0 w L p lp dp rs M M' b g1 g2 pg fr T N) (L' : List Nat) (hn : ∀ k ∈ L', k ∈ L) : Kr w0 w L' p lp dp rs M M' b g1 g2 pg fr T N :=
  ⟨h.kx.less _ (fun k hk => by
    rcases List.mem_append.1 hk with hk | hk
    · exact List.mem_append_left _ hk
    · exact List.mem_append_right _ (hn k hk)), h.rf, h.hi⟩
theorem Kr.bel (h : Kr w0 w L p lp dp rs M M' b g1 g2 pg fr T N) : Below w0.heap.size w0 w := h.kx.bel
theorem Kr.all (h : Kr w0 w L p lp dp rs M M' b g1 g2 pg fr T N) : Kr w0 w L p lp dp rs M M' b g1 g2 pg fr tt N :=
  ⟨h.kx.imp (fun X hX => ⟨hX.1, hX.2.1, fun _ _ _ _ => rfl⟩), h.rf, h.hi⟩
theorem Kr.mono (h : Kr w0 w L p lp dp rs M M' b g1 g2 pg fr T N) {N' : Nat} (h1 : N ≤ N') (h2 : N' ≤ 4 * rs.length + 100) : Kr w0 w L p lp dp rs M M' b g1 g2 pg fr T N' := ⟨h.kx.mono h1 h2, h.rf, h.hi⟩
theorem own_out {w0 : World} {b g1 g2 : Nat} {L : List Nat} : ∀ q ∈ rfL b g1 g2, ¬ Own w0 (rfL b g1 g2 ++ L) q := fun q hq h => h.2 (List.mem_append_left _ hq)
theorem own_sub {w0 : World} {b g1 g2 : Nat} {L : List Nat} {a c : World} (h : Keeps (Own w0 (rfL b g1 g2 ++ L)) a c) : Keeps (Own w0 L) a c := h.mono (fun k _ hk => ⟨hk.1, fun h => hk.2 (List.mem_append_right _ h)⟩)
theorem kr_get (h : Kr w0 w L p lp dp rs M M' b g1 g2 pg fr T N) (id : Int) :
    Calls Tryz.prog 24 #[.pointer (some ⟨p, 0, none⟩), .int .i64 id] w fun e w' => ∃ Q c, e = .returned (.tuple #[pgV Q, .int .i64 c]) ∧ Kr w0 w' L p lp dp rs M M' b g1 g2 pg fr T N ∧ Keeps (Own w0 L) w w' ∧
      ((0 ≤ id ∧ id < pg ∧ c = 0 ∧ pgC Q = pgC (M id.toNat).1) ∨ ((id < 0 ∨ (pg : Int) ≤ id) ∧ c = 1 ∧ Q = pageZ)) :=
  (kd_get h.kx id).mono fun e w' ⟨Q, c, he, hk, hK, hr⟩ => ⟨Q, c, he, ⟨hk, h.rf.keep hK own_out, h.hi⟩, own_sub hK, hr⟩
theorem kr_flush (h : Kr w0 w L p lp dp rs M M' b g1 g2 pg fr T N) :
    Calls Tryz.prog 29 #[.pointer (some ⟨p, 0, none⟩)] w fun e w' => e = .returned (.int .i64 0) ∧ Kr w0 w' L p lp dp rs M M' b g1 g2 pg fr ff N ∧ Keeps (Own w0 L) w w' :=
  (kd_flush h.kx).mono fun e w' ⟨he, hk, hK⟩ => ⟨he, ⟨hk, h.rf.keep hK own_out, h.hi⟩, own_sub hK⟩
theorem kr_append (h : Kr w0 w L p lp dp rs M M' b g1 g2 pg fr T N) (r : ByteArray) (hr : r.size ≤ maxLen) :
    Calls Tryz.prog 26 #[.pointer (some ⟨lp, 0, none⟩), .string r] w fun e w' => ((∃ c, c ≠ 0 ∧ e = .returned (.tuple #[.int .i64 0, .int .i64 c]) ∧ Kr w0 w' L p lp dp rs M M' b g1 g2 pg fr T N) ∨
      (e = .returned (.tuple #[.int .i64 ((54 + lenL rs : Nat) : Int), .int .i64 0]) ∧ Kr w0 w' L p lp dp (rs ++ [r]) M M' b g1 g2 pg fr T N)) ∧ Keeps (Own w0 L) w w' :=
  (kx_append h.kx r hr).mono fun e w' ⟨hres, hK⟩ => ⟨by
    rcases hres with ⟨_, c, hc, he, hk⟩ | ⟨_, he, hk⟩
    · exact .inl ⟨c, hc, he, hk, h.rf.keep hK own_out, h.hi⟩
    · exact .inr ⟨he, hk, h.rf.keep hK own_out, h.hi⟩, own_sub hK⟩
theorem kr_put (h : Kr w0 w L p lp dp rs M M' b g1 g2 pg fr T N) (hN : N + 4 ≤ 4 * rs.length + 100) (id : Int) (x : Pg) (hx : ∀ i, i < 6 → (x.dt i).size ≤ maxLen) (st : Int) (hst : 0 ≤ st ∧ st ≤ 1152921504606846976) :
    Calls Tryz.prog 27 #[.pointer (some ⟨p, 0, none⟩), .int .i64 id, pgV x, .int .i64 st] w fun e w' => ∃ c M1, e = .returned (.int .i64 c) ∧ Kr w0 w' L p lp dp rs M1 M' b g1 g2 pg fr tt (N + 4) ∧ Keeps (Own w0 L) w w' ∧
      ((PutIn pg id x ∧ c = 0 ∧ M1 = upd M id.toNat (x, st)) ∨ (¬ PutIn pg id x ∧ c = 1 ∧ M1 = M)) :=
  (kd_put h.kx hN id x hx st hst).mono fun e w' ⟨c, M1, he, hK, hres⟩ => by
    rcases hres with ⟨r1, r2, r3, r4, r5, hk⟩ | ⟨r1, r2, r3, hk⟩
    · exact ⟨c, M1, he, ⟨hk.imp (fun X hX => ⟨hX.1, hX.2.1, fun _ _ _ _ => rfl⟩), h.rf.keep hK own_out, h.hi⟩, own_sub hK, .inl ⟨⟨r1, r2, r3⟩, r4, r5⟩⟩
    · exact ⟨c, M1, he, ⟨hk.imp (fun X hX => ⟨hX.1, hX.2.1, fun _ _ _ _ => rfl⟩), h.rf.keep hK own_out, h.hi⟩, own_sub hK, .inr ⟨r1, r2, r3⟩⟩
theorem kr_rput (h : Kr w0 w L p lp dp rs M M' b g1 g2 pg fr T N) (hL : ∀ k ∈ L, w0.heap.size ≤ k ∧ k ∉ rfL b g1 g2) (id : Int) (x : Pg) (hx : ∀ i, i < 6 → (x.dt i).size ≤ maxLen) (st : Int) (hst : 0 ≤ st) :
    Calls Tryz.prog 28 #[.pointer (some ⟨b, 0, none⟩), .int .i64 id, pgV x, .int .i64 st] w fun e w' => ∃ c M1, e = .returned (.int .i64 c) ∧ Kr w0 w' L p lp dp rs M M1 b g1 g2 pg fr T N ∧ Keeps (Own w0 L) w w' ∧
      ((PutIn pg id x ∧ c = 0 ∧ M1 = upd M' id.toNat (x, st)) ∨ (¬ PutIn pg id x ∧ c = 1 ∧ M1 = M')) :=
  (rf_put h.rf id x hx st hst).mono fun e w' ⟨c, M1, he, hr, hK, hres⟩ => ⟨c, M1, he, ⟨h.kx.keep (hK.mono (fun k _ hk => List.mem_append_left _ hk)) (fun k hk => by
    rcases List.mem_append.1 hk with hk | hk
    · exact h.hi k hk
    · exact (hL k hk).1), hr, h.hi⟩, hK.mono (fun k _ hk => ⟨h.hi k hk, fun h' => (hL k h').2 hk⟩), hres⟩
theorem kr_dirty (h : Kr w0 w L p lp dp rs M M' b g1 g2 pg fr T N) :
    Calls Tryz.prog 30 #[.pointer (some ⟨p, 0, none⟩)] w fun e w' => ∃ (a : Option Addr) (c m : Nat), e = .returned (.slice a m c) ∧ Below w.heap.size w w' ∧ m ≤ fr ∧ (T = ff → m = 0) :=
  (kd_dirty h.kx).mono fun e w' ⟨v, l, he, ho, hb, _, hl, hT, _⟩ => by
    obtain ⟨a, c, rfl⟩ := ho.form
    refine ⟨a, c, l.length, he, hb, hl, fun hf => ?_⟩
    cases l with
    | nil => rfl
    | cons x t => have := (hT x (by simp)).1; rw [hf] at this; cases this
theorem kr_there (h : Kr w0 w L p lp dp rs M M' b g1 g2 pg fr ff N) (hM : M = M') (hn : pg ≤ 64) :
    Calls Tryz.prog 31 #[.pointer (some ⟨dp, 0, none⟩), .pointer (some ⟨b, 0, none⟩)] w fun e w' => e = .returned (.bool true) ∧ Below w.heap.size w w' := by
  subst hM
  obtain ⟨i0, X, sv, S, Sl, Sd, D, hk, hF1, hF2, hF3⟩ := h.kx
  have hfit := hk.pw.fit
  have hb := hk.b128
  rw [hb, hF1] at hfit
  refine law_there hk.pw.ws.dsk hk.up.2 h.rf hn hfit (fun i hi => ⟨hk.inv.mok i (by rw [hF1]; exact hi), ?_⟩)
  have := hk.inv.dev hk.up.2 i (by rw [hF1]; exact hi) (fun j s hs he => by
    cases hd : s.dirty with
    | false => rfl
    | true => have := hF3 j s hs hd; cases this)
  rwa [hb] at this
theorem kr_new {w0 w : World} {p lp dp : Nat} {pg fr : Nat} (h : Kx w0 w [] p lp dp [] M0 0 (fun X => X.pages = pg ∧ X.room = fr ∧ X.slots = [])) (hn : pg ≤ 64) :
    Calls Tryz.prog 23 #[.int .i64 pg] w fun e w' => ∃ b g1 g2, e = .returned (.pointer (some ⟨b, 0, none⟩)) ∧ Kr w0 w' [] p lp dp [] M0 M0 b g1 g2 pg fr tt 0 :=
  (rf_new pg hn w).mono fun e w' ⟨b, g1, g2, he, hr, hb, hq⟩ => ⟨b, g1, g2, he, (h.more hb _ (fun k hk => by
    rcases List.mem_append.1 hk with hk | hk
    · exact hr.lt k hk
    · cases hk) (fun k hk => by
    rcases List.mem_append.1 hk with hk | hk
    · exact .inr (hq k hk)
    · cases hk)).imp (fun X hX => ⟨hX.1, hX.2.1, fun _ _ _ _ => rfl⟩), hr, fun q hq' => Nat.le_trans h.bel.size (hq q hq')⟩
end
end Go.Proofs.YtimomjheanfbmaaGreatDoor

namespace Go.Proofs.YtimomjheanfbmaaGreatDoor
open Go.RowKit

set_option maxRecDepth 100000 in
set_option maxHeartbeats 1600000 in
theorem poolRuns_bad (pgs fr : Int) (v : Value) (cs : List PCall) (w : World) (h : CallsIs w v cs) (hbad : 64 < pgs ∨ pgs < 1 ∨ fr < 4 ∨ 256 < fr) :
    Calls Tryz.prog 4 #[.int .i64 pgs, .int .i64 fr, v] w fun e w' => e = .returned (.bool true) ∧ Below w.heap.size w w' := by
  have HA := Lib.hid awake12
  obtain ⟨va, vc, rfl⟩ := h.form
  obtain ⟨n, hn⟩ : ∃ n, cs.length = n := ⟨_, rfl⟩
  rw [hn] at h ⊢
  replace hn := Lib.hid hn
  have H := Lib.hid h
  clear h
  by_cases h64 : 64 < pgs
  · have b1 : decide (64 < pgs) = true := by simpa using h64
    clear hbad
    go_enter Tryz.func4, Tryz.ntmps4
    go_wp2_with fail
    refine (HA.out _).mono ?_
    rintro e w1 ⟨rfl, hb1⟩
    have HB1 := Lib.hid hb1
    clear hb1
    go_wp2_with fail
    go_ret
    exact ⟨rfl, HB1.out⟩
  have b1 : decide (64 < pgs) = false := by simpa using h64
  have hbd : pgs < 1 ∨ fr < 4 ∨ 256 < fr := by omega
  obtain ⟨g, hg⟩ : ∃ g : Nat, max pgs 1 = g := ⟨(max pgs 1).toNat, by omega⟩
  have hg1 : 1 ≤ g ∧ g ≤ 64 := by omega
  have w1 : IntKind.i64.wrap (4 * (g : Int)) = 4 * (g : Int) := by rw [IntKind.wrap_i64]; omega
  have w2 : IntKind.i64.wrap (128 + 4 * (g : Int)) = ((128 + 4 * g : Nat) : Int) := by rw [IntKind.wrap_i64]; omega
  have hmx : (if pgs < 1 then (1 : Int) else pgs) = g := by split <;> omega
  have HPn := Lib.hid (fun (w : World) (dp lp : Nat) => pl_new_bad (w := w) dp lp 128 pgs fr hbd (by omega))
  have hgN := Lib.hid hg1
  obtain ⟨x1, h1⟩ : ∃ x, decide (pgs < 1) = x := ⟨_, rfl⟩
  obtain ⟨x2, h2⟩ : ∃ x, decide (fr < 4) = x := ⟨_, rfl⟩
  obtain ⟨x3, h3⟩ : ∃ x, decide (256 < fr) = x := ⟨_, rfl⟩
  have hb : (x1 || x2 || x3) = true := by
    rw [← h1, ← h2, ← h3]
    rcases hbd with h | h | h <;> simp [h]
  clear hbad hbd h64 hg1
  cases x1 <;> cases x2 <;> cases x3 <;> first
    | (simp at hb; done)
    | (clear hb
       go_enter Tryz.func4, Tryz.ntmps4
       go_wp2_with fail
       refine (HA.out _).mono ?_
       rintro e w1 ⟨rfl, hb1⟩
       have HB1 := Lib.hid hb1
       clear hb1
       have HN := Lib.hid (dsk_new (128 + 4 * g) (by omega) (by have := hgN.out; omega) w1)
       rw [show ((128 + 4 * g : Nat) : Int) = 128 + 4 * (g : Int) by omega] at HN
       go_wp2_with fail
       refine (HN.out).mono ?_
       rintro e w2 ⟨dp, Sd, rfl, hd, hb, hS⟩
       have HC := Lib.hid (lk_create (w0 := w) (L := []) (by have := hgN.out; omega) (by omega) hd (fun k hk => ⟨Nat.le_trans HB1.out.size (hS k hk), by simp⟩) (fun k hk => by simp at hk) (bT HB1.out hb))
       clear HN hd hb hS
       go_wp2_with fail
       refine (HC.out).mono ?_
       rintro e w3 ⟨lp, Sl, Sd2, rfl, hlk, -⟩
       have HB3 := Lib.hid hlk.bel
       clear HC hlk
       go_wp2_with fail
       refine (HPn.out _ _ _).mono ?_
       rintro e w4 ⟨rfl, hb4⟩
       have HB4 := Lib.hid (bT HB3.out hb4)
       clear hb4
       go_wp2_with fail
       go_ret
       exact ⟨rfl, HB4.out⟩)
end Go.Proofs.YtimomjheanfbmaaGreatDoor

namespace Go.Proofs.YtimomjheanfbmaaGreatDoor
open Go.RowKit

/-- a call's own copy -/
def PcS (b : Nat) (c : PCall) (w : World) : Prop := w.heap[b]? = some (.cells (pcL c).toArray 80 (0, 0))
set_option maxRecDepth 100000 in
set_option maxHeartbeats 1600000 in
theorem poolRuns_good (g f : Nat) (hg : 1 ≤ g ∧ g ≤ 64) (hf : 4 ≤ f ∧ f ≤ 256) (v : Value) (cs : List PCall) (w : World) (h : CallsIs w v cs) :
    Calls Tryz.prog 4 #[.int .i64 g, .int .i64 f, v] w fun e w' => e = .returned (.bool true) ∧ Below w.heap.size w w' := by
  have HA := Lib.hid awake12
  obtain ⟨va, vc, rfl⟩ := h.form
  have hmx := h.max
  unfold maxLen at hmx
  obtain ⟨n, hn⟩ : ∃ n, cs.length = n := ⟨_, rfl⟩
  rw [hn] at h hmx ⊢
  replace hn := Lib.hid hn
  have H := Lib.hid h
  clear h
  have b0 : decide (64 < (g : Int)) = false := by apply decide_eq_false; omega
  have b1 : decide ((g : Int) < 1) = false := by apply decide_eq_false; omega
  have b2 : decide ((f : Int) < 4) = false := by apply decide_eq_false; omega
  have b3 : decide (256 < (f : Int)) = false := by apply decide_eq_false; omega
  have w1 : IntKind.i64.wrap (4 * (g : Int)) = 4 * (g : Int) := by rw [IntKind.wrap_i64]; omega
  have w2 : IntKind.i64.wrap (128 + 4 * (g : Int)) = 128 + 4 * (g : Int) := by rw [IntKind.wrap_i64]; omega
  have hmx1 : max (g : Int) 1 = g := by omega
  have hmx2 : (if (g : Int) < 1 then (1 : Int) else g) = g := by rw [if_neg (by omega)]
  have hgN := Lib.hid hg
  have hfN := Lib.hid hf
  have hmN := Lib.hid hmx
  clear hg hf hmx
  go_enter Tryz.func4, Tryz.ntmps4
  go_wp2_with fail
  refine (HA.out _).mono ?_
  rintro e w1 ⟨rfl, hb1⟩
  have HB1 := Lib.hid hb1
  clear hb1
  have HN := Lib.hid (dsk_new (128 + 4 * g) (by omega) (by have := hgN.out; omega) w1)
  rw [show ((128 + 4 * g : Nat) : Int) = 128 + 4 * (g : Int) by omega] at HN
  go_wp2_with fail
  refine (HN.out).mono ?_
  rintro e w2 ⟨dp, Sd, rfl, hd, hb, hS⟩
  have HC := Lib.hid (lk_create (w0 := w) (L := []) (by have := hgN.out; omega) (by omega) hd (fun k hk => ⟨Nat.le_trans HB1.out.size (hS k hk), by simp⟩) (fun k hk => by simp at hk) (bT HB1.out hb))
  clear HN hd hb hS
  go_wp2_with fail
  refine (HC.out).mono ?_
  rintro e w3 ⟨lp, Sl, Sd2, rfl, hlk, -⟩
  have HP := Lib.hid (kx_pool hlk g f (by have := hgN.out; omega) (by have := hgN.out; omega) (by have := hfN.out; omega) (by have := hfN.out; omega) (by omega))
  clear HC hlk
  go_wp2_with fail
  refine (HP.out).mono ?_
  rintro e w4 ⟨p, rfl, hq, -⟩
  have HM := Lib.hid (kr_new hq hgN.out.2)
  clear HP hq
  go_wp2_with fail
  refine (HM.out).mono ?_
  rintro e w5 ⟨b, g1, g2, rfl, hk⟩
  have HK5 := Lib.hid hk
  clear HM hk
  go_wp2_with fail
  go_loopw [74] (fun x wr => ∃ (j : Nat), j ≤ n ∧ x = .int .i64 j ∧ ∃ (rs : List ByteArray) (M : Nat → Pg × Int), Hid (Kr w wr [] p lp dp rs M M b g1 g2 g f tt (4 * rs.length))) (fun x _ => n - (intOf x).toNat)
  case atStart => exact ⟨0, by omega, rfl, [], M0, HK5⟩
  case round =>
    clear HK5
    obtain ⟨j, hj, rfl, rs, M, HK⟩ := hrel
    by_cases hjn : j < n
    · obtain ⟨c, hc⟩ : ∃ c, cs[j]? = some c := ⟨_, List.getElem?_eq_getElem (by rw [hn.out]; exact hjn)⟩
      obtain ⟨bb, off, rfl, hbl, hrg, hpc⟩ := H.out.at j c hc
      have HB := HK.out.bel
      have HRg := Lib.hid (range_below hrg hbl HB)
      have hcount := Lib.hid HK.out.kx.count
      have hjI : (j : Int) < n := by omega
      have hj0 : (0 : Int) ≤ j := by omega
      have hjw : IntKind.i64.wrap ((j : Int) + 1) = (j : Int) + 1 := by have := hmN.out; rw [IntKind.wrap_i64]; omega
      have hCl : Hid ((Tryz.prog.info? 80).map (·.size) = some (pcL c).length) := pcl_info
      have hCs : Hid ((Tryz.prog.info? 80).map (·.size) = some (pcL c).toArray.size) := pcl_info
      have hone : Hid (∀ v ∈ (pcL c).toArray.toList, v.oneCell' = true) := fun v hv => pcL_cells c v (by simpa using hv)
      have hszz : Hid ((pcL pcZ).toArray.size = (pcL c).toArray.size) := rfl
      have HN : Hid ((wr.alloc (.cells (pcL pcZ).toArray 80)).heap[wr.heap.size]? = some (.cells (pcL pcZ).toArray 80 (0, 0))) := hN rfl
      have hwr := Lib.hid HB.size
      have hrl : Hid (wr.heap.size ∉ rfL b g1 g2) := fun hq => by have := HK.out.rf.lt _ hq; omega
      replace hc := Lib.hid hc
      replace hj := Lib.hid hj
      clear HB hrg
      go_upto_block 2 with (first
        | (refine wpList_load_mid rfl 80 _ rfl bb (off + j * 19) rfl (pcL c) _ HRg.out Tryz.underlying80 rfl hCl.out ?_)
        | (refine wpList_store_whole rfl 80 _ _ rfl _ (pcL c).toArray rfl rfl _ _ HN.out hszz.out hCs.out hone.out ?_; intro w6 HC6 K6; (have HK6a : Hid (Keeps (fun _ => False) wr w6) := ((Keeps.refl (fun _ => False) wr).alloc _).trans K6.out (fun q hq e => by omega)); (have HK6 : Hid (Kr w w6 [wr.heap.size] p lp dp rs M M b g1 g2 g f tt (4 * rs.length)) := HK.out.more HK6a.out.below [wr.heap.size] (fun q hq => by rw [List.mem_singleton.1 hq]; exact block_lt HC6.out) (fun q hq => by rw [List.mem_singleton.1 hq]; exact .inr (Nat.le_refl _))); (obtain ⟨ck, ci, cp, cr⟩ := pc_at HC6.out); clear HN K6 HK6a HK))
      go_cut [] (fun wx => ∃ (rs : List ByteArray) (M : Nat → Pg × Int), Hid (Kr w wx [] p lp dp rs M M b g1 g2 g f tt (4 * rs.length)))
      case first =>
        by_cases k0 : c.kind = 0
        · have d0 : (c.kind == 0) = true := by simpa using k0
          have HG := Lib.hid (kr_get HK6.out c.id)
          unfold pgV at HG
          replace k0 := Lib.hid k0
          go_wp2_with fail
          refine (HG.out).mono ?_
          rintro e w7 ⟨Q, cd, rfl, hk7, hK7, hr7⟩
          have HK7 := Lib.hid hk7
          have HC7 := Lib.hid (hK7.keep HC6.out (fun h => h.2 (by simp)))
          have HN7 : Hid ((w7.alloc (.cells (pgC pageZ) 49)).heap[w7.heap.size]? = some (.cells (pgC pageZ) 49 (0, 0))) := hN rfl
          have hlt7 : Hid (wr.heap.size < w7.heap.size) := block_lt HC7.out
          clear hk7 hK7 HG HK6 HC6 ck ci cp cr
          go_wp2_with (refine wpList_store_whole rfl 49 _ _ rfl _ (pgC Q) rfl rfl _ (pgC pageZ) HN7.out rfl (by kernel_rfl) (pgC_one _) ?_; intro w8 HX8 K8; (have HK8a : Hid (Keeps (fun _ => False) w7 w8) := ((Keeps.refl (fun _ => False) w7).alloc _).trans K8.out (fun q hq e => by omega)); (have HK8 : Hid (Kr w w8 [wr.heap.size, w7.heap.size] p lp dp rs M M b g1 g2 g f tt (4 * rs.length)) := HK7.out.more HK8a.out.below [wr.heap.size, w7.heap.size] (fun q hq => by rcases List.mem_cons.1 hq with rfl | hq; exact Nat.lt_of_lt_of_le hlt7.out HK8a.out.size; rw [List.mem_singleton.1 hq]; exact block_lt HX8.out) (fun q hq => by rcases List.mem_cons.1 hq with rfl | hq; exact .inl (by simp); rw [List.mem_singleton.1 hq]; exact .inr (Nat.le_refl _))); (have HC8 := Lib.hid (HK8a.out.keep HC7.out (fun h => h))); (obtain ⟨ck, ci, cp, cr⟩ := pc_at HC8.out); clear HN7 K8 HK7 HC7 HK8a)
          have HG2 := Lib.hid (rf_get HK8.out.rf c.id)
          unfold pgV at HG2
          refine (HG2.out).mono ?_
          rintro e w9 ⟨Q2, cd2, rfl, hb9, hr9⟩
          obtain ⟨rfl, hQQ⟩ : cd2 = cd ∧ pgC Q = pgC Q2 := by
            rcases hr7 with ⟨q1, q2, q3, q4⟩ | ⟨q1, q2, q3⟩ <;> rcases hr9 with ⟨q5, q6, q7, q8⟩ | ⟨q5, q7, q8⟩
            · exact ⟨by rw [q3, q7], by rw [q4, q8]⟩
            · omega
            · omega
            · exact ⟨by rw [q2, q7], by rw [q3, q8]⟩
          have HK9 := Lib.hid (HK8.out.later hb9)
          have HX9 := Lib.hid (hBs hb9 HX8.out)
          have HN9 : Hid ((w9.alloc (.cells (pgC pageZ) 49)).heap[w9.heap.size]? = some (.cells (pgC pageZ) 49 (0, 0))) := hN rfl
          have hlt9 : Hid (w7.heap.size < w9.heap.size) := block_lt HX9.out
          have hne : Hid ((!eqPg Q Q2) = false) := by show _ = _; rw [eqPg_same hQQ]; rfl
          have hcc : (cd2 != cd2) = false := by simp
          clear hb9 hr7 hr9 HG2 HK8 HX8 ck ci cp cr HC8 hQQ
          go_wp2_with (first
            | (refine wpList_store_whole rfl 49 _ _ rfl _ (pgC Q2) rfl rfl _ (pgC pageZ) HN9.out rfl (by kernel_rfl) (pgC_one _) ?_; intro wA HYA KA; (have HXA := Lib.hid (KA.keep (hO HX9.out) (by have := hlt9.out; omega))); (have HKA := Lib.hid ((HK9.out.later ((((Keeps.refl (fun _ => False) w9).alloc _).trans KA.out (fun q hq e => by omega)).below)).less [] (fun q hq => by simp at hq))); clear HN9 KA HK9 HX9)
            | (refine wpList_load_want (by rfl) 49 _ rfl _ rfl 49 _ _ _ HXA.out Tryz.underlying49 rfl (by kernel_rfl) ?_)
            | (refine wpList_load_want (by rfl) 49 _ rfl _ rfl 49 _ _ _ HYA.out Tryz.underlying49 rfl (by kernel_rfl) ?_)
            | (refine wpList_ne_pg (by rfl) _ _ _ rfl Q Q2 false hne.out rfl rfl ?_))
          go_meet
          exact ⟨rs, M, HKA⟩
        · have d0 : (c.kind == 0) = false := by simpa using k0
          replace k0 := Lib.hid k0
          by_cases k1 : c.kind = 1
          · have d1 : (c.kind == 1) = true := by simpa using k1
            replace k1 := Lib.hid k1
            have HAp := Lib.hid (kr_append HK6.out c.rcd hpc.2)
            go_wp2_with fail
            refine (HAp.out).mono ?_
            rintro e w7 ⟨hres, hK7⟩
            have HC7 := Lib.hid (hK7.keep HC6.out (fun h => h.2 (by simp)))
            have HC7d : Hid (PcS wr.heap.size c w7.drew) := hDr HC7.out
            clear hK7 HAp ck ci cp cr HK6 HC6
            rcases hres with ⟨cd, hcd, rfl, hk7⟩ | ⟨rfl, hk7⟩
            · have HK7 := Lib.hid (hk7.less [] (fun q hq => by simp at hq))
              have d2 : (cd == 0) = false := by simpa using hcd
              have d3 : (cd != 0) = true := by simpa using hcd
              clear hk7
              go_wp2_with fail
              go_roundw
              case rel => exact ⟨j + 1, by omega, rfl, rs, M, HK7⟩
              case measure => simp [intOf]; omega
            · have HK7 := Lib.hid hk7
              have hlen : Hid ((rs ++ [c.rcd]).length = rs.length + 1) := by show _ = _; rw [List.length_append, List.length_singleton]
              clear hk7
              go_upto_region 27 with fail
              have hS0 : PcS wr.heap.size c w7.drew := hDr HC7.out
              have HD7 : Hid (Kr w w7.drew [wr.heap.size] p lp dp (rs ++ [c.rcd]) M M b g1 g2 g f tt (4 * rs.length)) := HK7.out.later (bD bR)
              refine wp_region_held_drew (S := PcS wr.heap.size c) (by kernel_rfl) hS0 (fun hHeld => ?_)
              clear hS0 HC7 HK7
              refine wpAnyH_take (i := 0) (oi := ⟨some 130, _, _, _, _, _⟩) (v := ?_) rfl (by kernel_rfl) (by kernel_rfl) (by kernel_rfl) (fun _ _ _ h => h) (Or.inl ⟨by rfl, ?_⟩) hHeld ?_
              rotate_left
              · intro w' hSw
                obtain ⟨ck, ci, cp, cr⟩ := pc_at hSw
                go_simp
                try with_reducible rfl
                try omega
              simp only [Act.put, List.setIfInBounds_toArray, List.set_cons_zero, List.set_cons_succ]
              refine wpAnyH_take (i := 1) (oi := ⟨some 131, _, _, _, _, _⟩) (v := ?_) rfl (by kernel_rfl) (by kernel_rfl) (by kernel_rfl) (fun _ _ _ h => h) (Or.inl ⟨by rfl, ?_⟩) hHeld ?_
              rotate_left
              · intro w' hSw
                obtain ⟨ck, ci, cp, cr⟩ := pc_at hSw
                go_simp
                try with_reducible rfl
                try omega
              simp only [Act.put, List.setIfInBounds_toArray, List.set_cons_zero, List.set_cons_succ]
              refine wpAnyH_take (i := 2) (oi := ⟨some 132, _, _, _, _, _⟩) (v := ?_) rfl (by kernel_rfl) (by kernel_rfl) (by kernel_rfl) (fun _ _ _ h => h) (Or.inl ⟨by rfl, ?_⟩) hHeld ?_
              rotate_left
              · intro w' hSw
                obtain ⟨ck, ci, cp, cr⟩ := pc_at hSw
                go_simp
                try with_reducible rfl
                try omega
              simp only [Act.put, List.setIfInBounds_toArray, List.set_cons_zero, List.set_cons_succ]
              refine wpAnyH_take (i := 3) (oi := ⟨some 133, _, _, _, _, _⟩) (v := ?_) rfl (by kernel_rfl) (by kernel_rfl) (by kernel_rfl) (fun _ _ _ h => h) (Or.inl ⟨by rfl, ?_⟩) hHeld ?_
              rotate_left
              · intro w' hSw
                obtain ⟨ck, ci, cp, cr⟩ := pc_at hSw
                go_simp
                try with_reducible rfl
                try omega
              simp only [Act.put, List.setIfInBounds_toArray, List.set_cons_zero, List.set_cons_succ]
              refine wpAnyH_take (i := 4) (oi := ⟨some 134, _, _, _, _, _⟩) (v := .agg (pgC c.pg)) rfl (by kernel_rfl) (by kernel_rfl) (by kernel_rfl) (fun _ _ _ h => h) (yieldsIf_load_mid (by rfl) _ _ rfl wr.heap.size 2 rfl (pgC c.pg).toList _ (fun _ h => (pc_at h).2.2.1) Tryz.underlying49 rfl (by kernel_rfl)) hHeld ?_
              simp only [Act.put, List.setIfInBounds_toArray, List.set_cons_zero, List.set_cons_succ]
              refine wpAnyH_take (i := 5) (oi := ⟨some 135, _, _, _, _, _⟩) (v := ?_) rfl (by kernel_rfl) (by kernel_rfl) (by kernel_rfl) (fun _ _ _ h => h) (Or.inl ⟨by rfl, ?_⟩) hHeld ?_
              rotate_left
              · intro w' hSw
                obtain ⟨ck, ci, cp, cr⟩ := pc_at hSw
                go_simp
                try with_reducible rfl
                try omega
              simp only [Act.put, List.setIfInBounds_toArray, List.set_cons_zero, List.set_cons_succ]
              refine wpAnyH_take (i := 7) (oi := ⟨some 137, _, _, _, _, _⟩) (v := ?_) rfl (by kernel_rfl) (by kernel_rfl) (by kernel_rfl) (fun _ _ _ h => h) (Or.inl ⟨by rfl, ?_⟩) hHeld ?_
              rotate_left
              · intro w' hSw
                obtain ⟨ck, ci, cp, cr⟩ := pc_at hSw
                go_simp
                try with_reducible rfl
                try omega
              simp only [Act.put, List.setIfInBounds_toArray, List.set_cons_zero, List.set_cons_succ]
              refine wpAnyH_take (i := 8) (oi := ⟨some 138, _, _, _, _, _⟩) (v := ?_) rfl (by kernel_rfl) (by kernel_rfl) (by kernel_rfl) (fun _ _ _ h => h) (Or.inl ⟨by rfl, ?_⟩) hHeld ?_
              rotate_left
              · intro w' hSw
                obtain ⟨ck, ci, cp, cr⟩ := pc_at hSw
                go_simp
                try with_reducible rfl
                try omega
              simp only [Act.put, List.setIfInBounds_toArray, List.set_cons_zero, List.set_cons_succ]
              refine wpAnyH_take (i := 9) (oi := ⟨some 139, _, _, _, _, _⟩) (v := ?_) rfl (by kernel_rfl) (by kernel_rfl) (by kernel_rfl) (fun _ _ _ h => h) (Or.inl ⟨by rfl, ?_⟩) hHeld ?_
              rotate_left
              · intro w' hSw
                obtain ⟨ck, ci, cp, cr⟩ := pc_at hSw
                go_simp
                try with_reducible rfl
                try omega
              simp only [Act.put, List.setIfInBounds_toArray, List.set_cons_zero, List.set_cons_succ]
              refine wpAnyH_take (i := 10) (oi := ⟨some 140, _, _, _, _, _⟩) (v := ?_) rfl (by kernel_rfl) (by kernel_rfl) (by kernel_rfl) (fun _ _ _ h => h) (Or.inl ⟨by rfl, ?_⟩) hHeld ?_
              rotate_left
              · intro w' hSw
                obtain ⟨ck, ci, cp, cr⟩ := pc_at hSw
                go_simp
                try with_reducible rfl
                try omega
              simp only [Act.put, List.setIfInBounds_toArray, List.set_cons_zero, List.set_cons_succ]
              refine wpAnyH_take (i := 11) (oi := ⟨some 141, _, _, _, _, _⟩) (v := .agg (pgC c.pg)) rfl (by kernel_rfl) (by kernel_rfl) (by kernel_rfl) (fun _ _ _ h => h) (yieldsIf_load_mid (by rfl) _ _ rfl wr.heap.size 2 rfl (pgC c.pg).toList _ (fun _ h => (pc_at h).2.2.1) Tryz.underlying49 rfl (by kernel_rfl)) hHeld ?_
              simp only [Act.put, List.setIfInBounds_toArray, List.set_cons_zero, List.set_cons_succ]
              refine wpAnyH_take (i := 12) (oi := ⟨some 142, _, _, _, _, _⟩) (v := ?_) rfl (by kernel_rfl) (by kernel_rfl) (by kernel_rfl) (fun _ _ _ h => h) (Or.inl ⟨by rfl, ?_⟩) hHeld ?_
              rotate_left
              · intro w' hSw
                obtain ⟨ck, ci, cp, cr⟩ := pc_at hSw
                go_simp
                try with_reducible rfl
                try omega
              simp only [Act.put, List.setIfInBounds_toArray, List.set_cons_zero, List.set_cons_succ]
              refine wpAnyH_ready (rs := [6]) (by kernel_rfl) (by simp) ?_
              refine AllReadyH.cons (o := ⟨some 136, _, _, _, _, _⟩) rfl (fun K hK => ?_) AllReadyH.nil
              · skip
                go_simp
                go_at_call 27
                have HPt := Lib.hid (kr_put HD7.out (by rw [hlen.out]; omega) c.id c.pg hpc.1 ((54 + lenL rs : Nat) : Int) (by have := hcount.out.2.1; omega))
                unfold pgV at HPt
                refine (HPt.out).mono ?_
                rintro e w8 ⟨c8, M8, rfl, hk8, hK8, hr8⟩
                have HC8 : Hid (PcS wr.heap.size c w8) := hK8.keep HC7d.out (fun h => h.2 (by simp))
                have HK8 := Lib.hid hk8
                clear hk8 hK8 HPt HD7
                go_wp2_with fail
                refine hK.out _ _ HC8.out (fun hHeld => ?_)
                clear hK K
                try simp only [Act.put, List.setIfInBounds_toArray, List.set_cons_zero, List.set_cons_succ]
                refine wpAnyH_ready (rs := [13]) (by kernel_rfl) (by simp) ?_
                refine AllReadyH.cons (o := ⟨some 143, _, _, _, _, _⟩) rfl (fun K hK => ?_) AllReadyH.nil
                go_simp
                go_at_call 28
                have HPr := Lib.hid (kr_rput HK8.out (fun k hk => by rw [List.mem_singleton.1 hk]; exact ⟨hwr.out, hrl.out⟩) c.id c.pg hpc.1 ((54 + lenL rs : Nat) : Int) (by omega))
                unfold pgV at HPr
                refine (HPr.out).mono ?_
                rintro e w9 ⟨c9, M9, rfl, hk9, hK9, hr9⟩
                have HC9 : Hid (PcS wr.heap.size c w9) := hK9.keep HC8.out (fun h => h.2 (by simp))
                obtain ⟨rfl, rfl⟩ : c9 = c8 ∧ M9 = M8 := by rcases hr8 with ⟨q1, q2, q3⟩ | ⟨q1, q2, q3⟩ <;> rcases hr9 with ⟨q4, q5, q6⟩ | ⟨q4, q5, q6⟩ <;> first | (exact absurd q1 q4) | (exact absurd q4 q1) | (exact ⟨by rw [q2, q5], by rw [q3, q6]⟩)
                have HK9 : Hid (Kr w w9 [] p lp dp (rs ++ [c.rcd]) M9 M9 b g1 g2 g f tt (4 * (rs ++ [c.rcd]).length)) := (hk9.less [] (fun q hq => by simp at hq)).mono (by rw [hlen.out]; omega) (by omega)
                have hcc : (c9 != c9) = false := by simp
                clear hk9 hK9 HPr HK8 HC8 hr8 hr9
                go_wp2_with fail
                refine hK.out _ _ HC9.out (fun hHeld => ?_)
                clear hK K
                try simp only [Act.put, List.setIfInBounds_toArray, List.set_cons_zero, List.set_cons_succ]
                refine wpAnyH_take (i := 14) (oi := ⟨some 144, _, _, _, _, _⟩) (v := .bool false) rfl (by kernel_rfl) (by kernel_rfl) (by kernel_rfl) (fun _ _ _ h => h) (Or.inl ⟨by rfl, ?_⟩) hHeld ?_
                · intro w' hSw
                  clear hSw
                  go_simp
                  try with_reducible rfl
                simp only [Act.put, List.setIfInBounds_toArray, List.set_cons_zero, List.set_cons_succ]
                clear hHeld
                refine wpAnyH_done (by kernel_rfl) ?_ _
                go_wp2_with fail
                go_meet
                exact ⟨rs ++ [c.rcd], _, HK9⟩
          · have d1 : (c.kind == 1) = false := by simpa using k1
            replace k1 := Lib.hid k1
            have HFl := Lib.hid (kr_flush HK6.out)
            clear ck ci cp cr
            go_wp2_with fail
            refine (HFl.out).mono ?_
            rintro e w7 ⟨rfl, hk7, -⟩
            have HK7 := Lib.hid hk7
            have HDr := Lib.hid (kr_dirty hk7)
            clear hk7 HFl HK6 HC6
            go_wp2_with fail
            refine (HDr.out).mono ?_
            rintro e w8 ⟨da, dc, m, rfl, hb8, hmf, hm0⟩
            obtain rfl := hm0 (by first | exact trivial | rfl)
            have HK8 := Lib.hid (HK7.out.later hb8)
            have HTh := Lib.hid (kr_there HK8.out rfl hgN.out.2)
            clear hb8 hmf hm0 HK7 HDr
            go_wp2_with fail
            refine (HTh.out).mono ?_
            rintro e w9 ⟨rfl, hb9⟩
            have HK9 := Lib.hid (((HK8.out.later hb9).all).less [] (fun q hq => by simp at hq))
            clear hb9 HK8 HTh
            go_wp2_with fail
            go_meet
            exact ⟨rs, M, HK9⟩
      case rest =>
        clear HK6 ck ci cp cr HC6 HRg hcount hone hCl hCs hszz hwr hrl
        obtain ⟨rs, M, HK⟩ := hcut
        have HDr := Lib.hid (kr_dirty HK.out)
        go_wp2_with fail
        refine (HDr.out).mono ?_
        rintro e w6 ⟨da, dc, m, rfl, hb, hmf, -⟩
        have HK6 := Lib.hid (HK.out.later hb)
        have bf : decide ((f : Int) < m) = false := by apply decide_eq_false; omega
        have bfn : decide (f < m) = false := by apply decide_eq_false; omega
        clear hb HK HDr
        go_wp2_with fail
        go_roundw
        case rel => exact ⟨j + 1, by have := hj.out; omega, rfl, rs, M, HK6⟩
        case measure => simp [intOf]; omega
    · obtain rfl : j = n := by omega
      have hlt : ¬ (j : Int) < j := by omega
      go_wp2_with fail
      go_loopw [152] (fun x wx => ∃ (i : Nat), i ≤ g ∧ x = .int .i64 i ∧ Hid (Kr w wx [] p lp dp rs M M b g1 g2 g f tt (4 * rs.length))) (fun x _ => g - (intOf x).toNat)
      case atStart => exact ⟨0, by omega, rfl, HK⟩
      case round =>
        clear HK
        obtain ⟨i, hi, rfl, HK⟩ := hrel
        by_cases hin : i < g
        · have hiI : (i : Int) < g := by omega
          have hi0 : (0 : Int) ≤ i := by omega
          have hiw : IntKind.i64.wrap ((i : Int) + 1) = (i : Int) + 1 := by have := hgN.out; rw [IntKind.wrap_i64]; omega
          have HG := Lib.hid (kr_get HK.out (i : Int))
          unfold pgV at HG
          replace hi := Lib.hid hi
          go_wp2_with fail
          refine (HG.out).mono ?_
          rintro e w7 ⟨Q, cd, rfl, hk7, hK7, hr7⟩
          obtain ⟨rfl, hQ⟩ : cd = 0 ∧ pgC Q = pgC (M i).1 := by
            rcases hr7 with ⟨q1, q2, q3, q4⟩ | ⟨q1, q2, q3⟩
            · exact ⟨q3, by rw [q4, Int.toNat_natCast]⟩
            · omega
          have HK7 := Lib.hid hk7
          have HN7 : Hid ((w7.alloc (.cells (pgC pageZ) 49)).heap[w7.heap.size]? = some (.cells (pgC pageZ) 49 (0, 0))) := hN rfl
          replace hQ := Lib.hid hQ
          clear hk7 hK7 HG HK hr7
          go_wp2_with (refine wpList_store_whole rfl 49 _ _ rfl _ (pgC Q) rfl rfl _ (pgC pageZ) HN7.out rfl (by kernel_rfl) (pgC_one _) ?_; intro w8 HX8 K8; (have HK8 := Lib.hid (HK7.out.later ((((Keeps.refl (fun _ => False) w7).alloc _).trans K8.out (fun q hq e => by omega)).below))); clear HN7 K8 HK7)
          have HG2 := Lib.hid (rf_get HK8.out.rf (i : Int))
          unfold pgV at HG2
          refine (HG2.out).mono ?_
          rintro e w9 ⟨Q2, cd2, rfl, hb9, hr9⟩
          obtain ⟨rfl, hQ2⟩ : cd2 = 0 ∧ Q2 = (M i).1 := by
            rcases hr9 with ⟨q1, q2, q3, q4⟩ | ⟨q1, q2, q3⟩
            · exact ⟨q3, by rw [q4, Int.toNat_natCast]⟩
            · omega
          have HK9 := Lib.hid (HK8.out.later hb9)
          have HX9 := Lib.hid (hBs hb9 HX8.out)
          have HN9 : Hid ((w9.alloc (.cells (pgC pageZ) 49)).heap[w9.heap.size]? = some (.cells (pgC pageZ) 49 (0, 0))) := hN rfl
          have hlt9 : Hid (w7.heap.size < w9.heap.size) := block_lt HX9.out
          have hne : Hid ((!eqPg Q Q2) = false) := by show _ = _; rw [eqPg_same (by rw [hQ.out, hQ2])]; rfl
          replace hQ2 := Lib.hid hQ2
          clear hb9 hr9 HG2 HK8 HX8
          go_wp2_with (first
            | (refine wpList_store_whole rfl 49 _ _ rfl _ (pgC Q2) rfl rfl _ (pgC pageZ) HN9.out rfl (by kernel_rfl) (pgC_one _) ?_; intro wA HYA KA; (have HXA := Lib.hid (KA.keep (hO HX9.out) (by have := hlt9.out; omega))); (have HKA := Lib.hid (HK9.out.later ((((Keeps.refl (fun _ => False) w9).alloc _).trans KA.out (fun q hq e => by omega)).below))); clear HN9 KA HK9 HX9)
            | (refine wpList_load_want (by rfl) 49 _ rfl _ rfl 49 _ _ _ HXA.out Tryz.underlying49 rfl (by kernel_rfl) ?_)
            | (refine wpList_load_want (by rfl) 49 _ rfl _ rfl 49 _ _ _ HYA.out Tryz.underlying49 rfl (by kernel_rfl) ?_)
            | (refine wpList_ne_pg (by rfl) _ _ _ rfl Q Q2 false hne.out rfl rfl ?_))
          go_roundw
          case rel => exact ⟨i + 1, by omega, rfl, HKA⟩
          case measure => simp [intOf]; omega
        · obtain rfl : i = g := by omega
          have hlt2 : ¬ (i : Int) < i := by omega
          have HFl := Lib.hid (kr_flush HK.out)
          go_wp2_with fail
          refine (HFl.out).mono ?_
          rintro e w7 ⟨rfl, hk7, -⟩
          have HK7 := Lib.hid hk7
          have HTh := Lib.hid (kr_there hk7 rfl hgN.out.2)
          clear hk7 HFl HK
          go_wp2_with fail
          refine (HTh.out).mono ?_
          rintro e w9 ⟨rfl, hb9⟩
          have HB9 := Lib.hid (bT HK7.out.bel hb9)
          clear hb9 HK7 HTh
          go_wp2_with fail
          go_ret
          exact ⟨rfl, HB9.out⟩
end Go.Proofs.YtimomjheanfbmaaGreatDoor

namespace Go.Proofs.YtimomjheanfbmaaGreatDoor
open Go.RowKit
theorem poolRuns_walk (pgs fr : Int) (v : Value) (cs : List PCall) (w : World) (h : CallsIs w v cs) :
    Calls Tryz.prog 4 #[.int .i64 pgs, .int .i64 fr, v] w fun e w' => e = .returned (.bool true) ∧ Below w.heap.size w w' := by
  by_cases hbad : 64 < pgs ∨ pgs < 1 ∨ fr < 4 ∨ 256 < fr
  · exact poolRuns_bad pgs fr v cs w h hbad
  · obtain ⟨g, rfl⟩ : ∃ g : Nat, pgs = g := ⟨pgs.toNat, by omega⟩
    obtain ⟨f, rfl⟩ : ∃ f : Nat, fr = f := ⟨fr.toNat, by omega⟩
    exact poolRuns_good g f (by omega) (by omega) v cs w h
end Go.Proofs.YtimomjheanfbmaaGreatDoor
