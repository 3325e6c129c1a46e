import Derived.Test.YtgeoblejfkoldaaLawG
import Derived.BigRegion
import Derived.BigQuiet
set_option linter.unusedSimpArgs false
set_option linter.unusedVariables false
namespace Go.Proofs.Ytgeoblejfkoldaa
open Go.RowKit

theorem leS_inj (m n : Int) (hm : 0 ≤ m ∧ m ≤ 18446744073709551615) (hn : 0 ≤ n ∧ n ≤ 18446744073709551615) (h : leS m 8 = leS n 8) : m = n := by
  have h1 := valS_leS m 8 hm.1 (by omega)
  have h2 := valS_leS n 8 hn.1 (by omega)
  rw [← h1, ← h2, h]
theorem frOpen_mix (b0 b1 b2 b3 : ByteArray) (s0 s1 s2 s3 : Int) (h0 : b0.size = 224) (h1 : b1.size = 224) (h2 : b2.size = 224) (h3 : b3.size = 224)
    (r0 : 0 ≤ s0 ∧ s0 ≤ 18446744073709551615) (r1 : 0 ≤ s1 ∧ s1 ≤ 18446744073709551615) (r2 : 0 ≤ s2 ∧ s2 ≤ 18446744073709551615) (r3 : 0 ≤ s3 ∧ s3 ≤ 18446744073709551615) :
    ((s1 = s0 ∧ s2 = s0 ∧ s3 = s0) → ∃ t, frOpen (sec b0 s0 0) (sec b1 s1 1) (sec b2 s2 2) (sec b3 s3 3) = (t, s0, 0)) ∧
    (¬ (s1 = s0 ∧ s2 = s0 ∧ s3 = s0) → frOpen (sec b0 s0 0) (sec b1 s1 1) (sec b2 s2 2) (sec b3 s3 3) = (⟨#[]⟩, 0, 30)) := by
  have z0 := sec_size b0 s0 0 h0 (by omega)
  have z1 := sec_size b1 s1 1 h1 (by omega)
  have z2 := sec_size b2 s2 2 h2 (by omega)
  have z3 := sec_size b3 s3 3 h3 (by omega)
  have t0 := sec_tl b0 s0 0 h0 (by omega)
  have t1 := sec_tl b1 s1 1 h1 (by omega)
  have t2 := sec_tl b2 s2 2 h2 (by omega)
  have t3 := sec_tl b3 s3 3 h3 (by omega)
  have key : ∀ (x y : ByteArray) (s t : Int), tl x = leS s 8 → tl y = leS t 8 → (0 ≤ s ∧ s ≤ 18446744073709551615) → (0 ≤ t ∧ t ≤ 18446744073709551615) → tlSame x y = decide (s = t) := by
    intro x y s t hx hy hs ht
    rw [tlSame_eq, hx, hy]
    by_cases h : s = t
    · subst h; simp
    · have : (leS s 8).toList ≠ (leS t 8).toList := by
        intro he
        apply h
        apply leS_inj s t hs ht
        rw [ByteArray.toList_eq, ByteArray.toList_eq] at he
        have := Array.toList_inj.1 he
        cases hA : leS s 8; cases hB : leS t 8; simp_all
      rw [beq_eq_false_iff_ne.2 this]; simp [h]
  have k1 := key _ _ _ _ t1 t0 r1 r0
  have k2 := key _ _ _ _ t2 t0 r2 r0
  have k3 := key _ _ _ _ t3 t0 r3 r0
  have hv := valS_leS s0 8 r0.1 (by omega)
  unfold frOpen
  constructor
  · rintro ⟨rfl, rfl, rfl⟩
    simp [z0, z1, z2, z3, k1, k2, k3, t0, hv]
  · intro hne
    by_cases e1 : s1 = s0 <;> by_cases e2 : s2 = s0 <;> by_cases e3 : s3 = s0 <;> simp_all
def mixR (A B : ByteArray) (one two : Int) (m0 m1 m2 m3 : Bool) : ByteArray × Int × Int :=
  frOpen (cond m0 (sec B two 0) (sec A one 0)) (cond m1 (sec B two 1) (sec A one 1)) (cond m2 (sec B two 2) (sec A one 2)) (cond m3 (sec B two 3) (sec A one 3))
/-- what a mixed page opens as -/
def MixSays (A B : ByteArray) (one two : Int) (m0 m1 m2 m3 : Bool) (r : ByteArray × Int × Int) : Prop :=
  (m0 = false ∧ m1 = false ∧ m2 = false ∧ m3 = false ∧ r = (A, one, 0)) ∨ (m0 = true ∧ m1 = true ∧ m2 = true ∧ m3 = true ∧ r = (B, two, 0)) ∨
  (¬ (m0 = false ∧ m1 = false ∧ m2 = false ∧ m3 = false) ∧ ¬ (m0 = true ∧ m1 = true ∧ m2 = true ∧ m3 = true) ∧ ((one ≠ two ∧ r = (⟨#[]⟩, 0, 30)) ∨ (one = two ∧ ∃ t, r = (t, one, 0))))
theorem mix_says (A B : ByteArray) (one two : Int) (m0 m1 m2 m3 : Bool) (hA : A.size = 224) (hB : B.size = 224) (h1 : 0 ≤ one ∧ one ≤ 18446744073709551615) (h2 : 0 ≤ two ∧ two ≤ 18446744073709551615) :
    MixSays A B one two m0 m1 m2 m3 (mixR A B one two m0 m1 m2 m3) := by
  unfold MixSays mixR
  by_cases hf : m0 = false ∧ m1 = false ∧ m2 = false ∧ m3 = false
  · obtain ⟨rfl, rfl, rfl, rfl⟩ := hf
    exact .inl ⟨rfl, rfl, rfl, rfl, frOpen_sec A one hA h1.1 (by omega)⟩
  by_cases ht : m0 = true ∧ m1 = true ∧ m2 = true ∧ m3 = true
  · obtain ⟨rfl, rfl, rfl, rfl⟩ := ht
    exact .inr (.inl ⟨rfl, rfl, rfl, rfl, frOpen_sec B two hB h2.1 (by omega)⟩)
  refine .inr (.inr ⟨hf, ht, ?_⟩)
  have hc : ∀ (m : Bool) (i : Nat), cond m (sec B two i) (sec A one i) = sec (cond m B A) (cond m two one) i := fun m i => by cases m <;> rfl
  rw [hc, hc, hc, hc]
  have hz : ∀ m : Bool, (cond m B A).size = 224 := fun m => by cases m <;> assumption
  have hr : ∀ m : Bool, 0 ≤ cond m two one ∧ cond m two one ≤ 18446744073709551615 := fun m => by cases m <;> assumption
  have key := frOpen_mix _ _ _ _ _ _ _ _ (hz m0) (hz m1) (hz m2) (hz m3) (hr m0) (hr m1) (hr m2) (hr m3)
  generalize frOpen (sec (cond m0 B A) (cond m0 two one) 0) (sec (cond m1 B A) (cond m1 two one) 1) (sec (cond m2 B A) (cond m2 two one) 2) (sec (cond m3 B A) (cond m3 two one) 3) = r at key ⊢
  by_cases he : one = two
  · subst he
    have hs : ∀ m : Bool, cond m one one = one := fun m => by cases m <;> rfl
    rw [hs m0, hs m1, hs m2, hs m3] at key
    exact .inr ⟨rfl, key.1 ⟨rfl, rfl, rfl⟩⟩
  · refine .inl ⟨he, key.2 ?_⟩
    clear key
    intro hh
    cases m0 <;> cases m1 <;> cases m2 <;> cases m3 <;> simp_all
def bn (b : Bool) : Int := cond b 1 0
def mixC (m0 m1 m2 m3 : Bool) : Nat → Int
  | 0 => 0
  | 1 => bn m0
  | 2 => bn m0 + bn m1
  | 3 => bn m0 + bn m1 + bn m2
  | _ => bn m0 + bn m1 + bn m2 + bn m3
def mixZ (m0 m1 m2 m3 : Bool) (X0 X1 X2 X3 Y0 Y1 Y2 Y3 : ByteArray) (j : Nat) : Array Value :=
  #[.string (cond (decide (0 < j)) (cond m0 Y0 X0) X0), .string (cond (decide (1 < j)) (cond m1 Y1 X1) X1), .string (cond (decide (2 < j)) (cond m2 Y2 X2) X2), .string (cond (decide (3 < j)) (cond m3 Y3 X3) X3)]
def nth4 {α : Type} (a b c d : α) : Nat → α
  | 0 => a
  | 1 => b
  | 2 => c
  | _ => d
theorem mixC_step (m0 m1 m2 m3 : Bool) (j : Nat) (hj : j < 4) : 0 ≤ mixC m0 m1 m2 m3 j ∧ mixC m0 m1 m2 m3 j ≤ 4 ∧ mixC m0 m1 m2 m3 (j + 1) = mixC m0 m1 m2 m3 j + bn (nth4 m0 m1 m2 m3 j) := by
  have key : ∀ (m0 m1 m2 m3 : Bool) (j : Fin 4), 0 ≤ mixC m0 m1 m2 m3 j ∧ mixC m0 m1 m2 m3 j ≤ 4 ∧ mixC m0 m1 m2 m3 (j + 1) = mixC m0 m1 m2 m3 j + bn (nth4 m0 m1 m2 m3 j) := by decide
  exact key m0 m1 m2 m3 ⟨j, hj⟩
theorem mixZ_step (m0 m1 m2 m3 : Bool) (X0 X1 X2 X3 Y0 Y1 Y2 Y3 : ByteArray) (j : Nat) (hj : j < 4) :
    (nth4 m0 m1 m2 m3 j = false → mixZ m0 m1 m2 m3 X0 X1 X2 X3 Y0 Y1 Y2 Y3 j = mixZ m0 m1 m2 m3 X0 X1 X2 X3 Y0 Y1 Y2 Y3 (j + 1)) ∧
    (nth4 m0 m1 m2 m3 j = true → mixZ m0 m1 m2 m3 X0 X1 X2 X3 Y0 Y1 Y2 Y3 (j + 1) = (mixZ m0 m1 m2 m3 X0 X1 X2 X3 Y0 Y1 Y2 Y3 j).setIfInBounds j (.string (nth4 Y0 Y1 Y2 Y3 j))) := by
  have : j = 0 ∨ j = 1 ∨ j = 2 ∨ j = 3 := by omega
  rcases this with rfl | rfl | rfl | rfl <;> constructor <;> (intro h; simp only [nth4] at h; subst h; simp [mixZ, nth4])
theorem mixC_ends (m0 m1 m2 m3 : Bool) : 0 ≤ mixC m0 m1 m2 m3 4 ∧ mixC m0 m1 m2 m3 4 ≤ 4 ∧ (mixC m0 m1 m2 m3 4 = 0 ↔ (m0 = false ∧ m1 = false ∧ m2 = false ∧ m3 = false)) ∧ (mixC m0 m1 m2 m3 4 = 4 ↔ (m0 = true ∧ m1 = true ∧ m2 = true ∧ m3 = true)) := by
  cases m0 <;> cases m1 <;> cases m2 <;> cases m3 <;> decide
theorem bn_pos (b : Bool) : 0 ≤ bn b ∧ bn b ≤ 1 := by cases b <;> decide
set_option maxRecDepth 100000 in
set_option maxHeartbeats 6400000 in
theorem back_ok (A B : ByteArray) (one two : Int) (m0 m1 m2 m3 : Bool) (hA : A.size = 224) (hB : B.size = 224) (h1 : 0 ≤ one ∧ one ≤ 18446744073709551615) (h2 : 0 ≤ two ∧ two ≤ 18446744073709551615) (w : World) :
    Calls Try.prog 4 #[.agg #[.string A, .string B, .int .u64 one, .int .u64 two, .bool m0, .bool m1, .bool m2, .bool m3]] w fun e w' => e = .returned (.bool true) ∧ Below w.heap.size w w' := by
  have N1 := Lib.hid (frm_seal_ok A one hA h1.1)
  have N2 := Lib.hid (frm_seal_ok B two hB h2.1)
  have z0 := sec_size A one 0 hA (by omega)
  have z1 := sec_size A one 1 hA (by omega)
  have z2 := sec_size A one 2 hA (by omega)
  have z3 := sec_size A one 3 hA (by omega)
  have y0 := sec_size B two 0 hB (by omega)
  have y1 := sec_size B two 1 hB (by omega)
  have y2 := sec_size B two 2 hB (by omega)
  have y3 := sec_size B two 3 hB (by omega)
  have O1 := Lib.hid (frm_open (sec A one 0) (sec A one 1) (sec A one 2) (sec A one 3) (by rw [z0]; decide) (by rw [z1]; decide) (by rw [z2]; decide) (by rw [z3]; decide))
  rw [frOpen_sec A one hA h1.1 (by omega)] at O1
  have O2 := Lib.hid (frm_open (cond m0 (sec B two 0) (sec A one 0)) (cond m1 (sec B two 1) (sec A one 1)) (cond m2 (sec B two 2) (sec A one 2)) (cond m3 (sec B two 3) (sec A one 3))
    (by cases m0 <;> simp [z0, y0] <;> decide) (by cases m1 <;> simp [z1, y1] <;> decide) (by cases m2 <;> simp [z2, y2] <;> decide) (by cases m3 <;> simp [z3, y3] <;> decide))
  have E := Lib.hid (mix_says A B one two m0 m1 m2 m3 hA hB h1 h2)
  unfold mixR at E
  generalize frOpen (cond m0 (sec B two 0) (sec A one 0)) (cond m1 (sec B two 1) (sec A one 1)) (cond m2 (sec B two 2) (sec A one 2)) (cond m3 (sec B two 3) (sec A one 3)) = r at O2 E
  generalize sec A one 0 = X0 at *
  generalize sec A one 1 = X1 at *
  generalize sec A one 2 = X2 at *
  generalize sec A one 3 = X3 at *
  generalize sec B two 0 = Y0 at *
  generalize sec B two 1 = Y1 at *
  generalize sec B two 2 = Y2 at *
  generalize sec B two 3 = Y3 at *
  clear z0 z1 z2 z3 y0 y1 y2 y3
  go_enter Try.func4, Try.ntmps4
  go_wp2_with fail
  go_region
  go_wp2_with fail
  refine (awake03 _).mono ?_
  rintro e w1 ⟨rfl, hb1⟩
  have b0 := hBs hb1 (hDr (hN (n := w.heap.size + 1) (by simp)))
  have HB1 := Lib.hid (bT (bD (bA (bA bR))) hb1)
  have B0 := Lib.hid b0
  have hz1 : w.heap.size + 1 < w1.heap.size := block_lt b0
  clear hb1 b0
  go_wp2_with fail
  refine (N1.out _).mono ?_
  rintro e w2 ⟨rfl, hb2⟩
  have B0 := Lib.hid (hBs hb2 B0.out)
  have HB2 := Lib.hid (bT HB1.out hb2)
  have hz2 : w.heap.size + 1 < w2.heap.size := block_lt B0.out
  clear hb2
  go_wp2_with fail
  refine (N2.out _).mono ?_
  rintro e w3 ⟨rfl, hb3⟩
  have B0 := Lib.hid (hBs hb3 (hO B0.out))
  have B1 := Lib.hid (hBs hb3 (hN rfl))
  have HB3 := Lib.hid (bT (bA HB2.out) hb3)
  clear hb3
  have hz3 := block_lt B0.out
  have hz4 := block_lt B1.out
  have c10 := cell_at B1.out 0
  have c11 := cell_at B1.out 1
  have c12 := cell_at B1.out 2
  have c13 := cell_at B1.out 3
  go_wp2_with fail
  refine (O1.out _).mono ?_
  rintro e w4 ⟨rfl, hb4⟩
  have B0 := Lib.hid (hBs hb4 (hO B0.out))
  have B1 := Lib.hid (hBs hb4 (hO B1.out))
  have B2 := Lib.hid (hBs hb4 (hN rfl))
  have HB4 := Lib.hid (bT (bA HB3.out) hb4)
  have hz5 := block_lt B0.out
  have hz6 := block_lt B1.out
  have hz7 := block_lt B2.out
  clear hb4 c10 c11 c12 c13
  have c10 := cell_at B1.out 0
  have c11 := cell_at B1.out 1
  have c12 := cell_at B1.out 2
  have c13 := cell_at B1.out 3
  have c20 := cell_at B2.out 0
  have c21 := cell_at B2.out 1
  have c22 := cell_at B2.out 2
  have c23 := cell_at B2.out 3
  go_wp2_with fail
  have hz8 : w.heap.size ≤ w4.heap.size := HB4.out.size
  go_loopw [16, 91] (fun c i wr => ∃ j : Nat, j ≤ 4 ∧ i = .int .i64 j ∧ c = .int .i64 (mixC m0 m1 m2 m3 j) ∧ Hid (wr.heap[w4.heap.size]? = some (.cells (mixZ m0 m1 m2 m3 X0 X1 X2 X3 Y0 Y1 Y2 Y3 j) 23 (0, 0))) ∧
    Hid (wr.heap[w.heap.size + 1]? = some (.cells #[.bool m0, .bool m1, .bool m2, .bool m3] 35 (0, 0))) ∧ Hid (wr.heap[w3.heap.size]? = some (.cells #[.string Y0, .string Y1, .string Y2, .string Y3] 23 (0, 0))) ∧ Below w.heap.size w wr) (fun _ i _ => 4 - (intOf i).toNat)
  case atStart => exact ⟨0, by omega, rfl, rfl, Lib.hid (hN rfl), Lib.hid (hO B0.out), Lib.hid (hO B2.out), bA HB4.out⟩
  case round =>
    obtain ⟨j, hj, rfl, rfl, RZ, R0, R2, hbr⟩ := hrel
    have HBr := Lib.hid hbr
    clear hbr c10 c11 c12 c13 c20 c21 c22 c23 N1 N2 O1 B1 HB1 HB2 HB3 hA hB h1 h2 hz1 hz2 hz3 hz4
    have c20 := cell_at R2.out 0
    have c21 := cell_at R2.out 1
    have c22 := cell_at R2.out 2
    have c23 := cell_at R2.out 3
    have c00 := cell_at R0.out 0
    have c01 := cell_at R0.out 1
    have c02 := cell_at R0.out 2
    have c03 := cell_at R0.out 3
    have f0 := free_at RZ.out 0
    have f1 := free_at RZ.out 1
    have f2 := free_at RZ.out 2
    have f3 := free_at RZ.out 3
    have hj' : j = 0 ∨ j = 1 ∨ j = 2 ∨ j = 3 ∨ j = 4 := by omega
    rcases hj' with rfl | rfl | rfl | rfl | rfl
    · have z0 := cell_at RZ.out 0
      have hcb : 0 ≤ mixC m0 m1 m2 m3 0 ∧ mixC m0 m1 m2 m3 0 ≤ 4 ∧ mixC m0 m1 m2 m3 (0 + 1) = mixC m0 m1 m2 m3 0 + bn m0 := mixC_step m0 m1 m2 m3 0 (by omega)
      have hb0 : bn m0 = cond m0 1 0 := rfl
      have RY := Lib.hid (mixZ_step m0 m1 m2 m3 X0 X1 X2 X3 Y0 Y1 Y2 Y3 0 (by omega))
      clear c01 c21 f1 c02 c22 f2 c03 c23 f3
      generalize hc0 : mixC m0 m1 m2 m3 0 = c at *
      generalize hc1 : mixC m0 m1 m2 m3 (0 + 1) = c' at *
      obtain ⟨hcb0, hcb1, hcb2⟩ := hcb
      have hc0 := Lib.hid hc0
      have hc1 := Lib.hid hc1
      unfold mixZ at z0
      cases m0
      · simp only [cond_false] at hb0
        rw [hb0] at hcb2
        have hcb2 := Lib.hid hcb2
        clear hb0
        go_wp2_with fail
        go_roundw
        case rel => exact ⟨1, by omega, rfl, by rw [hc1.out, hcb2.out, Int.add_zero], by rw [RY.out.1 rfl] at RZ; exact RZ, R0, R2, HBr.out⟩
        case measure => simp [intOf]
      · simp only [cond_true] at hb0
        rw [hb0] at hcb2
        have hcb2 := Lib.hid hcb2
        clear hb0
        go_wp2_with fail
        go_roundw
        case rel => exact ⟨1, by omega, rfl, by rw [hc1.out, hcb2.out], Lib.hid (by rw [RY.out.2 rfl]; exact heap_set RZ.out 0 (.string Y0)), Lib.hid (hSO R0.out (by simp; omega)), Lib.hid (hSO R2.out (by simp; omega)), bS HBr.out (by simp; omega)⟩
        case measure => simp [intOf]
    · have z1 := cell_at RZ.out 1
      have hcb : 0 ≤ mixC m0 m1 m2 m3 1 ∧ mixC m0 m1 m2 m3 1 ≤ 4 ∧ mixC m0 m1 m2 m3 (1 + 1) = mixC m0 m1 m2 m3 1 + bn m1 := mixC_step m0 m1 m2 m3 1 (by omega)
      have hb1 : bn m1 = cond m1 1 0 := rfl
      have RY := Lib.hid (mixZ_step m0 m1 m2 m3 X0 X1 X2 X3 Y0 Y1 Y2 Y3 1 (by omega))
      clear c00 c20 f0 c02 c22 f2 c03 c23 f3
      generalize hc0 : mixC m0 m1 m2 m3 1 = c at *
      generalize hc1 : mixC m0 m1 m2 m3 (1 + 1) = c' at *
      obtain ⟨hcb0, hcb1, hcb2⟩ := hcb
      have hc0 := Lib.hid hc0
      have hc1 := Lib.hid hc1
      unfold mixZ at z1
      cases m1
      · simp only [cond_false] at hb1
        rw [hb1] at hcb2
        have hcb2 := Lib.hid hcb2
        clear hb1
        go_wp2_with fail
        go_roundw
        case rel => exact ⟨2, by omega, rfl, by rw [hc1.out, hcb2.out, Int.add_zero], by rw [RY.out.1 rfl] at RZ; exact RZ, R0, R2, HBr.out⟩
        case measure => simp [intOf]
      · simp only [cond_true] at hb1
        rw [hb1] at hcb2
        have hcb2 := Lib.hid hcb2
        clear hb1
        go_wp2_with fail
        go_roundw
        case rel => exact ⟨2, by omega, rfl, by rw [hc1.out, hcb2.out], Lib.hid (by rw [RY.out.2 rfl]; exact heap_set RZ.out 1 (.string Y1)), Lib.hid (hSO R0.out (by simp; omega)), Lib.hid (hSO R2.out (by simp; omega)), bS HBr.out (by simp; omega)⟩
        case measure => simp [intOf]
    · have z2 := cell_at RZ.out 2
      have hcb : 0 ≤ mixC m0 m1 m2 m3 2 ∧ mixC m0 m1 m2 m3 2 ≤ 4 ∧ mixC m0 m1 m2 m3 (2 + 1) = mixC m0 m1 m2 m3 2 + bn m2 := mixC_step m0 m1 m2 m3 2 (by omega)
      have hb2 : bn m2 = cond m2 1 0 := rfl
      have RY := Lib.hid (mixZ_step m0 m1 m2 m3 X0 X1 X2 X3 Y0 Y1 Y2 Y3 2 (by omega))
      clear c00 c20 f0 c01 c21 f1 c03 c23 f3
      generalize hc0 : mixC m0 m1 m2 m3 2 = c at *
      generalize hc1 : mixC m0 m1 m2 m3 (2 + 1) = c' at *
      obtain ⟨hcb0, hcb1, hcb2⟩ := hcb
      have hc0 := Lib.hid hc0
      have hc1 := Lib.hid hc1
      unfold mixZ at z2
      cases m2
      · simp only [cond_false] at hb2
        rw [hb2] at hcb2
        have hcb2 := Lib.hid hcb2
        clear hb2
        go_wp2_with fail
        go_roundw
        case rel => exact ⟨3, by omega, rfl, by rw [hc1.out, hcb2.out, Int.add_zero], by rw [RY.out.1 rfl] at RZ; exact RZ, R0, R2, HBr.out⟩
        case measure => simp [intOf]
      · simp only [cond_true] at hb2
        rw [hb2] at hcb2
        have hcb2 := Lib.hid hcb2
        clear hb2
        go_wp2_with fail
        go_roundw
        case rel => exact ⟨3, by omega, rfl, by rw [hc1.out, hcb2.out], Lib.hid (by rw [RY.out.2 rfl]; exact heap_set RZ.out 2 (.string Y2)), Lib.hid (hSO R0.out (by simp; omega)), Lib.hid (hSO R2.out (by simp; omega)), bS HBr.out (by simp; omega)⟩
        case measure => simp [intOf]
    · have z3 := cell_at RZ.out 3
      have hcb : 0 ≤ mixC m0 m1 m2 m3 3 ∧ mixC m0 m1 m2 m3 3 ≤ 4 ∧ mixC m0 m1 m2 m3 (3 + 1) = mixC m0 m1 m2 m3 3 + bn m3 := mixC_step m0 m1 m2 m3 3 (by omega)
      have hb3 : bn m3 = cond m3 1 0 := rfl
      have RY := Lib.hid (mixZ_step m0 m1 m2 m3 X0 X1 X2 X3 Y0 Y1 Y2 Y3 3 (by omega))
      clear c00 c20 f0 c01 c21 f1 c02 c22 f2
      generalize hc0 : mixC m0 m1 m2 m3 3 = c at *
      generalize hc1 : mixC m0 m1 m2 m3 (3 + 1) = c' at *
      obtain ⟨hcb0, hcb1, hcb2⟩ := hcb
      have hc0 := Lib.hid hc0
      have hc1 := Lib.hid hc1
      unfold mixZ at z3
      cases m3
      · simp only [cond_false] at hb3
        rw [hb3] at hcb2
        have hcb2 := Lib.hid hcb2
        clear hb3
        go_wp2_with fail
        go_roundw
        case rel => exact ⟨4, by omega, rfl, by rw [hc1.out, hcb2.out, Int.add_zero], by rw [RY.out.1 rfl] at RZ; exact RZ, R0, R2, HBr.out⟩
        case measure => simp [intOf]
      · simp only [cond_true] at hb3
        rw [hb3] at hcb2
        have hcb2 := Lib.hid hcb2
        clear hb3
        go_wp2_with fail
        go_roundw
        case rel => exact ⟨4, by omega, rfl, by rw [hc1.out, hcb2.out], Lib.hid (by rw [RY.out.2 rfl]; exact heap_set RZ.out 3 (.string Y3)), Lib.hid (hSO R0.out (by simp; omega)), Lib.hid (hSO R2.out (by simp; omega)), bS HBr.out (by simp; omega)⟩
        case measure => simp [intOf]
    · have z0 := cell_at RZ.out 0
      have z1 := cell_at RZ.out 1
      have z2 := cell_at RZ.out 2
      have z3 := cell_at RZ.out 3
      clear c00 c01 c02 c03 c20 c21 c22 c23 f0 f1 f2 f3
      simp only [mixZ, Nat.reduceLT, decide_true, cond_true] at z0 z1 z2 z3
      have hcc := mixC_ends m0 m1 m2 m3
      have hE := E.out
      generalize (cond m0 Y0 X0) = Z0 at *
      generalize (cond m1 Y1 X1) = Z1 at *
      generalize (cond m2 Y2 X2) = Z2 at *
      generalize (cond m3 Y3 X3) = Z3 at *
      generalize mixC m0 m1 m2 m3 4 = c at *
      have hE : (c = 0 ∧ r = (A, one, 0)) ∨ (c = 4 ∧ r = (B, two, 0)) ∨ (0 < c ∧ c < 4 ∧ ((one ≠ two ∧ r = (⟨#[]⟩, 0, 30)) ∨ (one = two ∧ ∃ t, r = (t, one, 0)))) := by
        rcases hE with ⟨a, b, d, e, rfl⟩ | ⟨a, b, d, e, rfl⟩ | ⟨hf, ht, hr⟩
        · exact .inl ⟨hcc.2.2.1.2 ⟨a, b, d, e⟩, rfl⟩
        · exact .inr (.inl ⟨hcc.2.2.2.2 ⟨a, b, d, e⟩, rfl⟩)
        · refine .inr (.inr ⟨?_, ?_, hr⟩)
          · have := mt hcc.2.2.1.1 hf; omega
          · have := mt hcc.2.2.2.1 ht; omega
      clear hcc E RZ R0 R2
      rcases hE with ⟨rfl, rfl⟩ | ⟨rfl, rfl⟩ | ⟨hc0, hc4, ⟨hne, rfl⟩ | ⟨rfl, t, rfl⟩⟩
      · dsimp only at O2
        go_wp2_with fail
        refine (O2.out _).mono ?_
        rintro e w7 ⟨rfl, hb7⟩
        have HB7 := Lib.hid (bT HBr.out hb7)
        clear hb7
        go_wp2_with fail
        go_ret
        exact ⟨rfl, HB7.out⟩
      · dsimp only at O2
        go_wp2_with fail
        refine (O2.out _).mono ?_
        rintro e w7 ⟨rfl, hb7⟩
        have HB7 := Lib.hid (bT HBr.out hb7)
        clear hb7
        go_wp2_with fail
        go_ret
        exact ⟨rfl, HB7.out⟩
      · dsimp only at O2
        have hne' : (one != two) = true := by simpa using hne
        go_wp2_with fail
        refine (O2.out _).mono ?_
        rintro e w7 ⟨rfl, hb7⟩
        have HB7 := Lib.hid (bT HBr.out hb7)
        clear hb7
        go_wp2_with fail
        go_ret
        exact ⟨rfl, HB7.out⟩
      · dsimp only at O2
        go_wp2_with fail
        refine (O2.out _).mono ?_
        rintro e w7 ⟨rfl, hb7⟩
        have HB7 := Lib.hid (bT HBr.out hb7)
        clear hb7
        go_wp2_with fail
        go_ret
        exact ⟨rfl, HB7.out⟩
end Go.Proofs.Ytgeoblejfkoldaa
