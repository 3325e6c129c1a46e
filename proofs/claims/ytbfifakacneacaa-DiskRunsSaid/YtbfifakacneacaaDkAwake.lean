import Derived.Test.YtbfifakacneacaaDiskE
set_option linter.unusedSimpArgs false
set_option linter.unusedVariables false
namespace Go.Proofs.Ytbfifakacneacaa
open Go.RowKit

theorem below_keep {w0 w w' : World} {R : Nat → Prop} (h : Below w0.heap.size w0 w) (hk : Keeps R w w') (hR : ∀ k, R k → w0.heap.size ≤ k) : Below w0.heap.size w0 w' :=
  h.trans (hk.belowB h.size hR)
set_option maxHeartbeats 1600000 in
theorem awake02 (w : World) : Calls Try.prog 10 #[] w fun e w' => e = .returned (.bool true) ∧ Below w.heap.size w w' := by
  have hz := zeros_size 64
  have HBl := Lib.hid ref_blank
  have hasz : ((zeros 64).extract 1 64 ++ ⟨#[97]⟩).size = 64 := by rw [bytes_size, ByteArray.size_extract, hz]; rfl
  have HN := Lib.hid (dsk_new 2 (by omega) (by omega))
  have hw : (Dev.new 2).write 1 ((zeros 64).extract 1 64 ++ ⟨#[97]⟩) =
      ({ firm := [zeros 64, zeros 64], soft := [(1, (zeros 64).extract 1 64 ++ ⟨#[97]⟩)], seen := [zeros 64, (zeros 64).extract 1 64 ++ ⟨#[97]⟩], fuel := -1, down := false }, 0) := by
    simp [Dev.write, Dev.new, Dev.burn, hasz, List.replicate]
  have hnew : Dev.new 2 = { firm := [zeros 64, zeros 64], soft := [], seen := [zeros 64, zeros 64], fuel := -1, down := false } := rfl
  generalize hA : (zeros 64).extract 1 64 ++ ⟨#[97]⟩ = A at *
  have hA := Lib.hid hA
  have hw := Lib.hid hw
  have hnew := Lib.hid hnew
  generalize zeros 64 = Z at *
  have hasz' := Lib.hid hasz
  go_enter Try.func10, Try.ntmps10
  go_wp2_with fail
  refine (HN.out w).mono ?_
  rintro e w1 ⟨p, S, rfl, hD, hb, hS⟩
  have HD1 := Lib.hid hD
  have HB1 := Lib.hid hb
  have HS1 := Lib.hid hS
  clear hD hb hS
  go_wp2_with fail
  refine (dsk_size p _ S _ HD1.out).mono ?_
  rintro e w2 ⟨rfl, rfl⟩
  rw [show ((Dev.new 2).firm.length : Int) = 2 from by unfold Dev.new; simp]
  go_wp2_with fail
  refine (HBl.out _).mono ?_
  rintro e w2 ⟨rfl, hb⟩
  have HD2 := Lib.hid (HD1.out.later hb)
  have HB2 := Lib.hid (bT HB1.out hb)
  clear hb HD1
  have hA' := hA.out
  go_wp2_with fail
  clear hA'
  refine (dsk_write p 1 A (by rw [hasz]; decide) (Dev.new 2) S (by simp [Dev.new]) _ HD2.out).mono ?_
  rintro e w3 ⟨rfl, S3, hD, hk, hS⟩
  rw [hw.out] at hD ⊢
  have HB3 := Lib.hid (below_keep HB2.out hk HS1.out)
  have HS3 : Hid (∀ k ∈ S3, w.heap.size ≤ k) := fun k hk => (hS k hk).elim (HS1.out k) (fun h => Nat.le_trans HB2.out.size h)
  have HD3 := Lib.hid hD
  clear hD hk hS HD2
  go_wp2_with fail
  refine (dsk_read p 1 _ S3 _ HD3.out).mono ?_
  rintro e w4 ⟨rfl, rfl⟩
  rw [show Dev.read { firm := [Z, Z], soft := [(1, A)], seen := [Z, A], fuel := -1, down := false } 1 = (A, 0) from rfl]
  go_wp2_with fail
  refine (dsk_crash p _ S3 w.heap.size (.slice none 0 0) [] _ HD3.out (BoolsAt.nil _ _) HB3.out.size HS3.out).mono ?_
  rintro e w5 ⟨p5, S5, rfl, hD, hC, hk, hS5⟩
  have HB5 := Lib.hid (below_keep HB3.out hk (fun k e => by subst e; exact HS3.out _ HD3.out.mem))
  have HD5 := Lib.hid hD
  have HC5 := Lib.hid hC
  clear hD hk hC HD3
  go_wp2_with fail
  refine (dsk_read p5 1 _ S5 _ HC5.out).mono ?_
  rintro e w6 ⟨rfl, rfl⟩
  rw [show Dev.read (Dev.after { firm := [Z, Z], soft := [(1, A)], seen := [Z, A], fuel := -1, down := false } []) 1 = (Z, 0) from rfl]
  go_wp2_with fail
  refine (dsk_read p 1 _ S3 _ HD5.out).mono ?_
  rintro e w6 ⟨rfl, rfl⟩
  rw [show Dev.read { firm := [Z, Z], soft := [(1, A)], seen := [Z, A], fuel := -1, down := true } 1 = (⟨#[]⟩, 20) from rfl]
  go_wp2_with fail
  refine (HBl.out _).mono ?_
  rintro e w7 ⟨rfl, hb⟩
  have HB7 := Lib.hid (bT HB5.out hb)
  clear hb
  go_wp2_with fail
  go_ret
  exact ⟨rfl, HB7.out⟩
end Go.Proofs.Ytbfifakacneacaa
