import Derived.Test.YtomlckbghfbikaaDoorPgI
set_option linter.unusedSimpArgs false
set_option linter.unusedVariables false
namespace Go.Proofs.YtomlckbghfbikaaDoor
open Go.RowKit

set_option maxRecDepth 100000 in
set_option maxHeartbeats 3200000 in
theorem awake04 (w : World) : Calls Tryd.prog 8 #[] w fun e w' => e = .returned (.bool true) ∧ Below w.heap.size w w' := by
  obtain ⟨A, D, S, haw, hz, hh, heq, HE, HD⟩ := aw_facts
  have HC := Lib.hid k5_check
  replace haw := Lib.hid haw
  replace heq := Lib.hid heq
  replace HE := Lib.hid HE
  replace HD := Lib.hid HD
  have HQ0 : Hid ((w.alloc (.cells (pgC A) 27)).heap[w.heap.size]? = some (.cells (pgC A) 27 (0, 0))) := hN rfl
  have HB0 : Hid (Below w.heap.size w (w.alloc (.cells (pgC A) 27))) := bA bR
  go_enter Tryd.func8, Tryd.ntmps8
  go_wp2_with fail
  rw [← haw.out]
  generalize (w.alloc _) = w0 at *
  refine (HE.out _).mono ?_
  rintro e w1 ⟨rfl, hb⟩
  have HQ1 := Lib.hid (hBs hb HQ0.out)
  have HB1 := Lib.hid (bT HB0.out hb)
  clear hb HQ0 HB0 HE
  go_wp2_with fail
  refine (HD.out _).mono ?_
  rintro e w2 ⟨rfl, hb⟩
  have HQ2 := Lib.hid (hBs hb HQ1.out)
  have HB2 := Lib.hid (bT HB1.out hb)
  clear hb HQ1 HB1 HD
  have HZ : Hid ((w2.alloc (.cells (pgC pageZ) 27)).heap[w2.heap.size]? = some (.cells (pgC pageZ) 27 (0, 0))) := hN rfl
  have HBa : Hid (Below w.heap.size w (w2.alloc (.cells (pgC pageZ) 27))) := bA HB2.out
  have HQa : Hid ((w2.alloc (.cells (pgC pageZ) 27)).heap[w.heap.size]? = some (.cells (pgC A) 27 (0, 0))) := hO HQ2.out
  have hw2 := block_lt HQ2.out
  go_wp2_with (first
    | (refine wpList_store_whole rfl 27 _ _ rfl _ (pgC D) rfl rfl _ (pgC pageZ) HZ.out rfl (by kernel_rfl) (pgC_one D) ?_; intro wz HRz KZ; (have HQz := Lib.hid (KZ.out.keep HQa.out (by omega))); (have HBz := Lib.hid (bK HBa.out KZ.out (fun j hj => by omega))); clear KZ HZ HQa HBa)
    | (refine wpList_load_want (by rfl) 27 _ rfl _ rfl 27 _ _ _ HQz.out Tryd.underlying27 rfl (by kernel_rfl) ?_)
    | (refine wpList_load_want (by rfl) 27 _ rfl _ rfl 27 _ _ _ HRz.out Tryd.underlying27 rfl (by kernel_rfl) ?_)
    | (refine wpList_eq_pg (by rfl) _ _ _ rfl _ _ true heq.out rfl rfl ?_))
  refine (HC.out _).mono ?_
  rintro e w3 ⟨rfl, hb⟩
  have HB3 := Lib.hid (bT HBz.out hb)
  clear hb
  go_wp2_with fail
  go_ret
  exact ⟨rfl, HB3.out⟩
end Go.Proofs.YtomlckbghfbikaaDoor
