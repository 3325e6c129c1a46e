import Derived.Test.YtblakognnfilaaaDoorRcM
set_option linter.unusedSimpArgs false
set_option linter.unusedVariables false
namespace Go.Proofs.YtblakognnfilaaaDoor
open Go.RowKit

/-! ### jettylaw06.awake -/
def awR : Rc := { rcZ with kind := 3, xct := 2, prev := 54 }
theorem awR_ok : RcOk awR := by decide +kernel
theorem rcZ_no : ¬ RcOk rcZ := by decide +kernel
theorem empty_sl {R : Rc} (h1 : R.ims = []) (h2 : R.lvs = []) (h3 : R.key = ⟨#[]⟩) (h4 : R.bd = ⟨#[]⟩) (w : World) : RcSl w R nilS nilS := by
  refine ⟨⟨none, 0, by rw [h1]; rfl, by rw [h1]; exact Nat.zero_le _, fun h => by rw [h1] at h; exact (h rfl).elim⟩, ⟨none, 0, by rw [h2]; rfl, by rw [h2]; exact Nat.zero_le _, fun h => by rw [h2] at h; exact (h rfl).elim⟩, by rw [h3]; exact Nat.zero_le _, by rw [h4]; exact Nat.zero_le _, fun x hx => by rw [h1] at hx; cases hx⟩
theorem aw_bytes : ∃ S : ByteArray, rcS awR = S ∧ S.size = 37 ∧ ∃ h : 0 < S.size, S[0] = 3 := by
  refine ⟨_, rfl, rcS_size awR_ok, by rw [rcS_size awR_ok]; decide, ?_⟩
  decide +kernel
set_option maxRecDepth 100000 in
set_option maxHeartbeats 3200000 in
theorem awake06 (w : World) : Calls Tryd.prog 8 #[] w fun e w' => e = .returned (.bool true) ∧ Below w.heap.size w w' := by
  obtain ⟨S, eS, hz, h0, hS0⟩ := aw_bytes
  have HE := Lib.hid (fun w => rc_encode_ok awR nilS nilS w (empty_sl rfl rfl rfl rfl w) awR_ok)
  rw [eS] at HE
  obtain ⟨Q, eQ, hsame⟩ := dec_same awR_ok
  rw [eS] at eQ
  have HD := Lib.hid (fun w => rc_decode S (by unfold maxLen; omega) w)
  have HC := Lib.hid (fun w => rc_check rcZ nilS nilS w (empty_sl rfl rfl rfl rfl w))
  have hx : Q.xct = 2 := hsame.2.1
  have hp : Q.prev = 54 := hsame.2.2.1
  replace hx := Lib.hid hx
  replace hp := Lib.hid hp
  replace eQ := Lib.hid eQ
  clear eS hsame
  go_enter Tryd.func8, Tryd.ntmps8
  go_wp2_with fail
  refine (HE.out _).mono ?_
  rintro e w1 ⟨rfl, hb⟩
  have HB1 := Lib.hid hb
  clear hb HE
  go_wp2_with fail
  refine (HD.out _).mono ?_
  rintro e w2 ⟨h, hb⟩
  have HB2 := Lib.hid (bT HB1.out hb)
  clear hb HD HB1
  obtain ⟨R, iv, lv, hd, rfl, hsl⟩ := h.resolve_right (fun h => by rw [eQ.out] at h; cases h.1)
  rw [eQ.out] at hd
  obtain rfl := Option.some.inj hd
  have h1c : iv.oneCell' = true := by obtain ⟨_, _, e, _⟩ := hsl.1; rw [e]; rfl
  have h2c : lv.oneCell' = true := by obtain ⟨_, _, e, _⟩ := hsl.2.1; rw [e]; rfl
  have HZ : Hid ((w2.alloc (.cells (rcC rcZ nilS nilS) 29)).heap[w2.heap.size]? = some (.cells (rcC rcZ nilS nilS) 29 (0, 0))) := hN rfl
  have HBa : Hid (Below w.heap.size w (w2.alloc (.cells (rcC rcZ nilS nilS) 29))) := bA HB2.out
  have hsz := HB2.out.size
  clear hsl hd h
  go_wp2_with (refine wpList_store_whole rfl 29 _ _ rfl _ (rcC Q iv lv) rfl rfl _ (rcC rcZ nilS nilS) HZ.out rfl (by kernel_rfl) (rcC_one h1c h2c) ?_; intro wz HRz KZ; (have HBz := Lib.hid (bK HBa.out KZ.out (fun j hj => by omega))); (have c1 : wz.cell? ⟨w2.heap.size, 1, none⟩ = some (.int .i64 2) := by rw [← hx.out]; exact cell_at HRz.out 1); (have c2 : wz.cell? ⟨w2.heap.size, 2, none⟩ = some (.int .i64 54) := by rw [← hp.out]; exact cell_at HRz.out 2); clear KZ HZ HBa HRz)
  refine (HC.out _).mono ?_
  rintro e w3 ⟨h, hb⟩
  obtain rfl := h.elim (fun h => absurd h.2 rcZ_no) (fun h => h.1)
  have HB3 := Lib.hid (bT HBz.out hb)
  clear hb h HC HBz
  go_wp2_with fail
  go_ret
  exact ⟨rfl, HB3.out⟩
/-! ### RecReads -/
theorem DecIs.any {s : ByteArray} {e : Ending} {w : World} (h : DecIs s e w) : ∃ (R : Rc) (iv lv : Value) (n : Int), e = .returned (.tuple #[.agg (rcC R iv lv), .int .i64 n]) ∧ RcSl w R iv lv ∧ (decR s = some R ∧ n = 0 ∨ decR s = none ∧ R = rcZ ∧ n = 40) := by
  rcases h with ⟨R, iv, lv, h1, h2, h3⟩ | ⟨h1, h2⟩
  · exact ⟨R, iv, lv, 0, h2, h3, .inl ⟨h1, rfl⟩⟩
  · exact ⟨rcZ, nilS, nilS, 40, h2, empty_sl rfl rfl rfl rfl w, .inr ⟨h1, rfl, rfl⟩⟩
theorem RcSl.ones {w : World} {R : Rc} {iv lv : Value} (h : RcSl w R iv lv) : iv.oneCell' = true ∧ lv.oneCell' = true := by
  obtain ⟨_, _, e1, _⟩ := h.1
  obtain ⟨_, _, e2, _⟩ := h.2.1
  exact ⟨by rw [e1]; rfl, by rw [e2]; rfl⟩
set_option maxRecDepth 100000 in
set_option maxHeartbeats 3200000 in
theorem recReads_walk (s : ByteArray) (hs : s.size ≤ maxLen) (w : World) : Calls Tryd.prog 4 #[.string s] w fun e w' => e = .returned (.bool true) ∧ Below w.heap.size w w' := by
  have HA := Lib.hid (fun w => awake06 w)
  have HD := Lib.hid (fun w => rc_decode s hs w)
  have HR := Lib.hid (fun w => rr_decode s hs w)
  go_enter Tryd.func4, Tryd.ntmps4
  go_wp2_with fail
  refine (HA.out _).mono ?_
  rintro e w1 ⟨rfl, hb⟩
  have HB1 := Lib.hid hb
  clear hb HA
  go_wp2_with fail
  refine (HD.out _).mono ?_
  rintro e w2 ⟨h, hb⟩
  have HB2 := Lib.hid (bT HB1.out hb)
  obtain ⟨R, iv, lv, n, rfl, hsl, hd⟩ := h.any
  obtain ⟨h1c, h2c⟩ := hsl.ones
  clear hb HB1 HD h
  have hd := Lib.hid hd
  have hsl := Lib.hid hsl
  have HZ : Hid ((w2.alloc (.cells (rcC rcZ nilS nilS) 29)).heap[w2.heap.size]? = some (.cells (rcC rcZ nilS nilS) 29 (0, 0))) := hN rfl
  have HBa : Hid (Below w2.heap.size w2 (w2.alloc (.cells (rcC rcZ nilS nilS) 29))) := bA bR
  go_wp2_with (refine wpList_store_whole rfl 29 _ _ rfl _ (rcC R iv lv) rfl rfl _ (rcC rcZ nilS nilS) HZ.out rfl (by kernel_rfl) (rcC_one h1c h2c) ?_; intro wz HRz KZ; (have HBz := Lib.hid (bK HBa.out KZ.out (fun j hj => by omega))); clear KZ HZ HBa)
  have hslz := Lib.hid (hsl.out.later HBz.out)
  have HB3 := Lib.hid (bT HB2.out HBz.out)
  clear hsl HB2 HBz
  refine (HR.out _).mono ?_
  rintro e w3 ⟨h, hb⟩
  obtain ⟨R', iv', lv', n', rfl, hsl', hd'⟩ := h.any
  obtain ⟨h1c', h2c'⟩ := hsl'.ones
  have hsl3 := Lib.hid (hslz.out.later hb)
  have hsl' := Lib.hid hsl'
  have HP3 := Lib.hid (hBs hb HRz.out)
  have HB4 := Lib.hid (bT HB3.out hb)
  have hn : n = n' ∧ R = R' ∧ (n' = 0 ∨ n' = 40) := by
    rcases hd.out with ⟨a1, a2⟩ | ⟨a1, a2, a3⟩ <;> rcases hd' with ⟨b1, b2⟩ | ⟨b1, b2, b3⟩
    · rw [a1] at b1; exact ⟨by rw [a2, b2], Option.some.inj b1, .inl b2⟩
    · rw [a1] at b1; cases b1
    · rw [a1] at b1; cases b1
    · exact ⟨by rw [a3, b3], by rw [a2, b2], .inr b3⟩
  obtain ⟨rfl, rfl, hnn⟩ := hn
  have hp3 := block_lt HP3.out
  clear hb HB3 HR h hd hd' hslz HRz
  have HZ : Hid ((w3.alloc (.cells (rcC rcZ nilS nilS) 29)).heap[w3.heap.size]? = some (.cells (rcC rcZ nilS nilS) 29 (0, 0))) := hN rfl
  have HBa : Hid (Below w3.heap.size w3 (w3.alloc (.cells (rcC rcZ nilS nilS) 29))) := bA bR
  have HPa : Hid ((w3.alloc (.cells (rcC rcZ nilS nilS) 29)).heap[w2.heap.size]? = _) := hO HP3.out
  have heq : ((n : Int) == n) = true := beq_self_eq_true n
  go_wp2_with (first
    | (refine wpList_store_whole rfl 29 _ _ rfl _ (rcC R iv' lv') rfl rfl _ (rcC rcZ nilS nilS) HZ.out rfl (by kernel_rfl) (rcC_one h1c' h2c') ?_; intro wq HRq KQ; (have HBq := Lib.hid (bK HBa.out KQ.out (fun j hj => by omega))); (have HPq := Lib.hid (KQ.out.keep HPa.out (by omega))); clear KQ HZ HBa HPa)
    | (refine wpList_load_want (by rfl) 29 _ rfl w2.heap.size rfl 29 _ _ _ HPq.out Tryd.underlying29 rfl (by kernel_rfl) ?_)
    | (refine wpList_load_want (by rfl) 29 _ rfl w3.heap.size rfl 29 _ _ _ HRq.out Tryd.underlying29 rfl (by kernel_rfl) ?_))
  refine (rr_same R R iv lv iv' lv' _ (hsl3.out.later HBq.out) (hsl'.out.later HBq.out)).mono ?_
  rintro e w4 ⟨h, hb⟩
  obtain rfl := h.elim (fun h => h.1) (fun h => absurd (SameRc.refl R) h.2)
  have HB5 := Lib.hid (bT (bT HB4.out HBq.out) hb)
  clear hb h
  go_wp2_with fail
  go_ret
  exact ⟨rfl, HB5.out⟩
end Go.Proofs.YtblakognnfilaaaDoor
