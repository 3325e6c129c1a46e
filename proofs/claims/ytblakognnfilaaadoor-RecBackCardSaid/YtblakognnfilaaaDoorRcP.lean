import Derived.Test.YtblakognnfilaaaDoorRcN
import Derived.Test.YtblakognnfilaaaDoorRcArg
set_option linter.unusedSimpArgs false
set_option linter.unusedVariables false
namespace Go.Proofs.YtblakognnfilaaaDoor
open Go.RowKit

/-! ### RecApart -/
theorem rc_encs (R : Rc) : ∃ (S : ByteArray) (n : Int), (RcOk R ∧ S = rcS R ∧ n = 0 ∨ ¬ RcOk R ∧ S = ⟨#[]⟩ ∧ n = 1) ∧ Hid (∀ iv lv w, RcSl w R iv lv → Calls Tryd.prog 9 #[.agg (rcC R iv lv)] w fun e w' => e = .returned (.tuple #[.string S, .int .i64 n]) ∧ Below w.heap.size w w') := by
  by_cases h : RcOk R
  · exact ⟨rcS R, 0, .inl ⟨h, rfl, rfl⟩, fun iv lv w hs => rc_encode_ok R iv lv w hs h⟩
  · exact ⟨⟨#[]⟩, 1, .inr ⟨h, rfl, rfl⟩, fun iv lv w hs => rc_encode_no R iv lv w hs h⟩
set_option maxRecDepth 100000 in
set_option maxHeartbeats 6400000 in
theorem recApart_walk (v0 : Value) (R : Rc) (v1 : Value) (Q : Rc) (w : World) (h0 : RcIs w v0 R) (h1 : RcIs w v1 Q) : Calls Tryd.prog 7 #[v0, v1] w fun e w' => e = .returned (.bool true) ∧ Below w.heap.size w w' := by
  obtain ⟨iv, lv, rfl, hsl⟩ := h0
  obtain ⟨iv', lv', rfl, hsl'⟩ := h1
  have HA := Lib.hid (fun w => awake06 w)
  obtain ⟨S, n, hS, HE⟩ := rc_encs R
  obtain ⟨T, m, hT, HF⟩ := rc_encs Q
  have HW : Below w.heap.size w ((w.alloc (.cells (rcC R iv lv) 29)).alloc (.cells (rcC Q iv' lv') 29)) := bA (bA bR)
  have HP : Hid (((w.alloc (.cells (rcC R iv lv) 29)).alloc (.cells (rcC Q iv' lv') 29)).heap[w.heap.size]? = some (.cells (rcC R iv lv) 29 (0, 0))) := hO (hN rfl)
  have HQ : Hid (((w.alloc (.cells (rcC R iv lv) 29)).alloc (.cells (rcC Q iv' lv') 29)).heap[w.heap.size + 1]? = some (.cells (rcC Q iv' lv') 29 (0, 0))) := hN (by simp)
  have hs0 := Lib.hid (hsl.later HW)
  have hs0' := Lib.hid (hsl'.later HW)
  have HB0 := Lib.hid HW
  have hn : n = 0 ∨ n = 1 := hS.imp (fun h => h.2.2) (fun h => h.2.2)
  have hm : m = 0 ∨ m = 1 := hT.imp (fun h => h.2.2) (fun h => h.2.2)
  have key : Hid (n = 0 → m = 0 → ((S.toList == T.toList) = true ∧ SameRc R Q) ∨ ((S.toList == T.toList) = false ∧ ¬ SameRc R Q)) := fun e1 e2 => by
    obtain ⟨k1, rfl, -⟩ := hS.resolve_right (fun h => by omega)
    obtain ⟨k2, rfl, -⟩ := hT.resolve_right (fun h => by omega)
    by_cases hs : SameRc R Q
    · exact .inl ⟨by rw [rcS_congr hs]; exact beq_self_eq_true _, hs⟩
    · exact .inr ⟨(lists_ne (fun e => hs (rcL_inj k1 k2 e))).2.1, hs⟩
  clear hS hT hsl hsl' HW
  go_enter Tryd.func7, Tryd.ntmps7
  go_wp2_with fail
  refine (HA.out _).mono ?_
  rintro e w1 ⟨rfl, hb⟩
  have HB1 := Lib.hid (bT HB0.out hb)
  have HP1 := Lib.hid (hBs hb HP.out)
  have HQ1 := Lib.hid (hBs hb HQ.out)
  have hs1 := Lib.hid (hs0.out.later hb)
  have hs1' := Lib.hid (hs0'.out.later hb)
  clear hb HA HP HQ HB0 hs0 hs0'
  go_wp2_with (refine wpList_load_row rfl 29 _ rfl _ rfl 29 _ _ _ HP1.out Tryd.underlying29 rfl (by kernel_rfl) ?_)
  refine (HE.out _ _ _ hs1.out).mono ?_
  rintro e w2 ⟨rfl, hb⟩
  have HB2 := Lib.hid (bT HB1.out hb)
  have HP2 := Lib.hid (hBs hb HP1.out)
  have HQ2 := Lib.hid (hBs hb HQ1.out)
  have hs2 := Lib.hid (hs1.out.later hb)
  have hs2' := Lib.hid (hs1'.out.later hb)
  clear hb HE HP1 HQ1 HB1 hs1 hs1'
  go_wp2_with (refine wpList_load_row rfl 29 _ rfl _ rfl 29 _ _ _ HQ2.out Tryd.underlying29 rfl (by kernel_rfl) ?_)
  refine (HF.out _ _ _ hs2'.out).mono ?_
  rintro e w3 ⟨rfl, hb⟩
  have HB3 := Lib.hid (bT HB2.out hb)
  have HP3 := Lib.hid (hBs hb HP2.out)
  have HQ3 := Lib.hid (hBs hb HQ2.out)
  have hs3 := Lib.hid (hs2.out.later hb)
  have hs3' := Lib.hid (hs2'.out.later hb)
  clear hb HF HP2 HQ2 HB2 hs2 hs2'
  rcases hn with rfl | rfl
  rotate_left
  · go_wp2_with fail
    go_ret
    exact ⟨rfl, HB3.out⟩
  rcases hm with rfl | rfl
  rotate_left
  · go_wp2_with fail
    go_ret
    exact ⟨rfl, HB3.out⟩
  rcases key.out rfl rfl with ⟨hst, hsm⟩ | ⟨hst, hsm⟩
  · replace hsm := Lib.hid hsm
    go_wp2_with (first
      | (refine wpList_load_want (by rfl) 29 _ rfl w.heap.size rfl 29 _ _ _ HP3.out Tryd.underlying29 rfl (by kernel_rfl) ?_)
      | (refine wpList_load_want (by rfl) 29 _ rfl (w.heap.size + 1) rfl 29 _ _ _ HQ3.out Tryd.underlying29 rfl (by kernel_rfl) ?_))
    refine (rr_same R Q iv lv iv' lv' _ hs3.out hs3'.out).mono ?_
    rintro e w4 ⟨h, hb⟩
    obtain rfl := h.elim (fun h => h.1) (fun h => absurd hsm.out h.2)
    have HB4 := Lib.hid (bT HB3.out hb)
    clear hb h
    go_wp2_with fail
    go_ret
    exact ⟨rfl, HB4.out⟩
  · replace hsm := Lib.hid hsm
    go_wp2_with (first
      | (refine wpList_load_want (by rfl) 29 _ rfl w.heap.size rfl 29 _ _ _ HP3.out Tryd.underlying29 rfl (by kernel_rfl) ?_)
      | (refine wpList_load_want (by rfl) 29 _ rfl (w.heap.size + 1) rfl 29 _ _ _ HQ3.out Tryd.underlying29 rfl (by kernel_rfl) ?_))
    refine (rr_same R Q iv lv iv' lv' _ hs3.out hs3'.out).mono ?_
    rintro e w4 ⟨h, hb⟩
    obtain rfl := h.elim (fun h => absurd h.2 hsm.out) (fun h => h.1)
    have HB4 := Lib.hid (bT HB3.out hb)
    clear hb h
    go_wp2_with fail
    go_ret
    exact ⟨rfl, HB4.out⟩
end Go.Proofs.YtblakognnfilaaaDoor
