import Derived.Test.YtblakognnfilaaaDoorRcE
import Derived.Test.YtblakognnfilaaaDoorRcF
import Derived.Test.YtblakognnfilaaaDoorPgG
set_option linter.unusedSimpArgs false
set_option linter.unusedVariables false
namespace Go.Proofs.YtblakognnfilaaaDoor
open Go.RowKit

/-! ### jettyref06.Encode -/
def undL (R : Rc) : List Value := [.int .i64 R.uk, .int .i64 R.us, .int .i64 R.up, .int .i64 R.ul, .string R.key, .int .i64 R.bs, .string R.bd]
theorem rc_undo {w : World} {q : Nat} {R : Rc} {iv lv : Value} {T : TypeId} {f : Nat × Nat} (h : w.heap[q]? = some (.cells (rcC R iv lv) T f)) : w.rangeAt q 4 (undL R) := World.rangeAt_of_block h 4 7
theorem put_any (x : Int) (wd : Nat) (h1 : 1 ≤ wd) (h8 : wd ≤ 8) (h0 : 0 ≤ x) (h : x < 9223372036854775808) : ∃ P : ByteArray, P.data.toList = nB wd x ∧ P.size = wd ∧ Hid (∀ w, Calls Tryd.prog 23 #[.int .i64 x, .int .i64 wd] w fun e w' => e = .returned (.string P) ∧ Below w.heap.size w w') := by
  refine ⟨leS x wd, rfl, leS_size _ _, fun w => ?_⟩
  have := ref_put x wd (by omega) (by omega) h0 h w
  rwa [Int.toNat_natCast] at this
theorem rtext_any (s : ByteArray) (hs : s.size ≤ 255) : ∃ P : ByteArray, P.data.toList = tB s ∧ P.size = s.size + 1 ∧ Hid (∀ w, Calls Tryd.prog 24 #[.string s] w fun e w' => e = .returned (.string P) ∧ Below w.heap.size w w') := by
  refine ⟨textS s, rfl, textS_size _, fun w => ?_⟩
  have HN := Lib.hid (fun w => ref_text_ok s (by omega) w)
  go_enter Tryd.func24, Tryd.ntmps24
  go_wp2_with fail
  refine (HN.out _).mono ?_
  rintro e w1 ⟨rfl, hb⟩
  replace hb := Lib.hid hb
  go_wp2_with fail
  go_ret
  exact ⟨rfl, hb.out⟩
theorem range_later {w w' : World} {b o : Nat} {cs : List Value} (h : w.rangeAt b o cs) (hb : b < w.heap.size) (k : Below w.heap.size w w') : w'.rangeAt b o cs := fun j v hv => (k.cell (p := ⟨b, o + j, none⟩) hb).trans (h j v hv)
theorem list_append' (a b : ByteArray) : (a ++ b).data.toList = a.data.toList ++ b.data.toList := by rw [ByteArray.data_append, Array.toList_append]
set_option maxRecDepth 100000 in
set_option maxHeartbeats 1600000 in
theorem rr_encode_no (R : Rc) (iv lv : Value) (w : World) (h : RcSl w R iv lv) (hno : ¬ RcOk R) : Calls Tryd.prog 10 #[.agg (rcC R iv lv)] w fun e w' => e = .returned (.tuple #[.string ⟨#[]⟩, .int .i64 1]) ∧ Below w.heap.size w w' := by
  have hSa : RcSl (w.alloc (.cells (rcC R iv lv) 29)) R iv lv := h.later (bA bR)
  have HC := Lib.hid (rc_right R iv lv _ hSa)
  have HQ : Hid ((w.alloc (.cells (rcC R iv lv) 29)).heap[w.heap.size]? = some (.cells (rcC R iv lv) 29 (0, 0))) := hN rfl
  clear h hSa
  go_enter Tryd.func10, Tryd.ntmps10
  go_wp2_with (refine wpList_load_row rfl 29 _ rfl _ rfl 29 _ _ _ HQ.out Tryd.underlying29 rfl (by kernel_rfl) ?_)
  refine (HC.out).mono ?_
  rintro e w1 ⟨h, hb⟩
  obtain rfl : e = .returned (.bool false) := h.elim (fun h => absurd h.2 hno) (fun h => h.1)
  have HB1 := Lib.hid (bT (bA bR) hb)
  clear hb h HC HQ
  go_wp2_with fail
  go_ret2
  exact ⟨rfl, HB1.out⟩
set_option maxRecDepth 100000 in
set_option maxHeartbeats 16000000 in
theorem rr_encode_ok (R : Rc) (iv lv : Value) (w : World) (h : RcSl w R iv lv) (hok : RcOk R) : Calls Tryd.prog 10 #[.agg (rcC R iv lv)] w fun e w' => e = .returned (.tuple #[.string (rcS R), .int .i64 0]) ∧ Below w.heap.size w w' := by
  have hSa : RcSl (w.alloc (.cells (rcC R iv lv) 29)) R iv lv := h.later (bA bR)
  have HC := Lib.hid (rc_right R iv lv _ hSa)
  have HQ : Hid ((w.alloc (.cells (rcC R iv lv) 29)).heap[w.heap.size]? = some (.cells (rcC R iv lv) 29 (0, 0))) := hN rfl
  clear hSa
  obtain ⟨g1, g2, g3, g4, g5⟩ := h
  obtain ⟨a, n, cap, rfl, hn, hnz, hS1⟩ := sl_open g1
  obtain ⟨b, m, cap2, rfl, hm, hmz, hS2⟩ := sl_open g2
  rw [List.length_map] at hn hm
  have HS1 := Lib.hid hS1
  have HS2 := Lib.hid hS2
  have HOK := Lib.hid hok
  clear g1 g2 g3 g4 g5 hS1 hS2
  obtain ⟨⟨⟨k1, k2⟩, ⟨x1, y1⟩, ⟨x2, y2⟩, ⟨x3, y3⟩, ⟨x4, y4⟩, ⟨x5, y5⟩, ⟨x6, y6⟩, ⟨x7, y7⟩, ⟨x8, y8⟩, k3, ⟨x9, y9⟩, k4, k5, k6⟩, -⟩ := hok
  obtain ⟨P1, l1, z1, H1⟩ := put_any R.kind 1 (by decide) (by decide) (by omega) (by omega)
  obtain ⟨P2, l2, z2, H2⟩ := put_any R.xct 4 (by decide) (by decide) (by omega) (by omega)
  obtain ⟨P3, l3, z3, H3⟩ := put_any R.prev 8 (by decide) (by decide) (by omega) (by omega)
  obtain ⟨P4, l4, z4, H4⟩ := put_any R.next 8 (by decide) (by decide) (by omega) (by omega)
  obtain ⟨P5, l5, z5, H5⟩ := put_any R.fresh 4 (by decide) (by decide) (by omega) (by omega)
  obtain ⟨P6, l6, z6, H6⟩ := put_any R.uk 1 (by decide) (by decide) (by omega) (by omega)
  obtain ⟨P7, l7, z7, H7⟩ := put_any R.us 1 (by decide) (by decide) (by omega) (by omega)
  obtain ⟨P8, l8, z8, H8⟩ := put_any R.up 4 (by decide) (by decide) (by omega) (by omega)
  obtain ⟨P9, l9, z9, H9⟩ := put_any R.ul 1 (by decide) (by decide) (by omega) (by omega)
  obtain ⟨T1, l10, z10, H10⟩ := rtext_any R.key (by omega)
  obtain ⟨P10, l11, z11, H11⟩ := put_any R.bs 1 (by decide) (by decide) (by omega) (by omega)
  obtain ⟨T2, l12, z12, H12⟩ := rtext_any R.bd (by omega)
  obtain ⟨P11, l13, z13, H13⟩ := put_any (n : Int) 1 (by decide) (by decide) (by omega) (by omega)
  obtain ⟨P12, l14, z14, H14⟩ := put_any (m : Int) 1 (by decide) (by decide) (by omega) (by omega)
  have hn24 : n ≤ 24 := by omega
  have hm8 : m ≤ 8 := by omega
  have hhd : Hid ((P1 ++ P2 ++ P3 ++ P4 ++ P5 ++ (P6 ++ P7 ++ P8 ++ P9 ++ T1) ++ (P10 ++ T2 ++ P11)).data.toList = hdB R) := by
    exact Lib.hid (by simp only [list_append', l1, l2, l3, l4, l5, l6, l7, l8, l9, l10, l11, l12, l13, hdB, List.append_assoc, hn])
  have w1' : T1.size ≤ 9 := by omega
  have w2' : T2.size ≤ 35 := by omega
  replace hn := Lib.hid hn
  replace hm := Lib.hid hm
  replace k5 := Lib.hid k5
  replace k6 := Lib.hid k6
  clear l1 l2 l3 l4 l5 l6 l7 l8 l9 l10 l11 l12 l13 z10 z12 hnz hmz k1 k2 x1 y1 x2 y2 x3 y3 x4 y4 x5 y5 x6 y6 x7 y7 x8 y8 x9 y9 k3 k4
  replace l14 := Lib.hid l14
  go_enter Tryd.func10, Tryd.ntmps10
  go_wp2_with (refine wpList_load_row rfl 29 _ rfl _ rfl 29 _ _ _ HQ.out Tryd.underlying29 rfl (by kernel_rfl) ?_)
  refine (HC.out).mono ?_
  rintro e w1 ⟨h, hb⟩
  obtain rfl : e = .returned (.bool true) := h.elim (fun h => h.1) (fun h => absurd HOK.out h.2)
  have HB1 := Lib.hid (bT (bA bR) hb)
  have HQ1 := Lib.hid (hBs hb HQ.out)
  clear hb h HC HQ
  have hw1 := block_lt HQ1.out
  have hru := Lib.hid (rc_undo HQ1.out)
  go_wp2_with (refine wpList_load_mid rfl 25 _ rfl w.heap.size 4 rfl [.int .i64 R.uk, .int .i64 R.us, .int .i64 R.up, .int .i64 R.ul, .string R.key, .int .i64 R.bs, .string R.bd] _ hru.out Tryd.underlying25 rfl (by kernel_rfl) ?_)
  clear hru
  have HQ : Hid ((w1.alloc (.cells #[.int .i64 R.uk, .int .i64 R.us, .int .i64 R.up, .int .i64 R.ul, .string R.key, .int .i64 R.bs, .string R.bd] 25)).heap[w.heap.size]? = _) := hO HQ1.out
  have HU : Hid ((w1.alloc (.cells #[.int .i64 R.uk, .int .i64 R.us, .int .i64 R.up, .int .i64 R.ul, .string R.key, .int .i64 R.bs, .string R.bd] 25)).heap[w1.heap.size]? = some (.cells #[.int .i64 R.uk, .int .i64 R.us, .int .i64 R.up, .int .i64 R.ul, .string R.key, .int .i64 R.bs, .string R.bd] 25 (0, 0))) := hN rfl
  have HB : Hid (Below w.heap.size w (w1.alloc (.cells #[.int .i64 R.uk, .int .i64 R.us, .int .i64 R.up, .int .i64 R.ul, .string R.key, .int .i64 R.bs, .string R.bd] 25))) := bA HB1.out
  go_wp2_with fail
  clear HB1 HQ1
  refine wp_region_held_drew (S := (fun w' => w'.heap[w.heap.size]? = some (.cells (rcC R (.slice a n cap) (.slice b m cap2)) 29 (0, 0)) ∧ w'.heap[w1.heap.size]? = some (.cells #[.int .i64 R.uk, .int .i64 R.us, .int .i64 R.up, .int .i64 R.ul, .string R.key, .int .i64 R.bs, .string R.bd] 25 (0, 0)))) (by kernel_rfl) ⟨HQ.out, HU.out⟩ (fun hHeld => ?_)
  refine wpAnyH_take (i := 0) (oi := ⟨some 16, _, _, _, _, _⟩) (v := .pointer (some ⟨w.heap.size, 0, none⟩)) rfl (by kernel_rfl) (by kernel_rfl) (by kernel_rfl) (fun _ _ _ h => h) (Or.inl ⟨by rfl, ?_⟩) hHeld ?_
  · intro w' hSw
    go_simp
    try with_reducible rfl
    try omega
  simp only [Act.put, List.setIfInBounds_toArray, List.set_cons_zero, List.set_cons_succ]
  refine wpAnyH_take (i := 1) (oi := ⟨some 17, _, _, _, _, _⟩) (v := .int .i64 R.kind) rfl (by kernel_rfl) (by kernel_rfl) (by kernel_rfl) (fun _ _ _ h => h) (Or.inl ⟨by rfl, ?_⟩) hHeld ?_
  · intro w' hSw
    have c0 := (show w'.cell? ⟨w.heap.size, 0, none⟩ = some (.int .i64 R.kind) from cell_at hSw.1 0)
    go_simp
    try with_reducible rfl
    try omega
  simp only [Act.put, List.setIfInBounds_toArray, List.set_cons_zero, List.set_cons_succ]
  refine wpAnyH_take (i := 3) (oi := ⟨some 19, _, _, _, _, _⟩) (v := .pointer (some ⟨w.heap.size, 1, none⟩)) rfl (by kernel_rfl) (by kernel_rfl) (by kernel_rfl) (fun _ _ _ h => h) (Or.inl ⟨by rfl, ?_⟩) hHeld ?_
  · intro w' hSw
    go_simp
    try with_reducible rfl
    try omega
  simp only [Act.put, List.setIfInBounds_toArray, List.set_cons_zero, List.set_cons_succ]
  refine wpAnyH_take (i := 4) (oi := ⟨some 20, _, _, _, _, _⟩) (v := .int .i64 R.xct) rfl (by kernel_rfl) (by kernel_rfl) (by kernel_rfl) (fun _ _ _ h => h) (Or.inl ⟨by rfl, ?_⟩) hHeld ?_
  · intro w' hSw
    have c0 := (show w'.cell? ⟨w.heap.size, 1, none⟩ = some (.int .i64 R.xct) from cell_at hSw.1 1)
    go_simp
    try with_reducible rfl
    try omega
  simp only [Act.put, List.setIfInBounds_toArray, List.set_cons_zero, List.set_cons_succ]
  refine wpAnyH_take (i := 7) (oi := ⟨some 23, _, _, _, _, _⟩) (v := .pointer (some ⟨w.heap.size, 2, none⟩)) rfl (by kernel_rfl) (by kernel_rfl) (by kernel_rfl) (fun _ _ _ h => h) (Or.inl ⟨by rfl, ?_⟩) hHeld ?_
  · intro w' hSw
    go_simp
    try with_reducible rfl
    try omega
  simp only [Act.put, List.setIfInBounds_toArray, List.set_cons_zero, List.set_cons_succ]
  refine wpAnyH_take (i := 8) (oi := ⟨some 24, _, _, _, _, _⟩) (v := .int .i64 R.prev) rfl (by kernel_rfl) (by kernel_rfl) (by kernel_rfl) (fun _ _ _ h => h) (Or.inl ⟨by rfl, ?_⟩) hHeld ?_
  · intro w' hSw
    have c0 := (show w'.cell? ⟨w.heap.size, 2, none⟩ = some (.int .i64 R.prev) from cell_at hSw.1 2)
    go_simp
    try with_reducible rfl
    try omega
  simp only [Act.put, List.setIfInBounds_toArray, List.set_cons_zero, List.set_cons_succ]
  refine wpAnyH_take (i := 11) (oi := ⟨some 27, _, _, _, _, _⟩) (v := .pointer (some ⟨w.heap.size, 3, none⟩)) rfl (by kernel_rfl) (by kernel_rfl) (by kernel_rfl) (fun _ _ _ h => h) (Or.inl ⟨by rfl, ?_⟩) hHeld ?_
  · intro w' hSw
    go_simp
    try with_reducible rfl
    try omega
  simp only [Act.put, List.setIfInBounds_toArray, List.set_cons_zero, List.set_cons_succ]
  refine wpAnyH_take (i := 12) (oi := ⟨some 28, _, _, _, _, _⟩) (v := .int .i64 R.next) rfl (by kernel_rfl) (by kernel_rfl) (by kernel_rfl) (fun _ _ _ h => h) (Or.inl ⟨by rfl, ?_⟩) hHeld ?_
  · intro w' hSw
    have c0 := (show w'.cell? ⟨w.heap.size, 3, none⟩ = some (.int .i64 R.next) from cell_at hSw.1 3)
    go_simp
    try with_reducible rfl
    try omega
  simp only [Act.put, List.setIfInBounds_toArray, List.set_cons_zero, List.set_cons_succ]
  refine wpAnyH_take (i := 15) (oi := ⟨some 31, _, _, _, _, _⟩) (v := .pointer (some ⟨w.heap.size, 13, none⟩)) rfl (by kernel_rfl) (by kernel_rfl) (by kernel_rfl) (fun _ _ _ h => h) (Or.inl ⟨by rfl, ?_⟩) hHeld ?_
  · intro w' hSw
    go_simp
    try with_reducible rfl
    try omega
  simp only [Act.put, List.setIfInBounds_toArray, List.set_cons_zero, List.set_cons_succ]
  refine wpAnyH_take (i := 16) (oi := ⟨some 32, _, _, _, _, _⟩) (v := .int .i64 R.fresh) rfl (by kernel_rfl) (by kernel_rfl) (by kernel_rfl) (fun _ _ _ h => h) (Or.inl ⟨by rfl, ?_⟩) hHeld ?_
  · intro w' hSw
    have c0 := (show w'.cell? ⟨w.heap.size, 13, none⟩ = some (.int .i64 R.fresh) from cell_at hSw.1 13)
    go_simp
    try with_reducible rfl
    try omega
  simp only [Act.put, List.setIfInBounds_toArray, List.set_cons_zero, List.set_cons_succ]
  refine wpAnyH_ready (rs := [2]) (by kernel_rfl) (by simp) ?_
  refine AllReadyH.cons (o := ⟨some 18, _, _, _, _, _⟩) rfl (fun K hK => ?_) AllReadyH.nil
  go_simp
  go_at_call 23
  refine (H1.out _).mono ?_
  rintro e wn ⟨rfl, hb⟩
  replace HQ := Lib.hid (hBs hb HQ.out)
  replace HU := Lib.hid (hBs hb HU.out)
  replace HB := Lib.hid (bT (bD HB.out) hb)
  clear hb
  go_wp2_with fail
  refine hK.out _ _ ⟨HQ.out, HU.out⟩ (fun hHeld => ?_)
  clear hK K
  try simp only [Act.put, List.setIfInBounds_toArray, List.set_cons_zero, List.set_cons_succ]
  refine wpAnyH_ready (rs := [5]) (by kernel_rfl) (by simp) ?_
  refine AllReadyH.cons (o := ⟨some 21, _, _, _, _, _⟩) rfl (fun K hK => ?_) AllReadyH.nil
  go_simp
  go_at_call 23
  refine (H2.out _).mono ?_
  rintro e wn ⟨rfl, hb⟩
  replace HQ := Lib.hid (hBs hb HQ.out)
  replace HU := Lib.hid (hBs hb HU.out)
  replace HB := Lib.hid (bT HB.out hb)
  clear hb
  go_wp2_with fail
  refine hK.out _ _ ⟨HQ.out, HU.out⟩ (fun hHeld => ?_)
  clear hK K
  try simp only [Act.put, List.setIfInBounds_toArray, List.set_cons_zero, List.set_cons_succ]
  refine wpAnyH_take (i := 6) (oi := ⟨some 22, _, _, _, _, _⟩) (v := .string (P1 ++ P2)) rfl (by kernel_rfl) (by kernel_rfl) (by kernel_rfl) (fun _ _ _ h => h) (Or.inl ⟨by rfl, ?_⟩) hHeld ?_
  · intro w' hSw
    go_simp
    try with_reducible rfl
    try omega
  simp only [Act.put, List.setIfInBounds_toArray, List.set_cons_zero, List.set_cons_succ]
  refine wpAnyH_ready (rs := [9]) (by kernel_rfl) (by simp) ?_
  refine AllReadyH.cons (o := ⟨some 25, _, _, _, _, _⟩) rfl (fun K hK => ?_) AllReadyH.nil
  go_simp
  go_at_call 23
  refine (H3.out _).mono ?_
  rintro e wn ⟨rfl, hb⟩
  replace HQ := Lib.hid (hBs hb HQ.out)
  replace HU := Lib.hid (hBs hb HU.out)
  replace HB := Lib.hid (bT HB.out hb)
  clear hb
  go_wp2_with fail
  refine hK.out _ _ ⟨HQ.out, HU.out⟩ (fun hHeld => ?_)
  clear hK K
  try simp only [Act.put, List.setIfInBounds_toArray, List.set_cons_zero, List.set_cons_succ]
  refine wpAnyH_take (i := 10) (oi := ⟨some 26, _, _, _, _, _⟩) (v := .string (P1 ++ P2 ++ P3)) rfl (by kernel_rfl) (by kernel_rfl) (by kernel_rfl) (fun _ _ _ h => h) (Or.inl ⟨by rfl, ?_⟩) hHeld ?_
  · intro w' hSw
    go_simp
    try with_reducible rfl
    try omega
  simp only [Act.put, List.setIfInBounds_toArray, List.set_cons_zero, List.set_cons_succ]
  refine wpAnyH_ready (rs := [13]) (by kernel_rfl) (by simp) ?_
  refine AllReadyH.cons (o := ⟨some 29, _, _, _, _, _⟩) rfl (fun K hK => ?_) AllReadyH.nil
  go_simp
  go_at_call 23
  refine (H4.out _).mono ?_
  rintro e wn ⟨rfl, hb⟩
  replace HQ := Lib.hid (hBs hb HQ.out)
  replace HU := Lib.hid (hBs hb HU.out)
  replace HB := Lib.hid (bT HB.out hb)
  clear hb
  go_wp2_with fail
  refine hK.out _ _ ⟨HQ.out, HU.out⟩ (fun hHeld => ?_)
  clear hK K
  try simp only [Act.put, List.setIfInBounds_toArray, List.set_cons_zero, List.set_cons_succ]
  refine wpAnyH_take (i := 14) (oi := ⟨some 30, _, _, _, _, _⟩) (v := .string (P1 ++ P2 ++ P3 ++ P4)) rfl (by kernel_rfl) (by kernel_rfl) (by kernel_rfl) (fun _ _ _ h => h) (Or.inl ⟨by rfl, ?_⟩) hHeld ?_
  · intro w' hSw
    go_simp
    try with_reducible rfl
    try omega
  simp only [Act.put, List.setIfInBounds_toArray, List.set_cons_zero, List.set_cons_succ]
  refine wpAnyH_ready (rs := [17]) (by kernel_rfl) (by simp) ?_
  refine AllReadyH.cons (o := ⟨some 33, _, _, _, _, _⟩) rfl (fun K hK => ?_) AllReadyH.nil
  go_simp
  go_at_call 23
  refine (H5.out _).mono ?_
  rintro e wn ⟨rfl, hb⟩
  replace HQ := Lib.hid (hBs hb HQ.out)
  replace HU := Lib.hid (hBs hb HU.out)
  replace HB := Lib.hid (bT HB.out hb)
  clear hb
  go_wp2_with fail
  refine hK.out _ _ ⟨HQ.out, HU.out⟩ (fun hHeld => ?_)
  clear hK K
  try simp only [Act.put, List.setIfInBounds_toArray, List.set_cons_zero, List.set_cons_succ]
  refine wpAnyH_take (i := 18) (oi := ⟨some 34, _, _, _, _, _⟩) (v := .string (P1 ++ P2 ++ P3 ++ P4 ++ P5)) rfl (by kernel_rfl) (by kernel_rfl) (by kernel_rfl) (fun _ _ _ h => h) (Or.inl ⟨by rfl, ?_⟩) hHeld ?_
  · intro w' hSw
    go_simp
    try with_reducible rfl
    try omega
  simp only [Act.put, List.setIfInBounds_toArray, List.set_cons_zero, List.set_cons_succ]
  refine wpAnyH_take (i := 19) (oi := ⟨some 5, _, _, _, _, _⟩) (v := .string (P1 ++ P2 ++ P3 ++ P4 ++ P5)) rfl (by kernel_rfl) (by kernel_rfl) (by kernel_rfl) (fun _ _ _ h => h) (Or.inl ⟨by rfl, ?_⟩) hHeld ?_
  · intro w' hSw
    go_simp
    try with_reducible rfl
    try omega
  simp only [Act.put, List.setIfInBounds_toArray, List.set_cons_zero, List.set_cons_succ]
  refine wpAnyH_done (by kernel_rfl) ?_ _
  obtain ⟨Y1, ey1⟩ : ∃ Y, P1 ++ P2 ++ P3 ++ P4 ++ P5 = Y := ⟨_, rfl⟩
  have zy1 : Y1.size = 25 := by rw [← ey1]; simp only [bytes_size]; omega
  rw [ey1] at hhd ⊢
  replace ey1 := Lib.hid ey1
  clear z1 z2 z3 z4 z5 H1 H2 H3 H4 H5
  go_wp2_with fail
  refine wp_region_held_drew (S := (fun w' => w'.heap[w.heap.size]? = some (.cells (rcC R (.slice a n cap) (.slice b m cap2)) 29 (0, 0)) ∧ w'.heap[w1.heap.size]? = some (.cells #[.int .i64 R.uk, .int .i64 R.us, .int .i64 R.up, .int .i64 R.ul, .string R.key, .int .i64 R.bs, .string R.bd] 25 (0, 0)))) (by kernel_rfl) ⟨HQ.out, HU.out⟩ (fun hHeld => ?_)
  refine wpAnyH_take (i := 0) (oi := ⟨some 35, _, _, _, _, _⟩) (v := .string Y1) rfl (by kernel_rfl) (by kernel_rfl) (by kernel_rfl) (fun _ _ _ h => h) (Or.inl ⟨by rfl, ?_⟩) hHeld ?_
  · intro w' hSw
    go_simp
    try with_reducible rfl
    try omega
  simp only [Act.put, List.setIfInBounds_toArray, List.set_cons_zero, List.set_cons_succ]
  refine wpAnyH_take (i := 1) (oi := ⟨some 36, _, _, _, _, _⟩) (v := .pointer (some ⟨w1.heap.size, 0, none⟩)) rfl (by kernel_rfl) (by kernel_rfl) (by kernel_rfl) (fun _ _ _ h => h) (Or.inl ⟨by rfl, ?_⟩) hHeld ?_
  · intro w' hSw
    go_simp
    try with_reducible rfl
    try omega
  simp only [Act.put, List.setIfInBounds_toArray, List.set_cons_zero, List.set_cons_succ]
  refine wpAnyH_take (i := 2) (oi := ⟨some 37, _, _, _, _, _⟩) (v := .int .i64 R.uk) rfl (by kernel_rfl) (by kernel_rfl) (by kernel_rfl) (fun _ _ _ h => h) (Or.inl ⟨by rfl, ?_⟩) hHeld ?_
  · intro w' hSw
    have c0 := (show w'.cell? ⟨w1.heap.size, 0, none⟩ = some (.int .i64 R.uk) from cell_at hSw.2 0)
    go_simp
    try with_reducible rfl
    try omega
  simp only [Act.put, List.setIfInBounds_toArray, List.set_cons_zero, List.set_cons_succ]
  refine wpAnyH_take (i := 4) (oi := ⟨some 39, _, _, _, _, _⟩) (v := .pointer (some ⟨w1.heap.size, 1, none⟩)) rfl (by kernel_rfl) (by kernel_rfl) (by kernel_rfl) (fun _ _ _ h => h) (Or.inl ⟨by rfl, ?_⟩) hHeld ?_
  · intro w' hSw
    go_simp
    try with_reducible rfl
    try omega
  simp only [Act.put, List.setIfInBounds_toArray, List.set_cons_zero, List.set_cons_succ]
  refine wpAnyH_take (i := 5) (oi := ⟨some 40, _, _, _, _, _⟩) (v := .int .i64 R.us) rfl (by kernel_rfl) (by kernel_rfl) (by kernel_rfl) (fun _ _ _ h => h) (Or.inl ⟨by rfl, ?_⟩) hHeld ?_
  · intro w' hSw
    have c0 := (show w'.cell? ⟨w1.heap.size, 1, none⟩ = some (.int .i64 R.us) from cell_at hSw.2 1)
    go_simp
    try with_reducible rfl
    try omega
  simp only [Act.put, List.setIfInBounds_toArray, List.set_cons_zero, List.set_cons_succ]
  refine wpAnyH_take (i := 8) (oi := ⟨some 43, _, _, _, _, _⟩) (v := .pointer (some ⟨w1.heap.size, 2, none⟩)) rfl (by kernel_rfl) (by kernel_rfl) (by kernel_rfl) (fun _ _ _ h => h) (Or.inl ⟨by rfl, ?_⟩) hHeld ?_
  · intro w' hSw
    go_simp
    try with_reducible rfl
    try omega
  simp only [Act.put, List.setIfInBounds_toArray, List.set_cons_zero, List.set_cons_succ]
  refine wpAnyH_take (i := 9) (oi := ⟨some 44, _, _, _, _, _⟩) (v := .int .i64 R.up) rfl (by kernel_rfl) (by kernel_rfl) (by kernel_rfl) (fun _ _ _ h => h) (Or.inl ⟨by rfl, ?_⟩) hHeld ?_
  · intro w' hSw
    have c0 := (show w'.cell? ⟨w1.heap.size, 2, none⟩ = some (.int .i64 R.up) from cell_at hSw.2 2)
    go_simp
    try with_reducible rfl
    try omega
  simp only [Act.put, List.setIfInBounds_toArray, List.set_cons_zero, List.set_cons_succ]
  refine wpAnyH_take (i := 12) (oi := ⟨some 47, _, _, _, _, _⟩) (v := .pointer (some ⟨w1.heap.size, 3, none⟩)) rfl (by kernel_rfl) (by kernel_rfl) (by kernel_rfl) (fun _ _ _ h => h) (Or.inl ⟨by rfl, ?_⟩) hHeld ?_
  · intro w' hSw
    go_simp
    try with_reducible rfl
    try omega
  simp only [Act.put, List.setIfInBounds_toArray, List.set_cons_zero, List.set_cons_succ]
  refine wpAnyH_take (i := 13) (oi := ⟨some 48, _, _, _, _, _⟩) (v := .int .i64 R.ul) rfl (by kernel_rfl) (by kernel_rfl) (by kernel_rfl) (fun _ _ _ h => h) (Or.inl ⟨by rfl, ?_⟩) hHeld ?_
  · intro w' hSw
    have c0 := (show w'.cell? ⟨w1.heap.size, 3, none⟩ = some (.int .i64 R.ul) from cell_at hSw.2 3)
    go_simp
    try with_reducible rfl
    try omega
  simp only [Act.put, List.setIfInBounds_toArray, List.set_cons_zero, List.set_cons_succ]
  refine wpAnyH_take (i := 16) (oi := ⟨some 51, _, _, _, _, _⟩) (v := .pointer (some ⟨w1.heap.size, 4, none⟩)) rfl (by kernel_rfl) (by kernel_rfl) (by kernel_rfl) (fun _ _ _ h => h) (Or.inl ⟨by rfl, ?_⟩) hHeld ?_
  · intro w' hSw
    go_simp
    try with_reducible rfl
    try omega
  simp only [Act.put, List.setIfInBounds_toArray, List.set_cons_zero, List.set_cons_succ]
  refine wpAnyH_take (i := 17) (oi := ⟨some 52, _, _, _, _, _⟩) (v := .string R.key) rfl (by kernel_rfl) (by kernel_rfl) (by kernel_rfl) (fun _ _ _ h => h) (Or.inl ⟨by rfl, ?_⟩) hHeld ?_
  · intro w' hSw
    have c0 := (show w'.cell? ⟨w1.heap.size, 4, none⟩ = some (.string R.key) from cell_at hSw.2 4)
    go_simp
    try with_reducible rfl
    try omega
  simp only [Act.put, List.setIfInBounds_toArray, List.set_cons_zero, List.set_cons_succ]
  refine wpAnyH_ready (rs := [3]) (by kernel_rfl) (by simp) ?_
  refine AllReadyH.cons (o := ⟨some 38, _, _, _, _, _⟩) rfl (fun K hK => ?_) AllReadyH.nil
  go_simp
  go_at_call 23
  refine (H6.out _).mono ?_
  rintro e wn ⟨rfl, hb⟩
  replace HQ := Lib.hid (hBs hb HQ.out)
  replace HU := Lib.hid (hBs hb HU.out)
  replace HB := Lib.hid (bT (bD HB.out) hb)
  clear hb
  go_wp2_with fail
  refine hK.out _ _ ⟨HQ.out, HU.out⟩ (fun hHeld => ?_)
  clear hK K
  try simp only [Act.put, List.setIfInBounds_toArray, List.set_cons_zero, List.set_cons_succ]
  refine wpAnyH_ready (rs := [6]) (by kernel_rfl) (by simp) ?_
  refine AllReadyH.cons (o := ⟨some 41, _, _, _, _, _⟩) rfl (fun K hK => ?_) AllReadyH.nil
  go_simp
  go_at_call 23
  refine (H7.out _).mono ?_
  rintro e wn ⟨rfl, hb⟩
  replace HQ := Lib.hid (hBs hb HQ.out)
  replace HU := Lib.hid (hBs hb HU.out)
  replace HB := Lib.hid (bT HB.out hb)
  clear hb
  go_wp2_with fail
  refine hK.out _ _ ⟨HQ.out, HU.out⟩ (fun hHeld => ?_)
  clear hK K
  try simp only [Act.put, List.setIfInBounds_toArray, List.set_cons_zero, List.set_cons_succ]
  refine wpAnyH_take (i := 7) (oi := ⟨some 42, _, _, _, _, _⟩) (v := .string (P6 ++ P7)) rfl (by kernel_rfl) (by kernel_rfl) (by kernel_rfl) (fun _ _ _ h => h) (Or.inl ⟨by rfl, ?_⟩) hHeld ?_
  · intro w' hSw
    go_simp
    try with_reducible rfl
    try omega
  simp only [Act.put, List.setIfInBounds_toArray, List.set_cons_zero, List.set_cons_succ]
  refine wpAnyH_ready (rs := [10]) (by kernel_rfl) (by simp) ?_
  refine AllReadyH.cons (o := ⟨some 45, _, _, _, _, _⟩) rfl (fun K hK => ?_) AllReadyH.nil
  go_simp
  go_at_call 23
  refine (H8.out _).mono ?_
  rintro e wn ⟨rfl, hb⟩
  replace HQ := Lib.hid (hBs hb HQ.out)
  replace HU := Lib.hid (hBs hb HU.out)
  replace HB := Lib.hid (bT HB.out hb)
  clear hb
  go_wp2_with fail
  refine hK.out _ _ ⟨HQ.out, HU.out⟩ (fun hHeld => ?_)
  clear hK K
  try simp only [Act.put, List.setIfInBounds_toArray, List.set_cons_zero, List.set_cons_succ]
  refine wpAnyH_take (i := 11) (oi := ⟨some 46, _, _, _, _, _⟩) (v := .string (P6 ++ P7 ++ P8)) rfl (by kernel_rfl) (by kernel_rfl) (by kernel_rfl) (fun _ _ _ h => h) (Or.inl ⟨by rfl, ?_⟩) hHeld ?_
  · intro w' hSw
    go_simp
    try with_reducible rfl
    try omega
  simp only [Act.put, List.setIfInBounds_toArray, List.set_cons_zero, List.set_cons_succ]
  refine wpAnyH_ready (rs := [14]) (by kernel_rfl) (by simp) ?_
  refine AllReadyH.cons (o := ⟨some 49, _, _, _, _, _⟩) rfl (fun K hK => ?_) AllReadyH.nil
  go_simp
  go_at_call 23
  refine (H9.out _).mono ?_
  rintro e wn ⟨rfl, hb⟩
  replace HQ := Lib.hid (hBs hb HQ.out)
  replace HU := Lib.hid (hBs hb HU.out)
  replace HB := Lib.hid (bT HB.out hb)
  clear hb
  go_wp2_with fail
  refine hK.out _ _ ⟨HQ.out, HU.out⟩ (fun hHeld => ?_)
  clear hK K
  try simp only [Act.put, List.setIfInBounds_toArray, List.set_cons_zero, List.set_cons_succ]
  refine wpAnyH_take (i := 15) (oi := ⟨some 50, _, _, _, _, _⟩) (v := .string (P6 ++ P7 ++ P8 ++ P9)) rfl (by kernel_rfl) (by kernel_rfl) (by kernel_rfl) (fun _ _ _ h => h) (Or.inl ⟨by rfl, ?_⟩) hHeld ?_
  · intro w' hSw
    go_simp
    try with_reducible rfl
    try omega
  simp only [Act.put, List.setIfInBounds_toArray, List.set_cons_zero, List.set_cons_succ]
  refine wpAnyH_ready (rs := [18]) (by kernel_rfl) (by simp) ?_
  refine AllReadyH.cons (o := ⟨some 53, _, _, _, _, _⟩) rfl (fun K hK => ?_) AllReadyH.nil
  go_simp
  go_at_call 24
  refine (H10.out _).mono ?_
  rintro e wn ⟨rfl, hb⟩
  replace HQ := Lib.hid (hBs hb HQ.out)
  replace HU := Lib.hid (hBs hb HU.out)
  replace HB := Lib.hid (bT HB.out hb)
  clear hb
  go_wp2_with fail
  refine hK.out _ _ ⟨HQ.out, HU.out⟩ (fun hHeld => ?_)
  clear hK K
  try simp only [Act.put, List.setIfInBounds_toArray, List.set_cons_zero, List.set_cons_succ]
  refine wpAnyH_take (i := 19) (oi := ⟨some 54, _, _, _, _, _⟩) (v := .string (P6 ++ P7 ++ P8 ++ P9 ++ T1)) rfl (by kernel_rfl) (by kernel_rfl) (by kernel_rfl) (fun _ _ _ h => h) (Or.inl ⟨by rfl, ?_⟩) hHeld ?_
  · intro w' hSw
    go_simp
    try with_reducible rfl
    try omega
  simp only [Act.put, List.setIfInBounds_toArray, List.set_cons_zero, List.set_cons_succ]
  refine wpAnyH_take (i := 20) (oi := ⟨some 55, _, _, _, _, _⟩) (v := .string (Y1 ++ (P6 ++ P7 ++ P8 ++ P9 ++ T1))) rfl (by kernel_rfl) (by kernel_rfl) (by kernel_rfl) (fun _ _ _ h => h) (Or.inl ⟨by rfl, ?_⟩) hHeld ?_
  · intro w' hSw
    go_simp
    try with_reducible rfl
    try omega
  simp only [Act.put, List.setIfInBounds_toArray, List.set_cons_zero, List.set_cons_succ]
  refine wpAnyH_take (i := 21) (oi := ⟨some 5, _, _, _, _, _⟩) (v := .string (Y1 ++ (P6 ++ P7 ++ P8 ++ P9 ++ T1))) rfl (by kernel_rfl) (by kernel_rfl) (by kernel_rfl) (fun _ _ _ h => h) (Or.inl ⟨by rfl, ?_⟩) hHeld ?_
  · intro w' hSw
    go_simp
    try with_reducible rfl
    try omega
  simp only [Act.put, List.setIfInBounds_toArray, List.set_cons_zero, List.set_cons_succ]
  refine wpAnyH_done (by kernel_rfl) ?_ _
  obtain ⟨Y2, ey2⟩ : ∃ Y, Y1 ++ (P6 ++ P7 ++ P8 ++ P9 ++ T1) = Y := ⟨_, rfl⟩
  have zy2 : Y2.size ≤ 41 := by rw [← ey2]; simp only [bytes_size]; omega
  rw [ey2] at hhd ⊢
  replace ey2 := Lib.hid ey2
  clear z6 z7 z8 z9 w1' zy1 H6 H7 H8 H9 H10
  go_wp2_with fail
  refine wp_region_held_drew (S := (fun w' => w'.heap[w.heap.size]? = some (.cells (rcC R (.slice a n cap) (.slice b m cap2)) 29 (0, 0)) ∧ w'.heap[w1.heap.size]? = some (.cells #[.int .i64 R.uk, .int .i64 R.us, .int .i64 R.up, .int .i64 R.ul, .string R.key, .int .i64 R.bs, .string R.bd] 25 (0, 0)))) (by kernel_rfl) ⟨HQ.out, HU.out⟩ (fun hHeld => ?_)
  refine wpAnyH_take (i := 0) (oi := ⟨some 56, _, _, _, _, _⟩) (v := .string Y2) rfl (by kernel_rfl) (by kernel_rfl) (by kernel_rfl) (fun _ _ _ h => h) (Or.inl ⟨by rfl, ?_⟩) hHeld ?_
  · intro w' hSw
    go_simp
    try with_reducible rfl
    try omega
  simp only [Act.put, List.setIfInBounds_toArray, List.set_cons_zero, List.set_cons_succ]
  refine wpAnyH_take (i := 1) (oi := ⟨some 57, _, _, _, _, _⟩) (v := .pointer (some ⟨w1.heap.size, 5, none⟩)) rfl (by kernel_rfl) (by kernel_rfl) (by kernel_rfl) (fun _ _ _ h => h) (Or.inl ⟨by rfl, ?_⟩) hHeld ?_
  · intro w' hSw
    go_simp
    try with_reducible rfl
    try omega
  simp only [Act.put, List.setIfInBounds_toArray, List.set_cons_zero, List.set_cons_succ]
  refine wpAnyH_take (i := 2) (oi := ⟨some 58, _, _, _, _, _⟩) (v := .pointer (some ⟨w1.heap.size, 5, none⟩)) rfl (by kernel_rfl) (by kernel_rfl) (by kernel_rfl) (fun _ _ _ h => h) (Or.inl ⟨by rfl, ?_⟩) hHeld ?_
  · intro w' hSw
    go_simp
    try with_reducible rfl
    try omega
  simp only [Act.put, List.setIfInBounds_toArray, List.set_cons_zero, List.set_cons_succ]
  refine wpAnyH_take (i := 3) (oi := ⟨some 59, _, _, _, _, _⟩) (v := .int .i64 R.bs) rfl (by kernel_rfl) (by kernel_rfl) (by kernel_rfl) (fun _ _ _ h => h) (Or.inl ⟨by rfl, ?_⟩) hHeld ?_
  · intro w' hSw
    have c0 := (show w'.cell? ⟨w1.heap.size, 5, none⟩ = some (.int .i64 R.bs) from cell_at hSw.2 5)
    go_simp
    try with_reducible rfl
    try omega
  simp only [Act.put, List.setIfInBounds_toArray, List.set_cons_zero, List.set_cons_succ]
  refine wpAnyH_take (i := 5) (oi := ⟨some 61, _, _, _, _, _⟩) (v := .pointer (some ⟨w1.heap.size, 5, none⟩)) rfl (by kernel_rfl) (by kernel_rfl) (by kernel_rfl) (fun _ _ _ h => h) (Or.inl ⟨by rfl, ?_⟩) hHeld ?_
  · intro w' hSw
    go_simp
    try with_reducible rfl
    try omega
  simp only [Act.put, List.setIfInBounds_toArray, List.set_cons_zero, List.set_cons_succ]
  refine wpAnyH_take (i := 6) (oi := ⟨some 62, _, _, _, _, _⟩) (v := .pointer (some ⟨w1.heap.size, 6, none⟩)) rfl (by kernel_rfl) (by kernel_rfl) (by kernel_rfl) (fun _ _ _ h => h) (Or.inl ⟨by rfl, ?_⟩) hHeld ?_
  · intro w' hSw
    go_simp
    try with_reducible rfl
    try omega
  simp only [Act.put, List.setIfInBounds_toArray, List.set_cons_zero, List.set_cons_succ]
  refine wpAnyH_take (i := 7) (oi := ⟨some 63, _, _, _, _, _⟩) (v := .string R.bd) rfl (by kernel_rfl) (by kernel_rfl) (by kernel_rfl) (fun _ _ _ h => h) (Or.inl ⟨by rfl, ?_⟩) hHeld ?_
  · intro w' hSw
    have c0 := (show w'.cell? ⟨w1.heap.size, 6, none⟩ = some (.string R.bd) from cell_at hSw.2 6)
    go_simp
    try with_reducible rfl
    try omega
  simp only [Act.put, List.setIfInBounds_toArray, List.set_cons_zero, List.set_cons_succ]
  refine wpAnyH_take (i := 10) (oi := ⟨some 66, _, _, _, _, _⟩) (v := .pointer (some ⟨w.heap.size, 11, none⟩)) rfl (by kernel_rfl) (by kernel_rfl) (by kernel_rfl) (fun _ _ _ h => h) (Or.inl ⟨by rfl, ?_⟩) hHeld ?_
  · intro w' hSw
    go_simp
    try with_reducible rfl
    try omega
  simp only [Act.put, List.setIfInBounds_toArray, List.set_cons_zero, List.set_cons_succ]
  refine wpAnyH_take (i := 11) (oi := ⟨some 67, _, _, _, _, _⟩) (v := .slice a n cap) rfl (by kernel_rfl) (by kernel_rfl) (by kernel_rfl) (fun _ _ _ h => h) (Or.inl ⟨by rfl, ?_⟩) hHeld ?_
  · intro w' hSw
    have c0 := (show w'.cell? ⟨w.heap.size, 11, none⟩ = some (.slice a n cap) from cell_at hSw.1 11)
    go_simp
    try with_reducible rfl
    try omega
  simp only [Act.put, List.setIfInBounds_toArray, List.set_cons_zero, List.set_cons_succ]
  refine wpAnyH_take (i := 12) (oi := ⟨some 68, _, _, _, _, _⟩) (v := .int .i64 (n : Int)) rfl (by kernel_rfl) (by kernel_rfl) (by kernel_rfl) (fun _ _ _ h => h) (Or.inl ⟨by rfl, ?_⟩) hHeld ?_
  · intro w' hSw
    go_simp
    try with_reducible rfl
    try omega
  simp only [Act.put, List.setIfInBounds_toArray, List.set_cons_zero, List.set_cons_succ]
  refine wpAnyH_ready (rs := [4]) (by kernel_rfl) (by simp) ?_
  refine AllReadyH.cons (o := ⟨some 60, _, _, _, _, _⟩) rfl (fun K hK => ?_) AllReadyH.nil
  go_simp
  go_at_call 23
  refine (H11.out _).mono ?_
  rintro e wn ⟨rfl, hb⟩
  replace HQ := Lib.hid (hBs hb HQ.out)
  replace HU := Lib.hid (hBs hb HU.out)
  replace HB := Lib.hid (bT (bD HB.out) hb)
  clear hb
  go_wp2_with fail
  refine hK.out _ _ ⟨HQ.out, HU.out⟩ (fun hHeld => ?_)
  clear hK K
  try simp only [Act.put, List.setIfInBounds_toArray, List.set_cons_zero, List.set_cons_succ]
  refine wpAnyH_ready (rs := [8]) (by kernel_rfl) (by simp) ?_
  refine AllReadyH.cons (o := ⟨some 64, _, _, _, _, _⟩) rfl (fun K hK => ?_) AllReadyH.nil
  go_simp
  go_at_call 24
  refine (H12.out _).mono ?_
  rintro e wn ⟨rfl, hb⟩
  replace HQ := Lib.hid (hBs hb HQ.out)
  replace HU := Lib.hid (hBs hb HU.out)
  replace HB := Lib.hid (bT HB.out hb)
  clear hb
  go_wp2_with fail
  refine hK.out _ _ ⟨HQ.out, HU.out⟩ (fun hHeld => ?_)
  clear hK K
  try simp only [Act.put, List.setIfInBounds_toArray, List.set_cons_zero, List.set_cons_succ]
  refine wpAnyH_take (i := 9) (oi := ⟨some 65, _, _, _, _, _⟩) (v := .string (P10 ++ T2)) rfl (by kernel_rfl) (by kernel_rfl) (by kernel_rfl) (fun _ _ _ h => h) (Or.inl ⟨by rfl, ?_⟩) hHeld ?_
  · intro w' hSw
    go_simp
    try with_reducible rfl
    try omega
  simp only [Act.put, List.setIfInBounds_toArray, List.set_cons_zero, List.set_cons_succ]
  refine wpAnyH_ready (rs := [13]) (by kernel_rfl) (by simp) ?_
  refine AllReadyH.cons (o := ⟨some 69, _, _, _, _, _⟩) rfl (fun K hK => ?_) AllReadyH.nil
  go_simp
  go_at_call 23
  refine (H13.out _).mono ?_
  rintro e wn ⟨rfl, hb⟩
  replace HQ := Lib.hid (hBs hb HQ.out)
  replace HU := Lib.hid (hBs hb HU.out)
  replace HB := Lib.hid (bT HB.out hb)
  clear hb
  go_wp2_with fail
  refine hK.out _ _ ⟨HQ.out, HU.out⟩ (fun hHeld => ?_)
  clear hK K
  try simp only [Act.put, List.setIfInBounds_toArray, List.set_cons_zero, List.set_cons_succ]
  refine wpAnyH_take (i := 14) (oi := ⟨some 70, _, _, _, _, _⟩) (v := .string (P10 ++ T2 ++ P11)) rfl (by kernel_rfl) (by kernel_rfl) (by kernel_rfl) (fun _ _ _ h => h) (Or.inl ⟨by rfl, ?_⟩) hHeld ?_
  · intro w' hSw
    go_simp
    try with_reducible rfl
    try omega
  simp only [Act.put, List.setIfInBounds_toArray, List.set_cons_zero, List.set_cons_succ]
  refine wpAnyH_take (i := 15) (oi := ⟨some 71, _, _, _, _, _⟩) (v := .string (Y2 ++ (P10 ++ T2 ++ P11))) rfl (by kernel_rfl) (by kernel_rfl) (by kernel_rfl) (fun _ _ _ h => h) (Or.inl ⟨by rfl, ?_⟩) hHeld ?_
  · intro w' hSw
    go_simp
    try with_reducible rfl
    try omega
  simp only [Act.put, List.setIfInBounds_toArray, List.set_cons_zero, List.set_cons_succ]
  refine wpAnyH_take (i := 16) (oi := ⟨some 5, _, _, _, _, _⟩) (v := .string (Y2 ++ (P10 ++ T2 ++ P11))) rfl (by kernel_rfl) (by kernel_rfl) (by kernel_rfl) (fun _ _ _ h => h) (Or.inl ⟨by rfl, ?_⟩) hHeld ?_
  · intro w' hSw
    go_simp
    try with_reducible rfl
    try omega
  simp only [Act.put, List.setIfInBounds_toArray, List.set_cons_zero, List.set_cons_succ]
  refine wpAnyH_done (by kernel_rfl) ?_ _
  obtain ⟨Y3, ey3⟩ : ∃ Y, Y2 ++ (P10 ++ T2 ++ P11) = Y := ⟨_, rfl⟩
  rw [ey3] at hhd ⊢
  replace ey3 := Lib.hid ey3
  clear z11 z13 w2' zy2 H11 H12 H13
  have HY : Hid (Y3.data.toList = hdB R ++ (R.ims.take 0).flatMap imB) := Lib.hid (by rw [hhd.out]; simp)
  have c : wn.cell? ⟨w.heap.size, 11, none⟩ = some (.slice a n cap) := cell_at HQ.out 11
  have hhz := hdB_length R
  clear hhd HU ey1 ey2 ey3
  go_wp2_with fail
  clear c
  go_loopw [5, 6] (fun s i wr => ∃ (k : Nat) (Y : ByteArray), k ≤ n ∧ i = .int .i64 k ∧ s = .string Y ∧ Hid (Y.data.toList = hdB R ++ (R.ims.take k).flatMap imB) ∧ Hid (wr.heap[w.heap.size]? = some (.cells (rcC R (.slice a n cap) (.slice b m cap2)) 29 (0, 0))) ∧ Hid (Below w.heap.size w wr)) (fun _ i _ => n - (intOf i).toNat)
  case atStart => exact ⟨0, Y3, by omega, rfl, rfl, HY.out, HQ.out, HB.out⟩
  case round =>
    clear HY HQ HB
    obtain ⟨k, Y, hk, rfl, rfl, HY, HQ, HB⟩ := hrel
    have hqr := block_lt HQ.out
    by_cases hkn : k < n
    · obtain ⟨pb, off, rfl, hpb, hrg⟩ := (HS1.out.later HB.out).elem imL_length (k := k) (by rw [← hn.out]; exact hkn)
      have d11 : wr.cell? ⟨w.heap.size, 11, none⟩ = some (.slice (some ⟨pb, off, none⟩) n cap) := cell_at HQ.out 11
      obtain ⟨x, hx⟩ : ∃ x, R.ims[k]'(by rw [← hn.out]; exact hkn) = x := ⟨_, rfl⟩
      have hxk : Hid (ImOk x) := HOK.out.2.1 x (hx ▸ List.getElem_mem _)
      have hfl : Hid ((R.ims.take (k + 1)).flatMap imB = (R.ims.take k).flatMap imB ++ imB x) := by
        have := flat_take imB R.ims k (by rw [← hn.out]; exact hkn)
        rw [hx] at this
        exact this
      have hfz := flat_le imB 228 R.ims k 24 (fun x hx => imB_length (HOK.out.2.1 x hx)) k5.out
      have hyz : Y.size ≤ 6000 := by
        have := congrArg List.length HY.out
        rw [list_size, List.length_append] at this
        have := HOK.out.1.2.2.2.2.2.2.2.2.2.1
        have := HOK.out.1.2.2.2.2.2.2.2.2.2.2.2.1
        omega
      clear hfz
      rw [hx] at hrg
      replace hx := Lib.hid hx
      have hrg := Lib.hid hrg
      have hrg1 : Hid (wr.rangeAt pb (off + k * 17 + 1) (pgC x.2).toList) := fun j v hv => by
        have := hrg.out (j + 1) v hv
        rw [show off + k * 17 + 1 + j = off + k * 17 + (j + 1) by omega]
        exact this
      have HC := Lib.hid (fun w => rf_encode_ok x.2 hxk.out.2 w)
      unfold pgV at HC
      have hps := pageS_size hxk.out.2
      have hims : Hid (imB x = nB 4 x.1 ++ (pageS x.2).data.toList) := rfl
      obtain ⟨i0, i1⟩ := hxk.out.1
      obtain ⟨PX, lx, zx, HX⟩ := put_any x.1 4 (by decide) (by decide) i0 (by omega)
      generalize pageS x.2 = BD at *
      replace lx := Lib.hid lx
      clear i0 i1
      go_wp2_with (refine wpList_load_mid rfl 60 _ rfl pb (off + k * 17 + 1) rfl (pgC x.2).toList _ hrg1.out Tryd.underlying60 rfl (by kernel_rfl) ?_)
      refine (HC.out _).mono ?_
      rintro e w5 ⟨rfl, hb⟩
      have HQ5 := Lib.hid (hBs hb HQ.out)
      have HB5 := Lib.hid (bT HB.out hb)
      have c0 : w5.cell? ⟨pb, off + k * 17, none⟩ = some (.int .i64 x.1) := range_later hrg.out hpb hb 0 _ rfl
      have d12 : w5.cell? ⟨w.heap.size, 11, none⟩ = some (.slice (some ⟨pb, off, none⟩) n cap) := cell_at HQ5.out 11
      clear hb HC HQ HB hrg hrg1 d11
      go_wp2_with fail
      refine (HX.out _).mono ?_
      rintro e w6 ⟨rfl, hb⟩
      have HQ6 := Lib.hid (hBs hb HQ5.out)
      have HB6 := Lib.hid (bT HB5.out hb)
      clear hb HX HQ5 HB5 c0 d12
      go_wp2_with fail
      go_roundw
      case rel =>
        refine ⟨k + 1, _, by omega, rfl, rfl, ?_, HQ6.out, HB6.out⟩
        exact Lib.hid (by rw [list_append', list_append', HY.out, lx.out, hfl.out, hims.out]; simp only [List.append_assoc])
      case measure => simp [intOf]; omega
    · obtain rfl : k = n := by omega
      have HYi : Hid (Y.data.toList = hdB R ++ R.ims.flatMap imB) := by
        have h := HY.out
        rw [hn.out, List.take_length] at h
        exact h
      have hfz := flat_le imB 228 R.ims k 24 (fun x hx => imB_length (HOK.out.2.1 x hx)) k5.out
      have hyz : Y.size ≤ 6000 := by
        have := congrArg List.length HY.out
        rw [list_size, List.length_append] at this
        have := HOK.out.1.2.2.2.2.2.2.2.2.2.1
        have := HOK.out.1.2.2.2.2.2.2.2.2.2.2.2.1
        omega
      clear hfz HS1 hkn hk HY
      have d11 : wr.cell? ⟨w.heap.size, 11, none⟩ = some (.slice a k cap) := cell_at HQ.out 11
      have d12 : wr.cell? ⟨w.heap.size, 12, none⟩ = some (.slice b m cap2) := cell_at HQ.out 12
      go_wp2_with fail
      refine (H14.out _).mono ?_
      rintro e w5 ⟨rfl, hb⟩
      have HQ5 := Lib.hid (hBs hb HQ.out)
      have HB5 := Lib.hid (bT HB.out hb)
      have HY5 : Hid ((Y ++ P12).data.toList = hdB R ++ R.ims.flatMap imB ++ nB 1 (R.lvs.length : Int) ++ (R.lvs.take 0).flatMap lvB) := by
        have h := l14.out
        rw [hm.out] at h
        exact Lib.hid (by rw [list_append', HYi.out, h]; simp)
      clear hb HQ HB H14 d11 d12 HYi
      go_wp2_with fail
      go_loopw [5, 9] (fun s i wr => ∃ (j : Nat) (Y : ByteArray), j ≤ m ∧ i = .int .i64 j ∧ s = .string Y ∧ Hid (Y.data.toList = hdB R ++ R.ims.flatMap imB ++ nB 1 (R.lvs.length : Int) ++ (R.lvs.take j).flatMap lvB) ∧ Hid (wr.heap[w.heap.size]? = some (.cells (rcC R (.slice a k cap) (.slice b m cap2)) 29 (0, 0))) ∧ Hid (Below w.heap.size w wr)) (fun _ i _ => m - (intOf i).toNat)
      case atStart => exact ⟨0, _, by omega, rfl, rfl, HY5.out, HQ5.out, HB5.out⟩
      case round =>
        clear HY5 HQ5 HB5 hyz z14 l14 hqr
        obtain ⟨j, Y, hj, rfl, rfl, HY, HQ, HB⟩ := hrel
        have hqr := block_lt HQ.out
        by_cases hjm : j < m
        · obtain ⟨pb, off, rfl, hpb, hrg⟩ := (HS2.out.later HB.out).elem lvL_length (k := j) (by rw [← hm.out]; exact hjm)
          have d12 : wr.cell? ⟨w.heap.size, 12, none⟩ = some (.slice (some ⟨pb, off, none⟩) m cap2) := cell_at HQ.out 12
          obtain ⟨x, hx⟩ : ∃ x, R.lvs[j]'(by rw [← hm.out]; exact hjm) = x := ⟨_, rfl⟩
          have hxk : Hid (LvOk x) := HOK.out.2.2 x (hx ▸ List.getElem_mem _)
          have hfl : Hid ((R.lvs.take (j + 1)).flatMap lvB = (R.lvs.take j).flatMap lvB ++ lvB x) := by
            have := flat_take lvB R.lvs j (by rw [← hm.out]; exact hjm)
            rw [hx] at this
            exact this
          have hyz : Y.size ≤ 6000 := by
            have h1 := congrArg List.length HY.out
            have h2 := flat_le lvB 20 R.lvs j 8 (fun x hx => lvB_length x) k6.out
            have h3 := flat_length imB 228 R.ims (fun x hx => imB_length (HOK.out.2.1 x hx))
            rw [list_size, List.length_append, List.length_append, List.length_append, nB_length] at h1
            have h4 := k5.out
            have := HOK.out.1.2.2.2.2.2.2.2.2.2.1
            have := HOK.out.1.2.2.2.2.2.2.2.2.2.2.2.1
            omega
          rw [hx] at hrg
          replace hx := Lib.hid hx
          have hrg : Hid (wr.rangeAt pb (off + j * 3) [.int .i64 x.1, .int .i64 x.2.1, .int .i64 x.2.2]) := hrg
          obtain ⟨x1, x2, x3⟩ := x
          dsimp only at hrg
          have hlv : Hid (lvB (x1, x2, x3) = nB 4 x1 ++ nB 8 x2 ++ nB 8 x3) := rfl
          obtain ⟨⟨i1, i2⟩, ⟨i3, i4⟩, ⟨i5, i6⟩⟩ := hxk.out
          dsimp only at i1 i2 i3 i4 i5 i6
          obtain ⟨Q1, l1, z1, H1⟩ := put_any x1 4 (by decide) (by decide) i1 (by omega)
          obtain ⟨Q2, l2, z2, H2⟩ := put_any x2 8 (by decide) (by decide) i3 (by omega)
          obtain ⟨Q3, l3, z3, H3⟩ := put_any x3 8 (by decide) (by decide) i5 (by omega)
          have hql : Hid ((Y ++ (Q1 ++ Q2 ++ Q3)).data.toList = hdB R ++ R.ims.flatMap imB ++ nB 1 (R.lvs.length : Int) ++ (R.lvs.take (j + 1)).flatMap lvB) :=
            Lib.hid (by rw [list_append', list_append', list_append', HY.out, l1, l2, l3, hfl.out, hlv.out]; simp only [List.append_assoc])
          clear l1 l2 l3 i1 i2 i3 i4 i5 i6 hlv hfl hxk
          have HX : Hid ((wr.alloc (.cells #[.int .i64 x1, .int .i64 x2, .int .i64 x3] 65)).heap[wr.heap.size]? = some (.cells #[.int .i64 x1, .int .i64 x2, .int .i64 x3] 65 (0, 0))) := hN rfl
          have HQ1 : Hid ((wr.alloc (.cells #[.int .i64 x1, .int .i64 x2, .int .i64 x3] 65)).heap[w.heap.size]? = _) := hO HQ.out
          have HB1 : Hid (Below w.heap.size w (wr.alloc (.cells #[.int .i64 x1, .int .i64 x2, .int .i64 x3] 65))) := bA HB.out
          clear HB HQ HY
          go_wp2_with (refine wpList_load_mid rfl 65 _ rfl pb (off + j * 3) rfl [.int .i64 x1, .int .i64 x2, .int .i64 x3] _ hrg.out Tryd.underlying65 rfl (by kernel_rfl) ?_)
          refine wp_region_held_drew (S := fun w' => w'.heap[wr.heap.size]? = some (.cells #[.int .i64 x1, .int .i64 x2, .int .i64 x3] 65 (0, 0))) (by kernel_rfl) HX.out (fun hHeld => ?_)
          refine wpAnyH_take (i := 0) (oi := ⟨some 118, _, _, _, _, _⟩) (v := .string Y) rfl (by kernel_rfl) (by kernel_rfl) (by kernel_rfl) (fun _ _ _ h => h) (Or.inl ⟨by rfl, ?_⟩) hHeld ?_
          · intro w' hSw
            go_simp
            try with_reducible rfl
            try omega
          simp only [Act.put, List.setIfInBounds_toArray, List.set_cons_zero, List.set_cons_succ]
          refine wpAnyH_take (i := 1) (oi := ⟨some 119, _, _, _, _, _⟩) (v := .pointer (some ⟨wr.heap.size, 0, none⟩)) rfl (by kernel_rfl) (by kernel_rfl) (by kernel_rfl) (fun _ _ _ h => h) (Or.inl ⟨by rfl, ?_⟩) hHeld ?_
          · intro w' hSw
            go_simp
            try with_reducible rfl
            try omega
          simp only [Act.put, List.setIfInBounds_toArray, List.set_cons_zero, List.set_cons_succ]
          refine wpAnyH_take (i := 2) (oi := ⟨some 120, _, _, _, _, _⟩) (v := .int .i64 x1) rfl (by kernel_rfl) (by kernel_rfl) (by kernel_rfl) (fun _ _ _ h => h) (Or.inl ⟨by rfl, ?_⟩) hHeld ?_
          · intro w' hSw
            have c0 := (show w'.cell? ⟨wr.heap.size, 0, none⟩ = some (.int .i64 x1) from cell_at hSw 0)
            go_simp
            try with_reducible rfl
            try omega
          simp only [Act.put, List.setIfInBounds_toArray, List.set_cons_zero, List.set_cons_succ]
          refine wpAnyH_take (i := 4) (oi := ⟨some 122, _, _, _, _, _⟩) (v := .pointer (some ⟨wr.heap.size, 1, none⟩)) rfl (by kernel_rfl) (by kernel_rfl) (by kernel_rfl) (fun _ _ _ h => h) (Or.inl ⟨by rfl, ?_⟩) hHeld ?_
          · intro w' hSw
            go_simp
            try with_reducible rfl
            try omega
          simp only [Act.put, List.setIfInBounds_toArray, List.set_cons_zero, List.set_cons_succ]
          refine wpAnyH_take (i := 5) (oi := ⟨some 123, _, _, _, _, _⟩) (v := .int .i64 x2) rfl (by kernel_rfl) (by kernel_rfl) (by kernel_rfl) (fun _ _ _ h => h) (Or.inl ⟨by rfl, ?_⟩) hHeld ?_
          · intro w' hSw
            have c0 := (show w'.cell? ⟨wr.heap.size, 1, none⟩ = some (.int .i64 x2) from cell_at hSw 1)
            go_simp
            try with_reducible rfl
            try omega
          simp only [Act.put, List.setIfInBounds_toArray, List.set_cons_zero, List.set_cons_succ]
          refine wpAnyH_take (i := 8) (oi := ⟨some 126, _, _, _, _, _⟩) (v := .pointer (some ⟨wr.heap.size, 2, none⟩)) rfl (by kernel_rfl) (by kernel_rfl) (by kernel_rfl) (fun _ _ _ h => h) (Or.inl ⟨by rfl, ?_⟩) hHeld ?_
          · intro w' hSw
            go_simp
            try with_reducible rfl
            try omega
          simp only [Act.put, List.setIfInBounds_toArray, List.set_cons_zero, List.set_cons_succ]
          refine wpAnyH_take (i := 9) (oi := ⟨some 127, _, _, _, _, _⟩) (v := .int .i64 x3) rfl (by kernel_rfl) (by kernel_rfl) (by kernel_rfl) (fun _ _ _ h => h) (Or.inl ⟨by rfl, ?_⟩) hHeld ?_
          · intro w' hSw
            have c0 := (show w'.cell? ⟨wr.heap.size, 2, none⟩ = some (.int .i64 x3) from cell_at hSw 2)
            go_simp
            try with_reducible rfl
            try omega
          simp only [Act.put, List.setIfInBounds_toArray, List.set_cons_zero, List.set_cons_succ]
          refine wpAnyH_ready (rs := [3]) (by kernel_rfl) (by simp) ?_
          refine AllReadyH.cons (o := ⟨some 121, _, _, _, _, _⟩) rfl (fun K hK => ?_) AllReadyH.nil
          go_simp
          go_at_call 23
          refine (H1.out _).mono ?_
          rintro e wn ⟨rfl, hb⟩
          replace HX := Lib.hid (hBs hb HX.out)
          replace HQ1 := Lib.hid (hBs hb HQ1.out)
          replace HB1 := Lib.hid (bT (bD HB1.out) hb)
          clear hb
          go_wp2_with fail
          refine hK.out _ _ HX.out (fun hHeld => ?_)
          clear hK K
          try simp only [Act.put, List.setIfInBounds_toArray, List.set_cons_zero, List.set_cons_succ]
          refine wpAnyH_ready (rs := [6]) (by kernel_rfl) (by simp) ?_
          refine AllReadyH.cons (o := ⟨some 124, _, _, _, _, _⟩) rfl (fun K hK => ?_) AllReadyH.nil
          go_simp
          go_at_call 23
          refine (H2.out _).mono ?_
          rintro e wn ⟨rfl, hb⟩
          replace HX := Lib.hid (hBs hb HX.out)
          replace HQ1 := Lib.hid (hBs hb HQ1.out)
          replace HB1 := Lib.hid (bT HB1.out hb)
          clear hb
          go_wp2_with fail
          refine hK.out _ _ HX.out (fun hHeld => ?_)
          clear hK K
          try simp only [Act.put, List.setIfInBounds_toArray, List.set_cons_zero, List.set_cons_succ]
          refine wpAnyH_take (i := 7) (oi := ⟨some 125, _, _, _, _, _⟩) (v := .string (Q1 ++ Q2)) rfl (by kernel_rfl) (by kernel_rfl) (by kernel_rfl) (fun _ _ _ h => h) (Or.inl ⟨by rfl, ?_⟩) hHeld ?_
          · intro w' hSw
            go_simp
            try with_reducible rfl
            try omega
          simp only [Act.put, List.setIfInBounds_toArray, List.set_cons_zero, List.set_cons_succ]
          refine wpAnyH_ready (rs := [10]) (by kernel_rfl) (by simp) ?_
          refine AllReadyH.cons (o := ⟨some 128, _, _, _, _, _⟩) rfl (fun K hK => ?_) AllReadyH.nil
          go_simp
          go_at_call 23
          refine (H3.out _).mono ?_
          rintro e wn ⟨rfl, hb⟩
          replace HX := Lib.hid (hBs hb HX.out)
          replace HQ1 := Lib.hid (hBs hb HQ1.out)
          replace HB1 := Lib.hid (bT HB1.out hb)
          clear hb
          go_wp2_with fail
          refine hK.out _ _ HX.out (fun hHeld => ?_)
          clear hK K
          try simp only [Act.put, List.setIfInBounds_toArray, List.set_cons_zero, List.set_cons_succ]
          refine wpAnyH_take (i := 11) (oi := ⟨some 129, _, _, _, _, _⟩) (v := .string (Q1 ++ Q2 ++ Q3)) rfl (by kernel_rfl) (by kernel_rfl) (by kernel_rfl) (fun _ _ _ h => h) (Or.inl ⟨by rfl, ?_⟩) hHeld ?_
          · intro w' hSw
            go_simp
            try with_reducible rfl
            try omega
          simp only [Act.put, List.setIfInBounds_toArray, List.set_cons_zero, List.set_cons_succ]
          refine wpAnyH_take (i := 12) (oi := ⟨some 130, _, _, _, _, _⟩) (v := .string (Y ++ (Q1 ++ Q2 ++ Q3))) rfl (by kernel_rfl) (by kernel_rfl) (by kernel_rfl) (fun _ _ _ h => h) (Or.inl ⟨by rfl, ?_⟩) hHeld ?_
          · intro w' hSw
            go_simp
            try with_reducible rfl
            try omega
          simp only [Act.put, List.setIfInBounds_toArray, List.set_cons_zero, List.set_cons_succ]
          refine wpAnyH_take (i := 13) (oi := ⟨some 5, _, _, _, _, _⟩) (v := .string (Y ++ (Q1 ++ Q2 ++ Q3))) rfl (by kernel_rfl) (by kernel_rfl) (by kernel_rfl) (fun _ _ _ h => h) (Or.inl ⟨by rfl, ?_⟩) hHeld ?_
          · intro w' hSw
            go_simp
            try with_reducible rfl
            try omega
          simp only [Act.put, List.setIfInBounds_toArray, List.set_cons_zero, List.set_cons_succ]
          refine wpAnyH_done (by kernel_rfl) ?_ _
          go_wp2_with fail
          go_roundw
          case rel => exact ⟨j + 1, _, by omega, rfl, rfl, hql.out, HQ1.out, HB1.out⟩
          case measure => simp [intOf]; omega
        · obtain rfl : j = m := by omega
          have hfin : Hid (Y = rcS R) := by
            have h := HY.out
            rw [hm.out, List.take_length] at h
            exact Lib.hid (ba_ext (by rw [rcS_list]; exact h))
          have d12 : wr.cell? ⟨w.heap.size, 12, none⟩ = some (.slice b j cap2) := cell_at HQ.out 12
          go_wp2_with fail
          go_ret2
          rw [hfin.out]
          exact ⟨rfl, HB.out⟩
end Go.Proofs.YtblakognnfilaaaDoor
