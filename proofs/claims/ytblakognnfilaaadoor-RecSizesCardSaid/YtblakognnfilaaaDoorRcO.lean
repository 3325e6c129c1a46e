import Derived.Test.YtblakognnfilaaaDoorRcN
import Derived.Test.YtblakognnfilaaaDoorRcArg
set_option linter.unusedSimpArgs false
set_option linter.unusedVariables false
namespace Go.Proofs.YtblakognnfilaaaDoor
open Go.RowKit

/-! ### RecSizes -/
set_option maxRecDepth 100000 in
set_option maxHeartbeats 3200000 in
theorem recSizes_walk (v : Value) (R : Rc) (w : World) (h : RcIs w v R) : Calls Tryd.prog 6 #[v] w fun e w' => e = .returned (.bool true) ∧ Below w.heap.size w w' := by
  obtain ⟨iv, lv, rfl, hsl⟩ := h
  have HA := Lib.hid (fun w => awake06 w)
  obtain ⟨a, n, cap, rfl, hn, hnz, -⟩ := sl_open hsl.1
  obtain ⟨b, m, cap2, rfl, hm, hmz, -⟩ := sl_open hsl.2.1
  rw [List.length_map] at hn hm
  replace hsl := Lib.hid hsl
  have HQ : Hid ((w.alloc (.cells (rcC R (.slice a n cap) (.slice b m cap2)) 29)).heap[w.heap.size]? = some (.cells (rcC R (.slice a n cap) (.slice b m cap2)) 29 (0, 0))) := hN rfl
  have HB0 := bA (o := .cells (rcC R (.slice a n cap) (.slice b m cap2)) 29) (bR (w := w))
  have hsl0 := Lib.hid (hsl.out.later HB0)
  replace HB0 := Lib.hid HB0
  replace hn := Lib.hid hn
  replace hm := Lib.hid hm
  by_cases hok : RcOk R
  · have hz := rcS_size hok
    obtain ⟨-, -, -, -, -, -, -, -, -, k3, -, k4, k5, k6⟩ := hok.1
    obtain ⟨S, eS⟩ : ∃ S, rcS R = S := ⟨_, rfl⟩
    have HE := Lib.hid (fun w h => rc_encode_ok R (.slice a n cap) (.slice b m cap2) w h hok)
    rw [eS] at HE hz
    have hn24 : n ≤ 24 := by rw [hn.out]; exact k5
    have hm8 : m ≤ 8 := by rw [hm.out]; exact k6
    have hz2 : S.size = 37 + R.key.size + R.bd.size + 228 * n + 20 * m := by rw [hz, hn.out, hm.out]
    have hz2 := Lib.hid hz2
    clear hz eS hok k5 k6
    go_enter Tryd.func6, Tryd.ntmps6
    go_wp2_with fail
    refine (HA.out _).mono ?_
    rintro e w1 ⟨rfl, hb⟩
    have HB1 := Lib.hid (bT HB0.out hb)
    have HQ1 := Lib.hid (hBs hb HQ.out)
    have hsl1 := Lib.hid (hsl0.out.later hb)
    clear hb HA HQ HB0 hsl0
    go_wp2_with (refine wpList_load_row rfl 29 _ rfl _ rfl 29 _ _ _ HQ1.out Tryd.underlying29 rfl (by kernel_rfl) ?_)
    refine (HE.out _ hsl1.out).mono ?_
    rintro e w2 ⟨rfl, hb⟩
    have HB2 := Lib.hid (bT HB1.out hb)
    have HQ2 := Lib.hid (hBs hb HQ1.out)
    clear hb HE HB1 HQ1 hsl1
    have c8 : w2.cell? ⟨w.heap.size, 8, none⟩ = some (.string R.key) := cell_at HQ2.out 8
    have c10 : w2.cell? ⟨w.heap.size, 10, none⟩ = some (.string R.bd) := cell_at HQ2.out 10
    have c11 : w2.cell? ⟨w.heap.size, 11, none⟩ = some (.slice a n cap) := cell_at HQ2.out 11
    have c12 : w2.cell? ⟨w.heap.size, 12, none⟩ = some (.slice b m cap2) := cell_at HQ2.out 12
    have hsum : ((S.size : Int) == 37 + (R.key.size : Int) + (R.bd.size : Int) + 228 * (n : Int) + 20 * (m : Int)) = true := by
      rw [hz2.out]; simp
    go_wp2_with fail
    go_ret
    exact ⟨by simp, HB2.out⟩
  · have HE := Lib.hid (fun w h => rc_encode_no R (.slice a n cap) (.slice b m cap2) w h hok)
    have HC := Lib.hid (fun w h => rc_check R (.slice a n cap) (.slice b m cap2) w h)
    replace hok := Lib.hid hok
    go_enter Tryd.func6, Tryd.ntmps6
    go_wp2_with fail
    refine (HA.out _).mono ?_
    rintro e w1 ⟨rfl, hb⟩
    have HB1 := Lib.hid (bT HB0.out hb)
    have HQ1 := Lib.hid (hBs hb HQ.out)
    have hsl1 := Lib.hid (hsl0.out.later hb)
    clear hb HA HQ HB0 hsl0
    go_wp2_with (refine wpList_load_row rfl 29 _ rfl _ rfl 29 _ _ _ HQ1.out Tryd.underlying29 rfl (by kernel_rfl) ?_)
    refine (HE.out _ hsl1.out).mono ?_
    rintro e w2 ⟨rfl, hb⟩
    have HB2 := Lib.hid (bT HB1.out hb)
    have HQ2 := Lib.hid (hBs hb HQ1.out)
    have hsl2 := Lib.hid (hsl1.out.later hb)
    clear hb HE HB1 HQ1 hsl1
    go_wp2_with (refine wpList_load_want (by rfl) 29 _ rfl w.heap.size rfl 29 _ _ _ HQ2.out Tryd.underlying29 rfl (by kernel_rfl) ?_)
    refine (HC.out _ hsl2.out).mono ?_
    rintro e w3 ⟨h, hb⟩
    obtain rfl := h.elim (fun h => absurd h.2 hok.out) (fun h => h.1)
    have HB3 := Lib.hid (bT HB2.out hb)
    clear hb h
    go_wp2_with fail
    go_ret
    exact ⟨rfl, HB3.out⟩
end Go.Proofs.YtblakognnfilaaaDoor
