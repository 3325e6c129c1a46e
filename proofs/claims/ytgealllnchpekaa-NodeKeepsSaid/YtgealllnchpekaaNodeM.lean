import Derived.Test.YtgealllnchpekaaNodeL
import Derived.Test.YtgealllnchpekaaNodeH
import Derived.Deep.RegionHeld3
set_option linter.unusedSimpArgs false
set_option linter.unusedVariables false
namespace Go.Proofs.Ytgealllnchpekaa
open Go.RowKit

set_option maxRecDepth 100000 in
set_option maxHeartbeats 12800000 in
theorem nodeCells_run (key val : ByteArray) (n st : Int) (dt : ByteArray) (hk : key.size ≤ maxLen) (hv : val.size ≤ maxLen) (hd : dt.size ≤ maxLen) (w : World) :
    Calls Try.prog 5 #[.agg #[.string key, .string val, .int .i64 n, .int .i64 st, .string dt]] w fun e w' => e = .returned (.bool true) ∧ Below w.heap.size w w' := by
  have HA := Lib.hid (fun w => awake05 w)
  have H1 := Lib.hid (fun w => nd_leaf key val n hk hv w)
  have H2 := Lib.hid (fun w => rf_leaf key val n hk hv w)
  have H3 := Lib.hid (fun w => nd_inner key n hk w)
  have H4 := Lib.hid (fun w => rf_inner key n hk w)
  have H5 := Lib.hid (fun w => nd_key st dt hd w)
  have H6 := Lib.hid (fun w => rf_says st dt hd w)
  have H7 := Lib.hid (fun w => nd_child st dt hd w)
  have H8 := Lib.hid (fun w => rf_child st dt hd w)
  generalize leafP key val n = l at *
  generalize innerP key n = i at *
  generalize keyP st dt = kp at *
  generalize childP st dt = ch at *
  obtain ⟨⟨ls, ld⟩, le⟩ := l
  obtain ⟨⟨is', id'⟩, ie⟩ := i
  obtain ⟨kk, kr, kb⟩ := kp
  unfold cellV at *
  dsimp only at *
  unfold maxLen at hk hv hd
  go_enter Try.func5, Try.ntmps5
  go_wp2_with fail
  go_region
  go_wp2_with fail
  refine (HA.out _).mono ?_
  rintro e w1 ⟨rfl, hb⟩
  have HB1 := Lib.hid (bT (bD (bA (bA bR))) hb)
  have X6 := Lib.hid (hBs hb (hDr (hN (n := w.heap.size + 1) (by simp))))
  clear hb
  go_wp2_with fail
  refine (H1.out _).mono ?_
  rintro e w2 ⟨rfl, hb⟩
  have HB2 := Lib.hid (bT HB1.out hb)
  have X6 := Lib.hid (hBs hb X6.out)
  clear hb
  go_wp2_with fail
  refine (H2.out _).mono ?_
  rintro e w3 ⟨rfl, hb⟩
  have HB3 := Lib.hid (bT (bA HB2.out) hb)
  have X6 := Lib.hid (hBs hb (hO X6.out))
  have X7 := Lib.hid (hBs hb (hN (n := w2.heap.size) rfl))
  clear hb
  go_wp2_with fail
  refine (H3.out _).mono ?_
  rintro e w4 ⟨rfl, hb⟩
  have HB4 := Lib.hid (bT (bA HB3.out) hb)
  have X6 := Lib.hid (hBs hb (hO X6.out))
  have X7 := Lib.hid (hBs hb (hO X7.out))
  have X9 := Lib.hid (hBs hb (hN (n := w3.heap.size) rfl))
  clear hb
  go_wp2_with fail
  refine (H4.out _).mono ?_
  rintro e w5 ⟨rfl, hb⟩
  have HB5 := Lib.hid (bT (bA HB4.out) hb)
  have X6 := Lib.hid (hBs hb (hO X6.out))
  have X7 := Lib.hid (hBs hb (hO X7.out))
  have X9 := Lib.hid (hBs hb (hO X9.out))
  have X11 := Lib.hid (hBs hb (hN (n := w4.heap.size) rfl))
  have hs6 := block_lt X6.out
  have q6 := cell_at X6.out
  clear hb
  go_wp2_with fail
  refine (H5.out _).mono ?_
  rintro e w6 ⟨rfl, hb⟩
  have HB6 := Lib.hid (bT (bA HB5.out) hb)
  have X6 := Lib.hid (hBs hb (hO X6.out))
  have X7 := Lib.hid (hBs hb (hO X7.out))
  have X9 := Lib.hid (hBs hb (hO X9.out))
  have X11 := Lib.hid (hBs hb (hO X11.out))
  have X13 := Lib.hid (hBs hb (hN (n := w5.heap.size) rfl))
  clear hb q6
  have q6 := cell_at X6.out
  go_wp2_with fail
  refine (H6.out _).mono ?_
  rintro e w7 ⟨rfl, hb⟩
  have HB7 := Lib.hid (bT HB6.out hb)
  have X6 := Lib.hid (hBs hb X6.out)
  have X7 := Lib.hid (hBs hb X7.out)
  have X9 := Lib.hid (hBs hb X9.out)
  have X11 := Lib.hid (hBs hb X11.out)
  have X13 := Lib.hid (hBs hb X13.out)
  clear hb q6 H1 H2 H3 H4 H5 H6 HA hs6
  obtain ⟨b7, hb7⟩ : ∃ b, w2.heap.size = b := ⟨_, rfl⟩
  obtain ⟨b9, hb9⟩ : ∃ b, w3.heap.size = b := ⟨_, rfl⟩
  obtain ⟨b11, hb11⟩ : ∃ b, w4.heap.size = b := ⟨_, rfl⟩
  obtain ⟨b13, hb13⟩ : ∃ b, w5.heap.size = b := ⟨_, rfl⟩
  rw [hb7] at X7 ⊢
  rw [hb9] at X9 ⊢
  rw [hb11] at X11 ⊢
  rw [hb13] at X13 ⊢
  have SS : ∀ w', Below w7.heap.size w7 w' → (w'.cell? ⟨b7, 0, none⟩ = some (.int .i64 ls) ∧ w'.cell? ⟨b7, 1, none⟩ = some (.string ld) ∧ w'.cell? ⟨b9, 0, none⟩ = some (.int .i64 ls) ∧ w'.cell? ⟨b9, 1, none⟩ = some (.string ld) ∧
      w'.cell? ⟨b11, 0, none⟩ = some (.int .i64 is') ∧ w'.cell? ⟨b11, 1, none⟩ = some (.string id') ∧ w'.cell? ⟨b13, 0, none⟩ = some (.int .i64 is') ∧ w'.cell? ⟨b13, 1, none⟩ = some (.string id') ∧
      w'.cell? ⟨w.heap.size + 1, 0, none⟩ = some (.int .i64 st) ∧ w'.cell? ⟨w.heap.size + 1, 1, none⟩ = some (.string dt)) := fun w' hb =>
    ⟨cell_at (hBs hb X7.out) 0, cell_at (hBs hb X7.out) 1, cell_at (hBs hb X9.out) 0, cell_at (hBs hb X9.out) 1, cell_at (hBs hb X11.out) 0, cell_at (hBs hb X11.out) 1, cell_at (hBs hb X13.out) 0, cell_at (hBs hb X13.out) 1, cell_at (hBs hb X6.out) 0, cell_at (hBs hb X6.out) 1⟩
  have SS := Lib.hid SS
  have S0 := SS.out w7.drew (bD (Below.refl _ _))
  have S0 := Lib.hid S0
  clear X6 X7 X9 X11 X13 hb7 hb9 hb11 hb13
  go_wp2_with fail
  go_region_held3 (fun w' => w'.cell? ⟨b7, 0, none⟩ = some (.int .i64 ls) ∧ w'.cell? ⟨b7, 1, none⟩ = some (.string ld) ∧ w'.cell? ⟨b9, 0, none⟩ = some (.int .i64 ls) ∧ w'.cell? ⟨b9, 1, none⟩ = some (.string ld) ∧
      w'.cell? ⟨b11, 0, none⟩ = some (.int .i64 is') ∧ w'.cell? ⟨b11, 1, none⟩ = some (.string id') ∧ w'.cell? ⟨b13, 0, none⟩ = some (.int .i64 is') ∧ w'.cell? ⟨b13, 1, none⟩ = some (.string id') ∧
      w'.cell? ⟨w.heap.size + 1, 0, none⟩ = some (.int .i64 st) ∧ w'.cell? ⟨w.heap.size + 1, 1, none⟩ = some (.string dt))
    (first | exact S2.out | exact S1.out | exact S0.out | go_keep)
    (first
      | (go_at_call 24; refine (H7.out _).mono ?_; rintro e w8 ⟨rfl, hb⟩; (have HB8 := Lib.hid (bT (bD HB7.out) hb)); (have S1 := Lib.hid (SS.out w8 ((bD (Below.refl w7.heap.size w7)).trans hb))); (have HS8 := Lib.hid ((bD (Below.refl w7.heap.size w7)).trans hb)); clear hb)
      | (go_at_call 25; refine (H8.out _).mono ?_; rintro e w9 ⟨rfl, hb⟩; (have HB9 := Lib.hid (bT HB8.out hb)); (have S2 := Lib.hid (SS.out w9 (HS8.out.trans (hb.mono HS8.out.size)))); clear hb))
  all_goals
    go_wp2_with fail
    go_ret
    exact ⟨rfl, HB9.out⟩
end Go.Proofs.Ytgealllnchpekaa
