import Derived.Test.YtomlckbghfbikaaDoorPgM
set_option linter.unusedSimpArgs false
set_option linter.unusedVariables false
namespace Go.Proofs.YtomlckbghfbikaaDoor
open Go.RowKit

/-! ### PageRooms -/
theorem Tryd.elem_cells : Tryd.prog.elem 25 = 24 := by kernel_rfl
theorem Tryd.len_cells : Tryd.prog.arrayLen 25 = 6 := by kernel_rfl
theorem run_slice_h (b h : Nat) (hh : h ≤ 6) (w : World) : (Instr.sliceAt 25 (.pointer (some ⟨b, 4, none⟩)) none (some (.int .i64 (h : Int))) none).run Tryd.prog w = .ok (.slice (some ⟨b, 4, none⟩) h 6) w := by
  have hu : Tryd.prog.underlying 25 = some (.array (Tryd.prog.arrayLen 25) (Tryd.prog.elem 25)) := by rw [Tryd.elem_cells, Tryd.len_cells]; exact Tryd.underlying25
  rw [run_sliceAt_array_h (P := Tryd.prog) (ht := hu) (h0 := by omega) (h2 := by rw [Tryd.len_cells]; omega)]
  rw [Tryd.elem_cells, Tryd.len_cells]
  obtain ⟨i0, hi, hz0, hz1, hz2⟩ := info_parts Tryd.info_cell
  have hs : (sizeOf 24).run Tryd.prog w = .ok 2 w := by simp [sizeOf, typeInfo, hi, hz1]
  rw [hs]
  simp [Result.andThen_ok, slicedAt, Addr.add]
set_option maxRecDepth 100000 in
set_option maxHeartbeats 6400000 in
theorem pageRooms_go (P : Pg) (w : World) : Calls Tryd.prog 7 #[.agg (pgC P)] w fun e w' => e = .returned (.bool true) ∧ Below w.heap.size w w' := by
  have HA := Lib.hid (fun w => awake04 w)
  obtain ⟨i, ok, hio, HO⟩ := rooms P
  replace HO := Lib.hid HO
  have HP0 : Hid ((w.alloc (.cells (pgC P) 27)).heap[w.heap.size]? = some (.cells (pgC P) 27 (0, 0))) := hN rfl
  have HB0 : Hid (Below w.heap.size w (w.alloc (.cells (pgC P) 27))) := bA bR
  go_enter Tryd.func7, Tryd.ntmps7
  go_wp2_with fail
  generalize (w.alloc _) = w0 at *
  refine (HA.out _).mono ?_
  rintro r w1 ⟨rfl, hb⟩
  have HP1 := Lib.hid (hBs hb HP0.out)
  have HB1 := Lib.hid (bT HB0.out hb)
  clear hb HA HP0 HB0
  go_wp2_with (refine wpList_load_want (by rfl) 27 _ rfl _ rfl 27 _ _ _ HP1.out Tryd.underlying27 rfl (by kernel_rfl) ?_)
  refine (HO.out _).mono ?_
  rintro r w2 ⟨rfl, hb⟩
  have HP2 := Lib.hid (hBs hb HP1.out)
  have HB2 := Lib.hid (bT HB1.out hb)
  clear hb HO HP1 HB1
  have hut := Lib.hid Tryd.underlying25
  have hi12 : Hid ((Tryd.prog.info? 25).map (·.size) = some (pgA P).toList.length) := (by kernel_rfl : (Tryd.prog.info? 25).map (·.size) = some (pgA P).toList.length)
  have hpr := Lib.hid (pg_range HP2.out)
  have hix := Lib.hid (fun k hk => run_index_pg P k hk)
  rcases hio with ⟨a, rfl, rfl, hl⟩ | ⟨rfl, rfl, hl⟩
  · replace hl : a < 6 ∧ P.st a = 0 ∧ ∀ j, j < a → P.st j ≠ 0 := by
      rcases hl with ⟨h, -⟩ | ⟨b, h, -, h1, h2, h3⟩
      · omega
      · obtain rfl : a = b := by omega
        exact ⟨h1, h2, fun j hj => h3 j (Nat.zero_le _) hj⟩
    obtain ⟨ha6, ha0, hal⟩ := hl
    replace hal := Lib.hid hal
    obtain ⟨c0, c1⟩ := pg_at HP2.out a ha6
    rw [ha0] at c0
    have ha6' : (a : Int) < 6 := by omega
    have hpb := block_lt HP2.out
    have hsl := run_slice_h w.heap.size a (by omega)
    clear c1
    go_wp2_with fail
    clear hsl c0
    clear hpr hix hi12 hut
    go_loopw [47] (fun i wr => ∃ (k : Nat), k ≤ a ∧ i = .int .i64 k ∧ Hid (wr.heap[w.heap.size]? = some (.cells (pgC P) 27 (0, 0))) ∧ Hid (Below w.heap.size w wr)) (fun i _ => a - (intOf i).toNat)
    case atStart => exact ⟨0, by omega, rfl, HP2, HB2.out⟩
    case round =>
      clear HP2 HB2
      obtain ⟨k, hk, rfl, HP, HB⟩ := hrel
      by_cases hka : k < a
      rotate_left
      · obtain rfl : k = a := by omega
        go_wp2_with fail
        go_ret
        exact ⟨rfl, HB.out⟩
      have hk6 : k < 6 := by omega
      have hka' : (k : Int) < a := by omega
      have hno := hal.out k hka
      obtain ⟨c0, c1⟩ := pg_at HP.out k hk6
      have hpr := block_lt HP.out
      obtain ⟨s, es⟩ : ∃ s, P.st k = s := ⟨_, rfl⟩
      obtain ⟨d, ed⟩ : ∃ d, P.dt k = d := ⟨_, rfl⟩
      rw [es] at c0 hno
      rw [ed] at c1
      clear es ed
      have h0' : (s == 0) = false := by simpa using hno
      go_wp2_with fail
      go_roundw
      case rel => exact ⟨k + 1, by omega, rfl, hO HP.out, bA HB.out⟩
      case measure => simp [intOf]; omega
  · replace hl : ∀ j, j < 6 → P.st j ≠ 0 := by
      rcases hl with ⟨-, h⟩ | ⟨b, h, -⟩
      · exact fun j hj => h j (Nat.zero_le _) hj
      · omega
    replace hl := Lib.hid hl
    generalize pgA P = C at *
    go_wp2_with (refine wpList_load_mid rfl 25 _ rfl w.heap.size 4 rfl C.toList _ hpr.out hut.out rfl hi12.out ?_)
    clear hpr
    go_loopw [20] (fun i wr => ∃ (k : Nat), k ≤ 6 ∧ i = .int .i64 k ∧ Hid (Below w.heap.size w wr)) (fun i _ => 6 - (intOf i).toNat)
    case atStart => exact ⟨0, by omega, rfl, HB2.out⟩
    case round =>
      obtain ⟨k, hk, rfl, HB⟩ := hrel
      by_cases hk6 : k < 6
      rotate_left
      · obtain rfl : k = 6 := by omega
        go_wp2_with fail
        go_ret
        exact ⟨rfl, HB.out⟩
      have hk6' : (k : Int) < 6 := by omega
      have hixk := hix.out k hk6
      have hno := hl.out k hk6
      obtain ⟨s, es⟩ : ∃ s, P.st k = s := ⟨_, rfl⟩
      rw [es] at hixk hno
      replace es := Lib.hid es
      have h0' : (s == 0) = false := by simpa using hno
      go_wp2_with fail
      go_roundw
      case rel => exact ⟨k + 1, by omega, rfl, bA HB.out⟩
      case measure => simp [intOf]; omega
theorem pageRooms_walk (v : Value) (P : Pg) (w : World) (h : PgIs v P) : Calls Tryd.prog 7 #[v] w fun e w' => e = .returned (.bool true) ∧ Below w.heap.size w w' := by
  obtain ⟨rfl, h1⟩ := h
  exact pageRooms_go P w
end Go.Proofs.YtomlckbghfbikaaDoor
