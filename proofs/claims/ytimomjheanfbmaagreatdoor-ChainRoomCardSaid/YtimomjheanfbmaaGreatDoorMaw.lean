import Derived.Test.YtimomjheanfbmaaGreatDoorMae
import Derived.Test.YtimomjheanfbmaaGreatDoorMav
import Derived.Deep.RegionHeld3
set_option linter.unusedSimpArgs false
set_option linter.unusedVariables false
namespace Go.Proofs.YtimomjheanfbmaaGreatDoor
open Go.RowKit

/-! ### the document's page -/
set_option maxRecDepth 100000 in
set_option maxHeartbeats 1600000 in
theorem ref_put (n width : Int) (h1 : 1 ≤ width) (h8 : width ≤ 8) (hn : 0 ≤ n) (hn64 : n < 9223372036854775808) (w : World) :
    Calls Tryz.prog 131 #[.int .i64 n, .int .i64 width] w fun e w' => e = .returned (.string (leS n width.toNat)) ∧ Below w.heap.size w w' := by
  go_enter Tryz.func131, Tryz.ntmps131
  go_wp2_with fail
  refine (ref_num_ok n width h1 h8 hn (Lib.hid (by omega)) _).mono ?_
  rintro e w1 ⟨rfl, hb⟩
  go_wp2_with fail
  go_ret
  exact ⟨rfl, hb⟩
theorem step_make {P : Program} {w : World} {ops : Array Oper} {o : Oper} {a : Act} {K : Act → World → Prop} {Q : Exit → Act → World → Prop} {E : Prop} (hgd : o.guard = none) (l c : Operand) (t : TypeId) (ho : o.op = .makeSlice t l c) (e : TypeId) (i : TypeInfo) (z : Value)
    (ht : P.underlying t = some (.slice e)) (hi : P.info? e = some i) (hz : i.zero = some z) (n : Nat) (hl : a.eval l = .int .i64 (n : Int)) (hc : a.eval c = .int .i64 (n : Int)) (hb : (i.bytes : Int) * n ≤ 281474976710656) (h63 : (n : Int) ≤ 9223372036854775807)
    (h : ∀ w', w' = w.alloc (.cells (madeCells z.cells (n * i.size)) e) → K (a.put o.dst (.slice (some ⟨w.heap.size, 0, none⟩) n n)) w') :
    if Region.wanted o (yielded ops a.tmps) = true then Oper.wp P o a w K Q else E := by
  have hw : Region.wanted o (yielded ops a.tmps) = true := by simp [Region.wanted, hgd]
  rw [if_pos hw]
  have hr := run_make (P := P) w t e i z ht hi hz .i64 .i64 n n (by omega) (Int.le_refl _) hb h63
  simp only [Int.toNat_natCast] at hr
  unfold Oper.wp execOp
  simp only [ho, Sem.run_bind, Sem.run_pure, Result.andThen_ok, hl, hc, hr]
  exact h _ rfl
theorem step_convert {P : Program} {w : World} {ops : Array Oper} {o : Oper} {a : Act} {K : Act → World → Prop} {Q : Exit → Act → World → Prop} {E : Prop} (hgd : o.guard = none) (x : Operand) (src dst : TypeId) (ho : o.op = .convert src dst x) (X Y : Value) (hx : a.eval x = X)
    (hr : (convert src dst X).run P w = .ok Y w) (h : K (a.put o.dst Y) w) :
    if Region.wanted o (yielded ops a.tmps) = true then Oper.wp P o a w K Q else E := by
  have hw : Region.wanted o (yielded ops a.tmps) = true := by simp [Region.wanted, hgd]
  rw [if_pos hw]
  unfold Oper.wp execOp
  simp only [ho, Sem.run_bind, Sem.run_pure, Result.andThen_ok, hx, hr]
  exact h
theorem byte_list (n : Int) (h0 : 0 ≤ n) (h : n < 256) : (leS n 1).data.toList = [UInt8.ofNat n.toNat] := by
  unfold leS
  rw [strOfNums_data, le_cons, List.map_cons]
  have : n % 256 = n := by omega
  rw [this]
  rfl
theorem zeros_list (m : Nat) : (zeros m).data.toList = List.replicate m 0 := by
  unfold zeros; rw [strOfNums_data, List.map_replicate]; rfl
theorem made_in {n : Nat} {w0 w : World} (h : Below n w0 w) (o : Obj) : (w.alloc o).heap[w.heap.size]? = some o := heap_alloc_new w o
def S8 (b : Nat) (c : Int) (d : ByteArray) (w : World) : Prop := w.cell? ⟨b, 0, none⟩ = some (.int .i64 c) ∧ w.cell? ⟨b, 1, none⟩ = some (.string d)
theorem made_zeros {w : World} {b m : Nat} {i : TypeInfo} (hz1 : i.size = 1) (h : w.heap[b]? = some (.cells (madeCells (Value.int .u8 0).cells (m * i.size)) 5 (0, 0))) : (convert 141 9 (.slice (some ⟨b, 0, none⟩) m m)).run Tryz.prog w = .ok (.string (zeros m)) w := by
  rw [hz1, Nat.mul_one] at h
  refine run_convert_bytes_arg (P := Tryz.prog) w 141 5 Tryz.underlying141 Tryz.underlying5 b 0 m m (List.replicate m 0) (List.length_replicate) (fun i hi => ?_) 9 Tryz.underlying9
  rw [Nat.zero_add, cell_at h i]
  have e : (madeCells (Value.int .u8 0).cells m) = (List.replicate m (Value.int .u8 0)).toArray := by
    apply Array.toList_inj.1
    rw [show m = m * 1 by omega]
    simpa [Value.cells] using toList_madeCells_one (.int .u8 0) m
  rw [e]
  simp [hi, List.getD]
theorem pg_four {w : World} {b : Nat} {P : Pg} {T : TypeId} {f : Nat × Nat} (h : w.heap[b]? = some (.cells (pgC P) T f)) : w.cell? ⟨b, 0, none⟩ = some (.int .i64 P.kind) ∧ w.cell? ⟨b, 1, none⟩ = some (.int .i64 P.level) ∧ w.cell? ⟨b, 2, none⟩ = some (.int .i64 P.store) ∧ w.cell? ⟨b, 3, none⟩ = some (.int .i64 P.next) := ⟨cell_at h 0, cell_at h 1, cell_at h 2, cell_at h 3⟩
set_option maxRecDepth 100000 in
set_option maxHeartbeats 16000000 in
theorem rf_encode_ok (P : Pg) (hok : PgOk P) (w : World) : Calls Tryz.prog 129 #[pgV P] w fun e w' => e = .returned (.tuple #[.string (pageS P), .int .i64 0]) ∧ Below w.heap.size w w' := by
  have HC := Lib.hid (fun w => rf_right P (fun i hi => by have := hok.small i hi; unfold maxLen; omega) w)
  have HQc : Hid ((w.alloc (.cells (pgC P) 49)).heap[w.heap.size]? = some (.cells (pgC P) 49 (0, 0))) := hN rfl
  have hokH := Lib.hid hok
  obtain ⟨⟨h1, h2, h3, h4, h5, h6, h7, h8⟩, hcl⟩ := hok
  replace hcl := Lib.hid hcl
  unfold pgV at *
  go_enter Tryz.func129, Tryz.ntmps129
  go_wp2_with (refine wpList_load_row rfl 49 _ rfl _ rfl 49 _ _ _ HQc.out Tryz.underlying49 rfl (by kernel_rfl) ?_)
  refine (HC.out _).mono ?_
  rintro e w1 ⟨h, hb⟩
  obtain rfl : e = .returned (.bool true) := h.elim (fun h => h.1) (fun h => absurd hokH.out h.2)
  have HB1 := Lib.hid (bT (bA bR) hb)
  have HQ1 := Lib.hid (hBs hb HQc.out)
  have hw1 := block_lt HQ1.out
  clear hb HC HQc h
  go_wp2_with fail
  have K1 := (fun w => ref_put P.kind 1 (by decide) (by decide) h1 (by omega) w)
  have K2 := (fun w => ref_put P.level 1 (by decide) (by decide) h3 (by omega) w)
  have K3 := (fun w => ref_put P.store 2 (by decide) (by decide) h5 (by omega) w)
  have K4 := (fun w => ref_put P.next 4 (by decide) (by decide) h7 (by omega) w)
  have hh : Hid ((headN P 4).toArray = (leS P.kind 1 ++ leS P.level 1 ++ leS P.store 2 ++ leS P.next 4).data) := by
    apply Array.toList_inj.1
    simp [headN, numP, widP, ByteArray.data_append]
  have zA := leS_size P.kind 1
  obtain ⟨A, eA⟩ : ∃ x, leS P.kind 1 = x := ⟨_, rfl⟩
  rw [show Int.toNat 1 = 1 from rfl, eA] at K1
  rw [eA] at hh zA
  replace K1 := Lib.hid K1
  clear eA
  have zB := leS_size P.level 1
  obtain ⟨B, eB⟩ : ∃ x, leS P.level 1 = x := ⟨_, rfl⟩
  rw [show Int.toNat 1 = 1 from rfl, eB] at K2
  rw [eB] at hh zB
  replace K2 := Lib.hid K2
  clear eB
  have zC := leS_size P.store 2
  obtain ⟨C, eC⟩ : ∃ x, leS P.store 2 = x := ⟨_, rfl⟩
  rw [show Int.toNat 2 = 2 from rfl, eC] at K3
  rw [eC] at hh zC
  replace K3 := Lib.hid K3
  clear eC
  have zD := leS_size P.next 4
  obtain ⟨D, eD⟩ : ∃ x, leS P.next 4 = x := ⟨_, rfl⟩
  rw [show Int.toNat 4 = 4 from rfl, eD] at K4
  rw [eD] at hh zD
  replace K4 := Lib.hid K4
  clear eD
  have zAB : (A ++ B).size = 2 := by rw [bytes_size]; omega
  have zABC : (A ++ B ++ C).size = 4 := by rw [bytes_size]; omega
  have SZ := pg_four (hDr HQ1.out)
  go_region_held3 (fun w' => w'.cell? ⟨w.heap.size, 0, none⟩ = some (.int .i64 P.kind) ∧ w'.cell? ⟨w.heap.size, 1, none⟩ = some (.int .i64 P.level) ∧ w'.cell? ⟨w.heap.size, 2, none⟩ = some (.int .i64 P.store) ∧ w'.cell? ⟨w.heap.size, 3, none⟩ = some (.int .i64 P.next))
    (first | exact SD | exact SC | exact SB | exact SA | exact SZ | go_keep)
    (first
      | (go_at_call 131; with_reducible refine (K4.out _).mono ?_; rintro e wD ⟨rfl, hb⟩; (have HQD := Lib.hid (hBs hb HQC.out)); (have HBD := Lib.hid (bT HBC.out hb)); (have SD := pg_four HQD.out); clear hb)
      | (go_at_call 131; with_reducible refine (K3.out _).mono ?_; rintro e wC ⟨rfl, hb⟩; (have HQC := Lib.hid (hBs hb HQB.out)); (have HBC := Lib.hid (bT HBB.out hb)); (have SC := pg_four HQC.out); clear hb)
      | (go_at_call 131; with_reducible refine (K2.out _).mono ?_; rintro e wB ⟨rfl, hb⟩; (have HQB := Lib.hid (hBs hb HQA.out)); (have HBB := Lib.hid (bT HBA.out hb)); (have SB := pg_four HQB.out); clear hb)
      | (go_at_call 131; with_reducible refine (K1.out _).mono ?_; rintro e wA ⟨rfl, hb⟩; (have HQA := Lib.hid (hBs hb (hDr HQ1.out))); (have HBA := Lib.hid (bT (bD HB1.out) hb)); (have SA := pg_four HQA.out); clear hb))
  have HQ := HQD
  have HB := HBD
  clear HQD HBD HQC HBC HQA HBA HQB HBB SA SB SC SD SZ HQ1 HB1 K1 K2 K3 K4 zA zB zC zD zAB zABC h1 h2 h3 h4 h5 h6 h7 h8 ‹_ ∧ _›
  have hh' : Hid (A ++ B ++ C ++ D = ⟨(bodyL P 0).toArray⟩) := by
    apply ByteArray.ext
    exact hh.out.symm
  rw [hh'.out]
  clear hh hh'
  have hw4 := block_lt HQ.out
  have hpr := Lib.hid (pg_range HQ.out)
  go_wp2_with fail
  go_loopw [4, 5] (fun s i wr => ∃ (k : Nat), k ≤ 6 ∧ i = .int .i64 k ∧ s = .string ⟨(bodyL P k).toArray⟩ ∧ Hid (wr.heap[w.heap.size]? = some (.cells (pgC P) 49 (0, 0))) ∧ Hid (Below w.heap.size w wr)) (fun _ i _ => 6 - (intOf i).toNat)
  case atStart => exact ⟨0, by omega, rfl, rfl, HQ, HB.out⟩
  case round =>
    clear HQ HB hpr hw4
    obtain ⟨k, hk, rfl, rfl, HQ, HB⟩ := hrel
    have hqr := block_lt HQ.out
    by_cases hk6 : k < 6
    rotate_left
    · obtain rfl : k = 6 := by omega
      have hfin : Hid ((⟨(bodyL P 6).toArray⟩ : ByteArray) = pageS P) := rfl
      obtain ⟨R, eR⟩ : ∃ R, pageS P = R := ⟨_, rfl⟩
      rw [hfin.out, eR]
      replace eR := Lib.hid eR
      go_wp2_with fail
      go_ret2
      exact ⟨by rw [eR.out]; rfl, HB.out⟩
    have hk6' : (k : Int) < 6 := by omega
    obtain ⟨g1, g2, g3, g4⟩ := hcl.out k hk6
    have hlen := bodyL_length P k (fun i hi => (hcl.out i (by omega)).2.2.1)
    have hbody : Hid (bodyL P (k + 1) = bodyL P k ++ cellL (P.st k) (P.dt k)) := rfl
    obtain ⟨c0, c1⟩ := pg_at HQ.out k hk6
    obtain ⟨c, hc⟩ : ∃ c, P.st k = c := ⟨_, rfl⟩
    obtain ⟨d, ed⟩ : ∃ d, P.dt k = d := ⟨_, rfl⟩
    rw [hc, ed] at hbody
    rw [hc] at c0 g1 g2
    rw [ed] at c1 g3
    clear g4 hc ed
    obtain ⟨L, eL⟩ : ∃ L, bodyL P k = L := ⟨_, rfl⟩
    rw [eL] at hbody hlen ⊢
    clear eL
    have zL : (⟨L.toArray⟩ : ByteArray).size = 8 + 36 * k := by show L.toArray.size = _; rw [List.size_toArray]; exact hlen
    obtain ⟨m, hm⟩ : ∃ m : Nat, d.size + m = 34 := ⟨34 - d.size, by omega⟩
    have hm' : (34 : Int) - d.size = m := by omega
    obtain ⟨i0, hi, hz0, hz1, hz2⟩ := info_parts Tryz.info_u8
    have wr1 : IntKind.i64.wrap (34 - (d.size : Int)) = (m : Int) := by rw [IntKind.wrap_i64]; omega
    have wr2 : IntKind.i64.wrap (m : Int) = (m : Int) := by rw [IntKind.wrap_i64]; omega
    have zU := leS_size c 1
    have zV := leS_size (d.size : Int) 1
    have zZ := zeros_size m
    have K1 := fun w => ref_put c 1 (by decide) (by decide) g1 (by omega) w
    have K2 := fun w => ref_put (d.size : Int) 1 (by decide) (by decide) (by omega) (by omega) w
    have hpiece : Hid (⟨(L ++ cellL c d).toArray⟩ = ⟨L.toArray⟩ ++ (leS c 1 ++ leS (d.size : Int) 1 ++ d ++ zeros m)) := by
      have e1 := byte_list c g1 (by omega)
      have e2 := byte_list (d.size : Int) (by omega) (by omega)
      apply ba_ext
      show (L ++ cellL c d) = _
      rw [cellL_cons]
      simp only [ByteArray.data_append, Array.toList_append]
      rw [e1, e2, zeros_list, show 34 - d.size = m by omega]
      simp
    rw [← hbody.out] at hpiece
    obtain ⟨U, eU⟩ : ∃ x, leS c 1 = x := ⟨_, rfl⟩
    obtain ⟨V, eV⟩ : ∃ x, leS (d.size : Int) 1 = x := ⟨_, rfl⟩
    obtain ⟨Z, eZ⟩ : ∃ x, zeros m = x := ⟨_, rfl⟩
    rw [show Int.toNat 1 = 1 from rfl, eU] at K1
    rw [show Int.toNat 1 = 1 from rfl, eV] at K2
    rw [eU, eV, eZ] at hpiece
    rw [eU] at zU
    rw [eV] at zV
    rw [eZ] at zZ
    replace K1 := Lib.hid K1
    replace K2 := Lib.hid K2
    replace eZ := Lib.hid eZ
    obtain ⟨Y, eY⟩ : ∃ Y : ByteArray, (⟨L.toArray⟩ : ByteArray) = Y := ⟨_, rfl⟩
    rw [eY] at hpiece zL
    rw [eY]
    have zUV : (U ++ V).size = 2 := by rw [bytes_size]; omega
    have zUVd : (U ++ V ++ d).size = 2 + d.size := by rw [bytes_size]; omega
    have zUVdZ : (U ++ V ++ d ++ Z).size = 36 := by rw [bytes_size]; omega
    clear eY eU eV hbody hlen
    have HCc := Lib.hid (hN (w := wr) (o := .cells #[.int .i64 c, .string d] 33) rfl)
    have hY : Hid (∀ wx : World, Hid (wx.heap[w.heap.size]? = some (.cells (pgC P) 49 (0, 0))) → Hid (Below w.heap.size w wx) → ∃ k' : Nat, k' = k + 1 ∧ k' ≤ 6) := fun _ _ _ => ⟨k + 1, rfl, by omega⟩
    clear hY
    go_wp2_with fail
    replace HQ := Lib.hid (hDr (hO (o := .cells #[.int .i64 c, .string d] 33) HQ.out))
    replace HB : Hid (Below w.heap.size w (wr.alloc (.cells #[.int .i64 c, .string d] 33)).drew) := bD (bA HB.out)
    replace HCc := Lib.hid (hDr HCc.out)
    have SC := And.intro (cell_at HCc.out 0) (cell_at HCc.out 1)
    clear c0 c1
    -- REGION 8
    have hS0 : S8 wr.heap.size c d (wr.alloc (.cells #[.int .i64 c, .string d] 33)).drew := SC
    refine wp_region_held_drew (S := S8 wr.heap.size c d) (by kernel_rfl) hS0 (fun hHeld => ?_)
    refine wpAnyH_take (i := 0) (oi := ⟨some 33, _, _, _, _, _⟩) (v := .string Y) rfl (by kernel_rfl) (by kernel_rfl) (by kernel_rfl) (fun _ _ _ h => h) (Or.inl ⟨by rfl, ?_⟩) hHeld ?_
    · intro w hSw
      obtain ⟨s0, s1⟩ := hSw
      go_simp
      try with_reducible rfl
      try omega
    simp only [Act.put, List.setIfInBounds_toArray, List.set_cons_zero, List.set_cons_succ]
    refine wpAnyH_take (i := 1) (oi := ⟨some 34, _, _, _, _, _⟩) (v := .pointer (some ⟨wr.heap.size, 0, none⟩)) rfl (by kernel_rfl) (by kernel_rfl) (by kernel_rfl) (fun _ _ _ h => h) (Or.inl ⟨by rfl, ?_⟩) hHeld ?_
    · intro w hSw
      obtain ⟨s0, s1⟩ := hSw
      go_simp
      try with_reducible rfl
      try omega
    simp only [Act.put, List.setIfInBounds_toArray, List.set_cons_zero, List.set_cons_succ]
    refine wpAnyH_take (i := 2) (oi := ⟨some 35, _, _, _, _, _⟩) (v := .int .i64 c) rfl (by kernel_rfl) (by kernel_rfl) (by kernel_rfl) (fun _ _ _ h => h) (Or.inl ⟨by rfl, ?_⟩) hHeld ?_
    · intro w hSw
      obtain ⟨s0, s1⟩ := hSw
      go_simp
      try with_reducible rfl
      try omega
    simp only [Act.put, List.setIfInBounds_toArray, List.set_cons_zero, List.set_cons_succ]
    refine wpAnyH_take (i := 4) (oi := ⟨some 37, _, _, _, _, _⟩) (v := .pointer (some ⟨wr.heap.size, 1, none⟩)) rfl (by kernel_rfl) (by kernel_rfl) (by kernel_rfl) (fun _ _ _ h => h) (Or.inl ⟨by rfl, ?_⟩) hHeld ?_
    · intro w hSw
      obtain ⟨s0, s1⟩ := hSw
      go_simp
      try with_reducible rfl
      try omega
    simp only [Act.put, List.setIfInBounds_toArray, List.set_cons_zero, List.set_cons_succ]
    refine wpAnyH_take (i := 5) (oi := ⟨some 38, _, _, _, _, _⟩) (v := .string d) rfl (by kernel_rfl) (by kernel_rfl) (by kernel_rfl) (fun _ _ _ h => h) (Or.inl ⟨by rfl, ?_⟩) hHeld ?_
    · intro w hSw
      obtain ⟨s0, s1⟩ := hSw
      go_simp
      try with_reducible rfl
      try omega
    simp only [Act.put, List.setIfInBounds_toArray, List.set_cons_zero, List.set_cons_succ]
    refine wpAnyH_take (i := 6) (oi := ⟨some 39, _, _, _, _, _⟩) (v := .int .i64 (d.size : Int)) rfl (by kernel_rfl) (by kernel_rfl) (by kernel_rfl) (fun _ _ _ h => h) (Or.inl ⟨by rfl, ?_⟩) hHeld ?_
    · intro w hSw
      obtain ⟨s0, s1⟩ := hSw
      go_simp
      try with_reducible rfl
      try omega
    simp only [Act.put, List.setIfInBounds_toArray, List.set_cons_zero, List.set_cons_succ]
    refine wpAnyH_take (i := 9) (oi := ⟨some 42, _, _, _, _, _⟩) (v := .pointer (some ⟨wr.heap.size, 1, none⟩)) rfl (by kernel_rfl) (by kernel_rfl) (by kernel_rfl) (fun _ _ _ h => h) (Or.inl ⟨by rfl, ?_⟩) hHeld ?_
    · intro w hSw
      obtain ⟨s0, s1⟩ := hSw
      go_simp
      try with_reducible rfl
      try omega
    simp only [Act.put, List.setIfInBounds_toArray, List.set_cons_zero, List.set_cons_succ]
    refine wpAnyH_take (i := 10) (oi := ⟨some 43, _, _, _, _, _⟩) (v := .string d) rfl (by kernel_rfl) (by kernel_rfl) (by kernel_rfl) (fun _ _ _ h => h) (Or.inl ⟨by rfl, ?_⟩) hHeld ?_
    · intro w hSw
      obtain ⟨s0, s1⟩ := hSw
      go_simp
      try with_reducible rfl
      try omega
    simp only [Act.put, List.setIfInBounds_toArray, List.set_cons_zero, List.set_cons_succ]
    refine wpAnyH_take (i := 12) (oi := ⟨some 45, _, _, _, _, _⟩) (v := .pointer (some ⟨wr.heap.size, 1, none⟩)) rfl (by kernel_rfl) (by kernel_rfl) (by kernel_rfl) (fun _ _ _ h => h) (Or.inl ⟨by rfl, ?_⟩) hHeld ?_
    · intro w hSw
      obtain ⟨s0, s1⟩ := hSw
      go_simp
      try with_reducible rfl
      try omega
    simp only [Act.put, List.setIfInBounds_toArray, List.set_cons_zero, List.set_cons_succ]
    refine wpAnyH_take (i := 13) (oi := ⟨some 46, _, _, _, _, _⟩) (v := .string d) rfl (by kernel_rfl) (by kernel_rfl) (by kernel_rfl) (fun _ _ _ h => h) (Or.inl ⟨by rfl, ?_⟩) hHeld ?_
    · intro w hSw
      obtain ⟨s0, s1⟩ := hSw
      go_simp
      try with_reducible rfl
      try omega
    simp only [Act.put, List.setIfInBounds_toArray, List.set_cons_zero, List.set_cons_succ]
    refine wpAnyH_take (i := 14) (oi := ⟨some 47, _, _, _, _, _⟩) (v := .int .i64 (d.size : Int)) rfl (by kernel_rfl) (by kernel_rfl) (by kernel_rfl) (fun _ _ _ h => h) (Or.inl ⟨by rfl, ?_⟩) hHeld ?_
    · intro w hSw
      obtain ⟨s0, s1⟩ := hSw
      go_simp
      try with_reducible rfl
      try omega
    simp only [Act.put, List.setIfInBounds_toArray, List.set_cons_zero, List.set_cons_succ]
    refine wpAnyH_take (i := 15) (oi := ⟨some 48, _, _, _, _, _⟩) (v := .int .i64 (m : Int)) rfl (by kernel_rfl) (by kernel_rfl) (by kernel_rfl) (fun _ _ _ h => h) (Or.inl ⟨by rfl, ?_⟩) hHeld ?_
    · intro w hSw
      obtain ⟨s0, s1⟩ := hSw
      go_simp
      try with_reducible rfl
      try omega
    simp only [Act.put, List.setIfInBounds_toArray, List.set_cons_zero, List.set_cons_succ]
    refine wpAnyH_ready (rs := [3, 16]) (by kernel_rfl) (by simp) ?_
    refine AllReadyH.cons (o := ⟨some 36, _, _, _, _, _⟩) rfl (fun K hK => ?_) ( AllReadyH.cons (o := ⟨some 49, _, _, _, _, _⟩) rfl (fun K hK => ?_) (AllReadyH.nil))
    · go_simp
      go_at_call 131
      refine (K1.out _).mono ?_
      rintro e wn ⟨rfl, hb⟩
      replace HQ := Lib.hid (hBs hb HQ.out)
      replace HB := Lib.hid (bT HB.out hb)
      replace HCc := Lib.hid (hBs hb HCc.out)
      have SC := And.intro (cell_at HCc.out 0) (cell_at HCc.out 1)
      clear hb
      go_wp2_with fail
      refine hK.out _ _ SC (fun hHeld => ?_)
      clear hK K
      try simp only [Act.put, List.setIfInBounds_toArray, List.set_cons_zero, List.set_cons_succ]
      refine wpAnyH_ready (rs := [7, 16]) (by kernel_rfl) (by simp) ?_
      refine AllReadyH.cons (o := ⟨some 40, _, _, _, _, _⟩) rfl (fun K hK => ?_) ( AllReadyH.cons (o := ⟨some 49, _, _, _, _, _⟩) rfl (fun K hK => ?_) (AllReadyH.nil))
      · go_simp
        go_at_call 131
        refine (K2.out _).mono ?_
        rintro e wn ⟨rfl, hb⟩
        replace HQ := Lib.hid (hBs hb HQ.out)
        replace HB := Lib.hid (bT HB.out hb)
        replace HCc := Lib.hid (hBs hb HCc.out)
        have SC := And.intro (cell_at HCc.out 0) (cell_at HCc.out 1)
        clear hb
        go_wp2_with fail
        refine hK.out _ _ SC (fun hHeld => ?_)
        clear hK K
        try simp only [Act.put, List.setIfInBounds_toArray, List.set_cons_zero, List.set_cons_succ]
        refine wpAnyH_take (i := 8) (oi := ⟨some 41, _, _, _, _, _⟩) (v := .string (U ++ V)) rfl (by kernel_rfl) (by kernel_rfl) (by kernel_rfl) (fun _ _ _ h => h) (Or.inl ⟨by rfl, ?_⟩) hHeld ?_
        · intro w hSw
          obtain ⟨s0, s1⟩ := hSw
          go_simp
          try with_reducible rfl
          try omega
        simp only [Act.put, List.setIfInBounds_toArray, List.set_cons_zero, List.set_cons_succ]
        refine wpAnyH_take (i := 11) (oi := ⟨some 44, _, _, _, _, _⟩) (v := .string (U ++ V ++ d)) rfl (by kernel_rfl) (by kernel_rfl) (by kernel_rfl) (fun _ _ _ h => h) (Or.inl ⟨by rfl, ?_⟩) hHeld ?_
        · intro w hSw
          obtain ⟨s0, s1⟩ := hSw
          go_simp
          try with_reducible rfl
          try omega
        simp only [Act.put, List.setIfInBounds_toArray, List.set_cons_zero, List.set_cons_succ]
        refine wpAnyH_ready (rs := [16]) (by kernel_rfl) (by simp) ?_
        refine AllReadyH.cons (o := ⟨some 49, _, _, _, _, _⟩) rfl (fun K hK => ?_) (AllReadyH.nil)
        · refine step_make rfl (.tmp 48) (.tmp 48) 141 rfl 5 i0 (.int .u8 0) Tryz.underlying141 hi hz0 m rfl rfl (by rw [hz2]; omega) (by omega) ?_
          intro wm em
          have HM : Hid (wm.heap[_]? = _) := em ▸ made_in HB.out (.cells (madeCells (Value.int .u8 0).cells (m * i0.size)) 5)
          replace HQ : Hid (wm.heap[w.heap.size]? = _) := em ▸ hO HQ.out
          replace HB : Hid (Below w.heap.size w wm) := em ▸ bA HB.out
          replace HCc : Hid (wm.heap[wr.heap.size]? = _) := em ▸ hO HCc.out
          clear em
          have SC := And.intro (cell_at HCc.out 0) (cell_at HCc.out 1)
          refine hK.out _ _ SC (fun hHeld => ?_)
          clear hK K
          try simp only [Act.put, List.setIfInBounds_toArray, List.set_cons_zero, List.set_cons_succ]
          refine wpAnyH_ready (rs := [17]) (by kernel_rfl) (by simp) ?_
          refine AllReadyH.cons (o := ⟨some 50, _, _, _, _, _⟩) rfl (fun K hK => ?_) (AllReadyH.nil)
          · refine step_convert rfl (.tmp 49) 141 9 rfl _ (.string Z) rfl (by first | exact eZ.out ▸ made_zeros hz1 HM.out | (have h := HM.out; rw [show (World.drew (wr.alloc (.cells #[.int .i64 c, .string d] 33))).heap.size = wr.heap.size + 1 by simp] at h; exact eZ.out ▸ made_zeros hz1 h)) ?_
            have SC := And.intro (cell_at HCc.out 0) (cell_at HCc.out 1)
            refine hK.out _ _ SC (fun hHeld => ?_)
            clear hK K
            try simp only [Act.put, List.setIfInBounds_toArray, List.set_cons_zero, List.set_cons_succ]
            refine wpAnyH_take (i := 18) (oi := ⟨some 51, _, _, _, _, _⟩) (v := .string (U ++ V ++ d ++ Z)) rfl (by kernel_rfl) (by kernel_rfl) (by kernel_rfl) (fun _ _ _ h => h) (Or.inl ⟨by rfl, ?_⟩) hHeld ?_
            · intro w hSw
              obtain ⟨s0, s1⟩ := hSw
              go_simp
              try with_reducible rfl
              try omega
            simp only [Act.put, List.setIfInBounds_toArray, List.set_cons_zero, List.set_cons_succ]
            refine wpAnyH_take (i := 19) (oi := ⟨some 52, _, _, _, _, _⟩) (v := .string (Y ++ (U ++ V ++ d ++ Z))) rfl (by kernel_rfl) (by kernel_rfl) (by kernel_rfl) (fun _ _ _ h => h) (Or.inl ⟨by rfl, ?_⟩) hHeld ?_
            · intro w hSw
              obtain ⟨s0, s1⟩ := hSw
              go_simp
              try with_reducible rfl
              try omega
            simp only [Act.put, List.setIfInBounds_toArray, List.set_cons_zero, List.set_cons_succ]
            refine wpAnyH_take (i := 20) (oi := ⟨some 4, _, _, _, _, _⟩) (v := .string (Y ++ (U ++ V ++ d ++ Z))) rfl (by kernel_rfl) (by kernel_rfl) (by kernel_rfl) (fun _ _ _ h => h) (Or.inl ⟨by rfl, ?_⟩) hHeld ?_
            · intro w hSw
              obtain ⟨s0, s1⟩ := hSw
              go_simp
              try with_reducible rfl
              try omega
            simp only [Act.put, List.setIfInBounds_toArray, List.set_cons_zero, List.set_cons_succ]
            refine wpAnyH_done (by kernel_rfl) ?_ _
            rw [← hpiece.out]
            go_wp2_with fail
            go_roundw
            case rel => exact ⟨k + 1, by omega, rfl, rfl, HQ, HB.out⟩
            case measure => simp [intOf]; omega
      · refine step_make rfl (.tmp 48) (.tmp 48) 141 rfl 5 i0 (.int .u8 0) Tryz.underlying141 hi hz0 m rfl rfl (by rw [hz2]; omega) (by omega) ?_
        intro wm em
        have HM : Hid (wm.heap[_]? = _) := em ▸ made_in HB.out (.cells (madeCells (Value.int .u8 0).cells (m * i0.size)) 5)
        replace HQ : Hid (wm.heap[w.heap.size]? = _) := em ▸ hO HQ.out
        replace HB : Hid (Below w.heap.size w wm) := em ▸ bA HB.out
        replace HCc : Hid (wm.heap[wr.heap.size]? = _) := em ▸ hO HCc.out
        clear em
        have SC := And.intro (cell_at HCc.out 0) (cell_at HCc.out 1)
        refine hK.out _ _ SC (fun hHeld => ?_)
        clear hK K
        try simp only [Act.put, List.setIfInBounds_toArray, List.set_cons_zero, List.set_cons_succ]
        refine wpAnyH_ready (rs := [7, 17]) (by kernel_rfl) (by simp) ?_
        refine AllReadyH.cons (o := ⟨some 40, _, _, _, _, _⟩) rfl (fun K hK => ?_) ( AllReadyH.cons (o := ⟨some 50, _, _, _, _, _⟩) rfl (fun K hK => ?_) (AllReadyH.nil))
        · go_simp
          go_at_call 131
          refine (K2.out _).mono ?_
          rintro e wn ⟨rfl, hb⟩
          replace HQ := Lib.hid (hBs hb HQ.out)
          replace HB := Lib.hid (bT HB.out hb)
          replace HCc := Lib.hid (hBs hb HCc.out)
          replace HM := Lib.hid (hBs hb HM.out)
          have SC := And.intro (cell_at HCc.out 0) (cell_at HCc.out 1)
          clear hb
          go_wp2_with fail
          refine hK.out _ _ SC (fun hHeld => ?_)
          clear hK K
          try simp only [Act.put, List.setIfInBounds_toArray, List.set_cons_zero, List.set_cons_succ]
          refine wpAnyH_take (i := 8) (oi := ⟨some 41, _, _, _, _, _⟩) (v := .string (U ++ V)) rfl (by kernel_rfl) (by kernel_rfl) (by kernel_rfl) (fun _ _ _ h => h) (Or.inl ⟨by rfl, ?_⟩) hHeld ?_
          · intro w hSw
            obtain ⟨s0, s1⟩ := hSw
            go_simp
            try with_reducible rfl
            try omega
          simp only [Act.put, List.setIfInBounds_toArray, List.set_cons_zero, List.set_cons_succ]
          refine wpAnyH_take (i := 11) (oi := ⟨some 44, _, _, _, _, _⟩) (v := .string (U ++ V ++ d)) rfl (by kernel_rfl) (by kernel_rfl) (by kernel_rfl) (fun _ _ _ h => h) (Or.inl ⟨by rfl, ?_⟩) hHeld ?_
          · intro w hSw
            obtain ⟨s0, s1⟩ := hSw
            go_simp
            try with_reducible rfl
            try omega
          simp only [Act.put, List.setIfInBounds_toArray, List.set_cons_zero, List.set_cons_succ]
          refine wpAnyH_ready (rs := [17]) (by kernel_rfl) (by simp) ?_
          refine AllReadyH.cons (o := ⟨some 50, _, _, _, _, _⟩) rfl (fun K hK => ?_) (AllReadyH.nil)
          · refine step_convert rfl (.tmp 49) 141 9 rfl _ (.string Z) rfl (by first | exact eZ.out ▸ made_zeros hz1 HM.out | (have h := HM.out; rw [show (World.drew (wr.alloc (.cells #[.int .i64 c, .string d] 33))).heap.size = wr.heap.size + 1 by simp] at h; exact eZ.out ▸ made_zeros hz1 h)) ?_
            have SC := And.intro (cell_at HCc.out 0) (cell_at HCc.out 1)
            refine hK.out _ _ SC (fun hHeld => ?_)
            clear hK K
            try simp only [Act.put, List.setIfInBounds_toArray, List.set_cons_zero, List.set_cons_succ]
            refine wpAnyH_take (i := 18) (oi := ⟨some 51, _, _, _, _, _⟩) (v := .string (U ++ V ++ d ++ Z)) rfl (by kernel_rfl) (by kernel_rfl) (by kernel_rfl) (fun _ _ _ h => h) (Or.inl ⟨by rfl, ?_⟩) hHeld ?_
            · intro w hSw
              obtain ⟨s0, s1⟩ := hSw
              go_simp
              try with_reducible rfl
              try omega
            simp only [Act.put, List.setIfInBounds_toArray, List.set_cons_zero, List.set_cons_succ]
            refine wpAnyH_take (i := 19) (oi := ⟨some 52, _, _, _, _, _⟩) (v := .string (Y ++ (U ++ V ++ d ++ Z))) rfl (by kernel_rfl) (by kernel_rfl) (by kernel_rfl) (fun _ _ _ h => h) (Or.inl ⟨by rfl, ?_⟩) hHeld ?_
            · intro w hSw
              obtain ⟨s0, s1⟩ := hSw
              go_simp
              try with_reducible rfl
              try omega
            simp only [Act.put, List.setIfInBounds_toArray, List.set_cons_zero, List.set_cons_succ]
            refine wpAnyH_take (i := 20) (oi := ⟨some 4, _, _, _, _, _⟩) (v := .string (Y ++ (U ++ V ++ d ++ Z))) rfl (by kernel_rfl) (by kernel_rfl) (by kernel_rfl) (fun _ _ _ h => h) (Or.inl ⟨by rfl, ?_⟩) hHeld ?_
            · intro w hSw
              obtain ⟨s0, s1⟩ := hSw
              go_simp
              try with_reducible rfl
              try omega
            simp only [Act.put, List.setIfInBounds_toArray, List.set_cons_zero, List.set_cons_succ]
            refine wpAnyH_done (by kernel_rfl) ?_ _
            rw [← hpiece.out]
            go_wp2_with fail
            go_roundw
            case rel => exact ⟨k + 1, by omega, rfl, rfl, HQ, HB.out⟩
            case measure => simp [intOf]; omega
        · refine step_convert rfl (.tmp 49) 141 9 rfl _ (.string Z) rfl (by first | exact eZ.out ▸ made_zeros hz1 HM.out | (have h := HM.out; rw [show (World.drew (wr.alloc (.cells #[.int .i64 c, .string d] 33))).heap.size = wr.heap.size + 1 by simp] at h; exact eZ.out ▸ made_zeros hz1 h)) ?_
          have SC := And.intro (cell_at HCc.out 0) (cell_at HCc.out 1)
          refine hK.out _ _ SC (fun hHeld => ?_)
          clear hK K
          try simp only [Act.put, List.setIfInBounds_toArray, List.set_cons_zero, List.set_cons_succ]
          refine wpAnyH_ready (rs := [7]) (by kernel_rfl) (by simp) ?_
          refine AllReadyH.cons (o := ⟨some 40, _, _, _, _, _⟩) rfl (fun K hK => ?_) (AllReadyH.nil)
          · go_simp
            go_at_call 131
            refine (K2.out _).mono ?_
            rintro e wn ⟨rfl, hb⟩
            replace HQ := Lib.hid (hBs hb HQ.out)
            replace HB := Lib.hid (bT HB.out hb)
            replace HCc := Lib.hid (hBs hb HCc.out)
            have SC := And.intro (cell_at HCc.out 0) (cell_at HCc.out 1)
            clear hb
            go_wp2_with fail
            refine hK.out _ _ SC (fun hHeld => ?_)
            clear hK K
            try simp only [Act.put, List.setIfInBounds_toArray, List.set_cons_zero, List.set_cons_succ]
            refine wpAnyH_take (i := 8) (oi := ⟨some 41, _, _, _, _, _⟩) (v := .string (U ++ V)) rfl (by kernel_rfl) (by kernel_rfl) (by kernel_rfl) (fun _ _ _ h => h) (Or.inl ⟨by rfl, ?_⟩) hHeld ?_
            · intro w hSw
              obtain ⟨s0, s1⟩ := hSw
              go_simp
              try with_reducible rfl
              try omega
            simp only [Act.put, List.setIfInBounds_toArray, List.set_cons_zero, List.set_cons_succ]
            refine wpAnyH_take (i := 11) (oi := ⟨some 44, _, _, _, _, _⟩) (v := .string (U ++ V ++ d)) rfl (by kernel_rfl) (by kernel_rfl) (by kernel_rfl) (fun _ _ _ h => h) (Or.inl ⟨by rfl, ?_⟩) hHeld ?_
            · intro w hSw
              obtain ⟨s0, s1⟩ := hSw
              go_simp
              try with_reducible rfl
              try omega
            simp only [Act.put, List.setIfInBounds_toArray, List.set_cons_zero, List.set_cons_succ]
            refine wpAnyH_take (i := 18) (oi := ⟨some 51, _, _, _, _, _⟩) (v := .string (U ++ V ++ d ++ Z)) rfl (by kernel_rfl) (by kernel_rfl) (by kernel_rfl) (fun _ _ _ h => h) (Or.inl ⟨by rfl, ?_⟩) hHeld ?_
            · intro w hSw
              obtain ⟨s0, s1⟩ := hSw
              go_simp
              try with_reducible rfl
              try omega
            simp only [Act.put, List.setIfInBounds_toArray, List.set_cons_zero, List.set_cons_succ]
            refine wpAnyH_take (i := 19) (oi := ⟨some 52, _, _, _, _, _⟩) (v := .string (Y ++ (U ++ V ++ d ++ Z))) rfl (by kernel_rfl) (by kernel_rfl) (by kernel_rfl) (fun _ _ _ h => h) (Or.inl ⟨by rfl, ?_⟩) hHeld ?_
            · intro w hSw
              obtain ⟨s0, s1⟩ := hSw
              go_simp
              try with_reducible rfl
              try omega
            simp only [Act.put, List.setIfInBounds_toArray, List.set_cons_zero, List.set_cons_succ]
            refine wpAnyH_take (i := 20) (oi := ⟨some 4, _, _, _, _, _⟩) (v := .string (Y ++ (U ++ V ++ d ++ Z))) rfl (by kernel_rfl) (by kernel_rfl) (by kernel_rfl) (fun _ _ _ h => h) (Or.inl ⟨by rfl, ?_⟩) hHeld ?_
            · intro w hSw
              obtain ⟨s0, s1⟩ := hSw
              go_simp
              try with_reducible rfl
              try omega
            simp only [Act.put, List.setIfInBounds_toArray, List.set_cons_zero, List.set_cons_succ]
            refine wpAnyH_done (by kernel_rfl) ?_ _
            rw [← hpiece.out]
            go_wp2_with fail
            go_roundw
            case rel => exact ⟨k + 1, by omega, rfl, rfl, HQ, HB.out⟩
            case measure => simp [intOf]; omega
    · refine step_make rfl (.tmp 48) (.tmp 48) 141 rfl 5 i0 (.int .u8 0) Tryz.underlying141 hi hz0 m rfl rfl (by rw [hz2]; omega) (by omega) ?_
      intro wm em
      have HM : Hid (wm.heap[_]? = _) := em ▸ made_in HB.out (.cells (madeCells (Value.int .u8 0).cells (m * i0.size)) 5)
      replace HQ : Hid (wm.heap[w.heap.size]? = _) := em ▸ hO HQ.out
      replace HB : Hid (Below w.heap.size w wm) := em ▸ bA HB.out
      replace HCc : Hid (wm.heap[wr.heap.size]? = _) := em ▸ hO HCc.out
      clear em
      have SC := And.intro (cell_at HCc.out 0) (cell_at HCc.out 1)
      refine hK.out _ _ SC (fun hHeld => ?_)
      clear hK K
      try simp only [Act.put, List.setIfInBounds_toArray, List.set_cons_zero, List.set_cons_succ]
      refine wpAnyH_ready (rs := [3, 17]) (by kernel_rfl) (by simp) ?_
      refine AllReadyH.cons (o := ⟨some 36, _, _, _, _, _⟩) rfl (fun K hK => ?_) ( AllReadyH.cons (o := ⟨some 50, _, _, _, _, _⟩) rfl (fun K hK => ?_) (AllReadyH.nil))
      · go_simp
        go_at_call 131
        refine (K1.out _).mono ?_
        rintro e wn ⟨rfl, hb⟩
        replace HQ := Lib.hid (hBs hb HQ.out)
        replace HB := Lib.hid (bT HB.out hb)
        replace HCc := Lib.hid (hBs hb HCc.out)
        replace HM := Lib.hid (hBs hb HM.out)
        have SC := And.intro (cell_at HCc.out 0) (cell_at HCc.out 1)
        clear hb
        go_wp2_with fail
        refine hK.out _ _ SC (fun hHeld => ?_)
        clear hK K
        try simp only [Act.put, List.setIfInBounds_toArray, List.set_cons_zero, List.set_cons_succ]
        refine wpAnyH_ready (rs := [7, 17]) (by kernel_rfl) (by simp) ?_
        refine AllReadyH.cons (o := ⟨some 40, _, _, _, _, _⟩) rfl (fun K hK => ?_) ( AllReadyH.cons (o := ⟨some 50, _, _, _, _, _⟩) rfl (fun K hK => ?_) (AllReadyH.nil))
        · go_simp
          go_at_call 131
          refine (K2.out _).mono ?_
          rintro e wn ⟨rfl, hb⟩
          replace HQ := Lib.hid (hBs hb HQ.out)
          replace HB := Lib.hid (bT HB.out hb)
          replace HCc := Lib.hid (hBs hb HCc.out)
          replace HM := Lib.hid (hBs hb HM.out)
          have SC := And.intro (cell_at HCc.out 0) (cell_at HCc.out 1)
          clear hb
          go_wp2_with fail
          refine hK.out _ _ SC (fun hHeld => ?_)
          clear hK K
          try simp only [Act.put, List.setIfInBounds_toArray, List.set_cons_zero, List.set_cons_succ]
          refine wpAnyH_take (i := 8) (oi := ⟨some 41, _, _, _, _, _⟩) (v := .string (U ++ V)) rfl (by kernel_rfl) (by kernel_rfl) (by kernel_rfl) (fun _ _ _ h => h) (Or.inl ⟨by rfl, ?_⟩) hHeld ?_
          · intro w hSw
            obtain ⟨s0, s1⟩ := hSw
            go_simp
            try with_reducible rfl
            try omega
          simp only [Act.put, List.setIfInBounds_toArray, List.set_cons_zero, List.set_cons_succ]
          refine wpAnyH_take (i := 11) (oi := ⟨some 44, _, _, _, _, _⟩) (v := .string (U ++ V ++ d)) rfl (by kernel_rfl) (by kernel_rfl) (by kernel_rfl) (fun _ _ _ h => h) (Or.inl ⟨by rfl, ?_⟩) hHeld ?_
          · intro w hSw
            obtain ⟨s0, s1⟩ := hSw
            go_simp
            try with_reducible rfl
            try omega
          simp only [Act.put, List.setIfInBounds_toArray, List.set_cons_zero, List.set_cons_succ]
          refine wpAnyH_ready (rs := [17]) (by kernel_rfl) (by simp) ?_
          refine AllReadyH.cons (o := ⟨some 50, _, _, _, _, _⟩) rfl (fun K hK => ?_) (AllReadyH.nil)
          · refine step_convert rfl (.tmp 49) 141 9 rfl _ (.string Z) rfl (by first | exact eZ.out ▸ made_zeros hz1 HM.out | (have h := HM.out; rw [show (World.drew (wr.alloc (.cells #[.int .i64 c, .string d] 33))).heap.size = wr.heap.size + 1 by simp] at h; exact eZ.out ▸ made_zeros hz1 h)) ?_
            have SC := And.intro (cell_at HCc.out 0) (cell_at HCc.out 1)
            refine hK.out _ _ SC (fun hHeld => ?_)
            clear hK K
            try simp only [Act.put, List.setIfInBounds_toArray, List.set_cons_zero, List.set_cons_succ]
            refine wpAnyH_take (i := 18) (oi := ⟨some 51, _, _, _, _, _⟩) (v := .string (U ++ V ++ d ++ Z)) rfl (by kernel_rfl) (by kernel_rfl) (by kernel_rfl) (fun _ _ _ h => h) (Or.inl ⟨by rfl, ?_⟩) hHeld ?_
            · intro w hSw
              obtain ⟨s0, s1⟩ := hSw
              go_simp
              try with_reducible rfl
              try omega
            simp only [Act.put, List.setIfInBounds_toArray, List.set_cons_zero, List.set_cons_succ]
            refine wpAnyH_take (i := 19) (oi := ⟨some 52, _, _, _, _, _⟩) (v := .string (Y ++ (U ++ V ++ d ++ Z))) rfl (by kernel_rfl) (by kernel_rfl) (by kernel_rfl) (fun _ _ _ h => h) (Or.inl ⟨by rfl, ?_⟩) hHeld ?_
            · intro w hSw
              obtain ⟨s0, s1⟩ := hSw
              go_simp
              try with_reducible rfl
              try omega
            simp only [Act.put, List.setIfInBounds_toArray, List.set_cons_zero, List.set_cons_succ]
            refine wpAnyH_take (i := 20) (oi := ⟨some 4, _, _, _, _, _⟩) (v := .string (Y ++ (U ++ V ++ d ++ Z))) rfl (by kernel_rfl) (by kernel_rfl) (by kernel_rfl) (fun _ _ _ h => h) (Or.inl ⟨by rfl, ?_⟩) hHeld ?_
            · intro w hSw
              obtain ⟨s0, s1⟩ := hSw
              go_simp
              try with_reducible rfl
              try omega
            simp only [Act.put, List.setIfInBounds_toArray, List.set_cons_zero, List.set_cons_succ]
            refine wpAnyH_done (by kernel_rfl) ?_ _
            rw [← hpiece.out]
            go_wp2_with fail
            go_roundw
            case rel => exact ⟨k + 1, by omega, rfl, rfl, HQ, HB.out⟩
            case measure => simp [intOf]; omega
        · refine step_convert rfl (.tmp 49) 141 9 rfl _ (.string Z) rfl (by first | exact eZ.out ▸ made_zeros hz1 HM.out | (have h := HM.out; rw [show (World.drew (wr.alloc (.cells #[.int .i64 c, .string d] 33))).heap.size = wr.heap.size + 1 by simp] at h; exact eZ.out ▸ made_zeros hz1 h)) ?_
          have SC := And.intro (cell_at HCc.out 0) (cell_at HCc.out 1)
          refine hK.out _ _ SC (fun hHeld => ?_)
          clear hK K
          try simp only [Act.put, List.setIfInBounds_toArray, List.set_cons_zero, List.set_cons_succ]
          refine wpAnyH_ready (rs := [7]) (by kernel_rfl) (by simp) ?_
          refine AllReadyH.cons (o := ⟨some 40, _, _, _, _, _⟩) rfl (fun K hK => ?_) (AllReadyH.nil)
          · go_simp
            go_at_call 131
            refine (K2.out _).mono ?_
            rintro e wn ⟨rfl, hb⟩
            replace HQ := Lib.hid (hBs hb HQ.out)
            replace HB := Lib.hid (bT HB.out hb)
            replace HCc := Lib.hid (hBs hb HCc.out)
            have SC := And.intro (cell_at HCc.out 0) (cell_at HCc.out 1)
            clear hb
            go_wp2_with fail
            refine hK.out _ _ SC (fun hHeld => ?_)
            clear hK K
            try simp only [Act.put, List.setIfInBounds_toArray, List.set_cons_zero, List.set_cons_succ]
            refine wpAnyH_take (i := 8) (oi := ⟨some 41, _, _, _, _, _⟩) (v := .string (U ++ V)) rfl (by kernel_rfl) (by kernel_rfl) (by kernel_rfl) (fun _ _ _ h => h) (Or.inl ⟨by rfl, ?_⟩) hHeld ?_
            · intro w hSw
              obtain ⟨s0, s1⟩ := hSw
              go_simp
              try with_reducible rfl
              try omega
            simp only [Act.put, List.setIfInBounds_toArray, List.set_cons_zero, List.set_cons_succ]
            refine wpAnyH_take (i := 11) (oi := ⟨some 44, _, _, _, _, _⟩) (v := .string (U ++ V ++ d)) rfl (by kernel_rfl) (by kernel_rfl) (by kernel_rfl) (fun _ _ _ h => h) (Or.inl ⟨by rfl, ?_⟩) hHeld ?_
            · intro w hSw
              obtain ⟨s0, s1⟩ := hSw
              go_simp
              try with_reducible rfl
              try omega
            simp only [Act.put, List.setIfInBounds_toArray, List.set_cons_zero, List.set_cons_succ]
            refine wpAnyH_take (i := 18) (oi := ⟨some 51, _, _, _, _, _⟩) (v := .string (U ++ V ++ d ++ Z)) rfl (by kernel_rfl) (by kernel_rfl) (by kernel_rfl) (fun _ _ _ h => h) (Or.inl ⟨by rfl, ?_⟩) hHeld ?_
            · intro w hSw
              obtain ⟨s0, s1⟩ := hSw
              go_simp
              try with_reducible rfl
              try omega
            simp only [Act.put, List.setIfInBounds_toArray, List.set_cons_zero, List.set_cons_succ]
            refine wpAnyH_take (i := 19) (oi := ⟨some 52, _, _, _, _, _⟩) (v := .string (Y ++ (U ++ V ++ d ++ Z))) rfl (by kernel_rfl) (by kernel_rfl) (by kernel_rfl) (fun _ _ _ h => h) (Or.inl ⟨by rfl, ?_⟩) hHeld ?_
            · intro w hSw
              obtain ⟨s0, s1⟩ := hSw
              go_simp
              try with_reducible rfl
              try omega
            simp only [Act.put, List.setIfInBounds_toArray, List.set_cons_zero, List.set_cons_succ]
            refine wpAnyH_take (i := 20) (oi := ⟨some 4, _, _, _, _, _⟩) (v := .string (Y ++ (U ++ V ++ d ++ Z))) rfl (by kernel_rfl) (by kernel_rfl) (by kernel_rfl) (fun _ _ _ h => h) (Or.inl ⟨by rfl, ?_⟩) hHeld ?_
            · intro w hSw
              obtain ⟨s0, s1⟩ := hSw
              go_simp
              try with_reducible rfl
              try omega
            simp only [Act.put, List.setIfInBounds_toArray, List.set_cons_zero, List.set_cons_succ]
            refine wpAnyH_done (by kernel_rfl) ?_ _
            rw [← hpiece.out]
            go_wp2_with fail
            go_roundw
            case rel => exact ⟨k + 1, by omega, rfl, rfl, HQ, HB.out⟩
            case measure => simp [intOf]; omega
      · refine step_convert rfl (.tmp 49) 141 9 rfl _ (.string Z) rfl (by first | exact eZ.out ▸ made_zeros hz1 HM.out | (have h := HM.out; rw [show (World.drew (wr.alloc (.cells #[.int .i64 c, .string d] 33))).heap.size = wr.heap.size + 1 by simp] at h; exact eZ.out ▸ made_zeros hz1 h)) ?_
        have SC := And.intro (cell_at HCc.out 0) (cell_at HCc.out 1)
        refine hK.out _ _ SC (fun hHeld => ?_)
        clear hK K
        try simp only [Act.put, List.setIfInBounds_toArray, List.set_cons_zero, List.set_cons_succ]
        refine wpAnyH_ready (rs := [3]) (by kernel_rfl) (by simp) ?_
        refine AllReadyH.cons (o := ⟨some 36, _, _, _, _, _⟩) rfl (fun K hK => ?_) (AllReadyH.nil)
        · go_simp
          go_at_call 131
          refine (K1.out _).mono ?_
          rintro e wn ⟨rfl, hb⟩
          replace HQ := Lib.hid (hBs hb HQ.out)
          replace HB := Lib.hid (bT HB.out hb)
          replace HCc := Lib.hid (hBs hb HCc.out)
          have SC := And.intro (cell_at HCc.out 0) (cell_at HCc.out 1)
          clear hb
          go_wp2_with fail
          refine hK.out _ _ SC (fun hHeld => ?_)
          clear hK K
          try simp only [Act.put, List.setIfInBounds_toArray, List.set_cons_zero, List.set_cons_succ]
          refine wpAnyH_ready (rs := [7]) (by kernel_rfl) (by simp) ?_
          refine AllReadyH.cons (o := ⟨some 40, _, _, _, _, _⟩) rfl (fun K hK => ?_) (AllReadyH.nil)
          · go_simp
            go_at_call 131
            refine (K2.out _).mono ?_
            rintro e wn ⟨rfl, hb⟩
            replace HQ := Lib.hid (hBs hb HQ.out)
            replace HB := Lib.hid (bT HB.out hb)
            replace HCc := Lib.hid (hBs hb HCc.out)
            have SC := And.intro (cell_at HCc.out 0) (cell_at HCc.out 1)
            clear hb
            go_wp2_with fail
            refine hK.out _ _ SC (fun hHeld => ?_)
            clear hK K
            try simp only [Act.put, List.setIfInBounds_toArray, List.set_cons_zero, List.set_cons_succ]
            refine wpAnyH_take (i := 8) (oi := ⟨some 41, _, _, _, _, _⟩) (v := .string (U ++ V)) rfl (by kernel_rfl) (by kernel_rfl) (by kernel_rfl) (fun _ _ _ h => h) (Or.inl ⟨by rfl, ?_⟩) hHeld ?_
            · intro w hSw
              obtain ⟨s0, s1⟩ := hSw
              go_simp
              try with_reducible rfl
              try omega
            simp only [Act.put, List.setIfInBounds_toArray, List.set_cons_zero, List.set_cons_succ]
            refine wpAnyH_take (i := 11) (oi := ⟨some 44, _, _, _, _, _⟩) (v := .string (U ++ V ++ d)) rfl (by kernel_rfl) (by kernel_rfl) (by kernel_rfl) (fun _ _ _ h => h) (Or.inl ⟨by rfl, ?_⟩) hHeld ?_
            · intro w hSw
              obtain ⟨s0, s1⟩ := hSw
              go_simp
              try with_reducible rfl
              try omega
            simp only [Act.put, List.setIfInBounds_toArray, List.set_cons_zero, List.set_cons_succ]
            refine wpAnyH_take (i := 18) (oi := ⟨some 51, _, _, _, _, _⟩) (v := .string (U ++ V ++ d ++ Z)) rfl (by kernel_rfl) (by kernel_rfl) (by kernel_rfl) (fun _ _ _ h => h) (Or.inl ⟨by rfl, ?_⟩) hHeld ?_
            · intro w hSw
              obtain ⟨s0, s1⟩ := hSw
              go_simp
              try with_reducible rfl
              try omega
            simp only [Act.put, List.setIfInBounds_toArray, List.set_cons_zero, List.set_cons_succ]
            refine wpAnyH_take (i := 19) (oi := ⟨some 52, _, _, _, _, _⟩) (v := .string (Y ++ (U ++ V ++ d ++ Z))) rfl (by kernel_rfl) (by kernel_rfl) (by kernel_rfl) (fun _ _ _ h => h) (Or.inl ⟨by rfl, ?_⟩) hHeld ?_
            · intro w hSw
              obtain ⟨s0, s1⟩ := hSw
              go_simp
              try with_reducible rfl
              try omega
            simp only [Act.put, List.setIfInBounds_toArray, List.set_cons_zero, List.set_cons_succ]
            refine wpAnyH_take (i := 20) (oi := ⟨some 4, _, _, _, _, _⟩) (v := .string (Y ++ (U ++ V ++ d ++ Z))) rfl (by kernel_rfl) (by kernel_rfl) (by kernel_rfl) (fun _ _ _ h => h) (Or.inl ⟨by rfl, ?_⟩) hHeld ?_
            · intro w hSw
              obtain ⟨s0, s1⟩ := hSw
              go_simp
              try with_reducible rfl
              try omega
            simp only [Act.put, List.setIfInBounds_toArray, List.set_cons_zero, List.set_cons_succ]
            refine wpAnyH_done (by kernel_rfl) ?_ _
            rw [← hpiece.out]
            go_wp2_with fail
            go_roundw
            case rel => exact ⟨k + 1, by omega, rfl, rfl, HQ, HB.out⟩
            case measure => simp [intOf]; omega
    -- END 8
end Go.Proofs.YtimomjheanfbmaaGreatDoor
