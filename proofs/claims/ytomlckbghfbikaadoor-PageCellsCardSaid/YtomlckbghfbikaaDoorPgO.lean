import Derived.Test.YtomlckbghfbikaaDoorPgN
set_option linter.unusedSimpArgs false
set_option linter.unusedVariables false
namespace Go.Proofs.YtomlckbghfbikaaDoor
open Go.RowKit

/-! ### PageCells: the plain law -/
def setPg (P : Pg) (i : Nat) (s : Int) (d : ByteArray) : Pg := { P with st := fun j => if j = i then s else P.st j, dt := fun j => if j = i then d else P.dt j }
theorem setPg_cells (P : Pg) (i : Nat) (hi : i < 6) (s : Int) (d : ByteArray) : ((pgC P).setIfInBounds (4 + i * 2) (.int .i64 s)).setIfInBounds (4 + i * 2 + 1) (.string d) = pgC (setPg P i s d) := by
  match i, hi with
  | 0, _ => simp [pgC, setPg]
  | 1, _ => simp [pgC, setPg]
  | 2, _ => simp [pgC, setPg]
  | 3, _ => simp [pgC, setPg]
  | 4, _ => simp [pgC, setPg]
  | 5, _ => simp [pgC, setPg]
theorem eqPg_iff (X Y : Pg) : eqPg X Y = true ↔ pgC X = pgC Y := by
  refine ⟨fun h => ?_, eqPg_same⟩
  unfold eqPg at h
  simp only [Bool.and_eq_true, beq_iff_eq, eqCl_iff] at h
  obtain ⟨h1, h2, h3, h4, h5, h6, h7, h8, h9, h10⟩ := h
  unfold pgC
  rw [h1, h2, h3, h4, h5.1, h5.2, h6.1, h6.2, h7.1, h7.2, h8.1, h8.2, h9.1, h9.2, h10.1, h10.2]
def tlL (P : Pg) : Nat → Nat → List UInt8
  | _, 0 => []
  | k, m + 1 => cellL (P.st k) (P.dt k) ++ tlL P (k + 1) m
theorem bodyL_tl (P : Pg) : ∀ m k, bodyL P (k + m) = bodyL P k ++ tlL P k m
  | 0, k => by simp [tlL]
  | m + 1, k => by
    rw [show k + (m + 1) = (k + 1) + m by omega, bodyL_tl P m (k + 1), tlL, bodyL, List.append_assoc]
theorem bodyL_congr {P Q : Pg} (h1 : P.kind = Q.kind) (h2 : P.level = Q.level) (h3 : P.store = Q.store) (h4 : P.next = Q.next) : ∀ n, (∀ j, j < n → P.st j = Q.st j ∧ P.dt j = Q.dt j) → bodyL P n = bodyL Q n
  | 0, _ => by
    show headN P 4 = headN Q 4
    simp only [headN, numP, h1, h2, h3, h4]
  | n + 1, h => by
    rw [bodyL, bodyL, bodyL_congr h1 h2 h3 h4 n (fun j hj => h j (by omega)), (h n (by omega)).1, (h n (by omega)).2]
theorem tlL_congr {P Q : Pg} : ∀ m k, (∀ j, k ≤ j → P.st j = Q.st j ∧ P.dt j = Q.dt j) → tlL P k m = tlL Q k m
  | 0, _, _ => rfl
  | m + 1, k, h => by rw [tlL, tlL, tlL_congr m (k + 1) (fun j hj => h j (by omega)), (h k (Nat.le_refl _)).1, (h k (Nat.le_refl _)).2]
theorem pageS_congr {P Q : Pg} (h : pgC P = pgC Q) : pageS P = pageS Q := by
  unfold pgC at h
  simp only [Array.mk.injEq, List.cons.injEq, Value.int.injEq, Value.string.injEq, true_and, and_true] at h
  obtain ⟨h1, h2, h3, h4, h5, h6, h7, h8, h9, h10, h11, h12, h13, h14, h15, h16⟩ := h
  unfold pageS
  rw [bodyL_congr h1 h2 h3 h4 6 (fun j hj => ?_)]
  match j, hj with
  | 0, _ => exact ⟨h5, h6⟩
  | 1, _ => exact ⟨h7, h8⟩
  | 2, _ => exact ⟨h9, h10⟩
  | 3, _ => exact ⟨h11, h12⟩
  | 4, _ => exact ⟨h13, h14⟩
  | 5, _ => exact ⟨h15, h16⟩
theorem pageS_inj {P Q : Pg} (hP : PgOk P) (hQ : PgOk Q) (h : pageS P = pageS Q) : pgC P = pgC Q := by
  rw [← dec_enc hP, ← dec_enc hQ, h]
theorem cells_apart {P : Pg} {i : Nat} (hi : i < 6) {s : Int} {d : ByteArray} (hP : PgOk P) (hQ : PgOk (setPg P i s d)) :
    (pageS P).extract 0 (8 + 36 * i) = (pageS (setPg P i s d)).extract 0 (8 + 36 * i) ∧ (pageS P).extract (8 + 36 * i + 36) 224 = (pageS (setPg P i s d)).extract (8 + 36 * i + 36) 224 := by
  have hne : ∀ j, j ≠ i → P.st j = (setPg P i s d).st j ∧ P.dt j = (setPg P i s d).dt j := fun j hj => by
    show P.st j = (if j = i then s else P.st j) ∧ P.dt j = (if j = i then d else P.dt j)
    rw [if_neg hj, if_neg hj]
    exact ⟨rfl, rfl⟩
  have e1 : bodyL P i = bodyL (setPg P i s d) i := bodyL_congr (P := P) (Q := setPg P i s d) rfl rfl rfl rfl i fun j hj => hne j (by omega)
  have e2 : tlL P (i + 1) (5 - i) = tlL (setPg P i s d) (i + 1) (5 - i) := tlL_congr _ _ fun j hj => hne j (by omega)
  have sp : ∀ X : Pg, bodyL X 6 = bodyL X i ++ (cellL (X.st i) (X.dt i) ++ tlL X (i + 1) (5 - i)) := fun X => by
    have := bodyL_tl X (5 - i + 1) i
    rw [show i + (5 - i + 1) = 6 by omega] at this
    exact this
  have l1 : ∀ X : Pg, PgOk X → (bodyL X i).length = 8 + 36 * i := fun X h => bodyL_length X i fun j hj => h.small j (by omega)
  have l2 : ∀ X : Pg, PgOk X → (cellL (X.st i) (X.dt i)).length = 36 := fun X h => cellL_length _ _ (h.small i hi)
  refine ⟨ba_ext ?_, ba_ext ?_⟩
  · rw [ext_list, ext_list]
    show ((bodyL P 6).drop 0).take _ = ((bodyL (setPg P i s d) 6).drop 0).take _
    rw [List.drop_zero, List.drop_zero, Nat.sub_zero, sp P, sp (setPg P i s d), ← e1, List.take_left' (l1 P hP), List.take_left' (l1 P hP)]
  · have key : ∀ X : Pg, PgOk X → (bodyL X 6).drop (8 + 36 * i + 36) = tlL X (i + 1) (5 - i) := fun X h => by
      rw [sp X, ← List.append_assoc, List.drop_left']
      rw [List.length_append, l1 X h, l2 X h]
    rw [ext_list, ext_list]
    show ((bodyL P 6).drop _).take _ = ((bodyL (setPg P i s d) 6).drop _).take _
    rw [key P hP, key _ hQ, e2]
theorem cell_pos (x : Int) : ∃ a : Nat, (wrap64 (x.tmod 6 + 6)).tmod 6 = (a : Int) ∧ a < 6 := by
  have h0 : -6 < x.tmod 6 ∧ x.tmod 6 < 6 := ⟨Int.lt_tmod_of_pos x (by omega), Int.tmod_lt_of_pos x (by omega)⟩
  have h2 : wrap64 (x.tmod 6 + 6) = x.tmod 6 + 6 := by unfold wrap64; omega
  rw [h2, Int.tmod_eq_emod_of_nonneg (by omega)]
  exact ⟨((x.tmod 6 + 6) % 6).toNat, by omega, by omega⟩
theorem yieldsIf_eq_pg {ops : Array Oper} {Sx : World → Prop} {oi : Oper} {a : Act} (hw : Region.wanted oi (yielded ops a.tmps) = true) (x y : Operand) (r : TypeId) (ho : oi.op = .binOp .eql 27 x y r)
    (X Y : Pg) (b : Bool) (hb : eqPg X Y = b) (hx : a.eval x = .agg (pgC X)) (hy : a.eval y = .agg (pgC Y)) : YieldsIf Tryd.prog ops Sx oi (.bool b) a :=
  .inl ⟨hw, fun w _ => by
    subst hb
    unfold execOp
    simp only [ho, hx, hy, Sem.run_bind, Sem.run_pure, Result.andThen_ok, run_eqGuard_agg (P := Tryd.prog) w .eql 27 x y _ _ (by kernel_rfl), run_eq_pg X Y w]⟩
theorem str_beq {S T : ByteArray} {b : Bool} (h : S = T ↔ b = true) : (S.toList == T.toList) = b := by
  cases b with
  | true => rw [h.2 rfl]; exact beq_self_eq_true _
  | false => exact (lists_ne (fun e => by cases h.1 e)).2.1
/-! ### PageCells -/
/-- what the law asks of the two pages, in one piece -/
theorem two_pages (P Q : Pg) (i : Nat) (hi : i < 6) (s : Int) (d : ByteArray) (hQ : Q = setPg P i s d) (hd : ∀ j, j < 6 → (P.dt j).size ≤ maxLen) (hd' : d.size ≤ maxLen) : ∃ (S T : ByteArray) (e f : Int) (b : Bool), (e = 0 ∨ e = 1) ∧ (f = 0 ∨ f = 1)
    ∧ (∀ w, Calls Tryd.prog 11 #[.agg (pgC P)] w fun r w' => r = .returned (.tuple #[.string S, .int .i64 e]) ∧ Below w.heap.size w w')
    ∧ (∀ w, Calls Tryd.prog 11 #[.agg (pgC Q)] w fun r w' => r = .returned (.tuple #[.string T, .int .i64 f]) ∧ Below w.heap.size w w')
    ∧ eqPg P Q = b ∧ (e = 0 → f = 0 → S.size = 224 ∧ T.size = 224 ∧ S.extract 0 (8 + 36 * i) = T.extract 0 (8 + 36 * i) ∧ S.extract (8 + 36 * i + 36) 224 = T.extract (8 + 36 * i + 36) 224 ∧ (S = T ↔ b = true)) := by
  obtain ⟨S, e, hS, HE, -⟩ := encs P hd
  obtain ⟨T, f, hT, HF, -⟩ := encs Q (fun j hj => by
    subst hQ
    show (if j = i then d else P.dt j).size ≤ maxLen
    split
    · exact hd'
    · exact hd j hj)
  refine ⟨S, T, e, f, _, hS.imp (fun h => h.2.2) (fun h => h.2.2), hT.imp (fun h => h.2.2) (fun h => h.2.2), HE, HF, rfl, fun h0 h1 => ?_⟩
  rcases hS with ⟨hP, rfl, -⟩ | ⟨-, -, h⟩
  · rcases hT with ⟨hq, rfl, -⟩ | ⟨-, -, h⟩
    · subst hQ
      obtain ⟨a1, a2⟩ := cells_apart hi hP hq
      exact ⟨pageS_size hP, pageS_size hq, a1, a2, fun h => (eqPg_iff _ _).2 (pageS_inj hP hq h), fun h => pageS_congr ((eqPg_iff _ _).1 h)⟩
    · omega
  · omega
set_option maxRecDepth 100000 in
set_option maxHeartbeats 6400000 in
theorem pageCells_go (P : Pg) (hd : ∀ i, i < 6 → (P.dt i).size ≤ maxLen) (s : Int) (d : ByteArray) (hd' : d.size ≤ maxLen) (x : Int) (hx : -9223372036854775808 ≤ x ∧ x ≤ 9223372036854775807) (w : World) : Calls Tryd.prog 5 #[.agg (pgC P), .agg #[.int .i64 s, .string d], .int .i64 x] w fun e w' => e = .returned (.bool true) ∧ Below w.heap.size w w' := by
  have HA := Lib.hid (fun w => awake04 w)
  obtain ⟨i, hxi, hi⟩ := cell_pos x
  have hset := setPg_cells P i hi s d
  have hi' : (i : Int) < 6 := by omega
  obtain ⟨Q, hQ⟩ : ∃ Q, Q = setPg P i s d := ⟨_, rfl⟩
  obtain ⟨S, T, e, f, b, he, hf, HE, HF, heq, hlaw⟩ := two_pages P Q i hi s d hQ hd hd'
  rw [← hQ] at hset
  replace hset := Lib.hid hset
  replace HE := Lib.hid HE
  replace HF := Lib.hid HF
  replace heq := Lib.hid heq
  clear hQ hd
  have HP0 : Hid ((w.alloc (.cells (pgC P) 27)).heap[w.heap.size]? = some (.cells (pgC P) 27 (0, 0))) := hN rfl
  go_enter Tryd.func5, Tryd.ntmps5
  go_wp2_with fail
  have HC0 : Hid (((w.alloc (.cells (pgC P) 27)).alloc (.cells #[.int .i64 s, .string d] 24)).heap[w.heap.size + 1]? = some (.cells #[.int .i64 s, .string d] 24 (0, 0))) := hN (by simp)
  replace HP0 := Lib.hid (hO (o := .cells #[.int .i64 s, .string d] 24) HP0.out)
  have HB0 : Hid (Below w.heap.size w ((w.alloc (.cells (pgC P) 27)).alloc (.cells #[.int .i64 s, .string d] 24))) := bA (bA bR)
  generalize ((w.alloc (.cells (pgC P) 27)).alloc (.cells #[.int .i64 s, .string d] 24)) = w0 at *
  refine (HA.out _).mono ?_
  rintro r w1 ⟨rfl, hb⟩
  have HP1 := Lib.hid (hBs hb HP0.out)
  have HC1 := Lib.hid (hBs hb HC0.out)
  have HB1 := Lib.hid (bT HB0.out hb)
  clear hb HA HP0 HB0 HC0
  have hw1 := block_lt HC1.out
  have HZ : Hid ((w1.alloc (.cells (pgC pageZ) 27)).heap[w1.heap.size]? = some (.cells (pgC pageZ) 27 (0, 0))) := hN rfl
  have HPa : Hid ((w1.alloc (.cells (pgC pageZ) 27)).heap[w.heap.size]? = some (.cells (pgC P) 27 (0, 0))) := hO HP1.out
  have HCa : Hid ((w1.alloc (.cells (pgC pageZ) 27)).heap[w.heap.size + 1]? = some (.cells #[.int .i64 s, .string d] 24 (0, 0))) := hO HC1.out
  have HBa : Hid (Below w.heap.size w (w1.alloc (.cells (pgC pageZ) 27))) := bA HB1.out
  go_wp2_with (first
    | (refine wpList_load_want (by rfl) 27 _ rfl _ rfl 27 _ _ _ HP1.out Tryd.underlying27 rfl (by kernel_rfl) ?_)
    | (refine wpList_load_want (by rfl) 27 _ rfl _ rfl 27 _ _ _ HPa.out Tryd.underlying27 rfl (by kernel_rfl) ?_)
    | (refine wpList_store_whole rfl 27 _ _ rfl _ (pgC P) rfl rfl _ (pgC pageZ) HZ.out rfl (by kernel_rfl) (pgC_one P) ?_; intro w2 HQ2 K2; (have HP2 := Lib.hid (K2.out.keep HPa.out (by omega))); (have HC2 := Lib.hid (K2.out.keep HCa.out (by omega))); (have HB2 := Lib.hid (bK HBa.out K2.out (fun j hj => by omega))); (have c0 := cell_at HC2.out 0); (have c1 := cell_at HC2.out 1); (obtain ⟨d0, d1⟩ := pg_at HQ2.out i hi); (have f0 := free_at HQ2.out (4 + i * 2)); (have f1 := free_at HQ2.out (4 + i * 2 + 1)); (have hq2 := block_lt HQ2.out); clear K2 HPa HCa HBa HZ HP1 HC1 HB1)
    | (refine wpList_load_want (by rfl) 27 _ rfl _ rfl 27 _ _ _ (hSO (hSO HP2.out (by show _ ≠ w1.heap.size; omega)) (by show _ ≠ w1.heap.size; omega)) Tryd.underlying27 rfl (by kernel_rfl) ?_))
  have HQ3 : Hid (((w2.setCell ⟨w1.heap.size, 4 + i * 2, none⟩ (.int .i64 s)).setCell ⟨w1.heap.size, 4 + i * 2 + 1, none⟩ (.string d)).heap[w1.heap.size]? = some (.cells (pgC Q) 27 (0, 0))) := heap_set_eq (heap_set HQ2.out (4 + i * 2) (.int .i64 s)) hset.out
  have HP3 : Hid (((w2.setCell ⟨w1.heap.size, 4 + i * 2, none⟩ (.int .i64 s)).setCell ⟨w1.heap.size, 4 + i * 2 + 1, none⟩ (.string d)).heap[w.heap.size]? = some (.cells (pgC P) 27 (0, 0))) := hSO (hSO HP2.out (by show _ ≠ w1.heap.size; omega)) (by show _ ≠ w1.heap.size; omega)
  have HB3 : Hid (Below w.heap.size w ((w2.setCell ⟨w1.heap.size, 4 + i * 2, none⟩ (.int .i64 s)).setCell ⟨w1.heap.size, 4 + i * 2 + 1, none⟩ (.string d))) := bS (bS HB2.out (by show _ ≤ w1.heap.size; omega)) (by show _ ≤ w1.heap.size; omega)
  clear c0 c1 d0 d1 f0 f1 HP2 HC2 HB2 HQ2
  generalize ((w2.setCell ⟨w1.heap.size, 4 + i * 2, none⟩ (.int .i64 s)).setCell ⟨w1.heap.size, 4 + i * 2 + 1, none⟩ (.string d)) = w3 at *
  refine (HE.out _).mono ?_
  rintro r w4 ⟨rfl, hb⟩
  have HP4 := Lib.hid (hBs hb HP3.out)
  have HQ4 := Lib.hid (hBs hb HQ3.out)
  have HB4 := Lib.hid (bT HB3.out hb)
  clear hb HP3 HQ3 HB3 HE
  go_wp2_with (refine wpList_load_want (by rfl) 27 _ rfl _ rfl 27 _ _ _ HQ4.out Tryd.underlying27 rfl (by kernel_rfl) ?_)
  refine (HF.out _).mono ?_
  rintro r w5 ⟨rfl, hb⟩
  have HP5 := Lib.hid (hBs hb HP4.out)
  have HQ5 := Lib.hid (hBs hb HQ4.out)
  have HB5 := Lib.hid (bT HB4.out hb)
  clear hb HP4 HQ4 HB4 HF
  have fin : e = 0 ∧ f = 0 ∨ ¬ (e = 0 ∧ f = 0) := Classical.em _
  rcases fin with ⟨rfl, rfl⟩ | hne
  · obtain ⟨zS, zT, x1, x2, hST⟩ := hlaw rfl rfl
    obtain ⟨A, eA⟩ : ∃ A, T.extract 0 (8 + 36 * i) = A := ⟨_, rfl⟩
    obtain ⟨B, eB⟩ : ∃ B, T.extract (8 + 36 * i + 36) 224 = B := ⟨_, rfl⟩
    rw [eA] at x1
    rw [eB] at x2
    have wr1 : IntKind.i64.wrap (36 * (i : Int)) = 36 * (i : Int) := by rw [IntKind.wrap_i64]; omega
    have wr2 : IntKind.i64.wrap (8 + 36 * (i : Int)) = 8 + 36 * (i : Int) := by rw [IntKind.wrap_i64]; omega
    have wr3 : IntKind.i64.wrap (8 + 36 * (i : Int) + 36) = 8 + 36 * (i : Int) + 36 := by rw [IntKind.wrap_i64]; omega
    have n1 : (8 + 36 * (i : Int)).toNat = 8 + 36 * i := by omega
    have n2 : (8 + 36 * (i : Int) + 36).toNat = 8 + 36 * i + 36 := by omega
    -- REGION 11
    clear hlaw he hf
    have hut := Lib.hid Tryd.underlying27
    have hiP : Hid ((Tryd.prog.info? 27).map (·.size) = some (pgC P).toList.length) := (by kernel_rfl : (Tryd.prog.info? 27).map (·.size) = some (pgC P).toList.length)
    have hiQ : Hid ((Tryd.prog.info? 27).map (·.size) = some (pgC Q).toList.length) := (by kernel_rfl : (Tryd.prog.info? 27).map (·.size) = some (pgC Q).toList.length)
    have y1 : S.extract 0 (8 + 36 * (i : Int)).toNat = A := by rw [n1]; exact x1
    have y2 : T.extract 0 (8 + 36 * (i : Int)).toNat = A := by rw [n1]; exact eA
    have y3 : S.extract (8 + 36 * (i : Int) + 36).toNat 224 = B := by rw [n2]; exact x2
    have y4 : T.extract (8 + 36 * (i : Int) + 36).toNat 224 = B := by rw [n2]; exact eB
    go_wp2_with fail
    have HS0 : (w5.drew.heap[w.heap.size]? = some (.cells (pgC P) 27 (0, 0))) ∧ w5.drew.heap[w1.heap.size]? = some (.cells (pgC Q) 27 (0, 0)) := ⟨hDr HP5.out, hDr HQ5.out⟩
    have HB6 := Lib.hid (bD HB5.out)
    refine wp_region_held_drew (S := fun w' => (w'.heap[w.heap.size]? = some (.cells (pgC P) 27 (0, 0))) ∧ w'.heap[w1.heap.size]? = some (.cells (pgC Q) 27 (0, 0))) (by kernel_rfl) HS0 (fun hHeld => ?_)
    clear HP5 HQ5 HB5 HS0
    refine wpAnyH_take (i := 0) (oi := ⟨some 43, _, _, _, _, _⟩) (v := .string S) rfl (by kernel_rfl) (by kernel_rfl) (by kernel_rfl) (fun _ _ _ h => h) (Or.inl ⟨by rfl, fun _ _ => rfl⟩) hHeld ?_
    simp only [Act.put, List.setIfInBounds_toArray, List.set_cons_zero, List.set_cons_succ]
    refine wpAnyH_take (i := 1) (oi := ⟨some 44, _, _, _, _, _⟩) (v := .int .i64 (8 + 36 * (i : Int))) rfl (by kernel_rfl) (by kernel_rfl) (by kernel_rfl) (fun _ _ _ h => h) (Or.inl ⟨by rfl, fun _ _ => rfl⟩) hHeld ?_
    simp only [Act.put, List.setIfInBounds_toArray, List.set_cons_zero, List.set_cons_succ]
    refine wpAnyH_take (i := 2) (oi := ⟨some 45, _, _, _, _, _⟩) (v := .string A) rfl (by kernel_rfl) (by kernel_rfl) (by kernel_rfl) (fun _ _ _ h => h) (Or.inl ⟨by rfl, ?_⟩) hHeld ?_
    · intro w hSw
      go_simp
      try with_reducible rfl
      try (intro h; exact absurd (h (by omega)) (by omega))
      try (intro h; exact absurd h (by omega))
      try (intro h1 h2; omega)
    simp only [Act.put, List.setIfInBounds_toArray, List.set_cons_zero, List.set_cons_succ]
    refine wpAnyH_take (i := 3) (oi := ⟨some 46, _, _, _, _, _⟩) (v := .string T) rfl (by kernel_rfl) (by kernel_rfl) (by kernel_rfl) (fun _ _ _ h => h) (Or.inl ⟨by rfl, fun _ _ => rfl⟩) hHeld ?_
    simp only [Act.put, List.setIfInBounds_toArray, List.set_cons_zero, List.set_cons_succ]
    refine wpAnyH_take (i := 4) (oi := ⟨some 47, _, _, _, _, _⟩) (v := .int .i64 (8 + 36 * (i : Int))) rfl (by kernel_rfl) (by kernel_rfl) (by kernel_rfl) (fun _ _ _ h => h) (Or.inl ⟨by rfl, fun _ _ => rfl⟩) hHeld ?_
    simp only [Act.put, List.setIfInBounds_toArray, List.set_cons_zero, List.set_cons_succ]
    refine wpAnyH_take (i := 5) (oi := ⟨some 48, _, _, _, _, _⟩) (v := .string A) rfl (by kernel_rfl) (by kernel_rfl) (by kernel_rfl) (fun _ _ _ h => h) (Or.inl ⟨by rfl, ?_⟩) hHeld ?_
    · intro w hSw
      go_simp
      try with_reducible rfl
      try (intro h; exact absurd (h (by omega)) (by omega))
      try (intro h; exact absurd h (by omega))
      try (intro h1 h2; omega)
    simp only [Act.put, List.setIfInBounds_toArray, List.set_cons_zero, List.set_cons_succ]
    refine wpAnyH_take (i := 6) (oi := ⟨some 49, _, _, _, _, _⟩) (v := .bool true) rfl (by kernel_rfl) (by kernel_rfl) (by kernel_rfl) (fun _ _ _ h => h) (Or.inl ⟨by rfl, ?_⟩) hHeld ?_
    · intro w hSw
      go_simp
      try with_reducible rfl
    simp only [Act.put, List.setIfInBounds_toArray, List.set_cons_zero, List.set_cons_succ]
    refine wpAnyH_take (i := 7) (oi := ⟨some 50, _, _, _, _, _⟩) (v := .bool true) rfl (by kernel_rfl) (by kernel_rfl) (by kernel_rfl) (fun _ _ _ h => h) (Or.inl ⟨by rfl, fun _ _ => rfl⟩) hHeld ?_
    simp only [Act.put, List.setIfInBounds_toArray, List.set_cons_zero, List.set_cons_succ]
    refine wpAnyH_take (i := 8) (oi := ⟨some 51, _, _, _, _, _⟩) (v := .string S) rfl (by kernel_rfl) (by kernel_rfl) (by kernel_rfl) (fun _ _ _ h => h) (Or.inl ⟨by rfl, fun _ _ => rfl⟩) hHeld ?_
    simp only [Act.put, List.setIfInBounds_toArray, List.set_cons_zero, List.set_cons_succ]
    refine wpAnyH_take (i := 9) (oi := ⟨some 52, _, _, _, _, _⟩) (v := .int .i64 (8 + 36 * (i : Int))) rfl (by kernel_rfl) (by kernel_rfl) (by kernel_rfl) (fun _ _ _ h => h) (Or.inl ⟨by rfl, fun _ _ => rfl⟩) hHeld ?_
    simp only [Act.put, List.setIfInBounds_toArray, List.set_cons_zero, List.set_cons_succ]
    refine wpAnyH_take (i := 10) (oi := ⟨some 53, _, _, _, _, _⟩) (v := .int .i64 (8 + 36 * (i : Int) + 36)) rfl (by kernel_rfl) (by kernel_rfl) (by kernel_rfl) (fun _ _ _ h => h) (Or.inl ⟨by rfl, ?_⟩) hHeld ?_
    · intro w hSw
      go_simp
      try with_reducible rfl
    simp only [Act.put, List.setIfInBounds_toArray, List.set_cons_zero, List.set_cons_succ]
    refine wpAnyH_take (i := 11) (oi := ⟨some 54, _, _, _, _, _⟩) (v := .string B) rfl (by kernel_rfl) (by kernel_rfl) (by kernel_rfl) (fun _ _ _ h => h) (Or.inl ⟨by rfl, ?_⟩) hHeld ?_
    · intro w hSw
      go_simp
      try with_reducible rfl
      try (intro h; exact absurd (h (by omega)) (by omega))
      try (intro h; exact absurd h (by omega))
      try (intro h1 h2; omega)
    simp only [Act.put, List.setIfInBounds_toArray, List.set_cons_zero, List.set_cons_succ]
    refine wpAnyH_take (i := 12) (oi := ⟨some 55, _, _, _, _, _⟩) (v := .string T) rfl (by kernel_rfl) (by kernel_rfl) (by kernel_rfl) (fun _ _ _ h => h) (Or.inl ⟨by rfl, fun _ _ => rfl⟩) hHeld ?_
    simp only [Act.put, List.setIfInBounds_toArray, List.set_cons_zero, List.set_cons_succ]
    refine wpAnyH_take (i := 13) (oi := ⟨some 56, _, _, _, _, _⟩) (v := .int .i64 (8 + 36 * (i : Int))) rfl (by kernel_rfl) (by kernel_rfl) (by kernel_rfl) (fun _ _ _ h => h) (Or.inl ⟨by rfl, fun _ _ => rfl⟩) hHeld ?_
    simp only [Act.put, List.setIfInBounds_toArray, List.set_cons_zero, List.set_cons_succ]
    refine wpAnyH_take (i := 14) (oi := ⟨some 57, _, _, _, _, _⟩) (v := .int .i64 (8 + 36 * (i : Int) + 36)) rfl (by kernel_rfl) (by kernel_rfl) (by kernel_rfl) (fun _ _ _ h => h) (Or.inl ⟨by rfl, ?_⟩) hHeld ?_
    · intro w hSw
      go_simp
      try with_reducible rfl
    simp only [Act.put, List.setIfInBounds_toArray, List.set_cons_zero, List.set_cons_succ]
    refine wpAnyH_take (i := 15) (oi := ⟨some 58, _, _, _, _, _⟩) (v := .string B) rfl (by kernel_rfl) (by kernel_rfl) (by kernel_rfl) (fun _ _ _ h => h) (Or.inl ⟨by rfl, ?_⟩) hHeld ?_
    · intro w hSw
      go_simp
      try with_reducible rfl
      try (intro h; exact absurd (h (by omega)) (by omega))
      try (intro h; exact absurd h (by omega))
      try (intro h1 h2; omega)
    simp only [Act.put, List.setIfInBounds_toArray, List.set_cons_zero, List.set_cons_succ]
    refine wpAnyH_take (i := 16) (oi := ⟨some 59, _, _, _, _, _⟩) (v := .bool true) rfl (by kernel_rfl) (by kernel_rfl) (by kernel_rfl) (fun _ _ _ h => h) (Or.inl ⟨by rfl, ?_⟩) hHeld ?_
    · intro w hSw
      go_simp
      try with_reducible rfl
    simp only [Act.put, List.setIfInBounds_toArray, List.set_cons_zero, List.set_cons_succ]
    refine wpAnyH_take (i := 17) (oi := ⟨some 60, _, _, _, _, _⟩) (v := .bool true) rfl (by kernel_rfl) (by kernel_rfl) (by kernel_rfl) (fun _ _ _ h => h) (Or.inl ⟨by rfl, ?_⟩) hHeld ?_
    · intro w hSw
      go_simp
      try with_reducible rfl
    simp only [Act.put, List.setIfInBounds_toArray, List.set_cons_zero, List.set_cons_succ]
    refine wpAnyH_take (i := 18) (oi := ⟨some 61, _, _, _, _, _⟩) (v := .bool true) rfl (by kernel_rfl) (by kernel_rfl) (by kernel_rfl) (fun _ _ _ h => h) (Or.inl ⟨by rfl, fun _ _ => rfl⟩) hHeld ?_
    simp only [Act.put, List.setIfInBounds_toArray, List.set_cons_zero, List.set_cons_succ]
    refine wpAnyH_take (i := 19) (oi := ⟨some 62, _, _, _, _, _⟩) (v := .string S) rfl (by kernel_rfl) (by kernel_rfl) (by kernel_rfl) (fun _ _ _ h => h) (Or.inl ⟨by rfl, fun _ _ => rfl⟩) hHeld ?_
    simp only [Act.put, List.setIfInBounds_toArray, List.set_cons_zero, List.set_cons_succ]
    refine wpAnyH_take (i := 20) (oi := ⟨some 63, _, _, _, _, _⟩) (v := .string T) rfl (by kernel_rfl) (by kernel_rfl) (by kernel_rfl) (fun _ _ _ h => h) (Or.inl ⟨by rfl, fun _ _ => rfl⟩) hHeld ?_
    simp only [Act.put, List.setIfInBounds_toArray, List.set_cons_zero, List.set_cons_succ]
    refine wpAnyH_take (i := 21) (oi := ⟨some 64, _, _, _, _, _⟩) (v := .bool b) rfl (by kernel_rfl) (by kernel_rfl) (by kernel_rfl) (fun _ _ _ h => h) (Or.inl ⟨by rfl, ?_⟩) hHeld ?_
    · intro w hSw
      go_simp
      try with_reducible rfl
      try exact str_beq hST
    simp only [Act.put, List.setIfInBounds_toArray, List.set_cons_zero, List.set_cons_succ]
    refine wpAnyH_take (i := 22) (oi := ⟨some 65, _, _, _, _, _⟩) (v := .agg (pgC P)) rfl (by kernel_rfl) (by kernel_rfl) (by kernel_rfl) (fun _ _ _ h => h) (yieldsIf_load_mid (by rfl) _ _ rfl w.heap.size 0 rfl (pgC P).toList _ (fun _ h => range_of h.1) hut.out rfl hiP.out) hHeld ?_
    simp only [Act.put, List.setIfInBounds_toArray, List.set_cons_zero, List.set_cons_succ]
    refine wpAnyH_take (i := 23) (oi := ⟨some 66, _, _, _, _, _⟩) (v := .agg (pgC Q)) rfl (by kernel_rfl) (by kernel_rfl) (by kernel_rfl) (fun _ _ _ h => h) (yieldsIf_load_mid (by rfl) _ _ rfl w1.heap.size 0 rfl (pgC Q).toList _ (fun _ h => range_of h.2) hut.out rfl hiQ.out) hHeld ?_
    simp only [Act.put, List.setIfInBounds_toArray, List.set_cons_zero, List.set_cons_succ]
    refine wpAnyH_take (i := 24) (oi := ⟨some 67, _, _, _, _, _⟩) (v := .bool b) rfl (by kernel_rfl) (by kernel_rfl) (by kernel_rfl) (fun _ _ _ h => h) (yieldsIf_eq_pg (by rfl) _ _ _ rfl P Q b heq.out rfl rfl) hHeld ?_
    simp only [Act.put, List.setIfInBounds_toArray, List.set_cons_zero, List.set_cons_succ]
    refine wpAnyH_take (i := 25) (oi := ⟨some 68, _, _, _, _, _⟩) (v := .bool true) rfl (by kernel_rfl) (by kernel_rfl) (by kernel_rfl) (fun _ _ _ h => h) (Or.inl ⟨by rfl, ?_⟩) hHeld ?_
    · intro w hSw
      go_simp
      try with_reducible rfl
      try (cases b <;> rfl)
    simp only [Act.put, List.setIfInBounds_toArray, List.set_cons_zero, List.set_cons_succ]
    refine wpAnyH_take (i := 26) (oi := ⟨some 69, _, _, _, _, _⟩) (v := .bool true) rfl (by kernel_rfl) (by kernel_rfl) (by kernel_rfl) (fun _ _ _ h => h) (Or.inl ⟨by rfl, ?_⟩) hHeld ?_
    · intro w hSw
      go_simp
      try with_reducible rfl
    simp only [Act.put, List.setIfInBounds_toArray, List.set_cons_zero, List.set_cons_succ]
    refine wpAnyH_take (i := 27) (oi := ⟨some 6, _, _, _, _, _⟩) (v := .bool true) rfl (by kernel_rfl) (by kernel_rfl) (by kernel_rfl) (fun _ _ _ h => h) (Or.inl ⟨by rfl, fun _ _ => rfl⟩) hHeld ?_
    simp only [Act.put, List.setIfInBounds_toArray, List.set_cons_zero, List.set_cons_succ]
    refine wpAnyH_done (by kernel_rfl) ?_ _
    refine ‹∀ (a : Act) (w : World), Code.wp Tryd.prog Code.ret _ a w → _› _ _ ?_
    refine wp_ret ?_
    exact bodyPost_ret (results_tmp Tryd.results5 _ _ _) rfl ⟨rfl, HB6.out⟩
    -- END 11
  · clear hlaw
    rcases he with rfl | rfl <;> rcases hf with rfl | rfl
    · exact absurd ⟨rfl, rfl⟩ hne
    all_goals
      clear hne
      go_wp2_with fail
      go_ret
      exact ⟨rfl, HB5.out⟩
theorem pageCells_walk (v : Value) (P : Pg) (v' : Value) (c : Int × ByteArray) (x : Int) (hx : -9223372036854775808 ≤ x ∧ x ≤ 9223372036854775807) (w : World) (h : PgIs v P) (h' : CellIs v' c) : Calls Tryd.prog 5 #[v, v', .int .i64 x] w fun e w' => e = .returned (.bool true) ∧ Below w.heap.size w w' := by
  obtain ⟨rfl, h1⟩ := h
  obtain ⟨rfl, h2⟩ := h'
  exact pageCells_go P (fun i _ => h1 i) c.1 c.2 h2 x hx w
end Go.Proofs.YtomlckbghfbikaaDoor
