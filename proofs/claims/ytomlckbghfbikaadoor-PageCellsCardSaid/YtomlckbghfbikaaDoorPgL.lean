import Derived.Test.YtomlckbghfbikaaDoorPgK
import Derived.Test.YtomlckbghfbikaaDoorPgArg
set_option linter.unusedSimpArgs false
set_option linter.unusedVariables false
namespace Go.Proofs.YtomlckbghfbikaaDoor
open Go.RowKit

theorem run_ne_pg (X Y : Pg) (w : World) : (binOp .neq 27 (.agg (pgC X)) (.agg (pgC Y))).run Tryd.prog w = .ok (.bool (!eqPg X Y)) w := by
  have h := run_eq_pg X Y w
  simp only [go_sem] at h ⊢
  generalize (Op.equalIn 10000 27 (.agg (pgC X)) (.agg (pgC Y))).run Tryd.prog w = r at *
  cases r with
  | ok b w' =>
    simp only [Result.andThen_ok, Result.ok.injEq, Value.bool.injEq] at h ⊢
    exact ⟨by rw [h.1], h.2⟩
  | halt a b => simp [Result.andThen] at h
theorem wpList_ne_pg {ops : Array Oper} {rest : List Oper} {o : Oper} {a : Act} {w : World} {Q : Exit → Act → World → Prop} (hw : Region.wanted o (yielded ops a.tmps) = true) (x y : Operand) (r : TypeId) (ho : o.op = .binOp .neq 27 x y r)
    (X Y : Pg) (b : Bool) (hb : (!eqPg X Y) = b) (hx : a.eval x = .agg (pgC X)) (hy : a.eval y = .agg (pgC Y)) (h : wpList Tryd.prog ops Q rest (a.put o.dst (.bool b)) w) : wpList Tryd.prog ops Q (o :: rest) a w :=
  wpList_want hw fun K hK => by
    subst hb
    unfold Oper.wp execOp
    simp only [ho, hx, hy, Sem.run_bind, Sem.run_pure, Result.andThen_ok, run_eqGuard_agg (P := Tryd.prog) w .neq 27 x y _ _ (by kernel_rfl), run_ne_pg X Y w]
    exact hK _ _ h
/-! ### PageBack -/
/-- what the law asks of the two functions, in one piece -/
theorem backs (P : Pg) (hd : ∀ i, i < 6 → (P.dt i).size ≤ maxLen) (s : ByteArray) (hs : s.size ≤ maxLen) : ∃ (T : ByteArray) (e : Int) (Q D : Pg) (f : Int), (e = 0 ∨ e = 1) ∧ (f = 0 ∨ f = 40)
    ∧ (∀ w, Calls Tryd.prog 11 #[.agg (pgC P)] w fun r w' => r = .returned (.tuple #[.string T, .int .i64 e]) ∧ Below w.heap.size w w')
    ∧ (e = 0 → T.size = 224 ∧ eqPg Q P = true ∧ (∀ w, Calls Tryd.prog 9 #[.string T] w fun r w' => r = .returned (.tuple #[.agg (pgC Q), .int .i64 0]) ∧ Below w.heap.size w w'))
    ∧ (∀ w, Calls Tryd.prog 9 #[.string s] w fun r w' => r = .returned (.tuple #[.agg (pgC D), .int .i64 f]) ∧ Below w.heap.size w w')
    ∧ (f ≠ 0 → D = pageZ) ∧ (f = 0 → (∀ w, Calls Tryd.prog 11 #[.agg (pgC D)] w fun r w' => r = .returned (.tuple #[.string s, .int .i64 0]) ∧ Below w.heap.size w w')
      ∧ (∀ w, Calls Tryd.prog 12 #[.agg (pgC D)] w fun r w' => r = .returned (.int .i64 0) ∧ Below w.heap.size w w')) := by
  obtain ⟨T, e, hT, HE, -⟩ := encs P hd
  obtain ⟨D, f, hD, HD, -⟩ := decs s hs
  refine ⟨T, e, decP T, D, f, hT.imp (fun h => h.2.2) (fun h => h.2.2), hD.imp (fun h => h.2.2) (fun h => h.2.2), HE, fun h0 => ?_, HD, fun h0 => ?_, fun h0 => ?_⟩
  · rcases hT with ⟨hok, rfl, -⟩ | ⟨-, -, h1⟩
    · refine ⟨pageS_size hok, eqPg_same (dec_enc hok), fun w => (pg_decode (pageS P) (by rw [pageS_size hok]; unfold maxLen; omega) w).mono ?_⟩
      rintro e w' ⟨h, hb⟩
      exact ⟨h.elim (fun h => h.1) (fun h => absurd (dec_ok hok) h.2), hb⟩
    · omega
  · rcases hD with ⟨-, -, h1⟩ | ⟨-, h1, -⟩
    · omega
    · exact h1
  · rcases hD with ⟨hok, rfl, -⟩ | ⟨-, -, h1⟩
    · refine ⟨fun w => ?_, fun w => pg_check_ok _ hok.2.2 w⟩
      have := pg_encode_ok (decP s) hok.2.2 w
      rw [enc_dec hok] at this
      exact this
    · omega
set_option maxRecDepth 100000 in
set_option maxHeartbeats 6400000 in
theorem pageBack_go (P : Pg) (hd : ∀ i, i < 6 → (P.dt i).size ≤ maxLen) (s : ByteArray) (hs : s.size ≤ maxLen) (w : World) : Calls Tryd.prog 4 #[.agg (pgC P), .string s] w fun e w' => e = .returned (.bool true) ∧ Below w.heap.size w w' := by
  have HA := Lib.hid (fun w => awake04 w)
  obtain ⟨T, e, Q, D, f, he, hf, HE, HQ, HD, hZ, HF⟩ := backs P hd s hs
  have hzz := Lib.hid (eqPg_same (X := pageZ) (Y := pageZ) rfl)
  replace HE := Lib.hid HE
  replace HQ := Lib.hid HQ
  replace HD := Lib.hid HD
  replace HF := Lib.hid HF
  replace hZ := Lib.hid hZ
  have HP0 : Hid ((w.alloc (.cells (pgC P) 27)).heap[w.heap.size]? = some (.cells (pgC P) 27 (0, 0))) := hN rfl
  have HB0 : Hid (Below w.heap.size w (w.alloc (.cells (pgC P) 27))) := bA bR
  clear hd
  go_enter Tryd.func4, Tryd.ntmps4
  go_wp2_with fail
  generalize (w.alloc _) = w0 at *
  refine (HA.out _).mono ?_
  rintro r w1 ⟨rfl, hb⟩
  have HP1 := Lib.hid (hBs hb HP0.out)
  have HB1 := Lib.hid (bT HB0.out hb)
  clear hb HA HP0 HB0
  go_wp2_with (refine wpList_load_want (by rfl) 27 _ rfl _ rfl 27 _ _ _ HP1.out Tryd.underlying27 rfl (by kernel_rfl) ?_)
  refine (HE.out _).mono ?_
  rintro r w2 ⟨rfl, hb⟩
  have HP2 := Lib.hid (hBs hb HP1.out)
  have HB2 := Lib.hid (bT HB1.out hb)
  clear hb HE HP1 HB1
  rcases he with rfl | rfl
  · obtain ⟨hTz, hQP, HQ'⟩ := HQ.out rfl
    have hnQ : Hid ((!eqPg Q P) = false) := by rw [hQP]; rfl
    replace HQ' := Lib.hid HQ'
    clear HQ hQP
    go_wp2_with fail
    refine (HQ'.out _).mono ?_
    rintro r w3 ⟨rfl, hb⟩
    have HP3 := Lib.hid (hBs hb HP2.out)
    have HB3 := Lib.hid (bT HB2.out hb)
    clear hb HQ' HP2 HB2
    have HZ3 : Hid ((w3.alloc (.cells (pgC pageZ) 27)).heap[w3.heap.size]? = some (.cells (pgC pageZ) 27 (0, 0))) := hN rfl
    have HPa : Hid ((w3.alloc (.cells (pgC pageZ) 27)).heap[w.heap.size]? = some (.cells (pgC P) 27 (0, 0))) := hO HP3.out
    have HBa : Hid (Below w.heap.size w (w3.alloc (.cells (pgC pageZ) 27))) := bA HB3.out
    have hw3 := block_lt HP3.out
    go_wp2_with (first
      | (refine wpList_store_whole rfl 27 _ _ rfl _ (pgC Q) rfl rfl _ (pgC pageZ) HZ3.out rfl (by kernel_rfl) (pgC_one Q) ?_; intro w4 HQ4 K4; (have HP4 := Lib.hid (K4.out.keep HPa.out (by omega))); (have HB4 := Lib.hid (bK HBa.out K4.out (fun j hj => by omega))); clear K4 HPa HBa HZ3)
      | (refine wpList_load_want (by rfl) 27 _ rfl _ rfl 27 _ _ _ HP4.out Tryd.underlying27 rfl (by kernel_rfl) ?_)
      | (refine wpList_load_want (by rfl) 27 _ rfl _ rfl 27 _ _ _ HQ4.out Tryd.underlying27 rfl (by kernel_rfl) ?_)
      | (refine wpList_ne_pg (by rfl) _ _ _ rfl _ _ false hnQ.out rfl rfl ?_))
    refine (HD.out _).mono ?_
    rintro r w5 ⟨rfl, hb⟩
    have HB5 := Lib.hid (bT HB4.out hb)
    clear hb HD
    have HZ5 : Hid ((w5.alloc (.cells (pgC pageZ) 27)).heap[w5.heap.size]? = some (.cells (pgC pageZ) 27 (0, 0))) := hN rfl
    have HBb : Hid (Below w.heap.size w (w5.alloc (.cells (pgC pageZ) 27))) := bA HB5.out
    have hw5 := HB5.out.size
    rcases hf with rfl | rfl
    · obtain ⟨HEd, HCd⟩ := HF.out rfl
      replace HEd := Lib.hid HEd
      replace HCd := Lib.hid HCd
      clear HF hZ
      go_wp2_with (first
        | (refine wpList_store_whole rfl 27 _ _ rfl _ (pgC D) rfl rfl _ (pgC pageZ) HZ5.out rfl (by kernel_rfl) (pgC_one D) ?_; intro w6 HQ6 K6; (have HB6 := Lib.hid (bK HBb.out K6.out (fun j hj => by omega))); clear K6 HBb HZ5)
        | (refine wpList_load_want (by rfl) 27 _ rfl _ rfl 27 _ _ _ HQ6.out Tryd.underlying27 rfl (by kernel_rfl) ?_))
      refine (HEd.out _).mono ?_
      rintro r w7 ⟨rfl, hb⟩
      have HB7 := Lib.hid (bT HB6.out hb)
      have HQ7 := Lib.hid (hBs hb HQ6.out)
      clear hb HEd HB6 HQ6
      go_wp2_with (refine wpList_load_want (by rfl) 27 _ rfl _ rfl 27 _ _ _ HQ7.out Tryd.underlying27 rfl (by kernel_rfl) ?_)
      refine (HCd.out _).mono ?_
      rintro r w8 ⟨rfl, hb⟩
      have HB8 := Lib.hid (bT HB7.out hb)
      clear hb HCd HB7 HQ7
      go_wp2_with fail
      go_ret
      exact ⟨rfl, HB8.out⟩
    · obtain rfl := hZ.out (by decide)
      clear HF hZ
      go_wp2_with (first
        | (refine wpList_store_whole rfl 27 _ _ rfl _ (pgC pageZ) rfl rfl _ (pgC pageZ) HZ5.out rfl (by kernel_rfl) (pgC_one pageZ) ?_; intro w6 HQ6 K6; (have HB6 := Lib.hid (bK HBb.out K6.out (fun j hj => by omega))); clear K6 HBb HZ5)
        | (refine wpList_load_want (by rfl) 27 _ rfl _ rfl 27 _ _ _ HQ6.out Tryd.underlying27 rfl (by kernel_rfl) ?_)
        | (refine wpList_eq_pg (by rfl) _ _ _ rfl pageZ pageZ true hzz.out rfl rfl ?_))
      go_ret
      exact ⟨rfl, HB6.out⟩
  · clear HQ
    go_wp2_with fail
    refine (HD.out _).mono ?_
    rintro r w5 ⟨rfl, hb⟩
    have HB5 := Lib.hid (bT HB2.out hb)
    clear hb HD
    have HZ5 : Hid ((w5.alloc (.cells (pgC pageZ) 27)).heap[w5.heap.size]? = some (.cells (pgC pageZ) 27 (0, 0))) := hN rfl
    have HBb : Hid (Below w.heap.size w (w5.alloc (.cells (pgC pageZ) 27))) := bA HB5.out
    have hw5 := HB5.out.size
    rcases hf with rfl | rfl
    · obtain ⟨HEd, HCd⟩ := HF.out rfl
      replace HEd := Lib.hid HEd
      replace HCd := Lib.hid HCd
      clear HF hZ
      go_wp2_with (first
        | (refine wpList_store_whole rfl 27 _ _ rfl _ (pgC D) rfl rfl _ (pgC pageZ) HZ5.out rfl (by kernel_rfl) (pgC_one D) ?_; intro w6 HQ6 K6; (have HB6 := Lib.hid (bK HBb.out K6.out (fun j hj => by omega))); clear K6 HBb HZ5)
        | (refine wpList_load_want (by rfl) 27 _ rfl _ rfl 27 _ _ _ HQ6.out Tryd.underlying27 rfl (by kernel_rfl) ?_))
      refine (HEd.out _).mono ?_
      rintro r w7 ⟨rfl, hb⟩
      have HB7 := Lib.hid (bT HB6.out hb)
      have HQ7 := Lib.hid (hBs hb HQ6.out)
      clear hb HEd HB6 HQ6
      go_wp2_with (refine wpList_load_want (by rfl) 27 _ rfl _ rfl 27 _ _ _ HQ7.out Tryd.underlying27 rfl (by kernel_rfl) ?_)
      refine (HCd.out _).mono ?_
      rintro r w8 ⟨rfl, hb⟩
      have HB8 := Lib.hid (bT HB7.out hb)
      clear hb HCd HB7 HQ7
      go_wp2_with fail
      go_ret
      exact ⟨rfl, HB8.out⟩
    · obtain rfl := hZ.out (by decide)
      clear HF hZ
      go_wp2_with (first
        | (refine wpList_store_whole rfl 27 _ _ rfl _ (pgC pageZ) rfl rfl _ (pgC pageZ) HZ5.out rfl (by kernel_rfl) (pgC_one pageZ) ?_; intro w6 HQ6 K6; (have HB6 := Lib.hid (bK HBb.out K6.out (fun j hj => by omega))); clear K6 HBb HZ5)
        | (refine wpList_load_want (by rfl) 27 _ rfl _ rfl 27 _ _ _ HQ6.out Tryd.underlying27 rfl (by kernel_rfl) ?_)
        | (refine wpList_eq_pg (by rfl) _ _ _ rfl pageZ pageZ true hzz.out rfl rfl ?_))
      go_ret
      exact ⟨rfl, HB6.out⟩
theorem pageBack_walk (v : Value) (P : Pg) (s : ByteArray) (hs : s.size ≤ maxLen) (w : World) (h : PgIs v P) : Calls Tryd.prog 4 #[v, .string s] w fun e w' => e = .returned (.bool true) ∧ Below w.heap.size w w' := by
  obtain ⟨rfl, h1⟩ := h
  exact pageBack_go P (fun i _ => h1 i) s hs w
end Go.Proofs.YtomlckbghfbikaaDoor
