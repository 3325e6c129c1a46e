import Derived.Test.YtblakognnfilaaaDoorRcK
import Derived.Test.YtblakognnfilaaaDoorPgH
set_option linter.unusedSimpArgs false
set_option linter.unusedVariables false
namespace Go.Proofs.YtblakognnfilaaaDoor
open Go.RowKit

theorem eq_cell7 (s : Int) (d : ByteArray) (s' : Int) (d' : ByteArray) (w : World) : (Op.equalIn 9997 23 (.agg #[.int .i64 s, .string d]) (.agg #[.int .i64 s', .string d'])).run Tryd.prog w = .ok (eqCl s d s' d') w := by
  have u1 := Tryd.underlying23
  unfold eqCl
  cases h1 : (s == s') <;> cases h2 : (d.toList == d'.toList) <;> (go_simp)
theorem eq_arr6b (X Y : Pg) (w : World) : (Op.equalIn 9998 58 (.agg (pgA X)) (.agg (pgA Y))).run Tryd.prog w =
    .ok (eqCl (X.st 0) (X.dt 0) (Y.st 0) (Y.dt 0) && (eqCl (X.st 1) (X.dt 1) (Y.st 1) (Y.dt 1) && (eqCl (X.st 2) (X.dt 2) (Y.st 2) (Y.dt 2) && (eqCl (X.st 3) (X.dt 3) (Y.st 3) (Y.dt 3) && (eqCl (X.st 4) (X.dt 4) (Y.st 4) (Y.dt 4) && eqCl (X.st 5) (X.dt 5) (Y.st 5) (Y.dt 5)))))) w := by
  obtain ⟨i0, hi, hz0, hz1, hz2⟩ := info_parts Tryd.info_cell
  have hs : (sizeOf 23).run Tryd.prog w = .ok 2 w := by simp [sizeOf, typeInfo, hi, hz1]
  unfold pgA
  rw [run_equalIn_array w 9997 58 23 6 i0 _ _ Tryd.underlying58 hi, hz1]
  have hr : List.range 6 = [0, 1, 2, 3, 4, 5] := rfl
  rw [hr]
  have e0 := eq_cell7 (X.st 0) (X.dt 0) (Y.st 0) (Y.dt 0) w
  have e1 := eq_cell7 (X.st 1) (X.dt 1) (Y.st 1) (Y.dt 1) w
  have e2 := eq_cell7 (X.st 2) (X.dt 2) (Y.st 2) (Y.dt 2) w
  have e3 := eq_cell7 (X.st 3) (X.dt 3) (Y.st 3) (Y.dt 3) w
  have e4 := eq_cell7 (X.st 4) (X.dt 4) (Y.st 4) (Y.dt 4) w
  have e5 := eq_cell7 (X.st 5) (X.dt 5) (Y.st 5) (Y.dt 5) w
  generalize eqCl (X.st 0) _ _ _ = b0 at *
  generalize eqCl (X.st 1) _ _ _ = b1 at *
  generalize eqCl (X.st 2) _ _ _ = b2 at *
  generalize eqCl (X.st 3) _ _ _ = b3 at *
  generalize eqCl (X.st 4) _ _ _ = b4 at *
  generalize eqCl (X.st 5) _ _ _ = b5 at *
  cases b0 with
  | false => simp [eqElems, part, isAgg, Sem.run_bind, run_underlying Tryd.underlying23, Result.andThen_ok, Sem.run_pure, Sem.run_ite, hs, e0, e1, e2, e3, e4, e5]
  | true =>
    cases b1 with
    | false => simp [eqElems, part, isAgg, Sem.run_bind, run_underlying Tryd.underlying23, Result.andThen_ok, Sem.run_pure, Sem.run_ite, hs, e0, e1, e2, e3, e4, e5]
    | true =>
      cases b2 with
      | false => simp [eqElems, part, isAgg, Sem.run_bind, run_underlying Tryd.underlying23, Result.andThen_ok, Sem.run_pure, Sem.run_ite, hs, e0, e1, e2, e3, e4, e5]
      | true =>
        cases b3 with
        | false => simp [eqElems, part, isAgg, Sem.run_bind, run_underlying Tryd.underlying23, Result.andThen_ok, Sem.run_pure, Sem.run_ite, hs, e0, e1, e2, e3, e4, e5]
        | true =>
          cases b4 with
          | false => simp [eqElems, part, isAgg, Sem.run_bind, run_underlying Tryd.underlying23, Result.andThen_ok, Sem.run_pure, Sem.run_ite, hs, e0, e1, e2, e3, e4, e5]
          | true =>
            cases b5 with
            | false => simp [eqElems, part, isAgg, Sem.run_bind, run_underlying Tryd.underlying23, Result.andThen_ok, Sem.run_pure, Sem.run_ite, hs, e0, e1, e2, e3, e4, e5]
            | true =>
              simp [eqElems, part, isAgg, Sem.run_bind, run_underlying Tryd.underlying23, Result.andThen_ok, Sem.run_pure, Sem.run_ite, hs, e0, e1, e2, e3, e4, e5]

def eqIm (x y : Int × Pg) : Bool := x.1 == y.1 && eqPg x.2 y.2
set_option maxRecDepth 100000 in
set_option maxHeartbeats 3200000 in
theorem run_ne_im (x y : Int × Pg) (w : World) : (binOp .neq 62 (.agg (imA x)) (.agg (imA y))).run Tryd.prog w = .ok (.bool (!eqIm x y)) w := by
  have u1 := Tryd.underlying62
  have u2 := Tryd.underlying60
  have h6 := eq_arr6b x.2 y.2 w
  unfold eqIm eqPg
  unfold pgA at h6
  unfold imA imL pgC
  generalize (eqCl (x.2.st 0) _ _ _ && _) = b at *
  cases h0 : (x.1 == y.1) with
  | false => go_simp
  | true =>
    cases h1 : (x.2.kind == y.2.kind) with
    | false => go_simp
    | true =>
      cases h2 : (x.2.level == y.2.level) with
      | false => go_simp
      | true =>
        cases h3 : (x.2.store == y.2.store) with
        | false => go_simp
        | true =>
          cases h4 : (x.2.next == y.2.next) with
          | false => go_simp
          | true => cases b <;> go_simp
def eqLv (x y : Int × Int × Int) : Bool := x.1 == y.1 && (x.2.1 == y.2.1 && x.2.2 == y.2.2)
theorem run_ne_lv (x y : Int × Int × Int) (w : World) : (binOp .neq 65 (.agg (lvL x).toArray) (.agg (lvL y).toArray)).run Tryd.prog w = .ok (.bool (!eqLv x y)) w := by
  have u1 := Tryd.underlying65
  unfold eqLv lvL
  cases h1 : (x.1 == y.1) with
  | false => go_simp
  | true =>
    cases h2 : (x.2.1 == y.2.1) with
    | false => go_simp
    | true => cases h3 : (x.2.2 == y.2.2) <;> go_simp
def eqUn (A B : Rc) : Bool := A.uk == B.uk && (A.us == B.us && (A.up == B.up && (A.ul == B.ul && (A.key.toList == B.key.toList && eqCl A.bs A.bd B.bs B.bd))))
set_option maxRecDepth 100000 in
set_option maxHeartbeats 3200000 in
theorem run_ne_un (A B : Rc) (w : World) : (binOp .neq 25 (.agg (undL A).toArray) (.agg (undL B).toArray)).run Tryd.prog w = .ok (.bool (!eqUn A B)) w := by
  have u1 := Tryd.underlying25
  have u2 := Tryd.underlying23
  unfold eqUn undL eqCl
  cases h1 : (A.uk == B.uk) with
  | false => go_simp
  | true =>
    cases h2 : (A.us == B.us) with
    | false => go_simp
    | true =>
      cases h3 : (A.up == B.up) with
      | false => go_simp
      | true =>
        cases h4 : (A.ul == B.ul) with
        | false => go_simp
        | true =>
          cases h5 : (A.key.toList == B.key.toList) with
          | false => go_simp
          | true =>
            cases h6 : (A.bs == B.bs) with
            | false => go_simp
            | true => cases h7 : (A.bd.toList == B.bd.toList) <;> go_simp
theorem wp_ne_un {o : Oper} {a : Act} {w : World} {K : Act → World → Prop} {Q : Exit → Act → World → Prop} (x y : Operand) (r : TypeId) (ho : o.op = .binOp .neq 25 x y r)
    (A B : Rc) (b : Bool) (hb : (!eqUn A B) = b) (hx : a.eval x = .agg (undL A).toArray) (hy : a.eval y = .agg (undL B).toArray) (h : K (a.put o.dst (.bool b)) w) : o.wp Tryd.prog a w K Q := by
  subst hb
  unfold Oper.wp execOp
  simp only [ho, hx, hy, Sem.run_bind, Sem.run_pure, Result.andThen_ok, run_eqGuard_agg (P := Tryd.prog) w .neq 25 x y _ _ (by kernel_rfl), run_ne_un A B w]
  exact h
theorem yieldsIf_ne_im {ops : Array Oper} {Sx : World → Prop} {oi : Oper} {a : Act} (hw : Region.wanted oi (yielded ops a.tmps) = true) (x y : Operand) (r : TypeId) (ho : oi.op = .binOp .neq 62 x y r)
    (X Y : Int × Pg) (b : Bool) (hb : (!eqIm X Y) = b) (hx : a.eval x = .agg (imA X)) (hy : a.eval y = .agg (imA Y)) : YieldsIf Tryd.prog ops Sx oi (.bool b) a :=
  .inl ⟨hw, fun w _ => by
    subst hb
    unfold execOp
    simp only [ho, hx, hy, Sem.run_bind, Sem.run_pure, Result.andThen_ok, run_eqGuard_agg (P := Tryd.prog) w .neq 62 x y _ _ (by kernel_rfl), run_ne_im X Y w]⟩
theorem yieldsIf_ne_lv {ops : Array Oper} {Sx : World → Prop} {oi : Oper} {a : Act} (hw : Region.wanted oi (yielded ops a.tmps) = true) (x y : Operand) (r : TypeId) (ho : oi.op = .binOp .neq 65 x y r)
    (X Y : Int × Int × Int) (b : Bool) (hb : (!eqLv X Y) = b) (hx : a.eval x = .agg (lvL X).toArray) (hy : a.eval y = .agg (lvL Y).toArray) : YieldsIf Tryd.prog ops Sx oi (.bool b) a :=
  .inl ⟨hw, fun w _ => by
    subst hb
    unfold execOp
    simp only [ho, hx, hy, Sem.run_bind, Sem.run_pure, Result.andThen_ok, run_eqGuard_agg (P := Tryd.prog) w .neq 65 x y _ _ (by kernel_rfl), run_ne_lv X Y w]⟩
theorem eqPg_iff (X Y : Pg) : eqPg X Y = true ↔ pgC X = pgC Y := by
  refine ⟨fun h => ?_, eqPg_same⟩
  unfold eqPg at h
  simp only [Bool.and_eq_true, beq_iff_eq, eqCl_iff] at h
  obtain ⟨h1, h2, h3, h4, h5, h6, h7, h8, h9, h10⟩ := h
  unfold pgC
  rw [h1, h2, h3, h4, h5.1, h5.2, h6.1, h6.2, h7.1, h7.2, h8.1, h8.2, h9.1, h9.2, h10.1, h10.2]
theorem eqIm_iff (x y : Int × Pg) : eqIm x y = true ↔ imC x = imC y := by
  unfold eqIm imC
  rw [Bool.and_eq_true, beq_iff_eq, eqPg_iff, Prod.mk.injEq]
theorem eqLv_iff (x y : Int × Int × Int) : eqLv x y = true ↔ x = y := by
  obtain ⟨x1, x2, x3⟩ := x
  obtain ⟨y1, y2, y3⟩ := y
  unfold eqLv
  simp
theorem eqUn_iff (A B : Rc) : eqUn A B = true ↔ A.uk = B.uk ∧ A.us = B.us ∧ A.up = B.up ∧ A.ul = B.ul ∧ A.key = B.key ∧ A.bs = B.bs ∧ A.bd = B.bd := by
  unfold eqUn
  simp only [Bool.and_eq_true, beq_iff_eq, eqCl_iff]
  constructor
  · rintro ⟨h1, h2, h3, h4, h5, h6, h7⟩
    rw [ByteArray.toList_eq, ByteArray.toList_eq] at h5
    exact ⟨h1, h2, h3, h4, ba_ext h5, h6, h7⟩
  · rintro ⟨h1, h2, h3, h4, h5, h6, h7⟩
    exact ⟨h1, h2, h3, h4, by rw [h5], h6, h7⟩
end Go.Proofs.YtblakognnfilaaaDoor
