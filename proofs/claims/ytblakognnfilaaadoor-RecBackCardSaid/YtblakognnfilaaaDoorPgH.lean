import Derived.Test.YtblakognnfilaaaDoorPgG
import Derived.Laws.StructEq
import Derived.Test.YtblakognnfilaaaDoorLibE
set_option linter.unusedSimpArgs false
set_option linter.unusedVariables false
namespace Go.Proofs.YtblakognnfilaaaDoor
open Go.RowKit

/-! ### two pages, compared -/
theorem Tryd.info_cell : (Tryd.prog.info? 23).map (fun i => (i.zero, i.size, i.bytes)) = some (some (.agg #[.int .i64 0, .string .empty]), 2, 24) := by kernel_rfl
def eqCl (s : Int) (d : ByteArray) (s' : Int) (d' : ByteArray) : Bool := s == s' && d.toList == d'.toList
theorem eq_cell (s : Int) (d : ByteArray) (s' : Int) (d' : ByteArray) (w : World) : (Op.equalIn 9998 23 (.agg #[.int .i64 s, .string d]) (.agg #[.int .i64 s', .string d'])).run Tryd.prog w = .ok (eqCl s d s' d') w := by
  have u1 := Tryd.underlying23
  unfold eqCl
  cases h1 : (s == s') <;> cases h2 : (d.toList == d'.toList) <;> (go_simp)
theorem eq_arr6 (X Y : Pg) (w : World) : (Op.equalIn 9999 58 (.agg (pgA X)) (.agg (pgA Y))).run Tryd.prog w =
    .ok (eqCl (X.st 0) (X.dt 0) (Y.st 0) (Y.dt 0) && (eqCl (X.st 1) (X.dt 1) (Y.st 1) (Y.dt 1) && (eqCl (X.st 2) (X.dt 2) (Y.st 2) (Y.dt 2) && (eqCl (X.st 3) (X.dt 3) (Y.st 3) (Y.dt 3) && (eqCl (X.st 4) (X.dt 4) (Y.st 4) (Y.dt 4) && eqCl (X.st 5) (X.dt 5) (Y.st 5) (Y.dt 5)))))) w := by
  obtain ⟨i0, hi, hz0, hz1, hz2⟩ := info_parts Tryd.info_cell
  have hs : (sizeOf 23).run Tryd.prog w = .ok 2 w := by simp [sizeOf, typeInfo, hi, hz1]
  unfold pgA
  rw [run_equalIn_array w 9998 58 23 6 i0 _ _ Tryd.underlying58 hi, hz1]
  have hr : List.range 6 = [0, 1, 2, 3, 4, 5] := rfl
  rw [hr]
  have e0 := eq_cell (X.st 0) (X.dt 0) (Y.st 0) (Y.dt 0) w
  have e1 := eq_cell (X.st 1) (X.dt 1) (Y.st 1) (Y.dt 1) w
  have e2 := eq_cell (X.st 2) (X.dt 2) (Y.st 2) (Y.dt 2) w
  have e3 := eq_cell (X.st 3) (X.dt 3) (Y.st 3) (Y.dt 3) w
  have e4 := eq_cell (X.st 4) (X.dt 4) (Y.st 4) (Y.dt 4) w
  have e5 := eq_cell (X.st 5) (X.dt 5) (Y.st 5) (Y.dt 5) w
  generalize eqCl (X.st 0) _ _ _ = b0 at *
  generalize eqCl (X.st 1) _ _ _ = b1 at *
  generalize eqCl (X.st 2) _ _ _ = b2 at *
  generalize eqCl (X.st 3) _ _ _ = b3 at *
  generalize eqCl (X.st 4) _ _ _ = b4 at *
  generalize eqCl (X.st 5) _ _ _ = b5 at *
  cases b0 with
  | false => simp [eqElems, part, isAgg, Sem.run_bind, run_underlying Tryd.underlying23, Result.andThen_ok, Sem.run_pure, Sem.run_ite, hs, e0, e1, e2, e3, e4, e5]
  | true =>
    cases b1 with
    | false => simp [eqElems, part, isAgg, Sem.run_bind, run_underlying Tryd.underlying23, Result.andThen_ok, Sem.run_pure, Sem.run_ite, hs, e0, e1, e2, e3, e4, e5]
    | true =>
      cases b2 with
      | false => simp [eqElems, part, isAgg, Sem.run_bind, run_underlying Tryd.underlying23, Result.andThen_ok, Sem.run_pure, Sem.run_ite, hs, e0, e1, e2, e3, e4, e5]
      | true =>
        cases b3 with
        | false => simp [eqElems, part, isAgg, Sem.run_bind, run_underlying Tryd.underlying23, Result.andThen_ok, Sem.run_pure, Sem.run_ite, hs, e0, e1, e2, e3, e4, e5]
        | true =>
          cases b4 with
          | false => simp [eqElems, part, isAgg, Sem.run_bind, run_underlying Tryd.underlying23, Result.andThen_ok, Sem.run_pure, Sem.run_ite, hs, e0, e1, e2, e3, e4, e5]
          | true =>
            cases b5 with
            | false => simp [eqElems, part, isAgg, Sem.run_bind, run_underlying Tryd.underlying23, Result.andThen_ok, Sem.run_pure, Sem.run_ite, hs, e0, e1, e2, e3, e4, e5]
            | true =>
              simp [eqElems, part, isAgg, Sem.run_bind, run_underlying Tryd.underlying23, Result.andThen_ok, Sem.run_pure, Sem.run_ite, hs, e0, e1, e2, e3, e4, e5]
def eqPg (X Y : Pg) : Bool := X.kind == Y.kind && (X.level == Y.level && (X.store == Y.store && (X.next == Y.next && (eqCl (X.st 0) (X.dt 0) (Y.st 0) (Y.dt 0) && (eqCl (X.st 1) (X.dt 1) (Y.st 1) (Y.dt 1) && (eqCl (X.st 2) (X.dt 2) (Y.st 2) (Y.dt 2) && (eqCl (X.st 3) (X.dt 3) (Y.st 3) (Y.dt 3) && (eqCl (X.st 4) (X.dt 4) (Y.st 4) (Y.dt 4) && eqCl (X.st 5) (X.dt 5) (Y.st 5) (Y.dt 5)))))))))
set_option maxRecDepth 100000 in
set_option maxHeartbeats 3200000 in
theorem run_eq_pg (X Y : Pg) (w : World) : (binOp .eql 60 (.agg (pgC X)) (.agg (pgC Y))).run Tryd.prog w = .ok (.bool (eqPg X Y)) w := by
  have u1 := Tryd.underlying60
  have h6 := eq_arr6 X Y w
  unfold eqPg
  unfold pgA at h6
  unfold pgC
  generalize (eqCl (X.st 0) _ _ _ && _) = b at *
  cases h1 : (X.kind == Y.kind) <;> cases h2 : (X.level == Y.level) <;> cases h3 : (X.store == Y.store) <;> cases h4 : (X.next == Y.next) <;> cases b <;> (go_simp)
theorem eqCl_iff (s : Int) (d : ByteArray) (s' : Int) (d' : ByteArray) : eqCl s d s' d' = true ↔ s = s' ∧ d = d' := by
  unfold eqCl
  rw [Bool.and_eq_true, beq_iff_eq, beq_iff_eq]
  exact ⟨fun h => ⟨h.1, by have := h.2; rw [ByteArray.toList_eq, ByteArray.toList_eq] at this; exact ba_ext this⟩, fun h => ⟨h.1, by rw [h.2]⟩⟩
theorem eqPg_same {X Y : Pg} (h : pgC X = pgC Y) : eqPg X Y = true := by
  unfold pgC at h
  simp only [Array.mk.injEq, List.cons.injEq, Value.int.injEq, Value.string.injEq, true_and, and_true] at h
  obtain ⟨h1, h2, h3, h4, h5, h6, h7, h8, h9, h10, h11, h12, h13, h14, h15, h16⟩ := h
  unfold eqPg
  simp only [Bool.and_eq_true, beq_iff_eq, eqCl_iff]
  simp [*]
end Go.Proofs.YtblakognnfilaaaDoor
