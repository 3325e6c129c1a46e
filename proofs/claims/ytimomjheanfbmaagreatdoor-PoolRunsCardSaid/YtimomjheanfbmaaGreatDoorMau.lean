import Derived.Test.YtimomjheanfbmaaGreatDoorMat
import Derived.Laws.StructEq
import Derived.Test.YtimomjheanfbmaaGreatDoorMan
set_option linter.unusedSimpArgs false
set_option linter.unusedVariables false
namespace Go.Proofs.YtimomjheanfbmaaGreatDoor
open Go.RowKit

/-! ### two pages, compared -/
theorem Tryz.info_cell : (Tryz.prog.info? 33).map (fun i => (i.zero, i.size, i.bytes)) = some (some (.agg #[.int .i64 0, .string .empty]), 2, 24) := by kernel_rfl
def eqCl (s : Int) (d : ByteArray) (s' : Int) (d' : ByteArray) : Bool := s == s' && d.toList == d'.toList
theorem eq_cell (s : Int) (d : ByteArray) (s' : Int) (d' : ByteArray) (w : World) : (Op.equalIn 9998 33 (.agg #[.int .i64 s, .string d]) (.agg #[.int .i64 s', .string d'])).run Tryz.prog w = .ok (eqCl s d s' d') w := by
  have u1 := Tryz.underlying33
  unfold eqCl
  cases h1 : (s == s') <;> cases h2 : (d.toList == d'.toList) <;> (go_simp)
theorem eq_arr6 (X Y : Pg) (w : World) : (Op.equalIn 9999 47 (.agg (pgA X)) (.agg (pgA Y))).run Tryz.prog w =
    .ok (eqCl (X.st 0) (X.dt 0) (Y.st 0) (Y.dt 0) && (eqCl (X.st 1) (X.dt 1) (Y.st 1) (Y.dt 1) && (eqCl (X.st 2) (X.dt 2) (Y.st 2) (Y.dt 2) && (eqCl (X.st 3) (X.dt 3) (Y.st 3) (Y.dt 3) && (eqCl (X.st 4) (X.dt 4) (Y.st 4) (Y.dt 4) && eqCl (X.st 5) (X.dt 5) (Y.st 5) (Y.dt 5)))))) w := by
  obtain ⟨i0, hi, hz0, hz1, hz2⟩ := info_parts Tryz.info_cell
  have hs : (sizeOf 33).run Tryz.prog w = .ok 2 w := by simp [sizeOf, typeInfo, hi, hz1]
  unfold pgA
  rw [run_equalIn_array w 9998 47 33 6 i0 _ _ Tryz.underlying47 hi, hz1]
  have hr : List.range 6 = [0, 1, 2, 3, 4, 5] := rfl
  rw [hr]
  have e0 := eq_cell (X.st 0) (X.dt 0) (Y.st 0) (Y.dt 0) w
  have e1 := eq_cell (X.st 1) (X.dt 1) (Y.st 1) (Y.dt 1) w
  have e2 := eq_cell (X.st 2) (X.dt 2) (Y.st 2) (Y.dt 2) w
  have e3 := eq_cell (X.st 3) (X.dt 3) (Y.st 3) (Y.dt 3) w
  have e4 := eq_cell (X.st 4) (X.dt 4) (Y.st 4) (Y.dt 4) w
  have e5 := eq_cell (X.st 5) (X.dt 5) (Y.st 5) (Y.dt 5) w
  generalize eqCl (X.st 0) _ _ _ = b0 at *
  generalize eqCl (X.st 1) _ _ _ = b1 at *
  generalize eqCl (X.st 2) _ _ _ = b2 at *
  generalize eqCl (X.st 3) _ _ _ = b3 at *
  generalize eqCl (X.st 4) _ _ _ = b4 at *
  generalize eqCl (X.st 5) _ _ _ = b5 at *
  cases b0 with
  | false => simp [eqElems, part, isAgg, Sem.run_bind, run_underlying Tryz.underlying33, Result.andThen_ok, Sem.run_pure, Sem.run_ite, hs, e0, e1, e2, e3, e4, e5]
  | true =>
    cases b1 with
    | false => simp [eqElems, part, isAgg, Sem.run_bind, run_underlying Tryz.underlying33, Result.andThen_ok, Sem.run_pure, Sem.run_ite, hs, e0, e1, e2, e3, e4, e5]
    | true =>
      cases b2 with
      | false => simp [eqElems, part, isAgg, Sem.run_bind, run_underlying Tryz.underlying33, Result.andThen_ok, Sem.run_pure, Sem.run_ite, hs, e0, e1, e2, e3, e4, e5]
      | true =>
        cases b3 with
        | false => simp [eqElems, part, isAgg, Sem.run_bind, run_underlying Tryz.underlying33, Result.andThen_ok, Sem.run_pure, Sem.run_ite, hs, e0, e1, e2, e3, e4, e5]
        | true =>
          cases b4 with
          | false => simp [eqElems, part, isAgg, Sem.run_bind, run_underlying Tryz.underlying33, Result.andThen_ok, Sem.run_pure, Sem.run_ite, hs, e0, e1, e2, e3, e4, e5]
          | true =>
            cases b5 with
            | false => simp [eqElems, part, isAgg, Sem.run_bind, run_underlying Tryz.underlying33, Result.andThen_ok, Sem.run_pure, Sem.run_ite, hs, e0, e1, e2, e3, e4, e5]
            | true =>
              simp [eqElems, part, isAgg, Sem.run_bind, run_underlying Tryz.underlying33, Result.andThen_ok, Sem.run_pure, Sem.run_ite, hs, e0, e1, e2, e3, e4, e5]
def eqPg (X Y : Pg) : Bool := X.kind == Y.kind && (X.level == Y.level && (X.store == Y.store && (X.next == Y.next && (eqCl (X.st 0) (X.dt 0) (Y.st 0) (Y.dt 0) && (eqCl (X.st 1) (X.dt 1) (Y.st 1) (Y.dt 1) && (eqCl (X.st 2) (X.dt 2) (Y.st 2) (Y.dt 2) && (eqCl (X.st 3) (X.dt 3) (Y.st 3) (Y.dt 3) && (eqCl (X.st 4) (X.dt 4) (Y.st 4) (Y.dt 4) && eqCl (X.st 5) (X.dt 5) (Y.st 5) (Y.dt 5)))))))))
set_option maxRecDepth 100000 in
set_option maxHeartbeats 3200000 in
theorem run_eq_pg (X Y : Pg) (w : World) : (binOp .eql 49 (.agg (pgC X)) (.agg (pgC Y))).run Tryz.prog w = .ok (.bool (eqPg X Y)) w := by
  have u1 := Tryz.underlying49
  have h6 := eq_arr6 X Y w
  unfold eqPg
  unfold pgA at h6
  unfold pgC
  generalize (eqCl (X.st 0) _ _ _ && _) = b at *
  cases h1 : (X.kind == Y.kind) <;> cases h2 : (X.level == Y.level) <;> cases h3 : (X.store == Y.store) <;> cases h4 : (X.next == Y.next) <;> cases b <;> (go_simp)
theorem eqCl_iff (s : Int) (d : ByteArray) (s' : Int) (d' : ByteArray) : eqCl s d s' d' = true ↔ s = s' ∧ d = d' := by
  unfold eqCl
  rw [Bool.and_eq_true, beq_iff_eq, beq_iff_eq]
  exact ⟨fun h => ⟨h.1, by have := h.2; rw [ByteArray.toList_eq, ByteArray.toList_eq] at this; exact ba_ext this⟩, fun h => ⟨h.1, by rw [h.2]⟩⟩
theorem eqPg_same {X Y : Pg} (h : pgC X = pgC Y) : eqPg X Y = true := by
  unfold pgC at h
  simp only [Array.mk.injEq, List.cons.injEq, Value.int.injEq, Value.string.injEq, true_and, and_true] at h
  obtain ⟨h1, h2, h3, h4, h5, h6, h7, h8, h9, h10, h11, h12, h13, h14, h15, h16⟩ := h
  unfold eqPg
  simp only [Bool.and_eq_true, beq_iff_eq, eqCl_iff]
  simp [*]
end Go.Proofs.YtimomjheanfbmaaGreatDoor

namespace Go.Proofs.YtimomjheanfbmaaGreatDoor
open Go.RowKit

theorem wpList_eq_pg {ops : Array Oper} {rest : List Oper} {o : Oper} {a : Act} {w : World} {Q : Exit → Act → World → Prop} (hw : Region.wanted o (yielded ops a.tmps) = true) (x y : Operand) (r : TypeId) (ho : o.op = .binOp .eql 49 x y r)
    (X Y : Pg) (b : Bool) (hb : eqPg X Y = b) (hx : a.eval x = .agg (pgC X)) (hy : a.eval y = .agg (pgC Y)) (h : wpList Tryz.prog ops Q rest (a.put o.dst (.bool b)) w) : wpList Tryz.prog ops Q (o :: rest) a w :=
  wpList_want hw fun K hK => by
    subst hb
    unfold Oper.wp execOp
    simp only [ho, hx, hy, Sem.run_bind, Sem.run_pure, Result.andThen_ok, run_eqGuard_agg (P := Tryz.prog) w .eql 49 x y _ _ (by kernel_rfl), run_eq_pg X Y w]
    exact hK _ _ h
/-! ### awake -/
def awP : Pg := { kind := 3, level := 0, store := 258, next := 5, st := fun i => if i = 0 then 1 else 0, dt := fun i => if i = 0 then ⟨#[97, 98]⟩ else ⟨#[]⟩ }
theorem awP_ok : PgOk awP := by
  refine ⟨by unfold HdOk awP; decide, fun i hi => ?_⟩
  unfold ClOk awP
  match i, hi with
  | 0, _ => decide
  | 1, _ => decide
  | 2, _ => decide
  | 3, _ => decide
  | 4, _ => decide
  | 5, _ => decide
theorem awP_head : (pageS awP).extract 0 12 = ⟨#[3, 0, 2, 1, 5, 0, 0, 0, 1, 2, 97, 98]⟩ := by decide +kernel
def k5P : Pg := { pageZ with kind := 5 }
theorem k5P_no : ¬ PgOk k5P := fun h => by have := h.1; unfold HdOk k5P at this; simp at this
theorem aw_facts : ∃ (A D : Pg) (S : ByteArray), pgC A = #[.int .i64 3, .int .i64 0, .int .i64 258, .int .i64 5, .int .i64 1, .string ⟨#[97, 98]⟩, .int .i64 0, .string ⟨#[]⟩, .int .i64 0, .string ⟨#[]⟩, .int .i64 0, .string ⟨#[]⟩, .int .i64 0, .string ⟨#[]⟩, .int .i64 0, .string ⟨#[]⟩] ∧ S.size = 224 ∧ S.extract 0 12 = ⟨#[3, 0, 2, 1, 5, 0, 0, 0, 1, 2, 97, 98]⟩ ∧ eqPg D A = true
    ∧ (∀ w, Calls Tryz.prog 123 #[.agg (pgC A)] w fun e w' => e = .returned (.tuple #[.string S, .int .i64 0]) ∧ Below w.heap.size w w')
    ∧ (∀ w, Calls Tryz.prog 67 #[.string S] w fun e w' => e = .returned (.tuple #[.agg (pgC D), .int .i64 0]) ∧ Below w.heap.size w w') := by
  refine ⟨awP, decP (pageS awP), pageS awP, rfl, pageS_size awP_ok, awP_head, eqPg_same (dec_enc awP_ok), fun w => pg_encode_ok awP awP_ok w, fun w => (pg_decode (pageS awP) (by rw [pageS_size awP_ok]; unfold maxLen; omega) w).mono ?_⟩
  rintro e w' ⟨h, hb⟩
  exact ⟨h.elim (fun h => h.1) (fun h => absurd (dec_ok awP_ok) h.2), hb⟩
theorem k5_check (w : World) : Calls Tryz.prog 80 #[.agg #[.int .i64 5, .int .i64 0, .int .i64 0, .int .i64 0, .int .i64 0, .string ⟨#[]⟩, .int .i64 0, .string ⟨#[]⟩, .int .i64 0, .string ⟨#[]⟩, .int .i64 0, .string ⟨#[]⟩, .int .i64 0, .string ⟨#[]⟩, .int .i64 0, .string ⟨#[]⟩]] w fun e w' => e = .returned (.int .i64 1) ∧ Below w.heap.size w w' :=
  (pg_check k5P (fun i hi => by unfold k5P pageZ maxLen; show (0 : Nat) ≤ _; omega) w).mono fun e w' ⟨h, hb⟩ => ⟨h.elim (fun h => absurd h.2 k5P_no) (fun h => h.1), hb⟩
end Go.Proofs.YtimomjheanfbmaaGreatDoor
