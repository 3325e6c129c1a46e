import Derived.Test.YtomlckbghfbikaaDoorPgH
set_option linter.unusedSimpArgs false
set_option linter.unusedVariables false
namespace Go.Proofs.YtomlckbghfbikaaDoor
open Go.RowKit

theorem wpList_eq_pg {ops : Array Oper} {rest : List Oper} {o : Oper} {a : Act} {w : World} {Q : Exit → Act → World → Prop} (hw : Region.wanted o (yielded ops a.tmps) = true) (x y : Operand) (r : TypeId) (ho : o.op = .binOp .eql 27 x y r)
    (X Y : Pg) (b : Bool) (hb : eqPg X Y = b) (hx : a.eval x = .agg (pgC X)) (hy : a.eval y = .agg (pgC Y)) (h : wpList Tryd.prog ops Q rest (a.put o.dst (.bool b)) w) : wpList Tryd.prog ops Q (o :: rest) a w :=
  wpList_want hw fun K hK => by
    subst hb
    unfold Oper.wp execOp
    simp only [ho, hx, hy, Sem.run_bind, Sem.run_pure, Result.andThen_ok, run_eqGuard_agg (P := Tryd.prog) w .eql 27 x y _ _ (by kernel_rfl), run_eq_pg X Y w]
    exact hK _ _ h
/-! ### awake -/
def awP : Pg := { kind := 3, level := 0, store := 258, next := 5, st := fun i => if i = 0 then 1 else 0, dt := fun i => if i = 0 then ⟨#[97, 98]⟩ else ⟨#[]⟩ }
theorem awP_ok : PgOk awP := by
  refine ⟨by unfold HdOk awP; decide, fun i hi => ?_⟩
  unfold ClOk awP
  match i, hi with
  | 0, _ => decide
  | 1, _ => decide
  | 2, _ => decide
  | 3, _ => decide
  | 4, _ => decide
  | 5, _ => decide
theorem awP_head : (pageS awP).extract 0 12 = ⟨#[3, 0, 2, 1, 5, 0, 0, 0, 1, 2, 97, 98]⟩ := by decide +kernel
def k5P : Pg := { pageZ with kind := 5 }
theorem k5P_no : ¬ PgOk k5P := fun h => by have := h.1; unfold HdOk k5P at this; simp at this
theorem aw_facts : ∃ (A D : Pg) (S : ByteArray), pgC A = #[.int .i64 3, .int .i64 0, .int .i64 258, .int .i64 5, .int .i64 1, .string ⟨#[97, 98]⟩, .int .i64 0, .string ⟨#[]⟩, .int .i64 0, .string ⟨#[]⟩, .int .i64 0, .string ⟨#[]⟩, .int .i64 0, .string ⟨#[]⟩, .int .i64 0, .string ⟨#[]⟩] ∧ S.size = 224 ∧ S.extract 0 12 = ⟨#[3, 0, 2, 1, 5, 0, 0, 0, 1, 2, 97, 98]⟩ ∧ eqPg D A = true
    ∧ (∀ w, Calls Tryd.prog 11 #[.agg (pgC A)] w fun e w' => e = .returned (.tuple #[.string S, .int .i64 0]) ∧ Below w.heap.size w w')
    ∧ (∀ w, Calls Tryd.prog 9 #[.string S] w fun e w' => e = .returned (.tuple #[.agg (pgC D), .int .i64 0]) ∧ Below w.heap.size w w') := by
  refine ⟨awP, decP (pageS awP), pageS awP, rfl, pageS_size awP_ok, awP_head, eqPg_same (dec_enc awP_ok), fun w => pg_encode_ok awP awP_ok w, fun w => (pg_decode (pageS awP) (by rw [pageS_size awP_ok]; unfold maxLen; omega) w).mono ?_⟩
  rintro e w' ⟨h, hb⟩
  exact ⟨h.elim (fun h => h.1) (fun h => absurd (dec_ok awP_ok) h.2), hb⟩
theorem k5_check (w : World) : Calls Tryd.prog 12 #[.agg #[.int .i64 5, .int .i64 0, .int .i64 0, .int .i64 0, .int .i64 0, .string ⟨#[]⟩, .int .i64 0, .string ⟨#[]⟩, .int .i64 0, .string ⟨#[]⟩, .int .i64 0, .string ⟨#[]⟩, .int .i64 0, .string ⟨#[]⟩, .int .i64 0, .string ⟨#[]⟩]] w fun e w' => e = .returned (.int .i64 1) ∧ Below w.heap.size w w' :=
  (pg_check k5P (fun i hi => by unfold k5P pageZ maxLen; show (0 : Nat) ≤ _; omega) w).mono fun e w' ⟨h, hb⟩ => ⟨h.elim (fun h => absurd h.2 k5P_no) (fun h => h.1), hb⟩
end Go.Proofs.YtomlckbghfbikaaDoor
