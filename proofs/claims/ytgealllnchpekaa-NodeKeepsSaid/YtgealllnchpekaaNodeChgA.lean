import Derived.Test.YtgealllnchpekaaNodeRSplit
import Derived.Laws.StructEq
import Derived.Test.YtgealllnchpekaaLibE
set_option linter.unusedSimpArgs false
set_option linter.unusedVariables false
namespace Go.Proofs.Ytgealllnchpekaa
open Go.RowKit

theorem wpList_want {P : Program} {ops : Array Oper} {rest : List Oper} {o : Oper} {a : Act} {w : World} {Q : Exit → Act → World → Prop} (hw : Region.wanted o (yielded ops a.tmps) = true)
    (h : ∀ K : Act → World → Prop, (∀ a w, wpList P ops Q rest a w → K a w) → o.wp P a w K Q) : wpList P ops Q (o :: rest) a w :=
  wpList_step fun K hK => by simp only [hw, if_true]; exact h K hK
theorem wpList_load_want {P : Program} {ops : Array Oper} {rest : List Oper} {o : Oper} {a : Act} {w : World} {Q : Exit → Act → World → Prop} (hw : Region.wanted o (yielded ops a.tmps) = true) (ty : TypeId) (x : Operand) (ho : o.op = .load ty x)
    (g : Nat) (hx : a.eval x = .pointer (some ⟨g, 0, none⟩)) (t : TypeId) (cs : Array Value) (fr : Nat × Nat) (d : TypeDesc) (hg : w.heap[g]? = some (.cells cs t fr))
    (hu : P.underlying ty = some d) (hd : (match d with | .struct _ | .array _ _ => true | _ => false) = true) (hi : (P.info? ty).map (·.size) = some cs.size)
    (h : wpList P ops Q rest (a.put o.dst (.agg cs)) w) : wpList P ops Q (o :: rest) a w :=
  wpList_want hw fun _ hK => wp_load_row ty x ho g hx t cs fr d hg hu hd hi (hK _ _ h)
theorem eq_cell (s : Int) (d : ByteArray) (w : World) : (Op.equalIn 9998 23 (.agg #[.int .i64 s, .string d]) (.agg #[.int .i64 s, .string d])).run Try.prog w = .ok true w := by
  have u1 := Try.underlying23
  go_simp
theorem eq_arr6 (s0 s1 s2 s3 s4 s5 : Int) (d0 d1 d2 d3 d4 d5 : ByteArray) (w : World) : (Op.equalIn 9999 24 (.agg #[.int .i64 s0, .string d0, .int .i64 s1, .string d1, .int .i64 s2, .string d2, .int .i64 s3, .string d3, .int .i64 s4, .string d4, .int .i64 s5, .string d5])
    (.agg #[.int .i64 s0, .string d0, .int .i64 s1, .string d1, .int .i64 s2, .string d2, .int .i64 s3, .string d3, .int .i64 s4, .string d4, .int .i64 s5, .string d5])).run Try.prog w = .ok true w := by
  obtain ⟨i0, hi, hz0, hz1, hz2⟩ := info_parts Try.info_cell
  have hs : (sizeOf 23).run Try.prog w = .ok 2 w := by simp [sizeOf, typeInfo, hi, hz1]
  rw [run_equalIn_array w 9998 24 23 6 i0 _ _ Try.underlying24 hi, hz1]
  have hr : List.range 6 = [0, 1, 2, 3, 4, 5] := rfl
  rw [hr]
  simp [eqElems, part, isAgg, Sem.run_bind, run_underlying Try.underlying23, Result.andThen_ok, Sem.run_pure, Sem.run_ite, hs, eq_cell]
set_option maxRecDepth 100000 in
set_option maxHeartbeats 3200000 in
theorem run_eq_pg (X : Pg) (w : World) : (binOp .eql 26 (.agg (pgC X)) (.agg (pgC X))).run Try.prog w = .ok (.bool true) w := by
  have u1 := Try.underlying26
  have h6 := eq_arr6 (X.st 0) (X.st 1) (X.st 2) (X.st 3) (X.st 4) (X.st 5) (X.dt 0) (X.dt 1) (X.dt 2) (X.dt 3) (X.dt 4) (X.dt 5) w
  unfold pgC
  go_simp
theorem wpList_eq_pg {ops : Array Oper} {rest : List Oper} {o : Oper} {a : Act} {w : World} {Q : Exit → Act → World → Prop} (hw : Region.wanted o (yielded ops a.tmps) = true) (x y : Operand) (r : TypeId) (ho : o.op = .binOp .eql 26 x y r)
    (X : Pg) (hx : a.eval x = .agg (pgC X)) (hy : a.eval y = .agg (pgC X)) (h : wpList Try.prog ops Q rest (a.put o.dst (.bool true)) w) : wpList Try.prog ops Q (o :: rest) a w :=
  wpList_want hw fun K hK => by
    unfold Oper.wp execOp
    simp only [ho, hx, hy, Sem.run_bind, Sem.run_pure, Result.andThen_ok, run_eqGuard_agg (P := Try.prog) w .eql 26 x y _ _ (by kernel_rfl), run_eq_pg X w]
    exact hK _ _ h
end Go.Proofs.Ytgealllnchpekaa
