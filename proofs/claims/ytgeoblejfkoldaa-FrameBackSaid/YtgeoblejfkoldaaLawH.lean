import Derived.Test.YtgeoblejfkoldaaLawG
import Derived.Test.YtgeoblejfkoldaaLibE
set_option linter.unusedSimpArgs false
set_option linter.unusedVariables false
namespace Go.Proofs.Ytgeoblejfkoldaa
open Go.RowKit

theorem Try.info_str : (Try.prog.info? 9).map (fun i => (i.zero, i.size, i.bytes)) = some (some (.string .empty), 1, 16) := by kernel_rfl
theorem eq_arr4 (a0 a1 a2 a3 b0 b1 b2 b3 : ByteArray) (w : World) :
    (Op.equalIn 10000 23 (.agg #[.string a0, .string a1, .string a2, .string a3]) (.agg #[.string b0, .string b1, .string b2, .string b3])).run Try.prog w =
      .ok ((a0.toList == b0.toList) && ((a1.toList == b1.toList) && ((a2.toList == b2.toList) && (a3.toList == b3.toList)))) w := by
  obtain ⟨i0, hi, hz0, hz1, hz2⟩ := info_parts Try.info_str
  have hs : ∀ a b : ByteArray, (Op.equalIn 9999 9 (.string a) (.string b)).run Try.prog w = .ok (a.toList == b.toList) w := fun a b => run_equalIn_string w 9998 9 a b Try.underlying9
  rw [run_equalIn_array w 9999 23 9 4 i0 _ _ Try.underlying23 hi, hz1]
  have hr : List.range 4 = [0, 1, 2, 3] := rfl
  rw [hr]
  simp only [eqElems, part, isAgg, Sem.run_bind, run_underlying Try.underlying9, Result.andThen_ok, Sem.run_pure, Bool.false_eq_true, if_false, Sem.run_ite]
  cases h0 : (a0.toList == b0.toList) <;> cases h1 : (a1.toList == b1.toList) <;> cases h2 : (a2.toList == b2.toList) <;> cases h3 : (a3.toList == b3.toList) <;> simp [hs, h0, h1, h2, h3]

/-- an array of four strings that came in by value -/
def Arr4 (v : Value) (s : ByteArray × ByteArray × ByteArray × ByteArray) : Prop :=
  v = .agg #[.string s.1, .string s.2.1, .string s.2.2.1, .string s.2.2.2] ∧ s.1.size ≤ maxLen ∧ s.2.1.size ≤ maxLen ∧ s.2.2.1.size ≤ maxLen ∧ s.2.2.2.size ≤ maxLen

theorem seal_pair (body : ByteArray) (stamp : Int) (h0 : 0 ≤ stamp ∧ stamp ≤ 18446744073709551615) (hs : body.size ≤ maxLen) : ∃ (x0 x1 x2 x3 : ByteArray) (e : Int),
    (∀ w, Calls Try.prog 8 #[.string body, .int .u64 stamp] w fun r w' => r = .returned (.tuple #[.agg #[.string x0, .string x1, .string x2, .string x3], .int .i64 e]) ∧ Below w.heap.size w w') ∧
    (∀ w, Calls Try.prog 9 #[.string body, .int .u64 stamp] w fun r w' => r = .returned (.tuple #[.agg #[.string x0, .string x1, .string x2, .string x3], .int .i64 e]) ∧ Below w.heap.size w w') := by
  by_cases h : body.size = 224
  · exact ⟨_, _, _, _, _, frm_seal_ok body stamp h h0.1, rfm_seal_ok body stamp h h0.1 (show stamp < 18446744073709551616 by omega)⟩
  · exact ⟨_, _, _, _, _, frm_seal_bad body stamp h hs, rfm_seal_bad body stamp h hs⟩

set_option maxHeartbeats 800000 in
theorem frameSeals_walk (body : ByteArray) (stamp : Int) (v : Value) (q : ByteArray × ByteArray × ByteArray × ByteArray) (hs : body.size ≤ maxLen) (h0 : 0 ≤ stamp ∧ stamp ≤ 18446744073709551615) (w : World) (A : Arr4 v q) :
    Calls Try.prog 3 #[.string body, .int .u64 stamp, v] w fun e w' => e = .returned (.bool true) ∧ Below w.heap.size w w' := by
  obtain ⟨s0, s1, s2, s3⟩ := q
  obtain ⟨rfl, z0, z1, z2, z3⟩ := A
  dsimp only at *
  obtain ⟨x0, x1, x2, x3, e, N1, N2⟩ := seal_pair body stamp h0 hs
  have N1 := Lib.hid N1
  have N2 := Lib.hid N2
  have M1 := Lib.hid (frm_open s0 s1 s2 s3 z0 z1 z2 z3)
  have M2 := Lib.hid (rfm_open s0 s1 s2 s3 z0 z1 z2 z3)
  generalize frOpen s0 s1 s2 s3 = r at *
  clear hs h0 z0 z1 z2 z3
  go_enter Try.func3, Try.ntmps3
  go_wp2_with fail
  refine (awake03 _).mono ?_
  rintro e w1 ⟨rfl, hb1⟩
  have b0 := hBs hb1 (hN rfl)
  have HB1 := Lib.hid (bT (bA bR) hb1)
  have B0 := Lib.hid b0
  clear hb1 b0
  go_wp2_with fail
  refine (N1.out _).mono ?_
  rintro e w2 ⟨rfl, hb2⟩
  have B0 := Lib.hid (hBs hb2 B0.out)
  have HB2 := Lib.hid (bT HB1.out hb2)
  clear hb2
  go_wp2_with fail
  refine (N2.out _).mono ?_
  rintro e w3 ⟨rfl, hb3⟩
  have B0 := Lib.hid (hBs hb3 (hO B0.out))
  have B1 := Lib.hid (hBs hb3 (hN rfl))
  have HB3 := Lib.hid (bT (bA HB2.out) hb3)
  clear hb3
  have hz0 := block_lt B0.out
  have hz1 := block_lt B1.out
  have c00 := cell_at B0.out 0
  have c01 := cell_at B0.out 1
  have c02 := cell_at B0.out 2
  have c03 := cell_at B0.out 3
  go_wp2_with fail
  refine (M1.out _).mono ?_
  rintro e w4 ⟨rfl, hb4⟩
  have B0 := Lib.hid (hBs hb4 (hO B0.out))
  have B1 := Lib.hid (hBs hb4 (hO B1.out))
  have B2 := Lib.hid (hBs hb4 (hN rfl))
  have HB4 := Lib.hid (bT (bA HB3.out) hb4)
  clear hb4 c00 c01 c02 c03
  have c00 := cell_at B0.out 0
  have c01 := cell_at B0.out 1
  have c02 := cell_at B0.out 2
  have c03 := cell_at B0.out 3
  go_wp2_with fail
  refine (M2.out _).mono ?_
  rintro e w5 ⟨rfl, hb5⟩
  have B1 := Lib.hid (hBs hb5 B1.out)
  have B2 := Lib.hid (hBs hb5 B2.out)
  have HB5 := Lib.hid (bT HB4.out hb5)
  clear hb5 c00 c01 c02 c03
  have c10 := cell_at B1.out 0
  have c11 := cell_at B1.out 1
  have c12 := cell_at B1.out 2
  have c13 := cell_at B1.out 3
  have c20 := cell_at B2.out 0
  have c21 := cell_at B2.out 1
  have c22 := cell_at B2.out 2
  have c23 := cell_at B2.out 3
  have hq := eq_arr4 x0 x1 x2 x3 x0 x1 x2 x3
  go_wp2_with fail
  go_ret
  exact ⟨rfl, HB5.out⟩
end Go.Proofs.Ytgeoblejfkoldaa
