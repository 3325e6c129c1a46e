import Derived.Test.YtgeoblejfkoldaaLawM
import Derived.Test.YtgeoblejfkoldaaLawI
set_option linter.unusedSimpArgs false
set_option linter.unusedVariables false
namespace Go.Proofs.Ytgeoblejfkoldaa
open Go.RowKit

theorem seal_says (body : ByteArray) (stamp : Int) (h0 : 0 ≤ stamp) (hs : body.size ≤ maxLen) : ∃ (x0 x1 x2 x3 : ByteArray) (e : Int),
    (∀ w, Calls Try.prog 8 #[.string body, .int .u64 stamp] w fun r w' => r = .returned (.tuple #[.agg #[.string x0, .string x1, .string x2, .string x3], .int .i64 e]) ∧ Below w.heap.size w w') ∧ (e == 0) = ((body.size : Int) == 224) := by
  by_cases h : body.size = 224
  · exact ⟨_, _, _, _, _, frm_seal_ok body stamp h h0, by simp [h]⟩
  · refine ⟨_, _, _, _, _, frm_seal_bad body stamp h hs, ?_⟩
    have : ((body.size : Int) == 224) = false := by simp; omega
    rw [this]; rfl
set_option maxRecDepth 100000 in
set_option maxHeartbeats 3200000 in
theorem back_bad (A B : ByteArray) (one two : Int) (m0 m1 m2 m3 : Bool) (hA : A.size ≤ maxLen) (hB : B.size ≤ maxLen) (hn : ¬ (A.size = 224 ∧ B.size = 224)) (h1 : 0 ≤ one) (h2 : 0 ≤ two) (w : World) :
    Calls Try.prog 4 #[.agg #[.string A, .string B, .int .u64 one, .int .u64 two, .bool m0, .bool m1, .bool m2, .bool m3]] w fun e w' => e = .returned (.bool true) ∧ Below w.heap.size w w' := by
  obtain ⟨x0, x1, x2, x3, e1, N1, E1⟩ := seal_says A one h1 hA
  obtain ⟨y0, y1, y2, y3, e2, N2, E2⟩ := seal_says B two h2 hB
  have N1 := Lib.hid N1
  have N2 := Lib.hid N2
  have E1 := Lib.hid E1
  have E2 := Lib.hid E2
  have hh : ((A.size : Int) != 224) = true ∨ (((A.size : Int) != 224) = false ∧ ((B.size : Int) != 224) = true) := by
    by_cases h : A.size = 224
    · exact .inr ⟨by simp; omega, by simp; omega⟩
    · exact .inl (by simp; omega)
  unfold maxLen at hA hB
  clear hn h1 h2
  rcases hh with hp | ⟨hp, hq⟩
  · go_enter Try.func4, Try.ntmps4
    go_wp2_with fail
    go_region
    go_wp2_with fail
    refine (awake03 _).mono ?_
    rintro e w1 ⟨rfl, hb1⟩
    have HB1 := Lib.hid (bT (bD (bA (bA bR))) hb1)
    clear hb1
    go_wp2_with fail
    refine (N1.out _).mono ?_
    rintro e w2 ⟨rfl, hb2⟩
    have HB2 := Lib.hid (bT HB1.out hb2)
    clear hb2
    go_wp2_with fail
    refine (N2.out _).mono ?_
    rintro e w3 ⟨rfl, hb3⟩
    have HB3 := Lib.hid (bT (bA HB2.out) hb3)
    clear hb3
    have E1 := E1.out
    have E2 := E2.out
    go_wp2_with fail
    go_ret
    exact ⟨rfl, bA HB3.out⟩
  · go_enter Try.func4, Try.ntmps4
    go_wp2_with fail
    go_region
    go_wp2_with fail
    refine (awake03 _).mono ?_
    rintro e w1 ⟨rfl, hb1⟩
    have HB1 := Lib.hid (bT (bD (bA (bA bR))) hb1)
    clear hb1
    go_wp2_with fail
    refine (N1.out _).mono ?_
    rintro e w2 ⟨rfl, hb2⟩
    have HB2 := Lib.hid (bT HB1.out hb2)
    clear hb2
    go_wp2_with fail
    refine (N2.out _).mono ?_
    rintro e w3 ⟨rfl, hb3⟩
    have HB3 := Lib.hid (bT (bA HB2.out) hb3)
    clear hb3
    have E1 := E1.out
    have E2 := E2.out
    go_wp2_with fail
    go_ret
    exact ⟨rfl, bA HB3.out⟩
/-- what Mixed holds -/
def MxAt (v : Value) (m : ByteArray × ByteArray × Int × Int × Bool × Bool × Bool × Bool) : Prop :=
  v = .agg #[.string m.1, .string m.2.1, .int .u64 m.2.2.1, .int .u64 m.2.2.2.1, .bool m.2.2.2.2.1, .bool m.2.2.2.2.2.1, .bool m.2.2.2.2.2.2.1, .bool m.2.2.2.2.2.2.2] ∧
  m.1.size ≤ maxLen ∧ m.2.1.size ≤ maxLen ∧ (0 ≤ m.2.2.1 ∧ m.2.2.1 ≤ 18446744073709551615) ∧ (0 ≤ m.2.2.2.1 ∧ m.2.2.2.1 ≤ 18446744073709551615)
theorem flatMx : flat Try.prog 4 37 = some [.s, .s, .i .u64, .i .u64, .b, .b, .b, .b] := by kernel_rfl
theorem mx_of {H : Type} {enc : TypeId × Value → H} {W : World} {base : Nat} {v : Value} {d : DataW H} {p : List MemPlace} (hok : Value.okWide Try.prog W .any base 37 v)
    (h : DataW.Trod enc Try.prog W 0 (fun _ => true) true 37 v d p) : ∃ q, MxAt v q := by
  obtain ⟨cs, rfl, hf⟩ := agg_of 4 flatMx (by rw [Try.underlying37]) hok h
  obtain ⟨c0, r0, e0, ⟨s0, rfl, z0⟩, f1⟩ := fa1 hf
  obtain ⟨c1, r1, rfl, ⟨s1, rfl, z1⟩, f2⟩ := fa1 f1
  obtain ⟨c2, r2, rfl, ⟨n0, rfl, z2⟩, f3⟩ := fa1 f2
  obtain ⟨c3, r3, rfl, ⟨n1, rfl, z3⟩, f4⟩ := fa1 f3
  obtain ⟨c4, r4, rfl, ⟨b0, rfl⟩, f5⟩ := fa1 f4
  obtain ⟨c5, r5, rfl, ⟨b1, rfl⟩, f6⟩ := fa1 f5
  obtain ⟨c6, r6, rfl, ⟨b2, rfl⟩, f7⟩ := fa1 f6
  obtain ⟨c7, r7, rfl, ⟨b3, rfl⟩, f8⟩ := fa1 f7
  obtain rfl := fa0 f8
  have : cs = #[.string s0, .string s1, .int .u64 n0, .int .u64 n1, .bool b0, .bool b1, .bool b2, .bool b3] := by rw [← Array.toList_inj, e0]
  exact ⟨(s0, s1, n0, n1, b0, b1, b2, b3), by rw [this], z0, z1, bounds_u64 z2, bounds_u64 z3⟩
theorem frameBack_walk (v : Value) (m : ByteArray × ByteArray × Int × Int × Bool × Bool × Bool × Bool) (w : World) (M : MxAt v m) :
    Calls Try.prog 4 #[v] w fun e w' => e = .returned (.bool true) ∧ Below w.heap.size w w' := by
  obtain ⟨rfl, hA, hB, h1, h2⟩ := M
  by_cases h : m.1.size = 224 ∧ m.2.1.size = 224
  · exact back_ok _ _ _ _ _ _ _ _ h.1 h.2 h1 h2 w
  · exact back_bad _ _ _ _ _ _ _ _ hA hB h h1.1 h2.1 w
end Go.Proofs.Ytgeoblejfkoldaa
