import Derived.Test.YtiollfjhfcaogaaWaitsM
import Derived.Test.YtiollfjhfcaogaaLibF
import Derived.Test.YtiollfjhfcaogaaFrame
set_option linter.unusedSimpArgs false
set_option linter.unusedVariables false
namespace Go.Proofs.Ytiollfjhfcaogaa
open Go.ChangeShapes Go.WideShapes Go.ChangeAt Go.RowKit

theorem Words.keep {w wr : World} {ad : Option Addr} {m : Nat} {L : Nat → Int} (h : Words w ad m L) (hb : Below w.heap.size w wr) : Words wr ad m L := fun j hj => by
  obtain ⟨g, o, e, hg, hc⟩ := h j hj
  exact ⟨g, o, e, Nat.lt_of_lt_of_le hg hb.size, (cell_below hb hg).trans hc⟩
theorem Ints.keep {w wr : World} {ad : Option Addr} {m : Nat} {L : Nat → Int} (h : Ints w ad m L) (hb : Below w.heap.size w wr) : Ints wr ad m L := fun j hj => by
  obtain ⟨g, o, e, hg, hc⟩ := h j hj
  exact ⟨g, o, e, Nat.lt_of_lt_of_le hg hb.size, (cell_below hb hg).trans hc⟩
/-- arcs that came in -/
def ArcSl (w : World) (v : Value) (L : List (Int × Int)) : Prop := ∃ ad c, v = .slice ad L.length c ∧ L.length ≤ maxLen ∧ Arcs w ad L.length (fun j => L.getD j (0, 0)) ∧ ∀ p ∈ L, (-9223372036854775808 ≤ p.1 ∧ p.1 ≤ 9223372036854775807) ∧ (-9223372036854775808 ≤ p.2 ∧ p.2 ≤ 9223372036854775807)
theorem fa_two {H : Type} {enc : TypeId × Value → H} {P : Program} {W : World} {sp : Nat → Bool} {held : Bool} {k1 k2 : IntKind} {x : List Value} (h : Fa enc P W sp held [.i k1, .i k2] x) : ∃ p q : Int, x = [.int k1 p, .int k2 q] ∧ (Lit.int k1 p).wf = true ∧ (Lit.int k2 q).wf = true := by
  match x, h with
  | [a, b], h =>
    obtain ⟨⟨p, rfl, hp⟩, ⟨q, rfl, hq⟩, _⟩ := h
    exact ⟨p, q, rfl, hp, hq⟩
theorem Try.flat_arc : flat Try.prog 5 42 = some [.i .i64, .i .i64] := by kernel_rfl
theorem arcs_of {H : Type} {enc : TypeId × Value → H} {W : World} {sp : Nat → Bool} {held : Bool} {r : Reach} {base : Nat} {v : Value} {d : DataW H} {ps : List MemPlace}
    (hok : Value.okWide Try.prog W r base 22 v) (h : DataW.Trod enc Try.prog W 0 sp held 22 v d ps) : ∃ L, ArcSl W v L := by
  obtain ⟨xs, hs, hx⟩ := Sl_of (n := 2) Try.underlying22 (by kernel_rfl) (by omega) (okWide_slice Try.underlying22 hok) h
  have : ∀ x ∈ xs, ∃ p : Int × Int, x = [Value.int .i64 p.1, Value.int .i64 p.2] ∧ ((Lit.int .i64 p.1).wf = true ∧ (Lit.int .i64 p.2).wf = true) := by
    intro x hxm
    obtain ⟨hl, fuel, y, hy⟩ := hx x hxm
    have hf := fa_flat 5 42 _ Try.flat_arc fuel x y hy
    obtain ⟨p, q, e, hp, hq⟩ := fa_two hf
    exact ⟨(p, q), e, hp, hq⟩
  obtain ⟨L, rfl, hL⟩ := list_of (f := fun p : Int × Int => [Value.int .i64 p.1, Value.int .i64 p.2]) this
  obtain ⟨ad, c, rfl, hl, hc⟩ := hs
  simp only [List.length_map] at hl hc ⊢
  refine ⟨L, ad, c, by simp, hl, fun j hj => ?_, fun p hp => ⟨bounds_i64 (hL p hp).1, bounds_i64 (hL p hp).2⟩⟩
  obtain ⟨b, off, rfl, hb, hcell⟩ := hc (fun e => by rw [List.map_eq_nil_iff] at e; rw [e] at hj; simp at hj)
  refine ⟨b, off, rfl, hb, ?_⟩
  have h0 := hcell j hj 0 (by omega)
  have h1 := hcell j hj 1 (by omega)
  rw [List.getElem?_map, List.getElem?_eq_getElem hj] at h0 h1
  simp only [List.getD_eq_getElem?_getD, List.getElem?_eq_getElem hj]
  exact ⟨h0, h1⟩
theorem wpList_append_none {P : Program} {w : World} {ops : Array Oper} {rest : List Oper} {o : Oper} {a : Act} {Q : Exit → Act → World → Prop} (hgd : o.guard = none) (s x : Operand) (t : TypeId)
    (ho : o.op = .call { callee := .builtin .append, args := #[s, x], argTypes := #[t, t] }) (e : TypeId) (i : TypeInfo) (ht : P.underlying t = some (.slice e)) (hi : P.info? e = some i)
    (hs : a.eval s = .slice none 0 0) (ad : Option Addr) (c : Nat) (hx : a.eval x = .slice ad 0 c) (h : wpList P ops Q rest (a.put o.dst (.slice none 0 0)) w) : wpList P ops Q (o :: rest) a w := by
  refine wpList_plain hgd fun K hK => ?_
  unfold Oper.wp execOp
  simp only [ho, resolve, invoke, builtin, Sem.run_bind, Sem.run_pure, Result.andThen_ok, List.map_toArray, List.map_cons, List.map_nil, hs, hx, run_append_zero w t o.type e i ht hi none 0 0 (Nat.le_refl _) ad c]
  exact hK _ _ h
set_option maxHeartbeats 1600000 in
theorem spread_wrong (a : Option Addr) (n dc : Nat) (D : Nat → BitVec 64) (ad : Option Addr) (m c : Nat) (L : Nat → Int × Int) (hn : n ≤ maxLen) (hn2 : n * 8 ≤ 140737488351232) (hm : m ≤ maxLen) (hbad : WrongP n m L) (w : World) (hD : Words w a n (fun j => ((D j).toNat : Int))) (hA : Arcs w ad m L) :
    Calls Try.prog 4 #[.slice a n dc, .slice ad m c] w fun e w' => e = .returned (.bool true) ∧ Below w.heap.size w w' := by
  have HA := Lib.hid (awake_true w)
  have HS := Lib.hid (fun a dc w1 => wt_spread_bad a n dc ad m c L hm hbad w1)
  have HR := Lib.hid (fun a dc w1 => rf_spread_bad a n dc ad m c L hm hbad w1)
  obtain ⟨i0, hj, hj0, hj1, hj2⟩ := info_parts Try.info_u64
  have hD := Lib.hid hD
  have hA := Lib.hid hA
  clear hbad
  go_enter Try.func4, Try.ntmps4
  go_wp2_with fail
  refine (HA.out).mono ?_
  rintro e w1 ⟨rfl, hb⟩
  have HB1 := Lib.hid hb
  have hD1 := hD.out.keep hb
  clear hb HA
  go_wp2_with (at_builtin; (refine wpList_append_seg rfl _ _ 24 rfl 41 i0 (.int .u64 0) 1 8 Try.underlying24 hj hj0 hj1 hj2 rfl (by decide) _ _ _ rfl (OwnS.nil w1 41 1) a n _ (wordsB D n) rfl (by rw [wordsB, wordsL_length]; omega) hD1.src (fun h => by (obtain ⟨_, _, e, _⟩ := hD1 0 h); rw [e]; rfl) (wordsL_one _ n) (by omega) (by omega) ?_); intro v w2 ho hk hbl; (rw [Nat.zero_add, List.nil_append] at ho); (obtain ⟨va, vc, rfl, hw⟩ := words_own ho); (have HW2 := Lib.hid hw); (have HB2 := Lib.hid (bK HB1.out hk (fun k hk => by simp [blk, Value.ownBlock, Act.eval] at hk))); clear ho hk hbl HB1 hw)
  refine (HS.out _ _ _ (hA.out.keep HB2.out)).mono ?_
  rintro e w3 ⟨rfl, hb⟩
  have HW3 := Lib.hid (HW2.out.keep hb)
  have HB3 := Lib.hid (bT HB2.out hb)
  clear hb HS HW2 HB2 hD1
  go_wp2_with fail
  refine (HR.out _ _ _ (hA.out.keep HB3.out)).mono ?_
  rintro e w4 ⟨rfl, hb⟩
  have HW4 := Lib.hid (HW3.out.keep hb)
  have HB4 := Lib.hid (bT HB3.out hb)
  clear hb HR HW3 HB3
  have HE := Lib.hid (same_bits none none 0 0 0 0 (fun _ => 0) (fun _ => 0) (by unfold maxLen; omega) true (by simp) w4 (fun j hj => by omega) (fun j hj => by omega))
  go_wp2_with fail
  refine (HE.out).mono ?_
  rintro e w5 ⟨rfl, hb⟩
  have HE2 := Lib.hid (same_bits va a n n vc dc _ _ hn true (by simp) w5 (HW4.out.keep hb) (hD.out.keep (bT HB4.out hb)))
  have HB5 := Lib.hid (bT HB4.out hb)
  clear hb HW4 HB4 HE
  go_wp2_with fail
  refine (HE2.out).mono ?_
  rintro e w6 ⟨rfl, hb⟩
  have HB6 := Lib.hid (bT HB5.out hb)
  clear hb
  go_wp2_with fail
  go_ret
  exact ⟨rfl, HB6.out⟩
set_option maxHeartbeats 1600000 in
theorem spread_none (a : Option Addr) (dc : Nat) (ad : Option Addr) (c : Nat) (w : World) :
    Calls Try.prog 4 #[.slice a 0 dc, .slice ad 0 c] w fun e w' => e = .returned (.bool true) ∧ Below w.heap.size w w' := by
  have HA := Lib.hid (awake_true w)
  have HS := Lib.hid (fun w1 => wt_spread_nil ad c (fun _ => (0, 0)) w1)
  have HR := Lib.hid (fun w1 => rf_spread a 0 dc (fun _ => 0) ad 0 c (fun _ => (0, 0)) (by omega) (by unfold maxLen; omega) (by rintro (h | h | ⟨j, hj, _⟩) <;> omega) w1 (fun j hj => by omega) (fun j hj => by omega))
  obtain ⟨i0, hj, hj0, hj1, hj2⟩ := info_parts Try.info_u64
  go_enter Try.func4, Try.ntmps4
  go_wp2_with fail
  refine (HA.out).mono ?_
  rintro e w1 ⟨rfl, hb⟩
  have HB1 := Lib.hid hb
  clear hb HA
  go_wp2_with (at_builtin; (refine wpList_append_none rfl _ _ 24 rfl 41 i0 Try.underlying24 hj rfl _ _ rfl ?_))
  refine (HS.out _).mono ?_
  rintro e w3 ⟨rfl, hb⟩
  have HB3 := Lib.hid (bT HB1.out hb)
  clear hb HS HB1
  go_wp2_with fail
  refine (HR.out _).mono ?_
  rintro e w4 ⟨v, ho, -, rfl, hb⟩
  obtain ⟨va, vc, rfl, -⟩ := words_own ho
  have HB4 := Lib.hid (bT HB3.out hb)
  clear hb HR HB3 ho
  have HE := Lib.hid (same_bits none va 0 0 0 vc (fun _ => 0) (fun _ => 0) (by unfold maxLen; omega) true (by simp) w4 (fun j hj => by omega) (fun j hj => by omega))
  go_wp2_with fail
  refine (HE.out).mono ?_
  rintro e w5 ⟨rfl, hb⟩
  have HE2 := Lib.hid (same_bits none a 0 0 0 dc (fun _ => 0) (fun _ => 0) (by unfold maxLen; omega) true (by simp) w5 (fun j hj => by omega) (fun j hj => by omega))
  have HB5 := Lib.hid (bT HB4.out hb)
  clear hb HB4 HE
  go_wp2_with fail
  refine (HE2.out).mono ?_
  rintro e w6 ⟨rfl, hb⟩
  have HB6 := Lib.hid (bT HB5.out hb)
  clear hb
  go_wp2_with fail
  go_ret
  exact ⟨rfl, HB6.out⟩
set_option maxHeartbeats 1600000 in
theorem spread_some (a : Option Addr) (n dc : Nat) (D : Nat → BitVec 64) (ad : Option Addr) (m c : Nat) (L : Nat → Int × Int) (h0 : 0 < n) (hn : n ≤ 64) (hm : m ≤ maxLen) (hok : ¬ WrongP n m L) (w : World) (hD : Words w a n (fun j => ((D j).toNat : Int))) (hA : Arcs w ad m L) :
    Calls Try.prog 4 #[.slice a n dc, .slice ad m c] w fun e w' => e = .returned (.bool true) ∧ Below w.heap.size w w' := by
  have HA := Lib.hid (awake_true w)
  have HS := Lib.hid (fun a dc w1 => wt_spread a n dc D ad m c L hn hm hok w1)
  have HR := Lib.hid (fun w1 => rf_spread a n dc D ad m c L hn hm hok w1)
  obtain ⟨i0, hj, hj0, hj1, hj2⟩ := info_parts Try.info_u64
  have hD := Lib.hid hD
  have hA := Lib.hid hA
  have hn' : n ≤ maxLen := by unfold maxLen; omega
  clear hok
  go_enter Try.func4, Try.ntmps4
  go_wp2_with fail
  refine (HA.out).mono ?_
  rintro e w1 ⟨rfl, hb⟩
  have HB1 := Lib.hid hb
  have hD1 := hD.out.keep hb
  clear hb HA
  go_wp2_with (at_builtin; (refine wpList_append_seg rfl _ _ 24 rfl 41 i0 (.int .u64 0) 1 8 Try.underlying24 hj hj0 hj1 hj2 rfl (by decide) _ _ _ rfl (OwnS.nil w1 41 1) a n _ (wordsB D n) rfl (by rw [wordsB, wordsL_length]; omega) hD1.src (fun h => by (obtain ⟨_, _, e, _⟩ := hD1 0 h); rw [e]; rfl) (wordsL_one _ n) (by omega) (by omega) ?_); intro v w2 ho hk hbl; (rw [Nat.zero_add, List.nil_append] at ho); (obtain ⟨va, c5, rfl, hw⟩ := words_own ho); (obtain ⟨g5, o5, rfl, -, -⟩ := hw 0 h0); (have HW2 := Lib.hid hw); (have HB2 := Lib.hid (bK HB1.out hk (fun k hk => by simp [blk, Value.ownBlock, Act.eval] at hk))); clear ho hk hbl HB1 hw)
  refine (HS.out _ _ _ HW2.out (hA.out.keep HB2.out)).mono ?_
  rintro e w3 ⟨v3, ho, -, rfl, hb⟩
  obtain ⟨va, vc, rfl, hw⟩ := words_own ho
  have HX3 := Lib.hid hw
  have HW3 := Lib.hid (HW2.out.keep hb)
  have HB3 := Lib.hid (bT HB2.out hb)
  clear hb HS HW2 HB2 hD1 ho hw
  go_wp2_with fail
  refine (HR.out _ (hD.out.keep HB3.out) (hA.out.keep HB3.out)).mono ?_
  rintro e w4 ⟨v4, ho, -, rfl, hb⟩
  obtain ⟨vb, vd, rfl, hw⟩ := words_own ho
  have HX4 := Lib.hid (HX3.out.keep hb)
  have HW4 := Lib.hid (HW3.out.keep hb)
  have HB4 := Lib.hid (bT HB3.out hb)
  have HE := Lib.hid (same_bits va vb n n vc vd _ _ hn' true (by simp) w4 HX4.out hw)
  clear hb HR HW3 HB3 HX3 ho hw
  go_wp2_with fail
  refine (HE.out).mono ?_
  rintro e w5 ⟨rfl, hb⟩
  have HE2 := Lib.hid (same_bits _ a n n c5 dc _ _ hn' true (by simp) w5 (HW4.out.keep hb) (hD.out.keep (bT HB4.out hb)))
  have HB5 := Lib.hid (bT HB4.out hb)
  clear hb HW4 HB4 HE
  go_wp2_with fail
  refine (HE2.out).mono ?_
  rintro e w6 ⟨rfl, hb⟩
  have HB6 := Lib.hid (bT HB5.out hb)
  clear hb
  go_wp2_with fail
  go_ret
  exact ⟨rfl, HB6.out⟩
theorem waitsSpread_walk (v0 : Value) (ns : List Int) (v1 : Value) (Ls : List (Int × Int)) (hL : ns.length * 8 ≤ 140737488351232) (w : World) (h0 : IntSl w v0 .u64 ns) (h1 : ArcSl w v1 Ls) :
    Calls Try.prog 4 #[v0, v1] w fun e w' => e = .returned (.bool true) ∧ Below w.heap.size w w' := by
  obtain ⟨a, dc, rfl, hn, hD⟩ := words_sl h0
  obtain ⟨ad, c, rfl, hm, hA, _⟩ := h1
  by_cases hbad : WrongP ns.length Ls.length (fun j => Ls.getD j (0, 0))
  · exact spread_wrong a ns.length dc _ ad Ls.length c _ hn hL hm hbad w hD hA
  · by_cases h0 : ns.length = 0
    · have hm0 : Ls.length = 0 := by
        apply Classical.byContradiction
        intro h
        refine hbad (.inr (.inr ⟨0, by omega, ?_⟩))
        unfold BadArc
        omega
      rw [h0, hm0]
      exact spread_none a dc ad c w
    · have hn64 : ns.length ≤ 64 := Classical.byContradiction fun h => hbad (.inr (.inl (by omega)))
      exact spread_some a ns.length dc _ ad Ls.length c _ (by omega) hn64 hm hbad w hD hA
end Go.Proofs.Ytiollfjhfcaogaa
