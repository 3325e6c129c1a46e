import Derived.Test.YtiollfjhfcaogaaWaitsX
set_option linter.unusedSimpArgs false
set_option linter.unusedVariables false
namespace Go.Proofs.Ytiollfjhfcaogaa
open Go.RowKit

set_option maxHeartbeats 1600000 in
theorem wt_circle_bad (n : Int) (ad : Option Addr) (m c : Nat) (L : Nat → Int × Int) (x : Int) (hm : m ≤ maxLen) (hbad : WrongP n m L ∨ x < 0 ∨ n ≤ x) (w : World) (hA : Arcs w ad m L) :
    Calls Try.prog 12 #[.int .i64 n, .slice ad m c, .int .i64 x] w fun e w' => e = .returned (.tuple #[.slice none 0 0, .int .i64 1]) ∧ Below w.heap.size w w' := by
  by_cases hw : WrongP n m L
  · have HW := Lib.hid (wt_wrong n ad m c L hm true ⟨fun _ => hw, fun _ => rfl⟩ w hA)
    clear hw hbad
    go_enter Try.func12, Try.ntmps12
    go_wp2_with fail
    refine (HW.out).mono ?_
    rintro e w1 ⟨rfl, hb⟩
    have HB1 := Lib.hid hb
    clear hb
    go_wp2_with fail
    go_ret2
    exact ⟨rfl, HB1.out⟩
  · have HW := Lib.hid (wt_wrong n ad m c L hm false ⟨fun h => by simp at h, fun h => absurd h hw⟩ w hA)
    have hx := hbad.resolve_left hw
    clear hw hbad
    by_cases h0 : x < 0
    · clear hx
      go_enter Try.func12, Try.ntmps12
      go_wp2_with fail
      refine (HW.out).mono ?_
      rintro e w1 ⟨rfl, hb⟩
      have HB1 := Lib.hid hb
      clear hb
      go_wp2_with fail
      go_ret2
      exact ⟨rfl, HB1.out⟩
    · have h1 : n ≤ x := by omega
      clear hx
      go_enter Try.func12, Try.ntmps12
      go_wp2_with fail
      refine (HW.out).mono ?_
      rintro e w1 ⟨rfl, hb⟩
      have HB1 := Lib.hid hb
      clear hb
      go_wp2_with fail
      go_ret2
      exact ⟨rfl, HB1.out⟩
/-- two answers of digests, two of circles: alike -/
def DigTwo (w w' : World) (a b : Value) (e : Int) : Prop := ∃ (ad bd : Option Addr) (n c d : Nat) (F : Nat → Int), a = .slice ad n c ∧ b = .slice bd n d ∧ n ≤ maxLen ∧ Words w ad n F ∧ Words w' bd n F
set_option maxHeartbeats 1600000 in
theorem tells_with (n : Int) (ad : Option Addr) (m c : Nat) (x : Int) (w : World) (L : Nat → Int × Int) (hA : Arcs w ad m L) (e1 e2 : Int)
    (HD : ∀ w1, Arcs w1 ad m L → Calls Try.prog 10 #[.int .i64 n, .slice ad m c] w1 fun e w' => ∃ va N va2 F, e = .returned (.tuple #[.slice va N va2, .int .i64 e1]) ∧ Words w' va N F ∧ N ≤ maxLen ∧ Below w1.heap.size w1 w' ∧
      ∀ w2, Arcs w2 ad m L → Calls Try.prog 11 #[.int .i64 n, .slice ad m c] w2 fun e w' => ∃ vb vb2, e = .returned (.tuple #[.slice vb N vb2, .int .i64 e1]) ∧ Words w' vb N F ∧ Below w2.heap.size w2 w')
    (HC : ∀ w1, Arcs w1 ad m L → Calls Try.prog 12 #[.int .i64 n, .slice ad m c, .int .i64 x] w1 fun e w' => ∃ va N va2 F, e = .returned (.tuple #[.slice va N va2, .int .i64 e2]) ∧ Ints w' va N F ∧ N ≤ maxLen ∧ Below w1.heap.size w1 w' ∧
      ∀ w2, Arcs w2 ad m L → Calls Try.prog 13 #[.int .i64 n, .slice ad m c, .int .i64 x] w2 fun e w' => ∃ vb vb2, e = .returned (.tuple #[.slice vb N vb2, .int .i64 e2]) ∧ Ints w' vb N F ∧ Below w2.heap.size w2 w') :
    Calls Try.prog 3 #[.int .i64 n, .slice ad m c, .int .i64 x] w fun e w' => e = .returned (.bool true) ∧ Below w.heap.size w w' := by
  have HA := Lib.hid (awake_true w)
  have hA := Lib.hid hA
  have HD := Lib.hid HD
  have HC := Lib.hid HC
  go_enter Try.func3, Try.ntmps3
  go_wp2_with fail
  refine (HA.out).mono ?_
  rintro e w1 ⟨rfl, hb⟩
  have HB1 := Lib.hid hb
  clear hb HA
  go_wp2_with fail
  refine (HD.out _ (hA.out.keep HB1.out)).mono ?_
  rintro e w2 ⟨va, N, va2, F, rfl, hw, hN, hb, HR⟩
  have HR := Lib.hid HR
  have HW2 := Lib.hid hw
  have HB2 := Lib.hid (bT HB1.out hb)
  replace hN := Lib.hid hN
  clear hb hw HD HB1
  go_wp2_with fail
  refine (HR.out _ (hA.out.keep HB2.out)).mono ?_
  rintro e w3 ⟨vb, vb2, rfl, hw, hb⟩
  have HX3 := Lib.hid hw
  have HW3 := Lib.hid (HW2.out.keep hb)
  have HB3 := Lib.hid (bT HB2.out hb)
  clear hb hw HR HB2 HW2
  go_wp2_with fail
  refine (HC.out _ (hA.out.keep HB3.out)).mono ?_
  rintro e w4 ⟨vc, M, vc2, G, rfl, hw, hM, hb, HR⟩
  have HR := Lib.hid HR
  have HY4 := Lib.hid hw
  have HX4 := Lib.hid (HX3.out.keep hb)
  have HW4 := Lib.hid (HW3.out.keep hb)
  have HB4 := Lib.hid (bT HB3.out hb)
  replace hM := Lib.hid hM
  clear hb hw HC HB3 HW3 HX3
  go_wp2_with fail
  refine (HR.out _ (hA.out.keep HB4.out)).mono ?_
  rintro e w5 ⟨vd, vd2, rfl, hw, hb⟩
  have HE := Lib.hid (same_bits va vb N N va2 vb2 F F hN.out true (by simp) w5 (HW4.out.keep hb) (HX4.out.keep hb))
  have HZ5 := Lib.hid hw
  have HY5 := Lib.hid (HY4.out.keep hb)
  have HB5 := Lib.hid (bT HB4.out hb)
  clear hb hw HR HB4 HW4 HX4 HY4
  go_wp2_with fail
  refine (HE.out).mono ?_
  rintro e w6 ⟨rfl, hb⟩
  have HE2 := Lib.hid (same_ints vc vd M M vc2 vd2 G G hM.out true (by simp) w6 (HY5.out.keep hb) (HZ5.out.keep hb))
  have HB6 := Lib.hid (bT HB5.out hb)
  clear hb HE HY5 HZ5 HB5
  have k1 : (e1 == e1) = true := by simp
  have k2 : (e2 == e2) = true := by simp
  go_wp2_with fail
  refine (HE2.out).mono ?_
  rintro e w7 ⟨rfl, hb⟩
  have HB7 := Lib.hid (bT HB6.out hb)
  clear hb
  go_wp2_with fail
  go_ret
  exact ⟨rfl, HB7.out⟩
theorem nat_ints {w : World} {l : List Nat} {g c : Nat} (hg : g < w.heap.size) (hc : ∀ (j y : Nat), l[j]? = some y → w.cell? ⟨g, j, none⟩ = some (.int .i64 (y : Int))) : Ints w (some ⟨g, 0, none⟩) l.length (fun j => ((l.getD j 0 : Nat) : Int)) := fun j hj => by
  refine ⟨g, 0, rfl, hg, ?_⟩
  rw [Nat.zero_add]
  exact hc j _ (by rw [List.getD_eq_getElem?_getD, List.getElem?_eq_getElem hj]; rfl)
theorem waitsTells_walk (n : Int) (v1 : Value) (Ls : List (Int × Int)) (x : Int) (hn : -9223372036854775808 ≤ n ∧ n ≤ 9223372036854775807) (hx : -9223372036854775808 ≤ x ∧ x ≤ 9223372036854775807) (w : World) (h1 : ArcSl w v1 Ls) :
    Calls Try.prog 3 #[.int .i64 n, v1, .int .i64 x] w fun e w' => e = .returned (.bool true) ∧ Below w.heap.size w w' := by
  obtain ⟨ad, c, rfl, hm, hA, _⟩ := h1
  generalize hL : (fun j => Ls.getD j (0, 0)) = L at hA
  generalize Ls.length = m at *
  have cbad : (WrongP n m L ∨ x < 0 ∨ n ≤ x) → ∀ w1, Arcs w1 ad m L → Calls Try.prog 12 #[.int .i64 n, .slice ad m c, .int .i64 x] w1 fun e w' => ∃ va N va2 F, e = .returned (.tuple #[.slice va N va2, .int .i64 1]) ∧ Ints w' va N F ∧ N ≤ maxLen ∧ Below w1.heap.size w1 w' ∧
      ∀ w2, Arcs w2 ad m L → Calls Try.prog 13 #[.int .i64 n, .slice ad m c, .int .i64 x] w2 fun e w' => ∃ vb vb2, e = .returned (.tuple #[.slice vb N vb2, .int .i64 1]) ∧ Ints w' vb N F ∧ Below w2.heap.size w2 w' := fun hbad w1 hA1 => by
    refine (wt_circle_bad n ad m c L x hm hbad w1 hA1).mono ?_
    rintro e w' ⟨rfl, hb⟩
    refine ⟨none, 0, 0, fun _ => 0, rfl, fun j hj => by omega, Nat.zero_le _, hb, fun w2 hA2 => ?_⟩
    refine (rf_circle_bad n ad m c L x hm hbad w2 hA2).mono ?_
    rintro e w' ⟨rfl, hb⟩
    exact ⟨none, 0, rfl, fun j hj => by omega, hb⟩
  by_cases hbad : WrongP n m L
  · refine tells_with n ad m c x w L hA 1 1 (fun w1 hA1 => ?_) (cbad (.inl hbad))
    refine (wt_digests_bad n ad m c L hm hbad w1 hA1).mono ?_
    rintro e w' ⟨rfl, hb⟩
    refine ⟨none, 0, 0, fun _ => 0, rfl, fun j hj => by omega, Nat.zero_le _, hb, fun w2 hA2 => ?_⟩
    refine (rf_digests_bad n ad m c L hm hbad w2 hA2).mono ?_
    rintro e w' ⟨rfl, hb⟩
    exact ⟨none, 0, rfl, fun j hj => by omega, hb⟩
  · obtain ⟨k, rfl⟩ : ∃ k : Nat, n = k := ⟨n.toNat, by have : ¬ n < 0 := fun h => hbad (.inl h); omega⟩
    have hk : k ≤ 64 := Classical.byContradiction fun h => hbad (.inr (.inl (by omega)))
    have hg := good_of hbad
    have hD : ∀ w1, Arcs w1 ad m L → Calls Try.prog 10 #[.int .i64 k, .slice ad m c] w1 fun e w' => ∃ va N va2 F, e = .returned (.tuple #[.slice va N va2, .int .i64 0]) ∧ Words w' va N F ∧ N ≤ maxLen ∧ Below w1.heap.size w1 w' ∧
        ∀ w2, Arcs w2 ad m L → Calls Try.prog 11 #[.int .i64 k, .slice ad m c] w2 fun e w' => ∃ vb vb2, e = .returned (.tuple #[.slice vb N vb2, .int .i64 0]) ∧ Words w' vb N F ∧ Below w2.heap.size w2 w' := fun w1 hA1 => by
      refine (wt_digests k ad m c L hk hm hbad w1 hA1).mono ?_
      rintro e w' ⟨N, v, ho, -, hfix, rfl, hb⟩
      obtain ⟨va, va2, rfl, hw⟩ := words_own ho
      refine ⟨va, k, va2, _, rfl, hw, by unfold maxLen; omega, hb, fun w2 hA2 => ?_⟩
      refine (rf_digests k ad m c L hk hm hbad w2 hA2).mono ?_
      rintro e w' ⟨v, ho, -, rfl, hb⟩
      obtain ⟨vb, vb2, rfl, hw⟩ := words_own ho
      refine ⟨vb, vb2, rfl, fun j hj => ?_, hb⟩
      obtain ⟨g, o, e1, h2, h3⟩ := hw j hj
      refine ⟨g, o, e1, h2, ?_⟩
      rw [h3]
      have : oDig L m k k j = spreadN L m N j := by
        apply BitVec.eq_of_getLsbD_eq
        intro b hb
        have a1 := oDig_bit hg hk j b k (Nat.le_refl _)
        have a2 := digest_bits hg hk hfix j b hj
        cases hc : (spreadN L m N j).getLsbD b with
        | true => exact a1.2 ⟨((a2.1 hc).lt hg).2, a2.1 hc⟩
        | false =>
          cases hd : (oDig L m k k j).getLsbD b with
          | false => rfl
          | true => rw [a2.2 (a1.1 hd).2] at hc; cases hc
      show some (Value.int .u64 ((oDig L m k k j).toNat : Int)) = some (Value.int .u64 ((spreadN L m N j).toNat : Int))
      rw [this]
    by_cases hxb : x < 0 ∨ (k : Int) ≤ x
    · exact tells_with k ad m c x w L hA 0 1 hD (cbad (.inr hxb))
    · obtain ⟨y, rfl⟩ : ∃ y : Nat, x = y := ⟨x.toNat, by omega⟩
      have hyk : y < k := by omega
      refine tells_with k ad m c y w L hA 0 0 hD (fun w1 hA1 => ?_)
      refine (wt_circle k y ad m c L hk hyk hm hbad w1 hA1).mono ?_
      rintro e w' ⟨v, hc, rfl, hb⟩
      rcases circle_is hg hk hyk hc with ⟨rfl, hno⟩ | ⟨l, hla, hcl, hyes⟩
      · refine ⟨none, 0, 0, fun _ => 0, rfl, fun j hj => by omega, Nat.zero_le _, hb, fun w2 hA2 => ?_⟩
        refine (rf_circle k y ad m c L hk hyk hm hbad w2 hA2).mono ?_
        rintro e w' ⟨v, hv, rfl, hb⟩
        rcases hv with ⟨rfl, _⟩ | ⟨k', r, _, hr⟩
        · exact ⟨none, 0, rfl, fun j hj => by omega, hb⟩
        · exfalso
          have hp : Pth (Ed L m) y r := ⟨by rw [hr.1]; omega, hr.2.1, fun i hi => (hr.2.2.1 i (by have := hr.1; omega)).1⟩
          refine hno (hits_rch hp ?_)
          have : lastN r = r.getD k' 0 := by unfold lastN; rw [hr.1, Nat.add_sub_cancel]
          rw [this]; exact hr.2.2.2.1
      · obtain ⟨g, c2, rfl, hgl, _, hcell⟩ := hla
        refine ⟨_, l.length, c2, _, rfl, nat_ints (c := c2) hgl hcell, by have := hcl.2.1; unfold maxLen; omega, hb, fun w2 hA2 => ?_⟩
        refine (rf_circle k y ad m c L hk hyk hm hbad w2 hA2).mono ?_
        rintro e w' ⟨v, hv, rfl, hb⟩
        rcases hv with ⟨rfl, hno⟩ | ⟨k', r, ho, hr⟩
        · exact absurd hyes hno
        · obtain ⟨g3, c3, e3, hg3, -, hcell3⟩ := circle_same hg hk hc hr
          have hlr : l = r := by
            have hlen : l.length = r.length := by simp at e3; exact e3.2.1
            have hgg : g = g3 := by simp at e3; exact e3.1
            subst hgg
            apply List.ext_getElem hlen
            intro i h1 h2
            have a1 := hcell i _ (List.getElem?_eq_getElem h1)
            have a2 := hcell3 i _ (List.getElem?_eq_getElem h2)
            rw [a1] at a2
            have : (l[i] : Int) = (r[i] : Int) := by simpa using a2
            omega
          subst hlr
          obtain ⟨vb, vb2, rfl, hvb⟩ := ho.has' (by omega)
          refine ⟨_, vb2, by rw [hr.1], ?_, hb⟩
          refine nat_ints (c := vb2) hvb.2 (fun j z hz => ?_)
          have hj : j < k' + 1 := by rw [← hr.1]; exact (List.getElem?_eq_some_iff.1 hz).1
          rw [ho.cellAt' hj, natL, List.getElem?_map, hz]
          rfl
end Go.Proofs.Ytiollfjhfcaogaa
