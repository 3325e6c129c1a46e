import Derived.Test.YtiollfjhfcaogaaWaitsO
set_option linter.unusedSimpArgs false
set_option linter.unusedVariables false
namespace Go.Proofs.Ytiollfjhfcaogaa
open Go.ChangeShapes Go.WideShapes Go.ChangeAt Go.RowKit

theorem arcs_empty (w : World) (ad : Option Addr) (L : Nat → Int × Int) : Arcs w ad 0 L := fun j hj => by omega
theorem Arcs.less {w : World} {ad : Option Addr} {m k : Nat} {L : Nat → Int × Int} (h : Arcs w ad m L) (hk : k ≤ m) : Arcs w ad k L := fun j hj => h j (by omega)
theorem slice_le {H : Type} {enc : TypeId × Value → H} {P : Program} {W : World} {sp : Nat → Bool} {held : Bool} {t e : TypeId} {a : Option Addr} {len cap : Nat} {d : DataW H} {ps : List MemPlace} (ht : P.underlying t = some (.slice e)) (h : DataW.Trod enc P W 0 sp held t (.slice a len cap) d ps) : len ≤ cap := by
  obtain ⟨fuel, hf⟩ := h
  rcases Deep.open_slice ht hf with ⟨hcs, _⟩ | ⟨a', len', cap', m, k, D, Pl, hcs, _, hl, _⟩
  · simp [Value.cells] at hcs
    omega
  · simp [Value.cells] at hcs
    omega
def ArcSl2 (w : World) (v : Value) (L : List (Int × Int)) : Prop := ∃ ad c, v = .slice ad L.length c ∧ L.length ≤ c ∧ L.length ≤ maxLen ∧ Arcs w ad L.length (fun j => L.getD j (0, 0))
theorem arcs_of2 {H : Type} {enc : TypeId × Value → H} {W : World} {sp : Nat → Bool} {held : Bool} {r : Reach} {base : Nat} {v : Value} {d : DataW H} {ps : List MemPlace}
    (hok : Value.okWide Try.prog W r base 22 v) (h : DataW.Trod enc Try.prog W 0 sp held 22 v d ps) : ∃ L, ArcSl2 W v L ∧ ((d = .nil ∧ L = []) ∨ ∃ el sp, d = .slice el sp ∧ el.length = L.length) := by
  obtain ⟨L, ad, c, rfl, hl, hA, hL⟩ := arcs_of hok h
  obtain ⟨xs, hs, hd, -⟩ := Sl_of2 (n := 2) Try.underlying22 (by kernel_rfl) (by omega) (okWide_slice Try.underlying22 hok) h
  obtain ⟨ad', c', e, _⟩ := hs
  have hlen : L.length = xs.length := by simp at e; exact e.2.1
  refine ⟨L, ⟨ad, c, rfl, slice_le Try.underlying22 h, hl, hA⟩, ?_⟩
  rcases hd with ⟨h1, h2⟩ | ⟨el, sp, h1, h2⟩
  · refine .inl ⟨h1, ?_⟩
    rw [h2] at hlen
    exact List.eq_nil_of_length_eq_zero hlen
  · exact .inr ⟨el, sp, h1, by rw [hlen]; exact h2⟩
set_option maxRecDepth 100000 in
set_option maxHeartbeats 1600000 in
theorem more_wrong (n : Int) (ad : Option Addr) (m c : Nat) (L : Nat → Int × Int) (q : Int) (hm : m ≤ maxLen) (hbad : WrongP n m L) (w : World) (hA : Arcs w ad m L) :
    Calls Try.prog 7 #[.int .i64 n, .slice ad m c, .int .i64 q] w fun e w' => e = .returned (.bool true) ∧ Below w.heap.size w w' := by
  have HA := Lib.hid (awake_true w)
  have HD := Lib.hid (fun w1 => wt_digests_bad n ad m c L hm hbad w1)
  have hA := Lib.hid hA
  clear hbad
  go_enter Try.func7, Try.ntmps7
  go_wp2_with fail
  refine (HA.out).mono ?_
  rintro e w1 ⟨rfl, hb⟩
  have HB1 := Lib.hid hb
  clear hb HA
  go_wp2_with fail
  refine (HD.out _ (hA.out.keep HB1.out)).mono ?_
  rintro e w2 ⟨rfl, hb⟩
  have HB2 := Lib.hid (bT HB1.out hb)
  clear hb
  go_wp2_with fail
  go_ret
  exact ⟨rfl, HB2.out⟩
set_option maxRecDepth 100000 in
set_option maxHeartbeats 1600000 in
theorem more_ok (n : Nat) (ad : Option Addr) (m c : Nat) (L : Nat → Int × Int) (q : Int) (hq : -9223372036854775808 ≤ q ∧ q ≤ 9223372036854775807) (hmc : m ≤ c) (hm : m ≤ maxLen) (hm2 : m * 16 ≤ 140737488351232) (hok : ¬ WrongP n m L) (w : World) (hA : Arcs w ad m L) :
    Calls Try.prog 7 #[.int .i64 n, .slice ad m c, .int .i64 q] w fun e w' => e = .returned (.bool true) ∧ Below w.heap.size w w' := by
  have hn : n ≤ 64 := Classical.byContradiction fun h => hok (.inr (.inl (by omega)))
  have hgood := Lib.hid (good_of hok)
  have HA := Lib.hid (awake_true w)
  have HD := Lib.hid (fun w1 => wt_digests n ad m c L hn hm hok w1)
  have HDk : Hid (∀ (k : Nat) (hk : k ≤ m) (w1 : World), Arcs w1 ad k L → _) := fun k hk w1 => wt_digests n ad k c L hn (by omega) (fun h => hok (by
    rcases h with h | h | ⟨j, hj, h⟩
    · exact .inl h
    · exact .inr (.inl h)
    · exact .inr (.inr ⟨j, by omega, h⟩))) w1
  have HD0 : Hid (∀ (w1 : World), _) := fun w1 => wt_digests n none 0 0 L hn (by unfold maxLen; omega) (by rintro (h | h | ⟨j, hj, _⟩) <;> omega) w1 (arcs_empty _ _ _)
  have hA := Lib.hid hA
  clear hok
  unfold maxLen at hm
  obtain ⟨k, hk, hkm⟩ : ∃ k : Nat, (wrap64 (wrap64 (q.tmod ((m : Int) + 1) + m) + 1)).tmod ((m : Int) + 1) = (k : Int) ∧ k ≤ m := by
    have h1 := Int.lt_tmod_of_pos q (show (0 : Int) < (m : Int) + 1 by omega)
    have h2 := Int.tmod_lt_of_pos q (show (0 : Int) < (m : Int) + 1 by omega)
    have e1 : wrap64 (q.tmod ((m : Int) + 1) + m) = q.tmod ((m : Int) + 1) + m := by unfold wrap64; omega
    have e2 : wrap64 (q.tmod ((m : Int) + 1) + m + 1) = q.tmod ((m : Int) + 1) + m + 1 := by unfold wrap64; omega
    rw [e1, e2]
    have h3 := Int.tmod_lt_of_pos (q.tmod ((m : Int) + 1) + m + 1) (show (0 : Int) < (m : Int) + 1 by omega)
    have h4 := Int.tmod_nonneg ((m : Int) + 1) (show 0 ≤ q.tmod ((m : Int) + 1) + m + 1 by omega)
    exact ⟨((q.tmod ((m : Int) + 1) + m + 1).tmod ((m : Int) + 1)).toNat, by omega, by omega⟩
  have hk0 : (0 : Int) ≤ k := by omega
  have hkc : (k : Int) ≤ c := by omega
  go_enter Try.func7, Try.ntmps7
  go_wp2_with fail
  refine (HA.out).mono ?_
  rintro e w1 ⟨rfl, hb⟩
  have HB1 := Lib.hid hb
  clear hb HA
  go_wp2_with fail
  refine (HD.out _ (hA.out.keep HB1.out)).mono ?_
  rintro e w2 ⟨N, v, ho, -, hfix, rfl, hb⟩
  obtain ⟨va, vc, rfl, hw⟩ := words_own ho
  have HW2 := Lib.hid hw
  have HB2 := Lib.hid (bT HB1.out hb)
  clear hb ho hw HD
  go_wp2_with fail
  refine (HDk.out k hkm _ ((hA.out.keep HB2.out).less hkm)).mono ?_
  rintro e w3 ⟨N2, v, ho, -, hfix2, rfl, hb⟩
  obtain ⟨vb, vd, rfl, hw⟩ := words_own ho
  have HX3 := Lib.hid hw
  have HW3 := Lib.hid (HW2.out.keep hb)
  have HB3 := Lib.hid (bT HB2.out hb)
  clear hb ho hw HDk HW2 HB2
  go_wp2_with fail
  refine (HD0.out w3).mono ?_
  rintro e w4 ⟨N3, v, ho, -, hfix3, rfl, hb⟩
  obtain ⟨ve, vf, rfl, hw⟩ := words_own ho
  have HY4 := Lib.hid hw
  have HX4 := Lib.hid (HX3.out.keep hb)
  have HW4 := Lib.hid (HW3.out.keep hb)
  have HB4 := Lib.hid (bT HB3.out hb)
  clear hb ho hw HD0 HW3 HX3 HB3
  have hfacts : Hid (∀ j, j < n → bits .andNot .u64 ((spreadN L k N2 j).toNat : Int) ((spreadN L m N j).toNat : Int) = 0 ∧ ((spreadN L 0 N3 j).toNat : Int) = 0) := fun j hj => by
    have hgk : GoodArcs n k L := fun i hi => hgood.out i (by omega)
    have hg0 : GoodArcs n 0 L := fun i hi => by omega
    refine ⟨andnot_zero _ _ (fun i hi => ?_), ?_⟩
    · rw [digest_bits hgk hn hfix2 j i hj] at hi
      rw [digest_bits hgood.out hn hfix j i hj]
      exact hi.mono (fun a b ⟨i', h1, h2⟩ => ⟨i', by omega, h2⟩)
    · have : spreadN L 0 N3 j = 0#64 := by
        apply BitVec.eq_of_getLsbD_eq
        intro i hi
        cases hb : (spreadN L 0 N3 j).getLsbD i with
        | false => simp
        | true =>
          rw [digest_bits hg0 hn hfix3 j i hj] at hb
          exfalso
          cases hb with
          | one e => obtain ⟨_, h, _⟩ := e; omega
          | step e _ => obtain ⟨_, h, _⟩ := e; omega
      rw [this]; rfl
  clear hfix hfix2 hfix3
  generalize spreadN L k N2 = D2 at *
  generalize spreadN L m N = D1 at *
  generalize spreadN L 0 N3 = D3 at *
  go_wp2_with fail
  go_loopw [71] (fun s wr => ∃ (j q : Nat), j ≤ n ∧ s = .int .i64 j ∧ Hid (Below w4.heap.size w4 wr)) (fun s _ => n - (intOf s).toNat)
  case atStart => exact ⟨0, 0, by omega, rfl, bR⟩
  case round =>
    obtain ⟨j, q', hj, rfl, HB⟩ := hrel
    by_cases hjn : j < n
    · have hj' : (j : Int) < n := by omega
      have hj0 : (0 : Int) ≤ j := by omega
      have wrj : IntKind.i64.wrap ((j : Int) + 1) = (j : Int) + 1 := by rw [IntKind.wrap_i64]; omega
      obtain ⟨f1, f2⟩ := hfacts.out j hjn
      obtain ⟨g1, o1, rfl, hg1, c1⟩ := (HW4.out.keep HB.out) j hjn
      obtain ⟨g2, o2, rfl, hg2, c2⟩ := (HX4.out.keep HB.out) j hjn
      obtain ⟨g3, o3, rfl, hg3, c3⟩ := (HY4.out.keep HB.out) j hjn
      replace c1 : wr.cell? ⟨g1, o1 + j, none⟩ = some (.int .u64 ((D1 j).toNat : Int)) := c1
      replace c2 : wr.cell? ⟨g2, o2 + j, none⟩ = some (.int .u64 ((D2 j).toNat : Int)) := c2
      replace c3 : wr.cell? ⟨g3, o3 + j, none⟩ = some (.int .u64 ((D3 j).toNat : Int)) := c3
      rw [f2] at c3
      have b1 : (bits .andNot .u64 ((D2 j).toNat : Int) ((D1 j).toNat : Int) != 0) = false := by rw [f1]; rfl
      clear f1 f2
      go_wp2_with fail
      go_quiet (fail)
      go_wp2_with fail
      go_roundw
      case rel => exact ⟨j + 1, 0, by omega, rfl, bN HB.out _⟩
      case measure => simp [intOf]; omega
    · obtain rfl : j = n := by omega
      go_wp2_with fail
      go_ret
      exact ⟨rfl, bT HB4.out HB.out⟩
theorem waitsMore_walk (n : Int) (v1 : Value) (Ls : List (Int × Int)) (q : Int) (hn : -9223372036854775808 ≤ n ∧ n ≤ 9223372036854775807) (hL : Ls.length * 16 ≤ 140737488351232) (hq : -9223372036854775808 ≤ q ∧ q ≤ 9223372036854775807) (w : World) (h1 : ArcSl2 w v1 Ls) :
    Calls Try.prog 7 #[.int .i64 n, v1, .int .i64 q] w fun e w' => e = .returned (.bool true) ∧ Below w.heap.size w w' := by
  obtain ⟨ad, c, rfl, hmc, hm, hA⟩ := h1
  by_cases hbad : WrongP n Ls.length (fun j => Ls.getD j (0, 0))
  · exact more_wrong n ad Ls.length c _ q hm hbad w hA
  · obtain ⟨k, rfl⟩ : ∃ k : Nat, n = k := ⟨n.toNat, by have : ¬ n < 0 := fun h => hbad (.inl h); omega⟩
    exact more_ok k ad Ls.length c _ q hq hmc hm hL hbad w hA
end Go.Proofs.Ytiollfjhfcaogaa
