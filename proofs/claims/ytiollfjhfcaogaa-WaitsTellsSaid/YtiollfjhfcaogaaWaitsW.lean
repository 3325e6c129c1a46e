import Derived.Test.YtiollfjhfcaogaaWaitsV
set_option linter.unusedSimpArgs false
set_option linter.unusedVariables false
namespace Go.Proofs.Ytiollfjhfcaogaa
open Go.RowKit

theorem kN {S : Nat → Prop} {a w : World} (h : Keeps S a w) (n : Nat) : Keeps S a (w.drewN n) := ⟨h.os, h.tape, h.output, h.size, h.block⟩
set_option maxHeartbeats 1600000 in
theorem rf_circle_bad (n : Int) (ad : Option Addr) (m c : Nat) (L : Nat → Int × Int) (x : Int) (hm : m ≤ maxLen) (hbad : WrongP n m L ∨ x < 0 ∨ n ≤ x) (w : World) (hA : Arcs w ad m L) :
    Calls Try.prog 13 #[.int .i64 n, .slice ad m c, .int .i64 x] w fun e w' => e = .returned (.tuple #[.slice none 0 0, .int .i64 1]) ∧ Below w.heap.size w w' := by
  by_cases hw : WrongP n m L
  · have HW := Lib.hid (rf_wrong n ad m c L hm true ⟨fun _ => hw, fun _ => rfl⟩ w hA)
    clear hw hbad
    go_enter Try.func13, Try.ntmps13
    go_wp2_with fail
    refine (HW.out).mono ?_
    rintro e w1 ⟨rfl, hb⟩
    have HB1 := Lib.hid hb
    clear hb
    go_wp2_with fail
    go_ret2
    exact ⟨rfl, HB1.out⟩
  · have HW := Lib.hid (rf_wrong n ad m c L hm false ⟨fun h => by simp at h, fun h => absurd h hw⟩ w hA)
    have hx := hbad.resolve_left hw
    clear hw hbad
    by_cases h0 : x < 0
    · clear hx
      go_enter Try.func13, Try.ntmps13
      go_wp2_with fail
      refine (HW.out).mono ?_
      rintro e w1 ⟨rfl, hb⟩
      have HB1 := Lib.hid hb
      clear hb
      go_wp2_with fail
      go_ret2
      exact ⟨rfl, HB1.out⟩
    · have h1 : n ≤ x := by omega
      clear hx
      go_enter Try.func13, Try.ntmps13
      go_wp2_with fail
      refine (HW.out).mono ?_
      rintro e w1 ⟨rfl, hb⟩
      have HB1 := Lib.hid hb
      clear hb
      go_wp2_with fail
      go_ret2
      exact ⟨rfl, HB1.out⟩
set_option maxRecDepth 100000 in
set_option maxHeartbeats 3200000 in
theorem rf_circle (n x : Nat) (ad : Option Addr) (m c : Nat) (L : Nat → Int × Int) (hn : n ≤ 64) (hx : x < n) (hm : m ≤ maxLen) (hok : ¬ WrongP n m L) (w : World) (hA : Arcs w ad m L) :
    Calls Try.prog 13 #[.int .i64 n, .slice ad m c, .int .i64 x] w fun e w' => ∃ v, ((v = .slice none 0 0 ∧ ¬ Rch L m x x) ∨ (∃ k r, OwnS w' 3 1 v (k + 1) (natL r) ∧ GrEnd L m x k r)) ∧ e = .returned (.tuple #[v, .int .i64 0]) ∧ Below w.heap.size w w' := by
  have HW := Lib.hid (rf_wrong n ad m c L hm false ⟨fun h => by simp at h, fun h => absurd h hok⟩ w hA)
  have hgood := Lib.hid (good_of hok)
  have HR := Lib.hid (fun w1 => rf_reach n x ad m c L hn hx hm hgood.out w1)
  have hA := Lib.hid hA
  obtain ⟨i0, hj1, hj2, hj3, hj4⟩ := info_parts Try.info_i64
  have hx0 : ¬ ((x : Int) < 0) := by omega
  have hxn : ¬ ((n : Int) ≤ x) := by omega
  clear hok
  unfold maxLen at hm
  go_enter Try.func13, Try.ntmps13
  go_wp2_with fail
  refine (HW.out).mono ?_
  rintro e w1 ⟨rfl, hb⟩
  have HB1 := Lib.hid hb
  clear hb HW
  go_wp2_with fail
  refine (HR.out w1 (hA.out.keep HB1.out)).mono ?_
  rintro e w3 ⟨v, ho, hbl, rfl, hb⟩
  obtain ⟨gd, cd, rfl, hcd, hgd⟩ := ho.has' (by omega)
  have HB3 := Lib.hid (bT HB1.out hb)
  have hd3 : Hid (∀ j, j < n → w3.cell? ⟨gd, j, none⟩ = some (.int .i64 (dAll L m x n j))) := fun j hj => (World.ownsRow.cellAt ho j (by omega)).trans (intsL_get _ n j hj)
  have hA3 := Lib.hid (hA.out.keep HB3.out)
  have hbn0 := Lib.hid (fun a => best_none (a := a) (x := x) hgood.out hn)
  have hbs0 := Lib.hid (fun a => best_some (a := a) (x := x) hgood.out hn)
  have hgn := Lib.hid (fun i r (h : GrI L m x i r) => h.none hgood.out hn)
  have hgb := Lib.hid (fun i r (h : GrI L m x i r) => h.bound hgood.out hn)
  have hsem := Lib.hid (fun a i hi => bestP_sem (d := dAll L m x n) (a := a) hgood.out i hi)
  generalize hdd : dAll L m x n = d at *
  clear hb ho hbl HR hdd hA
  go_wp2_with fail
  go_loopw [9, 10] (fun a v wr => ∃ (i at_ : Nat) (l : List Nat), a = .int .i64 at_ ∧ at_ < n ∧ l.length = i ∧ Hid (GrI L m x i (l ++ [at_])) ∧ Hid (OwnS wr 3 1 v i (natL l)) ∧ Hid (∀ k ∈ blk v, w3.heap.size ≤ k) ∧ Hid (Below w3.heap.size w3 wr)) (fun _ v _ => 100 - lenV v)
  case atStart => exact ⟨0, x, [], rfl, by omega, rfl, GrI.zero L m x, OwnS.nil _ _ _, by simp [Hid, blk, Value.ownBlock], bR⟩
  case round =>
    obtain ⟨i, at_, l, rfl, hatn, hli, hG, HO, HBL, HB⟩ := hrel
    replace hli := Lib.hid hli
    go_wp2_with fail
    go_loopw [12, 11] (fun s b wr => ∃ j : Nat, j ≤ m ∧ s = .int .i64 j ∧ b = .int .i64 (bestP d L at_ j) ∧ Hid (OwnS wr 3 1 u10 i (natL l)) ∧ Hid (Below w3.heap.size w3 wr)) (fun s _ _ => m - (intOf s).toNat)
    case atStart => exact ⟨0, by omega, rfl, rfl, HO, HB⟩
    case round =>
      clear HO HB
      obtain ⟨j, hj, rfl, rfl, HO, HB⟩ := hrel
      by_cases hjm : j < m
      rotate_left
      · obtain rfl : j = m := by omega
        have h64 := hgb.out _ _ hG.out
        have hlastr : Hid ((l ++ [at_]).getD i 0 = at_) := by rw [← hli.out]; exact getD_snoc l at_
        by_cases hneg : bestP d L at_ j = -1
        · rw [hneg]
          replace hneg := Lib.hid hneg
          go_wp2_with fail
          go_ret2
          refine ⟨_, .inl ⟨rfl, hgn.out _ _ hG.out ?_⟩, rfl, bT HB3.out HB.out⟩
          rw [hlastr.out]
          exact hbn0.out at_ hneg.out
        · obtain ⟨b, e, hb, hbn, hed, hl, hmin⟩ := hbs0.out at_ hneg
          rw [hb]
          replace hb := Lib.hid hb
          have hmin := Lib.hid hmin
          have hl := Lib.hid hl
          have hed := Lib.hid hed
          replace hneg := Lib.hid hneg
          have hbI : ¬ ((b : Int) < 0) := by omega
          have HO1 : OwnS (wr.alloc (.cells #[.int .i64 (at_ : Int)] 3)) 3 1 u10 i (natL l) := HO.out.keep ((Keeps.refl (fun _ => False) _).alloc _) (fun _ _ h => h)
          by_cases hbx : b = x
          · have b1 : ((b : Int) == (x : Int)) = true := by rw [hbx]; simp
            replace hbx := Lib.hid hbx
            go_wp2_with (at_builtin; refine wpList_append_frame _ rfl _ _ 30 rfl 3 i0 (.int .i64 0) 1 8 Try.underlying30 hj1 hj2 hj3 hj4 rfl (by decide) _ _ _ rfl HO1 ⟨wr.heap.size, 0, none⟩ 1 1 [.int .i64 (at_ : Int)] rfl rfl (cell_one_new _ _ _) (by simp [Value.oneCell']) (by unfold maxLen; omega) (by omega) ?_; rintro v6 w6 ho6 hk6 hb6 hn6; (have HO6 := Lib.hid ho6); (have HK6 := Lib.hid hk6); clear ho6 hk6 hb6 hn6)
            go_ret2
            refine ⟨_, .inr ⟨i, l ++ [at_], ?_, GrI.done (e := e) hG.out (by rw [hlastr.out, ← hbx.out]; exact hed.out)⟩, rfl, bT HB3.out (bK (bA HB.out) HK6.out HBL.out)⟩
            have := HO6.out
            rw [show natL (l ++ [at_]) = natL l ++ [.int .i64 (at_ : Int)] by simp [natL]]
            exact this
          · have b1 : ((b : Int) == (x : Int)) = false := by simp; omega
            have hG2 := Lib.hid (GrI.next hG.out (by rw [hlastr.out]; exact hed.out) hl.out (by rw [hlastr.out]; exact hmin.out) hbx)
            replace hbx := Lib.hid hbx
            go_wp2_with (at_builtin; refine wpList_append_frame _ rfl _ _ 30 rfl 3 i0 (.int .i64 0) 1 8 Try.underlying30 hj1 hj2 hj3 hj4 rfl (by decide) _ _ _ rfl HO1 ⟨wr.heap.size, 0, none⟩ 1 1 [.int .i64 (at_ : Int)] rfl rfl (cell_one_new _ _ _) (by simp [Value.oneCell']) (by unfold maxLen; omega) (by omega) ?_; rintro v6 w6 ho6 hk6 hb6 hn6; (have HO6 := Lib.hid ho6); (have HK6 := Lib.hid hk6); (have HL6 := Lib.hid hb6); clear ho6 hk6 hb6 hn6)
            go_roundw
            case rel =>
              refine ⟨i + 1, b, l ++ [at_], rfl, hbn, by rw [List.length_append, hli.out]; rfl, hG2, ?_, fun k hk => ?_, bK (bA HB.out) HK6.out HBL.out⟩
              · have := HO6.out
                rw [show natL (l ++ [at_]) = natL l ++ [.int .i64 (at_ : Int)] by simp [natL]]
                exact this
              · rcases HL6.out k hk with h | h
                · exact HBL.out k h
                · simp at h
                  have := HB.out.size
                  omega
            case measure =>
              obtain ⟨a1, c1, e1, _⟩ := HO6.out.cap
              obtain ⟨a2, c2, e2, _⟩ := HO.out.cap
              subst e1
              subst e2
              simp only [lenV, Array.getD]
              show 100 - (i + 1) < 100 - i
              omega
      · have hjI : (j : Int) < m := by omega
        have hj0 : (0 : Int) ≤ j := by omega
        have wrj : IntKind.i64.wrap ((j : Int) + 1) = (j : Int) + 1 := by rw [IntKind.wrap_i64]; omega
        obtain ⟨ga, oa, rfl, hga, c0, c1⟩ := hA3.out j hjm
        rw [← cell_below HB.out hga] at c0 c1
        obtain ⟨h1, h2, h3, h4⟩ := hgood.out j hjm
        obtain ⟨z, ez⟩ : ∃ a : Nat, (L j).1 = a := ⟨(L j).1.toNat, by omega⟩
        obtain ⟨y, ey⟩ : ∃ b : Nat, (L j).2 = b := ⟨(L j).2.toNat, by omega⟩
        have hstep : bestP d L at_ (j + 1) = if (L j).1 = at_ ∧ 0 ≤ d (L j).2.toNat ∧ (bestP d L at_ j < 0 ∨ d (L j).2.toNat < d (bestP d L at_ j).toNat ∨ (d (L j).2.toNat = d (bestP d L at_ j).toNat ∧ (L j).2 < bestP d L at_ j)) then (L j).2 else bestP d L at_ j := rfl
        rw [ez, ey, Int.toNat_natCast] at hstep
        rw [ez] at c0 h1 h2
        rw [ey] at c1 h3 h4
        replace ez := Lib.hid ez
        replace ey := Lib.hid ey
        have hyn : y < n := by omega
        have s4 := hd3.out y hyn
        rw [← cell_below HB.out hgd] at s4
        have hBc : bestP d L at_ j = -1 ∨ ∃ b : Nat, bestP d L at_ j = b ∧ b < n := by
          rcases hsem.out at_ j hj with ⟨h, _⟩ | ⟨b, h, h', _⟩
          · exact .inl h
          · exact .inr ⟨b, h, h'⟩
        generalize bestP d L at_ j = B at hstep hBc ⊢
        by_cases q1 : (z : Int) = at_
        rotate_left
        · have b1 : ((z : Int) == (at_ : Int)) = false := by simpa using q1
          have q1h := Lib.hid q1
          rw [if_neg (fun h => q1 h.1)] at hstep
          replace hstep := Lib.hid hstep
          clear q1
          go_wp2_with fail
          go_quiet (fail)
          go_wp2_with fail
          go_roundw
          case rel => exact ⟨j + 1, by omega, rfl, by rw [hstep.out], HO.out.keep (kN (Keeps.refl (fun _ => False) _) _) (fun _ _ h => h), bN HB.out _⟩
          case measure => simp [intOf]; omega
        · have b1 : ((z : Int) == (at_ : Int)) = true := by simpa using q1
          by_cases q2 : 0 ≤ d y
          rotate_left
          · have b2 : decide ((0 : Int) ≤ d y) = false := by simpa using q2
            have q2h := Lib.hid q2
            rw [if_neg (fun h => q2 h.2.1)] at hstep
            replace hstep := Lib.hid hstep
            clear q1
            replace q2 := Lib.hid q2
            go_wp2_with fail
            go_quiet (fail)
            go_wp2_with fail
            go_roundw
            case rel => exact ⟨j + 1, by omega, rfl, by rw [hstep.out], HO.out.keep (kN (Keeps.refl (fun _ => False) _) _) (fun _ _ h => h), bN HB.out _⟩
            case measure => simp [intOf]; omega
          · have b2 : decide ((0 : Int) ≤ d y) = true := by simpa using q2
            rcases hBc with hBn | ⟨b, hBn, hbn⟩
            · rw [hBn] at hstep ⊢
              have b3 : decide ((-1 : Int) < 0) = true := by decide
              rw [if_pos ⟨q1, q2, .inl (by omega)⟩] at hstep
              replace hstep := Lib.hid hstep
              replace q1 := Lib.hid q1
              replace hBn := Lib.hid hBn
              go_wp2_with fail
              go_quiet (fail)
              go_wp2_with fail
              go_roundw
              case rel => exact ⟨j + 1, by omega, rfl, by rw [hstep.out], HO.out.keep (kN (Keeps.refl (fun _ => False) _) _) (fun _ _ h => h), bN HB.out _⟩
              case measure => simp [intOf]; omega
            · rw [hBn, Int.toNat_natCast] at hstep
              rw [hBn]
              have b3 : decide ((b : Int) < 0) = false := by simp
              have s6 := hd3.out b hbn
              rw [← cell_below HB.out hgd] at s6
              have hbI : (b : Int) < n := by omega
              by_cases q3 : d y < d b
              · have b4 : decide (d y < d b) = true := by simpa using q3
                rw [if_pos ⟨q1, q2, .inr (.inl q3)⟩] at hstep
                replace hstep := Lib.hid hstep
                replace q1 := Lib.hid q1
                replace hBn := Lib.hid hBn
                go_wp2_with fail
                go_quiet (fail)
                go_wp2_with fail
                go_roundw
                case rel => exact ⟨j + 1, by omega, rfl, by rw [hstep.out], HO.out.keep (kN (Keeps.refl (fun _ => False) _) _) (fun _ _ h => h), bN HB.out _⟩
                case measure => simp [intOf]; omega
              · have b4 : decide (d y < d b) = false := by simpa using q3
                by_cases q4 : d y = d b
                · have b5 : (d y == d b) = true := by simpa using q4
                  by_cases q5 : (y : Int) < b
                  · have b6 : decide ((y : Int) < b) = true := by simpa using q5
                    rw [if_pos ⟨q1, q2, .inr (.inr ⟨q4, q5⟩)⟩] at hstep
                    replace hstep := Lib.hid hstep
                    replace q1 := Lib.hid q1
                    replace q4 := Lib.hid q4
                    replace hBn := Lib.hid hBn
                    go_wp2_with fail
                    go_quiet (fail)
                    go_wp2_with fail
                    go_roundw
                    case rel => exact ⟨j + 1, by omega, rfl, by rw [hstep.out], HO.out.keep (kN (Keeps.refl (fun _ => False) _) _) (fun _ _ h => h), bN HB.out _⟩
                    case measure => simp [intOf]; omega
                  · have b6 : decide ((y : Int) < b) = false := by simpa using q5
                    rw [if_neg (fun h => (by rcases h.2.2 with h | h | h <;> omega))] at hstep
                    replace hstep := Lib.hid hstep
                    replace q1 := Lib.hid q1
                    replace q4 := Lib.hid q4
                    replace hBn := Lib.hid hBn
                    go_wp2_with fail
                    go_quiet (fail)
                    go_wp2_with fail
                    go_roundw
                    case rel => exact ⟨j + 1, by omega, rfl, by rw [hstep.out], HO.out.keep (kN (Keeps.refl (fun _ => False) _) _) (fun _ _ h => h), bN HB.out _⟩
                    case measure => simp [intOf]; omega
                · have b5 : (d y == d b) = false := by simpa using q4
                  rw [if_neg (fun h => (by rcases h.2.2 with h | h | h <;> omega))] at hstep
                  replace hstep := Lib.hid hstep
                  replace q1 := Lib.hid q1
                  replace q4 := Lib.hid q4
                  replace hBn := Lib.hid hBn
                  go_wp2_with fail
                  go_quiet (fail)
                  go_wp2_with fail
                  go_roundw
                  case rel => exact ⟨j + 1, by omega, rfl, by rw [hstep.out], HO.out.keep (kN (Keeps.refl (fun _ => False) _) _) (fun _ _ h => h), bN HB.out _⟩
                  case measure => simp [intOf]; omega
end Go.Proofs.Ytiollfjhfcaogaa
