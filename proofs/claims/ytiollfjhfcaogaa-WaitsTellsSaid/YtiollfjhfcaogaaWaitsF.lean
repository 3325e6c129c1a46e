import Derived.Test.YtiollfjhfcaogaaWaitsE
import Derived.Deep.RegionHeld3
set_option linter.unusedSimpArgs false
set_option linter.unusedVariables false
namespace Go.Proofs.Ytiollfjhfcaogaa
open Go.RowKit

set_option maxRecDepth 100000 in
set_option maxHeartbeats 1600000 in
theorem wt_spread (a : Addr) (n dc : Nat) (D : Nat → BitVec 64) (ad : Option Addr) (m c : Nat) (L : Nat → Int × Int) (hn : n ≤ 64) (hm : m ≤ maxLen) (hok : ¬ WrongP n m L) (w : World) (hD : Words w (some a) n (fun j => ((D j).toNat : Int))) (hA : Arcs w ad m L) :
    Calls Try.prog 16 #[.slice (some a) n dc, .slice ad m c] w fun e w' => ∃ v, OwnS w' 41 1 v n (wordsB (spreadP D L m) n) ∧ (∀ k ∈ blk v, w.heap.size ≤ k) ∧ e = .returned (.tuple #[v, .int .i64 0]) ∧ Below w.heap.size w w' := by
  have HW := Lib.hid (wt_wrong n ad m c L hm false ⟨fun h => by simp at h, fun h => absurd h hok⟩ w hA)
  have hgood : Hid (∀ j, j < m → 0 ≤ (L j).1 ∧ (L j).1 < n ∧ 0 ≤ (L j).2 ∧ (L j).2 < n) := fun j hj => by
    have hb : ¬ BadArc n (L j) := fun hb => hok (.inr (.inr ⟨j, hj, hb⟩))
    unfold BadArc at hb
    omega
  have hD := Lib.hid hD
  have hA := Lib.hid hA
  clear hok
  unfold maxLen at hm
  go_enter Try.func16, Try.ntmps16
  go_wp2_with fail
  refine (HW.out).mono ?_
  rintro e w1 ⟨rfl, hb⟩
  have HB1 := Lib.hid hb
  have hD1 : Words w1 (some a) n (fun j => ((D j).toNat : Int)) := fun j hj => by
    obtain ⟨g, o, e, hg, hc⟩ := hD.out j hj
    exact ⟨g, o, e, Nat.lt_of_lt_of_le hg hb.size, (cell_below hb hg).trans hc⟩
  have HC := Lib.hid (sl_clone a n dc (fun j => ((D j).toNat : Int)) hn w1 hD1)
  have hs1 := hb.size
  clear hb hD1 HW
  go_wp2_with fail
  refine (HC.out).mono ?_
  rintro e w2 ⟨v, ho, hbl, rfl, hb⟩
  have HO : Hid (OwnS w2 41 1 v n (wordsB (spreadP D L 0) n)) := ho
  have hbl : Hid (∀ k ∈ blk v, w.heap.size ≤ k) := fun k hk => Nat.le_trans hs1 (hbl k hk)
  have HB2 := Lib.hid (HB1.out.trans (hb.mono hs1))
  clear hb ho HB1 HC
  go_wp2_with fail
  go_loopw [17] (fun s wr => ∃ (k : Nat), k ≤ m ∧ s = .int .i64 k ∧ Hid (OwnS wr 41 1 v n (wordsB (spreadP D L k) n)) ∧ Hid (Below w.heap.size w wr)) (fun s _ => m - (intOf s).toNat)
  case atStart => exact ⟨0, by omega, rfl, HO, HB2⟩
  case round =>
    clear HO HB2
    obtain ⟨k, hk, rfl, HO, HB⟩ := hrel
    by_cases hkm : k < m
    rotate_left
    · obtain rfl : k = m := by omega
      go_wp2_with fail
      go_ret2
      exact ⟨v, HO.out, hbl.out, rfl, HB.out⟩
    · have hk' : (k : Int) < m := by omega
      have hk0 : (0 : Int) ≤ k := by omega
      have wrk : IntKind.i64.wrap ((k : Int) + 1) = (k : Int) + 1 := by rw [IntKind.wrap_i64]; omega
      obtain ⟨ga, oa, rfl, hga, c0, c1⟩ := (hA.out.keep HB.out) k hkm
      obtain ⟨g1, g2, g3, g4⟩ := hgood.out k hkm
      obtain ⟨x, ex⟩ : ∃ x : Nat, (L k).1 = x := ⟨(L k).1.toNat, by omega⟩
      obtain ⟨y, ey⟩ : ∃ y : Nat, (L k).2 = y := ⟨(L k).2.toNat, by omega⟩
      rw [ex] at c0 g1 g2
      rw [ey] at c1 g3 g4
      have hxn : x < n := by omega
      have hyn : y < n := by omega
      replace ex := Lib.hid ex
      replace ey := Lib.hid ey
      obtain ⟨g, cap, cur, hv, _, hg, hnc, hcm, hcs, ht⟩ := HO.out.2.resolve_left (fun h => by omega)
      subst hv
      have s3 : wr.cell? ⟨g, x, none⟩ = some (.int .u64 ((spreadP D L k x).toNat : Int)) := (World.ownsRow.cellAt HO.out x (by omega)).trans (wordsL_get _ n x hxn)
      have s5 := free_at hg x
      have hgl := block_lt hg
      obtain ⟨gd, od, ea, hgd, s4⟩ := hD.out y hyn
      obtain rfl := Option.some.inj ea
      have s4 : w.cell? ⟨gd, od + y, none⟩ = some (.int .u64 ((D y).toNat : Int)) := s4
      rw [← cell_below HB.out hgd] at s4
      have hgw : w.heap.size ≤ g := hbl.out g (by simp [blk, Value.ownBlock])
      have hgd' : gd < wr.heap.size := Nat.lt_of_lt_of_le hgd HB.out.size
      have hncI : (n : Int) ≤ cap := by omega
      have hsh : IntKind.u64.wrap (1 * 2 ^ y) = ((BitVec.twoPow 64 y).toNat : Int) := shl_bv y (by omega)
      clear hnc hcm hcs ht
      replace hg := Lib.hid hg
      generalize hNe : spreadP D L k x = N at *
      generalize hDy : D y = Dy at *
      replace hNe := Lib.hid hNe
      replace hDy := Lib.hid hDy
      go_wp2_with fail
      have t3 := (cell_below (bA (o := .cells #[.int .i64 (x : Int), .int .i64 (y : Int)] 42) (bR (w := wr))) hgl).trans s3
      have t4 := (cell_below (bA (o := .cells #[.int .i64 (x : Int), .int .i64 (y : Int)] 42) (bR (w := wr))) hgd').trans s4
      have t5 : (wr.alloc (.cells #[.int .i64 (x : Int), .int .i64 (y : Int)] 42)).frozen? ⟨g, x, none⟩ = false := by rw [World.frozen?_alloc_past _ _ _ hgl]; exact s5
      have t1 : (wr.alloc (.cells #[.int .i64 (x : Int), .int .i64 (y : Int)] 42)).cell? ⟨wr.heap.size, 0, none⟩ = some (.int .i64 x) := cell_at (hN rfl) 0
      have t2 : (wr.alloc (.cells #[.int .i64 (x : Int), .int .i64 (y : Int)] 42)).cell? ⟨wr.heap.size, 1, none⟩ = some (.int .i64 y) := cell_at (hN rfl) 1
      replace s4 := Lib.hid s4
      clear s3 s5 c0 c1
      refine wp_region_held_drew (S := fun w' => w'.cell? ⟨wr.heap.size, 0, none⟩ = some (.int .i64 x) ∧ w'.cell? ⟨wr.heap.size, 1, none⟩ = some (.int .i64 y) ∧ w'.cell? ⟨gd, od + y, none⟩ = some (.int .u64 (Dy.toNat : Int)) ∧ w'.frozen? ⟨g, x, none⟩ = false) (by kernel_rfl) ⟨t1, t2, t4, t5⟩ (fun hHeld => ?_)
      refine wpAnyH_take (i := 0) (oi := ⟨some 21, _, _, _, _, _⟩) (v := ?_) rfl (by kernel_rfl) (by kernel_rfl) (by kernel_rfl) (fun _ _ _ h => h) (Or.inl ⟨by rfl, ?_⟩) hHeld ?_
      rotate_left
      · intro w' hSw
        obtain ⟨s1, s2, s4, s5⟩ := hSw
        go_simp
        try with_reducible rfl
      simp only [Act.put, List.setIfInBounds_toArray, List.set_cons_zero, List.set_cons_succ]
      refine wpAnyH_take (i := 1) (oi := ⟨some 22, _, _, _, _, _⟩) (v := ?_) rfl (by kernel_rfl) (by kernel_rfl) (by kernel_rfl) (fun _ _ _ h => h) (Or.inl ⟨by rfl, ?_⟩) hHeld ?_
      rotate_left
      · intro w' hSw
        obtain ⟨s1, s2, s4, s5⟩ := hSw
        go_simp
        try with_reducible rfl
      simp only [Act.put, List.setIfInBounds_toArray, List.set_cons_zero, List.set_cons_succ]
      refine wpAnyH_take (i := 2) (oi := ⟨some 23, _, _, _, _, _⟩) (v := ?_) rfl (by kernel_rfl) (by kernel_rfl) (by kernel_rfl) (fun _ _ _ h => h) (Or.inl ⟨by rfl, ?_⟩) hHeld ?_
      rotate_left
      · intro w' hSw
        obtain ⟨s1, s2, s4, s5⟩ := hSw
        go_simp
        try with_reducible rfl
      simp only [Act.put, List.setIfInBounds_toArray, List.set_cons_zero, List.set_cons_succ]
      refine wpAnyH_take (i := 3) (oi := ⟨some 24, _, _, _, _, _⟩) (v := ?_) rfl (by kernel_rfl) (by kernel_rfl) (by kernel_rfl) (fun _ _ _ h => h) (Or.inl ⟨by rfl, ?_⟩) hHeld ?_
      rotate_left
      · intro w' hSw
        obtain ⟨s1, s2, s4, s5⟩ := hSw
        go_simp
        try with_reducible rfl
      simp only [Act.put, List.setIfInBounds_toArray, List.set_cons_zero, List.set_cons_succ]
      refine wpAnyH_take (i := 5) (oi := ⟨some 26, _, _, _, _, _⟩) (v := ?_) rfl (by kernel_rfl) (by kernel_rfl) (by kernel_rfl) (fun _ _ _ h => h) (Or.inl ⟨by rfl, ?_⟩) hHeld ?_
      rotate_left
      · intro w' hSw
        obtain ⟨s1, s2, s4, s5⟩ := hSw
        go_simp
        try with_reducible rfl
      simp only [Act.put, List.setIfInBounds_toArray, List.set_cons_zero, List.set_cons_succ]
      refine wpAnyH_take (i := 6) (oi := ⟨some 27, _, _, _, _, _⟩) (v := ?_) rfl (by kernel_rfl) (by kernel_rfl) (by kernel_rfl) (fun _ _ _ h => h) (Or.inl ⟨by rfl, ?_⟩) hHeld ?_
      rotate_left
      · intro w' hSw
        obtain ⟨s1, s2, s4, s5⟩ := hSw
        go_simp
        try with_reducible rfl
      simp only [Act.put, List.setIfInBounds_toArray, List.set_cons_zero, List.set_cons_succ]
      refine wpAnyH_take (i := 7) (oi := ⟨some 28, _, _, _, _, _⟩) (v := ?_) rfl (by kernel_rfl) (by kernel_rfl) (by kernel_rfl) (fun _ _ _ h => h) (Or.inl ⟨by rfl, ?_⟩) hHeld ?_
      rotate_left
      · intro w' hSw
        obtain ⟨s1, s2, s4, s5⟩ := hSw
        go_simp
        try with_reducible rfl
      simp only [Act.put, List.setIfInBounds_toArray, List.set_cons_zero, List.set_cons_succ]
      refine wpAnyH_take (i := 8) (oi := ⟨some 29, _, _, _, _, _⟩) (v := ?_) rfl (by kernel_rfl) (by kernel_rfl) (by kernel_rfl) (fun _ _ _ h => h) (Or.inl ⟨by rfl, ?_⟩) hHeld ?_
      rotate_left
      · intro w' hSw
        obtain ⟨s1, s2, s4, s5⟩ := hSw
        go_simp
        try with_reducible rfl
      simp only [Act.put, List.setIfInBounds_toArray, List.set_cons_zero, List.set_cons_succ]
      refine wpAnyH_take (i := 9) (oi := ⟨some 30, _, _, _, _, _⟩) (v := ?_) rfl (by kernel_rfl) (by kernel_rfl) (by kernel_rfl) (fun _ _ _ h => h) (Or.inl ⟨by rfl, ?_⟩) hHeld ?_
      rotate_left
      · intro w' hSw
        obtain ⟨s1, s2, s4, s5⟩ := hSw
        go_simp
        try with_reducible rfl
      simp only [Act.put, List.setIfInBounds_toArray, List.set_cons_zero, List.set_cons_succ]
      refine wpAnyH_take (i := 10) (oi := ⟨some 31, _, _, _, _, _⟩) (v := ?_) rfl (by kernel_rfl) (by kernel_rfl) (by kernel_rfl) (fun _ _ _ h => h) (Or.inl ⟨by rfl, ?_⟩) hHeld ?_
      rotate_left
      · intro w' hSw
        obtain ⟨s1, s2, s4, s5⟩ := hSw
        go_simp
        try with_reducible rfl
      simp only [Act.put, List.setIfInBounds_toArray, List.set_cons_zero, List.set_cons_succ]
      refine wpAnyH_take (i := 11) (oi := ⟨some 32, _, _, _, _, _⟩) (v := ?_) rfl (by kernel_rfl) (by kernel_rfl) (by kernel_rfl) (fun _ _ _ h => h) (Or.inl ⟨by rfl, ?_⟩) hHeld ?_
      rotate_left
      · intro w' hSw
        obtain ⟨s1, s2, s4, s5⟩ := hSw
        go_simp
        try with_reducible rfl
      simp only [Act.put, List.setIfInBounds_toArray, List.set_cons_zero, List.set_cons_succ]
      refine wpAnyH_take (i := 12) (oi := ⟨some 33, _, _, _, _, _⟩) (v := ?_) rfl (by kernel_rfl) (by kernel_rfl) (by kernel_rfl) (fun _ _ _ h => h) (Or.inl ⟨by rfl, ?_⟩) hHeld ?_
      rotate_left
      · intro w' hSw
        obtain ⟨s1, s2, s4, s5⟩ := hSw
        go_simp
        try with_reducible rfl
      simp only [Act.put, List.setIfInBounds_toArray, List.set_cons_zero, List.set_cons_succ]
      refine wpAnyH_take (i := 13) (oi := ⟨some 34, _, _, _, _, _⟩) (v := ?_) rfl (by kernel_rfl) (by kernel_rfl) (by kernel_rfl) (fun _ _ _ h => h) (Or.inl ⟨by rfl, ?_⟩) hHeld ?_
      rotate_left
      · intro w' hSw
        obtain ⟨s1, s2, s4, s5⟩ := hSw
        go_simp
        try with_reducible rfl
      simp only [Act.put, List.setIfInBounds_toArray, List.set_cons_zero, List.set_cons_succ]
      refine wpAnyH_ready (rs := [4]) (by kernel_rfl) (by simp) ?_
      refine AllReadyH.cons (o := ⟨some 25, _, _, _, _, _⟩) rfl (fun K hK => ?_) AllReadyH.nil
      go_simp
      refine hK.out _ _ hHeld (fun hHeld => ?_)
      clear hK K
      try simp only [Act.put, List.setIfInBounds_toArray, List.set_cons_zero, List.set_cons_succ]
      refine wpAnyH_take (i := 14) (oi := ⟨some 35, _, _, _, _, _⟩) (v := ?_) rfl (by kernel_rfl) (by kernel_rfl) (by kernel_rfl) (fun _ _ _ h => h) (Or.inl ⟨by rfl, ?_⟩) hHeld ?_
      rotate_left
      · intro w' hSw
        obtain ⟨s1, s2, s4, s5⟩ := hSw
        go_simp
        try with_reducible rfl
      simp only [Act.put, List.setIfInBounds_toArray, List.set_cons_zero, List.set_cons_succ]
      refine wpAnyH_take (i := 15) (oi := ⟨some 36, _, _, _, _, _⟩) (v := ?_) rfl (by kernel_rfl) (by kernel_rfl) (by kernel_rfl) (fun _ _ _ h => h) (Or.inl ⟨by rfl, ?_⟩) hHeld ?_
      rotate_left
      · intro w' hSw
        obtain ⟨s1, s2, s4, s5⟩ := hSw
        go_simp
        try with_reducible rfl
      simp only [Act.put, List.setIfInBounds_toArray, List.set_cons_zero, List.set_cons_succ]
      refine wpAnyH_ready (rs := [16]) (by kernel_rfl) (by simp) ?_
      refine AllReadyH.cons (o := ⟨none, _, _, _, _, _⟩) rfl (fun K hK => ?_) AllReadyH.nil
      go_simp
      have oth : ∀ (u : Value), (wr.setCell ⟨g, x, none⟩ u).cell? ⟨gd, od + y, none⟩ = wr.cell? ⟨gd, od + y, none⟩ := fun u => by
        simp only [World.cell?]
        rw [Below.heap_setCell _ _ _ _ (show gd ≠ g by omega)]
      have hsz : ∀ (u : Value), (wr.setCell ⟨g, x, none⟩ u).heap.size = wr.heap.size := fun u => by simp [World.setCell]
      refine hK.out _ _ ⟨cell_at (hDr (hN (hsz _).symm)) 0, cell_at (hDr (hN (hsz _).symm)) 1, (cell_below (bD (bA (bR (w := wr.setCell ⟨g, x, none⟩ _)))) (by rw [hsz]; exact hgd')).trans ((oth _).trans s4.out), free_at (hDr (hO (heap_set hg.out x _))) x⟩ (fun _ => ?_)
      clear hK K hHeld oth t1 t2 t3 t4 t5 hsz
      refine wpAnyH_done (by kernel_rfl) ?_ _
      have hval : bits .or .u64 (N.toNat : Int) (bits .or .u64 (Dy.toNat : Int) (IntKind.u64.wrap (2 ^ y))) = ((N ||| (Dy ||| BitVec.twoPow 64 y)).toNat : Int) := by
        rw [Int.one_mul] at hsh
        rw [hsh, bits_or_bv, bits_or_bv]
      have HO1 : OwnS (wr.setCell ⟨g, x, none⟩ (.int .u64 (bits .or .u64 (N.toNat : Int) (bits .or .u64 (Dy.toNat : Int) (IntKind.u64.wrap (2 ^ y)))))) 41 1 (.slice (some ⟨g, 0, none⟩) n cap) n (wordsB (spreadP D L (k + 1)) n) := by
        have h1 := OwnS.set (i := x) (u := .int .u64 ((N ||| (Dy ||| BitVec.twoPow 64 y)).toNat : Int)) HO.out
        rw [wordsB_set (spreadP D L k) (spreadP D L (k + 1)) x (N ||| (Dy ||| BitVec.twoPow 64 y)) (fun j => by
          show (if (j : Int) = (L k).1 then spreadP D L k j ||| (D (L k).2.toNat ||| BitVec.twoPow 64 (L k).2.toNat) else spreadP D L k j) = _
          rw [ex.out, ey.out]
          by_cases e : j = x
          · subst e; rw [if_pos rfl, if_pos rfl, hNe.out, Int.toNat_natCast, hDy.out]
          · rw [if_neg (by omega), if_neg e]) n] at h1
        rw [hval]
        exact h1
      have HO2 := Lib.hid (HO1.keep (((Keeps.refl (fun _ => False) _).alloc (.cells #[.int .i64 (x : Int), .int .i64 (y : Int)] 42)).drew) (fun _ _ h => h))
      have HB2 := Lib.hid (bD (bA (o := .cells #[.int .i64 (x : Int), .int .i64 (y : Int)] 42) (bS (p := ⟨g, x, none⟩) (u := .int .u64 (bits .or .u64 (N.toNat : Int) (bits .or .u64 (Dy.toNat : Int) (IntKind.u64.wrap (2 ^ y))))) HB.out hgw)))
      clear HO1 hval HO hsh
      go_wp2_with fail
      go_roundw
      case rel => exact ⟨k + 1, by omega, rfl, HO2, HB2⟩
      case measure => simp [intOf]; omega
end Go.Proofs.Ytiollfjhfcaogaa
