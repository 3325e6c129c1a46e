import Derived.Test.YtiollfjhfcaogaaWaitsT
import Derived.Deep.RegionHeld3
set_option linter.unusedSimpArgs false
set_option linter.unusedVariables false
namespace Go.Proofs.Ytiollfjhfcaogaa
open Go.RowKit

def oRound (out : Nat → BitVec 64) (d : Nat → Int) (L : Nat → Int × Int) (x : Nat) : Nat → Nat → BitVec 64
  | 0 => out
  | i + 1 => if 0 ≤ d (L i).2.toNat then setF (oRound out d L x i) (L i).1.toNat (oRound out d L x i (L i).1.toNat ||| BitVec.twoPow 64 x) else oRound out d L x i
def oDig (L : Nat → Int × Int) (m n : Nat) : Nat → Nat → BitVec 64
  | 0 => fun _ => 0
  | x + 1 => oRound (oDig L m n x) (dAll L m x n) L x m
set_option maxHeartbeats 1600000 in
theorem rf_digests_bad (n : Int) (ad : Option Addr) (m c : Nat) (L : Nat → Int × Int) (hm : m ≤ maxLen) (hbad : WrongP n m L) (w : World) (hA : Arcs w ad m L) :
    Calls Try.prog 11 #[.int .i64 n, .slice ad m c] w fun e w' => e = .returned (.tuple #[.slice none 0 0, .int .i64 1]) ∧ Below w.heap.size w w' := by
  have HW := Lib.hid (rf_wrong n ad m c L hm true ⟨fun _ => hbad, fun _ => rfl⟩ w hA)
  clear hbad
  go_enter Try.func11, Try.ntmps11
  go_wp2_with fail
  refine (HW.out).mono ?_
  rintro e w1 ⟨rfl, hb⟩
  have HB1 := Lib.hid hb
  clear hb
  go_wp2_with fail
  go_ret2
  exact ⟨rfl, HB1.out⟩
set_option maxRecDepth 100000 in
set_option maxHeartbeats 3200000 in
theorem rf_digests (n : Nat) (ad : Option Addr) (m c : Nat) (L : Nat → Int × Int) (hn : n ≤ 64) (hm : m ≤ maxLen) (hok : ¬ WrongP n m L) (w : World) (hA : Arcs w ad m L) :
    Calls Try.prog 11 #[.int .i64 n, .slice ad m c] w fun e w' => ∃ v, OwnS w' 41 1 v n (wordsB (oDig L m n n) n) ∧ (∀ k ∈ blk v, w.heap.size ≤ k) ∧ e = .returned (.tuple #[v, .int .i64 0]) ∧ Below w.heap.size w w' := by
  have HW := Lib.hid (rf_wrong n ad m c L hm false ⟨fun h => by simp at h, fun h => absurd h hok⟩ w hA)
  have hgood := Lib.hid (good_of hok)
  have HR := Lib.hid (fun x hx w1 => rf_reach n x ad m c L hn hx hm hgood.out w1)
  have hA := Lib.hid hA
  obtain ⟨i0, hi, hz0, hz1, hz2⟩ := info_parts Try.info_u64
  clear hok
  unfold maxLen at hm
  go_enter Try.func11, Try.ntmps11
  go_wp2_with fail
  refine (HW.out).mono ?_
  rintro e w1 ⟨rfl, hb⟩
  have HB1 := Lib.hid hb
  have hs1 := Lib.hid hb.size
  clear hb HW
  go_wp2_with (at_make; refine wpList_make_full _ rfl _ _ 24 rfl w1.heap.size 41 i0 (.int .u64 0) 1 Try.underlying24 hi hz0 hz1 _ _ _ _ n rfl rfl rfl rfl (by rw [hz2]; omega) (by unfold maxLen; omega) (Nat.le_refl _) ?_; rintro w2 hown hg; (have HO : Hid (OwnS w2 41 1 (.slice (some ⟨w1.heap.size, 0, none⟩) n n) n (wordsB (oDig L m n 0) n)) := (by rw [zeros_words] at hown; exact OwnS.of hown)); (have HB2 := Lib.hid (HB1.out.grown hg hs1.out (by simp))); clear hown hg HB1)
  generalize hg1 : w1.heap.size = g at *
  have hgw : w.heap.size ≤ g := hs1.out
  clear hg1 hs1
  go_loopw [7] (fun s wr => ∃ x : Nat, x ≤ n ∧ s = .int .i64 x ∧ Hid (OwnS wr 41 1 (.slice (some ⟨g, 0, none⟩) n n) n (wordsB (oDig L m n x) n)) ∧ Hid (Below w.heap.size w wr)) (fun s _ => n - (intOf s).toNat)
  case atStart => exact ⟨0, by omega, rfl, HO, HB2⟩
  case round =>
    clear HO HB2
    obtain ⟨x, hx, rfl, HO, HB⟩ := hrel
    by_cases hxn : x < n
    rotate_left
    · obtain rfl : x = n := by omega
      go_wp2_with fail
      go_ret2
      exact ⟨_, HO.out, fun k' hk' => by
        have : k' = g := by simpa [blk, Value.ownBlock] using hk'
        rw [this]; exact hgw, rfl, HB.out⟩
    · have hxI : (x : Int) < n := by omega
      have hx0 : (0 : Int) ≤ x := by omega
      have wrx : IntKind.i64.wrap ((x : Int) + 1) = (x : Int) + 1 := by rw [IntKind.wrap_i64]; omega
      have HX := Lib.hid (HR.out x hxn wr (hA.out.keep HB.out))
      go_wp2_with fail
      refine (HX.out).mono ?_
      rintro e w3 ⟨v, ho, hbl, rfl, hb⟩
      obtain ⟨gd, cd, rfl, hcd, hgd⟩ := ho.has' (by omega)
      have hgdr : wr.heap.size ≤ gd := hbl gd (by simp [blk, Value.ownBlock])
      have hgr : g < wr.heap.size := HO.out.lt (by simp [blk, Value.ownBlock])
      have hne : gd ≠ g := by omega
      have HD3 : Hid (OwnS w3 3 1 (.slice (some ⟨gd, 0, none⟩) n cd) n (intsL (dAll L m x n) n)) := ho
      have HO3 : Hid (OwnS w3 41 1 (.slice (some ⟨g, 0, none⟩) n n) n (wordsB (oRound (oDig L m n x) (dAll L m x n) L x 0) n)) := HO.out.keep (Keeps.of_below (fun _ => False) hb) (fun _ _ h => h)
      have HB3 := Lib.hid (bT HB.out hb)
      have hnx : Hid (∀ j, oRound (oDig L m n x) (dAll L m x n) L x (j + 1) = if 0 ≤ dAll L m x n (L j).2.toNat then setF (oRound (oDig L m n x) (dAll L m x n) L x j) (L j).1.toNat (oRound (oDig L m n x) (dAll L m x n) L x j (L j).1.toNat ||| BitVec.twoPow 64 x) else oRound (oDig L m n x) (dAll L m x n) L x j) := fun j => rfl
      have hlast : Hid (oDig L m n (x + 1) = oRound (oDig L m n x) (dAll L m x n) L x m) := rfl
      have hsh : IntKind.u64.wrap (1 * 2 ^ x) = ((BitVec.twoPow 64 x).toNat : Int) := shl_bv x (by omega)
      generalize dAll L m x n = d at HD3 HO3 hnx hlast
      generalize oRound (oDig L m n x) d L x = F at HO3 hnx hlast
      clear hb ho hbl HX HO HB hgdr hgr hgd
      go_wp2_with fail
      go_loopw [9] (fun s wr => ∃ j : Nat, j ≤ m ∧ s = .int .i64 j ∧ Hid (OwnS wr 41 1 (.slice (some ⟨g, 0, none⟩) n n) n (wordsB (F j) n)) ∧ Hid (OwnS wr 3 1 (.slice (some ⟨gd, 0, none⟩) n cd) n (intsL d n)) ∧ Hid (Below w.heap.size w wr)) (fun s _ => m - (intOf s).toNat)
      case atStart => exact ⟨0, by omega, rfl, HO3, HD3, HB3⟩
      case round =>
        clear HO3 HD3 HB3
        obtain ⟨j, hj, rfl, HO, HD, HB⟩ := hrel
        by_cases hjm : j < m
        rotate_left
        · obtain rfl : j = m := by omega
          rw [← hlast.out] at HO
          go_wp2_with fail
          go_roundw
          case rel => exact ⟨x + 1, by omega, rfl, HO, HB⟩
          case measure => simp [intOf]; omega
        · have hjI : (j : Int) < m := by omega
          have hj0 : (0 : Int) ≤ j := by omega
          have wrj : IntKind.i64.wrap ((j : Int) + 1) = (j : Int) + 1 := by rw [IntKind.wrap_i64]; omega
          obtain ⟨ga, oa, rfl, hga, c0, c1⟩ := hA.out j hjm
          rw [← cell_below HB.out hga] at c0 c1
          obtain ⟨h1, h2, h3, h4⟩ := hgood.out j hjm
          obtain ⟨a, ea⟩ : ∃ a : Nat, (L j).1 = a := ⟨(L j).1.toNat, by omega⟩
          obtain ⟨b, eb⟩ : ∃ b : Nat, (L j).2 = b := ⟨(L j).2.toNat, by omega⟩
          rw [ea] at c0 h1 h2
          rw [eb] at c1 h3 h4
          have han : a < n := by omega
          have hbn : b < n := by omega
          have hstep : Hid (F (j + 1) = if 0 ≤ d b then setF (F j) a (F j a ||| BitVec.twoPow 64 x) else F j) := by
            have := hnx.out j
            rw [ea, eb, Int.toNat_natCast, Int.toNat_natCast] at this
            exact this
          replace ea := Lib.hid ea
          replace eb := Lib.hid eb
          obtain ⟨g', cap, cur, hv, _, hg, hnc, hcm, hcs, ht⟩ := HO.out.2.resolve_left (fun h => by omega)
          have hgg : g = g' := by simp at hv; exact hv.1
          subst hgg
          have s3 : wr.cell? ⟨g, a, none⟩ = some (.int .u64 ((F j a).toNat : Int)) := (World.ownsRow.cellAt HO.out a (by omega)).trans (wordsL_get _ n a han)
          have s4 := (World.ownsRow.cellAt HD.out b (by omega)).trans (intsL_get _ n b hbn)
          have s5 := free_at hg a
          clear hnc hcm hcs ht hv
          replace hg := Lib.hid hg
          by_cases q1 : 0 ≤ d b
          rotate_left
          · rw [if_neg q1] at hstep
            rw [← hstep.out] at HO
            go_wp2_with fail
            go_roundw
            case rel => exact ⟨j + 1, by omega, rfl, HO, HD, HB⟩
            case measure => simp [intOf]; omega
          · rw [if_pos q1] at hstep
            generalize hNe : F j a = N at s3 hstep
            replace hNe := Lib.hid hNe
            go_wp2_with fail
            clear s4 c1
            have hall := Lib.hid c0
            refine wp_region_held_drew (S := fun w' => w'.cell? ⟨ga, oa + j * 2, none⟩ = some (.int .i64 a) ∧ w'.frozen? ⟨g, a, none⟩ = false) (by kernel_rfl) ⟨c0, s5⟩ (fun hHeld => ?_)
            clear c0 s5
            refine wpAnyH_take (i := 0) (oi := ⟨some 39, _, _, _, _, _⟩) (v := ?_) rfl (by kernel_rfl) (by kernel_rfl) (by kernel_rfl) (fun _ _ _ h => h) (Or.inl ⟨by rfl, ?_⟩) hHeld ?_
            rotate_left
            · intro w' hSw
              obtain ⟨s1, s5⟩ := hSw
              go_simp
              try with_reducible rfl
            simp only [Act.put, List.setIfInBounds_toArray, List.set_cons_zero, List.set_cons_succ]
            refine wpAnyH_take (i := 1) (oi := ⟨some 40, _, _, _, _, _⟩) (v := ?_) rfl (by kernel_rfl) (by kernel_rfl) (by kernel_rfl) (fun _ _ _ h => h) (Or.inl ⟨by rfl, ?_⟩) hHeld ?_
            rotate_left
            · intro w' hSw
              obtain ⟨s1, s5⟩ := hSw
              go_simp
              try with_reducible rfl
            simp only [Act.put, List.setIfInBounds_toArray, List.set_cons_zero, List.set_cons_succ]
            refine wpAnyH_take (i := 2) (oi := ⟨some 41, _, _, _, _, _⟩) (v := ?_) rfl (by kernel_rfl) (by kernel_rfl) (by kernel_rfl) (fun _ _ _ h => h) (Or.inl ⟨by rfl, ?_⟩) hHeld ?_
            rotate_left
            · intro w' hSw
              obtain ⟨s1, s5⟩ := hSw
              go_simp
              try with_reducible rfl
            simp only [Act.put, List.setIfInBounds_toArray, List.set_cons_zero, List.set_cons_succ]
            refine wpAnyH_take (i := 3) (oi := ⟨some 42, _, _, _, _, _⟩) (v := ?_) rfl (by kernel_rfl) (by kernel_rfl) (by kernel_rfl) (fun _ _ _ h => h) (Or.inl ⟨by rfl, ?_⟩) hHeld ?_
            rotate_left
            · intro w' hSw
              obtain ⟨s1, s5⟩ := hSw
              go_simp
              try with_reducible rfl
            simp only [Act.put, List.setIfInBounds_toArray, List.set_cons_zero, List.set_cons_succ]
            refine wpAnyH_take (i := 4) (oi := ⟨some 43, _, _, _, _, _⟩) (v := ?_) rfl (by kernel_rfl) (by kernel_rfl) (by kernel_rfl) (fun _ _ _ h => h) (Or.inl ⟨by rfl, ?_⟩) hHeld ?_
            rotate_left
            · intro w' hSw
              obtain ⟨s1, s5⟩ := hSw
              go_simp
              try with_reducible rfl
            simp only [Act.put, List.setIfInBounds_toArray, List.set_cons_zero, List.set_cons_succ]
            refine wpAnyH_take (i := 5) (oi := ⟨some 44, _, _, _, _, _⟩) (v := ?_) rfl (by kernel_rfl) (by kernel_rfl) (by kernel_rfl) (fun _ _ _ h => h) (Or.inl ⟨by rfl, ?_⟩) hHeld ?_
            rotate_left
            · intro w' hSw
              obtain ⟨s1, s5⟩ := hSw
              go_simp
              try with_reducible rfl
            simp only [Act.put, List.setIfInBounds_toArray, List.set_cons_zero, List.set_cons_succ]
            refine wpAnyH_take (i := 6) (oi := ⟨some 45, _, _, _, _, _⟩) (v := ?_) rfl (by kernel_rfl) (by kernel_rfl) (by kernel_rfl) (fun _ _ _ h => h) (Or.inl ⟨by rfl, ?_⟩) hHeld ?_
            rotate_left
            · intro w' hSw
              obtain ⟨s1, s5⟩ := hSw
              go_simp
              try with_reducible rfl
            simp only [Act.put, List.setIfInBounds_toArray, List.set_cons_zero, List.set_cons_succ]
            refine wpAnyH_take (i := 8) (oi := ⟨some 47, _, _, _, _, _⟩) (v := ?_) rfl (by kernel_rfl) (by kernel_rfl) (by kernel_rfl) (fun _ _ _ h => h) (Or.inl ⟨by rfl, ?_⟩) hHeld ?_
            rotate_left
            · intro w' hSw
              obtain ⟨s1, s5⟩ := hSw
              go_simp
              try with_reducible rfl
            simp only [Act.put, List.setIfInBounds_toArray, List.set_cons_zero, List.set_cons_succ]
            refine wpAnyH_take (i := 9) (oi := ⟨some 48, _, _, _, _, _⟩) (v := ?_) rfl (by kernel_rfl) (by kernel_rfl) (by kernel_rfl) (fun _ _ _ h => h) (Or.inl ⟨by rfl, ?_⟩) hHeld ?_
            rotate_left
            · intro w' hSw
              obtain ⟨s1, s5⟩ := hSw
              go_simp
              try with_reducible rfl
            simp only [Act.put, List.setIfInBounds_toArray, List.set_cons_zero, List.set_cons_succ]
            refine wpAnyH_ready (rs := [7]) (by kernel_rfl) (by simp) ?_
            refine AllReadyH.cons (o := ⟨some 46, _, _, _, _, _⟩) rfl (fun K hK => ?_) AllReadyH.nil
            go_simp
            refine hK.out _ _ hHeld (fun hHeld => ?_)
            clear hK K
            try simp only [Act.put, List.setIfInBounds_toArray, List.set_cons_zero, List.set_cons_succ]
            refine wpAnyH_take (i := 10) (oi := ⟨some 49, _, _, _, _, _⟩) (v := ?_) rfl (by kernel_rfl) (by kernel_rfl) (by kernel_rfl) (fun _ _ _ h => h) (Or.inl ⟨by rfl, ?_⟩) hHeld ?_
            rotate_left
            · intro w' hSw
              obtain ⟨s1, s5⟩ := hSw
              go_simp
              try with_reducible rfl
            simp only [Act.put, List.setIfInBounds_toArray, List.set_cons_zero, List.set_cons_succ]
            refine wpAnyH_take (i := 11) (oi := ⟨some 50, _, _, _, _, _⟩) (v := ?_) rfl (by kernel_rfl) (by kernel_rfl) (by kernel_rfl) (fun _ _ _ h => h) (Or.inl ⟨by rfl, ?_⟩) hHeld ?_
            rotate_left
            · intro w' hSw
              obtain ⟨s1, s5⟩ := hSw
              go_simp
              try with_reducible rfl
            simp only [Act.put, List.setIfInBounds_toArray, List.set_cons_zero, List.set_cons_succ]
            refine wpAnyH_ready (rs := [12]) (by kernel_rfl) (by simp) ?_
            refine AllReadyH.cons (o := ⟨none, _, _, _, _, _⟩) rfl (fun K hK => ?_) AllReadyH.nil
            obtain ⟨-, s5⟩ := hHeld
            go_simp
            have oth : ∀ (u : Value) (g' o' : Nat), g' < w.heap.size → (wr.setCell ⟨g, a, none⟩ u).cell? ⟨g', o', none⟩ = wr.cell? ⟨g', o', none⟩ := fun u g' o' h => by
              simp only [World.cell?]
              rw [Below.heap_setCell _ _ _ _ (show g' ≠ g by omega)]
            refine hK.out _ _ ⟨(oth _ _ _ hga).trans hall.out, free_at (hDr (heap_set hg.out a _)) a⟩ (fun _ => ?_)
            clear hK K oth hall s5 s3
            refine wpAnyH_done (by kernel_rfl) ?_ _
            have hval : bits .or .u64 (N.toNat : Int) (IntKind.u64.wrap (2 ^ x)) = ((N ||| BitVec.twoPow 64 x).toNat : Int) := by
              rw [Int.one_mul] at hsh
              rw [hsh, bits_or_bv]
            have HO1 : OwnS (wr.setCell ⟨g, a, none⟩ (.int .u64 (bits .or .u64 (N.toNat : Int) (IntKind.u64.wrap (2 ^ x))))) 41 1 (.slice (some ⟨g, 0, none⟩) n n) n (wordsB (F (j + 1)) n) := by
              have h1 := OwnS.set (i := a) (u := .int .u64 ((N ||| BitVec.twoPow 64 x).toNat : Int)) HO.out
              rw [wordsB_set (F j) (F (j + 1)) a (N ||| BitVec.twoPow 64 x) (fun j => by rw [hstep.out]; rfl) n] at h1
              rw [hval]
              exact h1
            have HO2 := Lib.hid (HO1.keep ((Keeps.refl (fun _ => False) _).drew) (fun _ _ h => h))
            have HD2 := Lib.hid (HD.out.keep (((Keeps.refl (fun k => k = g) wr).setCell ⟨g, a, none⟩ (.int .u64 (bits .or .u64 (N.toNat : Int) (IntKind.u64.wrap (2 ^ x)))) (.inl rfl)).drew) (fun k hk h => by
              have : k = gd := by simpa [blk, Value.ownBlock] using hk
              omega))
            have HB2 := Lib.hid (bD (bS (p := ⟨g, a, none⟩) (u := .int .u64 (bits .or .u64 (N.toNat : Int) (IntKind.u64.wrap (2 ^ x)))) HB.out hgw))
            clear HO1 hval HO HD
            go_wp2_with fail
            go_roundw
            case rel => exact ⟨j + 1, by omega, rfl, HO2, HD2, HB2⟩
            case measure => simp [intOf]; omega
end Go.Proofs.Ytiollfjhfcaogaa
