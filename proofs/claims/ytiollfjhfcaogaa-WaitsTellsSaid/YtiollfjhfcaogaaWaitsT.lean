import Derived.Test.YtiollfjhfcaogaaWaitsS
set_option linter.unusedSimpArgs false
set_option linter.unusedVariables false
namespace Go.Proofs.Ytiollfjhfcaogaa
open Go.RowKit

/-! ### rows of numbers -/
def intsL (D : Nat → Int) : Nat → List Value
  | 0 => []
  | n + 1 => intsL D n ++ [.int .i64 (D n)]
theorem intsL_length (L : Nat → Int) : ∀ n, (intsL L n).length = n
  | 0 => rfl
  | n + 1 => by rw [intsL, List.length_append, intsL_length L n]; rfl
theorem intsL_get (L : Nat → Int) : ∀ n j, j < n → (intsL L n)[j]? = some (.int .i64 (L j))
  | 0, j, h => by omega
  | n + 1, j, h => by
    rw [intsL]
    by_cases e : j = n
    · subst e
      rw [List.getElem?_append_right (by rw [intsL_length]; omega), intsL_length]
      simp
    · rw [List.getElem?_append_left (by rw [intsL_length]; omega)]
      exact intsL_get L n j (by omega)
theorem intsL_set (D E : Nat → Int) (i : Nat) (x : Int) (hE : ∀ j, E j = if j = i then x else D j) : ∀ n, (intsL D n).set i (.int .i64 x) = intsL E n := by
  intro n
  apply List.ext_getElem?
  intro j
  rw [List.getElem?_set, intsL_length]
  by_cases hj : j < n
  · rw [intsL_get E n j hj, intsL_get D n j hj, hE j]
    by_cases e : i = j
    · subst e; simp [hj]
    · have e' : ¬ j = i := fun h => e h.symm
      simp [e, e']
  · rw [List.getElem?_eq_none (by rw [intsL_length]; omega : (intsL E n).length ≤ j), List.getElem?_eq_none (by rw [intsL_length]; omega : (intsL D n).length ≤ j)]
    by_cases e : i = j
    · subst e; simp [hj]
    · simp [e]
theorem zeros_ints (n : Nat) : (madeCells (Value.int .i64 0).cells (n * 1)).toList = intsL (fun _ => 0) n := by
  apply List.ext_getElem?
  intro j
  have hs : (madeCells (Value.int .i64 0).cells (n * 1)).toList.length = n := by
    rw [Array.length_toList, size_madeCells, Nat.mul_one]
  by_cases hj : j < n
  · rw [intsL_get _ n j hj]
    simp [madeCells, hj, Value.cells, Nat.mod_one]
  · rw [List.getElem?_eq_none (by omega), List.getElem?_eq_none (by rw [intsL_length]; omega)]
theorem ints_own {w : World} {v : Value} {m : Nat} {L : Nat → Int} (h : OwnS w 3 1 v m (intsL L m)) : ∃ ad c, v = .slice ad m c ∧ Ints w ad m L := by
  rcases h.2 with ⟨rfl, rfl⟩ | ⟨g, cap, cur, rfl, _, hg, _, _, _, ht⟩
  · exact ⟨none, 0, rfl, fun j hj => by omega⟩
  · refine ⟨_, _, rfl, fun j hj => ⟨g, 0, rfl, block_lt hg, ?_⟩⟩
    rw [Nat.zero_add, cell_at hg]
    have h1 := intsL_get L m j hj
    rw [← ht, List.getElem?_take] at h1
    rw [if_pos (by omega)] at h1
    simpa using h1
/-! ### the reference's distances -/
def setF {α : Type} (D : Nat → α) (i : Nat) (x : α) : Nat → α := fun j => if j = i then x else D j
def dStep (D : Nat → Int) (L : Nat → Int × Int) (k i : Nat) : Nat → Int :=
  if D (L i).1.toNat < 0 ∧ D (L i).2.toNat = k then setF D (L i).1.toNat (k + 1) else D
def dRound (D : Nat → Int) (L : Nat → Int × Int) (k : Nat) : Nat → Nat → Int
  | 0 => D
  | i + 1 => dStep (dRound D L k i) L k i
def dAll (L : Nat → Int × Int) (m x : Nat) : Nat → Nat → Int
  | 0 => setF (fun _ => -1) x 0
  | k + 1 => dRound (dAll L m x k) L k m
set_option maxRecDepth 100000 in
set_option maxHeartbeats 1600000 in
theorem rf_reach (n x : Nat) (ad : Option Addr) (m c : Nat) (L : Nat → Int × Int) (hn : n ≤ 64) (hx : x < n) (hm : m ≤ maxLen) (hgood : GoodArcs n m L) (w : World) (hA : Arcs w ad m L) :
    Calls Try.prog 22 #[.int .i64 n, .slice ad m c, .int .i64 x] w fun e w' => ∃ v, OwnS w' 3 1 v n (intsL (dAll L m x n) n) ∧ (∀ k ∈ blk v, w.heap.size ≤ k) ∧ e = .returned v ∧ Below w.heap.size w w' := by
  obtain ⟨i0, hi, hz0, hz1, hz2⟩ := info_parts Try.info_i64
  have hA := Lib.hid hA
  have hgood := Lib.hid hgood
  have hxI : (x : Int) < n := by omega
  unfold maxLen at hm
  go_enter Try.func22, Try.ntmps22
  go_wp2_with (at_make; refine wpList_make_full _ rfl _ _ 30 rfl w.heap.size 3 i0 (.int .i64 0) 1 Try.underlying30 hi hz0 hz1 _ _ _ _ n rfl rfl rfl rfl (by rw [hz2]; omega) (by unfold maxLen; omega) (Nat.le_refl _) ?_; rintro w2 hown hg; (have HO : Hid (OwnS w2 3 1 (.slice (some ⟨w.heap.size, 0, none⟩) n n) n (intsL (fun j => if j < 0 then -1 else 0) n)) := (by rw [zeros_ints] at hown; exact OwnS.of hown)); (have HB2 : Hid (Below w.heap.size w w2) := (bR).grown hg (Nat.le_refl _) (by simp)); clear hown hg)
  generalize hgz : w.heap.size = g at HO
  have hgw : w.heap.size ≤ g := Nat.le_of_eq hgz
  replace hgz := Lib.hid hgz
  go_loopw [8] (fun s wr => ∃ i : Nat, i ≤ n ∧ s = .int .i64 i ∧ Hid (OwnS wr 3 1 (.slice (some ⟨g, 0, none⟩) n n) n (intsL (fun j => if j < i then -1 else 0) n)) ∧ Hid (Below w.heap.size w wr)) (fun s _ => n - (intOf s).toNat)
  case atStart => exact ⟨0, by omega, rfl, HO, HB2⟩
  case round =>
    clear HO HB2
    obtain ⟨i, hin, rfl, HO, HB⟩ := hrel
    by_cases hi' : i < n
    · have hiI : (i : Int) < n := by omega
      have hi0 : (0 : Int) ≤ i := by omega
      have wri : IntKind.i64.wrap ((i : Int) + 1) = (i : Int) + 1 := by rw [IntKind.wrap_i64]; omega
      obtain ⟨g', cap, cur, hv, _, hg, hnc, hcm, hcs, ht⟩ := HO.out.2.resolve_left (fun h => by omega)
      have hgg : g = g' := by simp at hv; exact hv.1
      subst hgg
      have s3 := (World.ownsRow.cellAt HO.out i (by omega)).trans (intsL_get _ n i hi')
      have s5 := free_at hg i
      clear hnc hcm hcs ht hv
      replace hg := Lib.hid hg
      go_wp2_with fail
      have HO1 := OwnS.set (i := i) (u := .int .i64 (-1)) HO.out
      rw [intsL_set _ (fun j => if j < i + 1 then -1 else 0) i (-1) (fun j => by
        by_cases e : j = i
        · subst e; simp
        · by_cases e2 : j < i
          · rw [if_pos (by omega), if_neg e, if_pos e2]
          · rw [if_neg (by omega), if_neg e, if_neg e2])] at HO1
      have HO2 := Lib.hid HO1
      have HB2 := Lib.hid (bS (p := ⟨g, i, none⟩) (u := .int .i64 (-1)) HB.out hgw)
      clear HO1 HO
      go_roundw
      case rel => exact ⟨i + 1, by omega, rfl, HO2, HB2⟩
      case measure => simp [intOf]; omega
    · obtain rfl : i = n := by omega
      obtain ⟨g', cap, cur, hv, _, hg, hnc, hcm, hcs, ht⟩ := HO.out.2.resolve_left (fun h => by omega)
      have hgg : g = g' := by simp at hv; exact hv.1
      subst hgg
      have s3 := (World.ownsRow.cellAt HO.out x (by omega)).trans (intsL_get _ i x hx)
      have s5 := free_at hg x
      clear hnc hcm hcs ht hv
      replace hg := Lib.hid hg
      have HO1 := OwnS.set (i := x) (u := .int .i64 0) HO.out
      have HO2 : Hid (OwnS (wr.setCell ⟨g, x, none⟩ (.int .i64 0)) 3 1 (.slice (some ⟨g, 0, none⟩) i i) i (intsL (dAll L m x 0) i)) := by
        have e : (intsL (fun j => if j < i then -1 else 0) i).set x (.int .i64 0) = intsL (dAll L m x 0) i := by
          have e1 : intsL (fun j => if j < i then (-1 : Int) else 0) i = intsL (fun _ => -1) i := by
            apply List.ext_getElem?
            intro j
            by_cases hj : j < i
            · rw [intsL_get _ i j hj, intsL_get _ i j hj, if_pos hj]
            · rw [List.getElem?_eq_none (by rw [intsL_length]; omega), List.getElem?_eq_none (by rw [intsL_length]; omega)]
          rw [e1]
          exact intsL_set _ _ x 0 (fun j => rfl) i
        rw [e] at HO1
        exact HO1
      have HB2 := Lib.hid (bS (p := ⟨g, x, none⟩) (u := .int .i64 0) HB.out hgw)
      clear HO1 HO
      go_wp2_with fail
      go_loopw [9] (fun s wr => ∃ k : Nat, k ≤ i ∧ s = .int .i64 k ∧ Hid (OwnS wr 3 1 (.slice (some ⟨g, 0, none⟩) i i) i (intsL (dAll L m x k) i)) ∧ Hid (Below w.heap.size w wr)) (fun s _ => i - (intOf s).toNat)
      case atStart => exact ⟨0, by omega, rfl, HO2, HB2⟩
      case round =>
        clear HO2 HB2 HB s3 s5 hg
        obtain ⟨k, hk, rfl, HO, HB⟩ := hrel
        by_cases hkn : k < i
        rotate_left
        · obtain rfl : k = i := by omega
          go_wp2_with fail
          go_ret
          exact ⟨_, HO.out, fun k' hk' => by
            have : k' = g := by simpa [blk, Value.ownBlock] using hk'
            rw [this]; exact hgw, rfl, HB.out⟩
        · have hkI : (k : Int) < i := by omega
          have hk0 : (0 : Int) ≤ k := by omega
          have wrk : IntKind.i64.wrap ((k : Int) + 1) = (k : Int) + 1 := by rw [IntKind.wrap_i64]; omega
          go_wp2_with fail
          go_loopw [10] (fun s wr => ∃ j : Nat, j ≤ m ∧ s = .int .i64 j ∧ Hid (OwnS wr 3 1 (.slice (some ⟨g, 0, none⟩) i i) i (intsL (dRound (dAll L m x k) L k j) i)) ∧ Hid (Below w.heap.size w wr)) (fun s _ => m - (intOf s).toNat)
          case atStart => exact ⟨0, by omega, rfl, HO, HB⟩
          case round =>
            clear HO HB
            obtain ⟨j, hj, rfl, HO, HB⟩ := hrel
            by_cases hjm : j < m
            rotate_left
            · obtain rfl : j = m := by omega
              go_wp2_with fail
              go_roundw
              case rel => exact ⟨k + 1, by omega, rfl, HO, HB⟩
              case measure => simp [intOf]; omega
            · have hjI : (j : Int) < m := by omega
              have hj0 : (0 : Int) ≤ j := by omega
              have wrj : IntKind.i64.wrap ((j : Int) + 1) = (j : Int) + 1 := by rw [IntKind.wrap_i64]; omega
              obtain ⟨ga, oa, rfl, hga, c0, c1⟩ := hA.out j hjm
              rw [← cell_below HB.out hga] at c0 c1
              obtain ⟨h1, h2, h3, h4⟩ := hgood.out j hjm
              obtain ⟨a, ea⟩ : ∃ a : Nat, (L j).1 = a := ⟨(L j).1.toNat, by omega⟩
              obtain ⟨b, eb⟩ : ∃ b : Nat, (L j).2 = b := ⟨(L j).2.toNat, by omega⟩
              rw [ea] at c0 h1 h2
              rw [eb] at c1 h3 h4
              have han : a < i := by omega
              have hbn : b < i := by omega
              have hstep : Hid (dRound (dAll L m x k) L k (j + 1) = if dRound (dAll L m x k) L k j a < 0 ∧ dRound (dAll L m x k) L k j b = k then setF (dRound (dAll L m x k) L k j) a (k + 1) else dRound (dAll L m x k) L k j) := by
                show dStep _ L k j = _
                unfold dStep
                rw [ea, eb, Int.toNat_natCast, Int.toNat_natCast]
              replace ea := Lib.hid ea
              replace eb := Lib.hid eb
              generalize dRound (dAll L m x k) L k j = D at HO hstep
              obtain ⟨g', cap, cur, hv, _, hg, hnc, hcm, hcs, ht⟩ := HO.out.2.resolve_left (fun h => by omega)
              have hgg : g = g' := by simp at hv; exact hv.1
              subst hgg
              have s3 := (World.ownsRow.cellAt HO.out a (by omega)).trans (intsL_get _ i a han)
              have s4 := (World.ownsRow.cellAt HO.out b (by omega)).trans (intsL_get _ i b hbn)
              have s5 := free_at hg a
              clear hnc hcm hcs ht hv
              replace hg := Lib.hid hg
              by_cases q1 : D a < 0
              · by_cases q2 : D b = k
                · have b2 : (D b == (k : Int)) = true := by simpa using q2
                  rw [if_pos ⟨q1, q2⟩] at hstep
                  replace q2 := Lib.hid q2
                  have HO1 := OwnS.set (i := a) (u := .int .i64 ((k : Int) + 1)) HO.out
                  rw [intsL_set _ (setF D a (k + 1)) a ((k : Int) + 1) (fun j => rfl), ← hstep.out] at HO1
                  have HO2 := Lib.hid HO1
                  have HB2 := Lib.hid (bS (p := ⟨g, a, none⟩) (u := .int .i64 ((k : Int) + 1)) HB.out hgw)
                  clear HO1 HO
                  go_wp2_with fail
                  go_roundw
                  case rel => exact ⟨j + 1, by omega, rfl, HO2, HB2⟩
                  case measure => simp [intOf]; omega
                · have b2 : (D b == (k : Int)) = false := by simpa using q2
                  rw [if_neg (fun h => q2 h.2)] at hstep
                  replace q2 := Lib.hid q2
                  rw [← hstep.out] at HO
                  go_wp2_with fail
                  go_roundw
                  case rel => exact ⟨j + 1, by omega, rfl, HO, HB⟩
                  case measure => simp [intOf]; omega
              · rw [if_neg (fun h => q1 h.1)] at hstep
                rw [← hstep.out] at HO
                go_wp2_with fail
                go_roundw
                case rel => exact ⟨j + 1, by omega, rfl, HO, HB⟩
                case measure => simp [intOf]; omega
end Go.Proofs.Ytiollfjhfcaogaa
