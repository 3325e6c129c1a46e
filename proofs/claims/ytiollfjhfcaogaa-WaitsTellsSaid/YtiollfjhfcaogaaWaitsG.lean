import Derived.Test.YtiollfjhfcaogaaWaitsF
set_option linter.unusedSimpArgs false
set_option linter.unusedVariables false
namespace Go.Proofs.Ytiollfjhfcaogaa
open Go.RowKit

def spreadN (L : Nat → Int × Int) (m : Nat) : Nat → Nat → BitVec 64
  | 0 => fun _ => 0
  | i + 1 => spreadP (spreadN L m i) L m
theorem spreadP_le (D : Nat → BitVec 64) (L : Nat → Int × Int) (j : Nat) : ∀ k, (D j).toNat ≤ (spreadP D L k j).toNat
  | 0 => Nat.le_refl _
  | k + 1 => by
    have h := spreadP_le D L j k
    show _ ≤ (if (j : Int) = (L k).1 then _ else _ : BitVec 64).toNat
    split
    · rw [BitVec.toNat_or]; exact Nat.le_trans h Nat.left_le_or
    · exact h
def rdw (w : World) : Value → Nat → Nat
  | .slice (some ⟨g, o, _⟩) _ _, j => match w.cell? ⟨g, o + j, none⟩ with
    | some (.int _ i) => i.toNat
    | _ => 0
  | _, _ => 0
def sumN (f : Nat → Nat) : Nat → Nat
  | 0 => 0
  | n + 1 => sumN f n + f n
theorem sumN_congr {f g : Nat → Nat} : ∀ {n}, (∀ j, j < n → f j = g j) → sumN f n = sumN g n
  | 0, _ => rfl
  | n + 1, h => by rw [sumN, sumN, sumN_congr (fun j hj => h j (by omega)), h n (by omega)]
theorem sumN_le {f g : Nat → Nat} : ∀ {n}, (∀ j, j < n → f j ≤ g j) → sumN f n ≤ sumN g n
  | 0, _ => Nat.le_refl _
  | n + 1, h => by
    rw [sumN, sumN]
    exact Nat.add_le_add (sumN_le (fun j hj => h j (by omega))) (h n (by omega))
theorem sumN_lt {f g : Nat → Nat} : ∀ {n}, (∀ j, j < n → f j ≤ g j) → ∀ j, j < n → f j < g j → sumN f n < sumN g n
  | 0, _, j, hj, _ => by omega
  | n + 1, h, j, hj, hl => by
    rw [sumN, sumN]
    by_cases e : j = n
    · subst e
      exact Nat.add_lt_add_of_le_of_lt (sumN_le (fun i hi => h i (by omega))) hl
    · exact Nat.add_lt_add_of_lt_of_le (sumN_lt (fun i hi => h i (by omega)) j (by omega) hl) (h n (by omega))
def gapN (D : Nat → BitVec 64) (n : Nat) : Nat := sumN (fun j => 18446744073709551616 - (D j).toNat) n
theorem rdw_words {w : World} {v : Value} {n : Nat} {D : Nat → BitVec 64} (h : OwnS w 41 1 v n (wordsB D n)) : sumN (fun j => 18446744073709551616 - rdw w v j) n = gapN D n := by
  refine sumN_congr fun j hj => ?_
  obtain ⟨ad, c, rfl, hw⟩ := words_own h
  obtain ⟨g, o, rfl, hg, hc⟩ := hw j hj
  simp only [rdw, hc]
  omega
theorem gap_lt {D : Nat → BitVec 64} {L : Nat → Int × Int} {m n j : Nat} (hj : j < n) (h : spreadP D L m j ≠ D j) : gapN (spreadP D L m) n < gapN D n := by
  refine sumN_lt (fun i hi => ?_) j hj ?_
  · have := spreadP_le D L i m; omega
  · have h1 := spreadP_le D L j m
    have h2 : (spreadP D L m j).toNat ≠ (D j).toNat := fun e => h (BitVec.eq_of_toNat_eq e)
    have h3 := (spreadP D L m j).isLt
    omega
theorem zeros_words (n : Nat) : (madeCells (Value.int .u64 0).cells (n * 1)).toList = wordsB (fun _ => 0) n := by
  apply List.ext_getElem?
  intro j
  have hs : (madeCells (Value.int .u64 0).cells (n * 1)).toList.length = n := by
    rw [Array.length_toList, size_madeCells, Nat.mul_one]
  by_cases hj : j < n
  · rw [show (wordsB (fun _ => 0) n)[j]? = some (.int .u64 (((0 : BitVec 64)).toNat : Int)) from wordsL_get _ n j hj]
    simp [madeCells, hj, Value.cells, Nat.mod_one]
  · rw [List.getElem?_eq_none (by omega), List.getElem?_eq_none (by rw [show (wordsB (fun _ => 0) n).length = n from wordsL_length _ n]; omega)]
set_option maxHeartbeats 1600000 in
theorem wt_digests_bad (n : Int) (ad : Option Addr) (m c : Nat) (L : Nat → Int × Int) (hm : m ≤ maxLen) (hbad : WrongP n m L) (w : World) (hA : Arcs w ad m L) :
    Calls Try.prog 10 #[.int .i64 n, .slice ad m c] w fun e w' => e = .returned (.tuple #[.slice none 0 0, .int .i64 1]) ∧ Below w.heap.size w w' := by
  have HW := Lib.hid (wt_wrong n ad m c L hm true ⟨fun _ => hbad, fun _ => rfl⟩ w hA)
  clear hbad
  go_enter Try.func10, Try.ntmps10
  go_wp2_with fail
  refine (HW.out).mono ?_
  rintro e w1 ⟨rfl, hb⟩
  have HB1 := Lib.hid hb
  clear hb
  go_wp2_with fail
  go_ret2
  exact ⟨rfl, HB1.out⟩
set_option maxRecDepth 100000 in
set_option maxHeartbeats 1600000 in
theorem wt_digests (n : Nat) (ad : Option Addr) (m c : Nat) (L : Nat → Int × Int) (hn : n ≤ 64) (hm : m ≤ maxLen) (hok : ¬ WrongP n m L) (w : World) (hA : Arcs w ad m L) :
    Calls Try.prog 10 #[.int .i64 n, .slice ad m c] w fun e w' => ∃ N v, OwnS w' 41 1 v n (wordsB (spreadN L m N) n) ∧ (∀ k ∈ blk v, w.heap.size ≤ k) ∧ (∀ j, j < n → spreadP (spreadN L m N) L m j = spreadN L m N j) ∧ e = .returned (.tuple #[v, .int .i64 0]) ∧ Below w.heap.size w w' := by
  have HW := Lib.hid (wt_wrong n ad m c L hm false ⟨fun h => by simp at h, fun h => absurd h hok⟩ w hA)
  have HS : Hid (∀ (a : Addr) (dc : Nat) (D : Nat → BitVec 64) (w1 : World), Words w1 (some a) n (fun j => ((D j).toNat : Int)) → Arcs w1 ad m L → _) := fun a dc D w1 => wt_spread a n dc D ad m c L hn hm hok w1
  have HE : Hid (∀ (a1 a2 : Option Addr) (c d : Nat) (L M : Nat → Int) (b : Bool) (hb : b = true ↔ ∀ j, j < n → L j = M j) (w : World) (h1 : Words w a1 n L) (h2 : Words w a2 n M), _) := fun a1 a2 c d L M b hb w h1 h2 => sl_equal a1 a2 n n c d L M (by unfold maxLen; omega) b ⟨fun h => ⟨rfl, hb.1 h⟩, fun h => hb.2 h.2⟩ w h1 h2
  have hA := Lib.hid hA
  obtain ⟨i0, hi, hz0, hz1, hz2⟩ := info_parts Try.info_u64
  clear hok
  unfold maxLen at hm
  go_enter Try.func10, Try.ntmps10
  go_wp2_with fail
  refine (HW.out).mono ?_
  rintro e w1 ⟨rfl, hb⟩
  have HB1 := Lib.hid hb
  have hs1 := Lib.hid hb.size
  clear hb HW
  go_wp2_with (at_make; refine wpList_make_full _ rfl _ _ 24 rfl w1.heap.size 41 i0 (.int .u64 0) 1 Try.underlying24 hi hz0 hz1 _ _ _ _ n rfl rfl rfl rfl (by rw [hz2]; omega) (by unfold maxLen; omega) (Nat.le_refl _) ?_; rintro w2 hown hg; (have HO : Hid (OwnS w2 41 1 (.slice (some ⟨w1.heap.size, 0, none⟩) n n) n (wordsB (spreadN L m 0) n)) := (by rw [zeros_words] at hown; exact OwnS.of hown)); (have HB2 := Lib.hid (HB1.out.grown hg hs1.out (by simp))); clear hown hg HB1)
  go_loopw [6] (fun v wr => ∃ N g cap, v = .slice (some ⟨g, 0, none⟩) n cap ∧ w.heap.size ≤ g ∧ Hid (OwnS wr 41 1 v n (wordsB (spreadN L m N) n)) ∧ Hid (Below w.heap.size w wr)) (fun v wr => sumN (fun j => 18446744073709551616 - rdw wr v j) n)
  case atStart => exact ⟨0, _, _, rfl, hs1.out, HO, HB2⟩
  case round =>
    clear HO HB2 hs1
    obtain ⟨N, g, cap, rfl, hgw, HO, HB⟩ := hrel
    have hgw := Lib.hid hgw
    have hW1 : Words wr (some ⟨g, 0, none⟩) n (fun j => (((spreadN L m N) j).toNat : Int)) := by
      obtain ⟨ad', c', e, hw⟩ := words_own HO.out
      simp at e
      obtain ⟨rfl, _⟩ := e
      exact hw
    have HX := Lib.hid (HS.out ⟨g, 0, none⟩ cap (spreadN L m N) wr hW1 (hA.out.keep HB.out))
    have hW1 := Lib.hid hW1
    go_wp2_with fail
    refine (HX.out).mono ?_
    rintro e w3 ⟨v, ho, hbl, rfl, hb⟩
    obtain ⟨va, vc, rfl, hw⟩ := words_own ho
    have HO3 : Hid (OwnS w3 41 1 (.slice va n vc) n (wordsB (spreadN L m (N + 1)) n)) := ho
    have hbl3 : Hid (∀ k ∈ blk (.slice va n vc), w.heap.size ≤ k) := fun k hk => Nat.le_trans HB.out.size (hbl k hk)
    have HB3 := Lib.hid (bT HB.out hb)
    have hW2 : Words w3 (some ⟨g, 0, none⟩) n (fun j => (((spreadN L m N) j).toNat : Int)) := fun j hj => by
      obtain ⟨g', o, e, hg, hc⟩ := hW1.out j hj
      exact ⟨g', o, e, Nat.lt_of_lt_of_le hg hb.size, (cell_below hb hg).trans hc⟩
    have HON : Hid (OwnS w3 41 1 (.slice (some ⟨g, 0, none⟩) n cap) n (wordsB (spreadN L m N) n)) := HO.out.keep (Keeps.of_below (fun _ => False) hb) (fun _ _ h => h)
    obtain ⟨b, hbb⟩ : ∃ b : Bool, b = true ↔ (∀ j, j < n → ((spreadP (spreadN L m N) L m j).toNat : Int) = ((spreadN L m N j).toNat : Int)) := by
      by_cases h : (∀ j, j < n → ((spreadP (spreadN L m N) L m j).toNat : Int) = ((spreadN L m N j).toNat : Int))
      · exact ⟨true, by simpa using h⟩
      · exact ⟨false, by simpa using h⟩
    have HQ := Lib.hid (HE.out va (some ⟨g, 0, none⟩) vc cap _ _ b hbb w3 hw hW2)
    replace hbb := Lib.hid hbb
    clear hb ho hbl hw hW2 HX hW1
    go_wp2_with fail
    refine (HQ.out).mono ?_
    rintro e w4 ⟨rfl, hb⟩
    have HO4 : Hid (OwnS w4 41 1 (.slice va n vc) n (wordsB (spreadN L m (N + 1)) n)) := HO3.out.keep (Keeps.of_below (fun _ => False) hb) (fun _ _ h => h)
    have HON4 : Hid (OwnS w4 41 1 (.slice (some ⟨g, 0, none⟩) n cap) n (wordsB (spreadN L m N) n)) := HON.out.keep (Keeps.of_below (fun _ => False) hb) (fun _ _ h => h)
    have HB4 := Lib.hid (bT HB3.out hb)
    clear hb HO3 HON HB3 HQ
    cases b with
    | true =>
      go_wp2_with fail
      go_ret2
      refine ⟨N, _, HON4.out, fun k hk => ?_, fun j hj => ?_, rfl, HB4.out⟩
      · have : k = g := by simpa [blk, Value.ownBlock] using hk
        rw [this]; exact hgw.out
      · have := (hbb.out.1 (by simp)) j hj
        exact BitVec.eq_of_toNat_eq (by omega)
    | false =>
      have hne : Hid (∃ j, j < n ∧ spreadP (spreadN L m N) L m j ≠ spreadN L m N j) := by
        apply Classical.byContradiction
        intro hno
        have : false = true := hbb.out.2 (fun j hj => by
          have : spreadP (spreadN L m N) L m j = spreadN L m N j := Classical.byContradiction fun e => hno ⟨j, hj, e⟩
          rw [this])
        cases this
      go_wp2_with fail
      go_roundw
      case rel =>
        obtain ⟨j, hj, _⟩ := hne.out
        obtain ⟨g4, cap4, cur, hv, _⟩ := HO4.out.2.resolve_left (fun h => by omega)
        refine ⟨N + 1, g4, cap4, hv, ?_, HO4, HB4⟩
        exact hbl3.out g4 (by rw [hv]; simp [blk, Value.ownBlock])
      case measure =>
        obtain ⟨j, hj, h⟩ := hne.out
        rw [rdw_words HO4.out, rdw_words HO.out]
        exact gap_lt hj h
end Go.Proofs.Ytiollfjhfcaogaa
