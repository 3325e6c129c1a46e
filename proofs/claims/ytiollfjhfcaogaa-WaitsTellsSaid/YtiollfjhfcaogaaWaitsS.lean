import Derived.Test.YtiollfjhfcaogaaWaitsR
set_option linter.unusedSimpArgs false
set_option linter.unusedVariables false
namespace Go.Proofs.Ytiollfjhfcaogaa
open Go.RowKit

def FoundA (f : Value) (k : Nat) (L : Nat → Int × Int) (a b : Int) : Prop := ∃ t : Bool, f = .bool t ∧ (t = true ↔ ∃ j, j < k ∧ (L j).1 = a ∧ (L j).2 = b)
theorem FoundA.next {k : Nat} {L : Nat → Int × Int} {a b : Int} {t : Bool} (h : FoundA (.bool t) k L a b) (s : Bool) (hs : s = true ↔ t = true ∨ ((L k).1 = a ∧ (L k).2 = b)) : FoundA (.bool s) (k + 1) L a b := by
  obtain ⟨t', e, h⟩ := h
  obtain rfl : t = t' := by simpa using e
  refine ⟨s, rfl, ?_⟩
  rw [hs, h]
  constructor
  · rintro (⟨j, hj, h⟩ | h)
    · exact ⟨j, by omega, h⟩
    · exact ⟨k, by omega, h⟩
  · rintro ⟨j, hj, hh⟩
    by_cases e : j = k
    · subst e; exact .inr hh
    · exact .inl ⟨j, by omega, hh⟩
/-- what a circle's list is -/
def CircL (L : Nat → Int × Int) (m x : Nat) (l : List Nat) : Prop := 0 < l.length ∧ l.length ≤ 65 ∧ l.getD 0 0 = x ∧ (∀ i, i + 1 < l.length → Ed L m (l.getD i 0) (l.getD (i + 1) 0)) ∧ Ed L m (lastN l) x
theorem circle_is {w : World} {L : Nat → Int × Int} {n m x : Nat} {v : Value} (hg : GoodArcs n m L) (hn : n ≤ 64) (hx : x < n) (h : CircleAt w (spreadP zeroB L m) x n v) :
    (v = .slice none 0 0 ∧ ¬ Rch L m x x) ∨ (∃ l, LAt w (fun _ => False) v l ∧ CircL L m x l ∧ Rch L m x x) := by
  obtain ⟨r, hN, h⟩ := h
  rcases h with ⟨he, rfl⟩ | ⟨i, l, hl, hh, _, hv⟩
  · exact .inl ⟨rfl, bfs_none hg hn hx hN he⟩
  · have hm := List.mem_of_getElem? hl
    have hp := bfs_path (E := Ed L m) hn (fun a b => (tbit hg hn a b).1) r l hm
    have he : Ed L m (lastN l) x := (tbit hg hn _ _).1 hh
    obtain ⟨hb1, hb2, hb3⟩ := bfs_good hn hx (T := spreadP zeroB L m) r
    have h1 := (hb1 l hm).1
    have h2 := hb3 (List.ne_nil_of_mem hm)
    have h3 := cnt_le (bfs (spreadP zeroB L m) x n r).1
    exact .inr ⟨l, hv, ⟨hp.1, by omega, hp.2.1, hp.2.2, he⟩, hits_rch hp he⟩
set_option maxRecDepth 100000 in
set_option maxHeartbeats 1600000 in
theorem finds_wrong (n : Int) (ad : Option Addr) (m c : Nat) (L : Nat → Int × Int) (hm : m ≤ maxLen) (hbad : WrongP n m L) (w : World) (hA : Arcs w ad m L) :
    Calls Try.prog 5 #[.int .i64 n, .slice ad m c] w fun e w' => e = .returned (.bool true) ∧ Below w.heap.size w w' := by
  have HA := Lib.hid (awake_true w)
  have HD := Lib.hid (fun w1 => wt_digests_bad n ad m c L hm hbad w1)
  have hA := Lib.hid hA
  clear hbad
  go_enter Try.func5, Try.ntmps5
  go_wp2_with fail
  refine (HA.out).mono ?_
  rintro e w1 ⟨rfl, hb⟩
  have HB1 := Lib.hid hb
  clear hb HA
  go_wp2_with fail
  refine (HD.out _ (hA.out.keep HB1.out)).mono ?_
  rintro e w2 ⟨rfl, hb⟩
  have HB2 := Lib.hid (bT HB1.out hb)
  clear hb
  go_wp2_with fail
  go_ret
  exact ⟨rfl, HB2.out⟩
set_option maxRecDepth 100000 in
set_option maxHeartbeats 3200000 in
theorem finds_ok (n : Nat) (ad : Option Addr) (m c : Nat) (L : Nat → Int × Int) (hm : m ≤ maxLen) (hok : ¬ WrongP n m L) (w : World) (hA : Arcs w ad m L) :
    Calls Try.prog 5 #[.int .i64 n, .slice ad m c] w fun e w' => e = .returned (.bool true) ∧ Below w.heap.size w w' := by
  have hn : n ≤ 64 := Classical.byContradiction fun h => hok (.inr (.inl (by omega)))
  have hgood := Lib.hid (good_of hok)
  have HA := Lib.hid (awake_true w)
  have HD := Lib.hid (fun w1 => wt_digests n ad m c L hn hm hok w1)
  have HS := Lib.hid (fun a dc D w1 => wt_spread a n dc D ad m c L hn hm hok w1)
  have HC := Lib.hid (fun x hx w1 => wt_circle n x ad m c L hn hx hm hok w1)
  have hA := Lib.hid hA
  obtain ⟨i0, hi, hz0, hz1, hz2⟩ := info_parts Try.info_u64
  clear hok
  unfold maxLen at hm
  go_enter Try.func5, Try.ntmps5
  go_wp2_with fail
  refine (HA.out).mono ?_
  rintro e w1 ⟨rfl, hb⟩
  have HB1 := Lib.hid hb
  clear hb HA
  go_wp2_with fail
  refine (HD.out _ (hA.out.keep HB1.out)).mono ?_
  rintro e w2 ⟨N, v, ho, -, hfix, rfl, hb⟩
  obtain ⟨va, vc, rfl, hw⟩ := words_own ho
  have HW2 := Lib.hid hw
  have hA2 := Lib.hid (hA.out.keep (bT HB1.out hb))
  have HB2 := Lib.hid (bT HB1.out hb)
  have hdig := Lib.hid (digest_bits hgood.out hn hfix)
  have hsame : Hid (∀ j, j < n → ((spreadN L m n j).toNat : Int) = ((spreadN L m N j).toNat : Int)) := fun j hj => by
    have : spreadN L m n j = spreadN L m N j := by
      apply BitVec.eq_of_getLsbD_eq
      intro i hi
      have h1 := spread_n hgood.out hn j i hj
      have h2 := hdig.out j i hj
      cases ha : (spreadN L m n j).getLsbD i with
      | true => exact (h2.2 (h1.1 ha)).symm
      | false =>
        cases hb : (spreadN L m N j).getLsbD i with
        | false => rfl
        | true => rw [h1.2 (h2.1 hb)] at ha; cases ha
    rw [this]
  clear hb ho hw HD hfix hA
  generalize spreadN L m N = D at *
  go_wp2_with (at_make; refine wpList_make_full _ rfl _ _ 24 rfl w2.heap.size 41 i0 (.int .u64 0) 1 Try.underlying24 hi hz0 hz1 _ _ _ _ n rfl rfl rfl rfl (by rw [hz2]; omega) (by unfold maxLen; omega) (Nat.le_refl _) ?_; rintro w3 hown hg; (have HO : Hid (OwnS w3 41 1 (.slice (some ⟨w2.heap.size, 0, none⟩) n n) n (wordsB (spreadN L m 0) n)) := (by rw [zeros_words] at hown; exact OwnS.of hown)); (have HB3 : Hid (Below w2.heap.size w2 w3) := (bR).grown hg (Nat.le_refl _) (by simp)); clear hown hg)
  go_loopw [40, 7] (fun s v wr => ∃ i g cap, i ≤ n ∧ s = .int .i64 (i : Nat) ∧ v = .slice (some ⟨g, 0, none⟩) n cap ∧ Hid (OwnS wr 41 1 v n (wordsB (spreadN L m i) n)) ∧ Hid (Below w2.heap.size w2 wr)) (fun s _ _ => n - (intOf s).toNat)
  case atStart => exact ⟨0, _, _, by omega, rfl, rfl, HO, HB3⟩
  case round =>
    clear HO HB3
    obtain ⟨i, g, cap, hi, rfl, rfl, HO, HB⟩ := hrel
    by_cases hin : i < n
    · have hi' : (i : Int) < n := by omega
      have wri : IntKind.i64.wrap ((i : Int) + 1) = (i : Int) + 1 := by rw [IntKind.wrap_i64]; omega
      have hW1 : Words wr (some ⟨g, 0, none⟩) n (fun j => (((spreadN L m i) j).toNat : Int)) := by
        obtain ⟨ad', c', e, hw⟩ := words_own HO.out
        simp at e
        obtain ⟨rfl, _⟩ := e
        exact hw
      have HX := Lib.hid (HS.out ⟨g, 0, none⟩ cap (spreadN L m i) wr hW1 (hA2.out.keep HB.out))
      clear hW1
      go_wp2_with fail
      refine (HX.out).mono ?_
      rintro e w4 ⟨v, ho, -, rfl, hb⟩
      obtain ⟨g4, cap4, rfl, -, -⟩ := ho.has' (by omega)
      have HO4 : Hid (OwnS w4 41 1 (.slice (some ⟨g4, 0, none⟩) n cap4) n (wordsB (spreadN L m (i + 1)) n)) := ho
      have HB4 := Lib.hid (bT HB.out hb)
      clear hb ho HX HO HB
      go_wp2_with fail
      go_roundw
      case rel => exact ⟨i + 1, g4, cap4, by omega, rfl, rfl, HO4, HB4⟩
      case measure => simp [intOf]; omega
    · obtain rfl : i = n := by omega
      have HQ := Lib.hid (same_bits (some ⟨g, 0, none⟩) va i i cap vc _ _ (by unfold maxLen; omega) true ⟨fun _ => ⟨rfl, hsame.out⟩, fun _ => rfl⟩ wr (by
        obtain ⟨ad', c', e, hw⟩ := words_own HO.out
        simp at e
        obtain ⟨rfl, _⟩ := e
        exact hw) (HW2.out.keep HB.out))
      go_wp2_with fail
      refine (HQ.out).mono ?_
      rintro e w4 ⟨rfl, hb⟩
      have HB4 := Lib.hid (bT HB.out hb)
      clear hb HB HO HQ hsame
      go_wp2_with fail
      go_loopw [55] (fun s wr => ∃ x : Nat, x ≤ i ∧ s = .int .i64 x ∧ Hid (Below w2.heap.size w2 wr)) (fun s _ => i - (intOf s).toNat)
      case atStart => exact ⟨0, by omega, rfl, HB4⟩
      case round =>
        clear HB4
        obtain ⟨x, hx, rfl, HB⟩ := hrel
        by_cases hxn : x < i
        rotate_left
        · obtain rfl : x = i := by omega
          go_wp2_with fail
          go_ret
          exact ⟨rfl, bT HB2.out HB.out⟩
        · have hx' : (x : Int) < i := by omega
          have hx0 : (0 : Int) ≤ x := by omega
          have wrx : IntKind.i64.wrap ((x : Int) + 1) = (x : Int) + 1 := by rw [IntKind.wrap_i64]; omega
          have HX := Lib.hid (HC.out x hxn wr (hA2.out.keep HB.out))
          go_wp2_with fail
          refine (HX.out).mono ?_
          rintro e w5 ⟨cv, hcirc, rfl, hb⟩
          have HB5 := Lib.hid (bT HB.out hb)
          have hdx := hdig.out x x hxn
          have hcs := circle_is hgood.out hn hxn hcirc
          clear hb HX hcirc HB
          obtain ⟨gd, od, rfl, hgd, dx⟩ := (HW2.out.keep HB5.out) x hxn
          replace dx : w5.cell? ⟨gd, od + x, none⟩ = some (.int .u64 ((D x).toNat : Int)) := dx
          rcases hcs with ⟨rfl, hno⟩ | ⟨l, hla, hcl, hyes⟩
          · have b1 : (bits .and .u64 (((D x).toNat : Int) / 2 ^ x) 1 == 1) = false := by rw [and_bit, if_neg (fun h => hno (hdx.1 h))]; rfl
            replace hno := Lib.hid hno
            replace hdx := Lib.hid hdx
            go_wp2_with fail
            go_loopw [83] (fun s wr => s = .int .i64 0 ∧ wr = w5) (fun s _ => 0)
            case atStart => exact ⟨rfl, rfl⟩
            case round =>
              obtain ⟨rfl, rfl⟩ := hrel
              go_wp2_with fail
              go_roundw
              case rel => exact ⟨x + 1, by omega, rfl, HB5⟩
              case measure => simp [intOf]; omega
          · have b1 : (bits .and .u64 (((D x).toNat : Int) / 2 ^ x) 1 == 1) = true := by rw [and_bit, if_pos (hdx.2 hyes)]; rfl
            replace hyes := Lib.hid hyes
            replace hdx := Lib.hid hdx
            obtain ⟨gl, cl, rfl, hgl, -, hcell⟩ := hla
            obtain ⟨ln, hln⟩ : ∃ ln, l.length = ln := ⟨_, rfl⟩
            rw [hln]
            obtain ⟨h0, h65, hc0, hce, hcx⟩ := hcl
            have hcl := Lib.hid (And.intro hc0 (And.intro hce hcx))
            rw [hln] at h0 h65
            replace hln := Lib.hid hln
            have hlc : Hid (∀ i, i < ln → w5.cell? ⟨gl, i, none⟩ = some (.int .i64 (l.getD i 0 : Nat))) := fun i hi => hcell i _ (by
              rw [← hln.out] at hi
              rw [List.getD_eq_getElem?_getD, List.getElem?_eq_getElem hi]; rfl)
            clear hc0 hce hcx hcell
            have hlI : (0 : Int) < ln := by omega
            go_wp2_with fail
            go_loopw [83] (fun s wr => ∃ k : Nat, k ≤ ln ∧ s = .int .i64 k ∧ Hid (Below w5.heap.size w5 wr)) (fun s _ => ln - (intOf s).toNat)
            case atStart => exact ⟨0, by omega, rfl, bR⟩
            case round =>
              obtain ⟨k, hk, rfl, HB⟩ := hrel
              by_cases hkl : k < ln
              rotate_left
              · obtain rfl : k = ln := by omega
                clear dx
                go_wp2_with fail
                go_roundw
                case rel => exact ⟨x + 1, by omega, rfl, bT HB5.out HB.out⟩
                case measure => simp [intOf]; omega
              · have hk' : (k : Int) < ln := by omega
                have hk0 : (0 : Int) ≤ k := by omega
                have wrk : IntKind.i64.wrap ((k : Int) + 1) = (k : Int) + 1 := by rw [IntKind.wrap_i64]; omega
                have c0 := hlc.out 0 h0
                have ck := hlc.out k hkl
                rw [hcl.out.1] at c0
                rw [← cell_below HB.out hgl] at c0 ck
                obtain ⟨a, ha⟩ : ∃ a, l.getD k 0 = a := ⟨_, rfl⟩
                rw [ha] at ck
                by_cases hk1 : k + 1 < ln
                · obtain ⟨b, hb⟩ : ∃ b, l.getD (k + 1) 0 = b := ⟨_, rfl⟩
                  have ck1 := hlc.out (k + 1) hk1
                  rw [← cell_below HB.out hgl, hb] at ck1
                  have hed : Hid (Ed L m a b) := by
                    have := hcl.out.2.1 k (by rw [hln.out]; exact hk1)
                    rw [ha, hb] at this
                    exact this
                  have hk1' : (k : Int) + 1 < ln := by omega
                  replace ha := Lib.hid ha
                  replace hb := Lib.hid hb
                  go_wp2_with fail
                  go_loopw [101, 13] (fun s f wr => ∃ j : Nat, j ≤ m ∧ s = .int .i64 j ∧ FoundA f j L a b ∧ Hid (Below w5.heap.size w5 wr)) (fun s _ _ => m - (intOf s).toNat)
                  case atStart => exact ⟨0, by omega, rfl, ⟨false, rfl, ⟨fun h => (by cases h), fun ⟨j, hj, _⟩ => (by omega)⟩⟩, HB⟩
                  case round =>
                    clear HB c0 ck ck1
                    obtain ⟨j, hj, rfl, ⟨t, rfl, hft⟩, HB⟩ := hrel
                    by_cases hjm : j < m
                    rotate_left
                    · obtain rfl : j = m := by omega
                      have ht : t = true := hft.2 hed.out
                      subst ht
                      have c0 := hlc.out 0 h0
                      rw [hcl.out.1, ← cell_below HB.out hgl] at c0
                      clear dx
                      go_wp2_with fail
                      go_roundw
                      case rel => exact ⟨k + 1, by omega, rfl, HB⟩
                      case measure => simp [intOf]; omega
                    · have hj' : (j : Int) < m := by omega
                      have hj0 : (0 : Int) ≤ j := by omega
                      have wrj : IntKind.i64.wrap ((j : Int) + 1) = (j : Int) + 1 := by rw [IntKind.wrap_i64]; omega
                      obtain ⟨ga, oa, rfl, hga, d0, d1⟩ := (hA2.out.keep (bT HB5.out HB.out)) j hjm
                      have ck := hlc.out k hkl
                      rw [ha.out, ← cell_below HB.out hgl] at ck
                      obtain ⟨p, hp⟩ : ∃ p, (L j).1 = p := ⟨_, rfl⟩
                      obtain ⟨q, hq⟩ : ∃ q, (L j).2 = q := ⟨_, rfl⟩
                      rw [hp] at d0
                      rw [hq] at d1
                      replace hft : Hid (FoundA (.bool t) j L a b) := ⟨t, rfl, hft⟩
                      have hnext : Hid (∀ s : Bool, (s = true ↔ t = true ∨ (p = a ∧ q = b)) → FoundA (.bool s) (j + 1) L a b) := fun s hs => hft.out.next s (by rw [hp, hq]; exact hs)
                      clear hp hq
                      have hgl' : gl < wr.heap.size := Nat.lt_of_lt_of_le hgl HB.out.size
                      clear dx
                      go_wp2_with fail
                      have t1 : (wr.alloc (.cells #[.int .i64 p, .int .i64 q] 42)).cell? ⟨wr.heap.size, 0, none⟩ = some (.int .i64 p) := cell_at (hN rfl) 0
                      have t2 : (wr.alloc (.cells #[.int .i64 p, .int .i64 q] 42)).cell? ⟨wr.heap.size, 1, none⟩ = some (.int .i64 q) := cell_at (hN rfl) 1
                      have t3 := (cell_below (bA (o := .cells #[.int .i64 p, .int .i64 q] 42) (bR (w := wr))) hgl').trans ck
                      clear d0 d1 ck
                      cases t with
                      | true =>
                        have hf := Lib.hid (hnext.out true (by simp))
                        go_quiet (fail)
                        go_wp2_with fail
                        go_roundw
                        case rel => exact ⟨j + 1, by omega, rfl, hf.out, bN (bA HB.out) _⟩
                        case measure => simp [intOf]; omega
                      | false =>
                        by_cases e1 : p = a
                        · subst e1
                          by_cases e2 : q = b
                          · subst e2
                            have hf := Lib.hid (hnext.out true (by simp))
                            go_quiet (fail)
                            go_wp2_with fail
                            go_roundw
                            case rel => exact ⟨j + 1, by omega, rfl, hf.out, bN (bA HB.out) _⟩
                            case measure => simp [intOf]; omega
                          · have b3 : (q == (b : Int)) = false := by simpa using e2
                            have hf := Lib.hid (hnext.out false (by simp [e2]))
                            replace e2 := Lib.hid e2
                            go_quiet (fail)
                            go_wp2_with fail
                            go_roundw
                            case rel => exact ⟨j + 1, by omega, rfl, hf.out, bN (bA HB.out) _⟩
                            case measure => simp [intOf]; omega
                        · have b2 : (p == (a : Int)) = false := by simpa using e1
                          have hf := Lib.hid (hnext.out false (by simp [e1]))
                          replace e1 := Lib.hid e1
                          go_quiet (fail)
                          go_wp2_with fail
                          go_roundw
                          case rel => exact ⟨j + 1, by omega, rfl, hf.out, bN (bA HB.out) _⟩
                          case measure => simp [intOf]; omega
                · have hk1' : ¬ (k : Int) + 1 < ln := by omega
                  have hed : Hid (Ed L m a x) := by
                    have h1 := hcl.out.2.2
                    unfold lastN at h1
                    rw [hln.out, show ln - 1 = k by omega, ha] at h1
                    exact h1
                  replace ha := Lib.hid ha
                  go_wp2_with fail
                  go_loopw [101, 13] (fun s f wr => ∃ j : Nat, j ≤ m ∧ s = .int .i64 j ∧ FoundA f j L a x ∧ Hid (Below w5.heap.size w5 wr)) (fun s _ _ => m - (intOf s).toNat)
                  case atStart => exact ⟨0, by omega, rfl, ⟨false, rfl, ⟨fun h => (by cases h), fun ⟨j, hj, _⟩ => (by omega)⟩⟩, HB⟩
                  case round =>
                    clear HB c0 ck
                    obtain ⟨j, hj, rfl, ⟨t, rfl, hft⟩, HB⟩ := hrel
                    by_cases hjm : j < m
                    rotate_left
                    · obtain rfl : j = m := by omega
                      have ht : t = true := hft.2 hed.out
                      subst ht
                      have c0 := hlc.out 0 h0
                      rw [hcl.out.1, ← cell_below HB.out hgl] at c0
                      clear dx
                      go_wp2_with fail
                      go_roundw
                      case rel => exact ⟨k + 1, by omega, rfl, HB⟩
                      case measure => simp [intOf]; omega
                    · have hj' : (j : Int) < m := by omega
                      have hj0 : (0 : Int) ≤ j := by omega
                      have wrj : IntKind.i64.wrap ((j : Int) + 1) = (j : Int) + 1 := by rw [IntKind.wrap_i64]; omega
                      obtain ⟨ga, oa, rfl, hga, d0, d1⟩ := (hA2.out.keep (bT HB5.out HB.out)) j hjm
                      have ck := hlc.out k hkl
                      rw [ha.out, ← cell_below HB.out hgl] at ck
                      obtain ⟨p, hp⟩ : ∃ p, (L j).1 = p := ⟨_, rfl⟩
                      obtain ⟨q, hq⟩ : ∃ q, (L j).2 = q := ⟨_, rfl⟩
                      rw [hp] at d0
                      rw [hq] at d1
                      replace hft : Hid (FoundA (.bool t) j L a x) := ⟨t, rfl, hft⟩
                      have hnext : Hid (∀ s : Bool, (s = true ↔ t = true ∨ (p = a ∧ q = x)) → FoundA (.bool s) (j + 1) L a x) := fun s hs => hft.out.next s (by rw [hp, hq]; exact hs)
                      clear hp hq
                      have hgl' : gl < wr.heap.size := Nat.lt_of_lt_of_le hgl HB.out.size
                      clear dx
                      go_wp2_with fail
                      have t1 : (wr.alloc (.cells #[.int .i64 p, .int .i64 q] 42)).cell? ⟨wr.heap.size, 0, none⟩ = some (.int .i64 p) := cell_at (hN rfl) 0
                      have t2 : (wr.alloc (.cells #[.int .i64 p, .int .i64 q] 42)).cell? ⟨wr.heap.size, 1, none⟩ = some (.int .i64 q) := cell_at (hN rfl) 1
                      have t3 := (cell_below (bA (o := .cells #[.int .i64 p, .int .i64 q] 42) (bR (w := wr))) hgl').trans ck
                      clear d0 d1 ck
                      cases t with
                      | true =>
                        have hf := Lib.hid (hnext.out true (by simp))
                        go_quiet (fail)
                        go_wp2_with fail
                        go_roundw
                        case rel => exact ⟨j + 1, by omega, rfl, hf.out, bN (bA HB.out) _⟩
                        case measure => simp [intOf]; omega
                      | false =>
                        by_cases e1 : p = a
                        · subst e1
                          by_cases e2 : q = x
                          · subst e2
                            have hf := Lib.hid (hnext.out true (by simp))
                            go_quiet (fail)
                            go_wp2_with fail
                            go_roundw
                            case rel => exact ⟨j + 1, by omega, rfl, hf.out, bN (bA HB.out) _⟩
                            case measure => simp [intOf]; omega
                          · have b3 : (q == (x : Int)) = false := by simpa using e2
                            have hf := Lib.hid (hnext.out false (by simp [e2]))
                            replace e2 := Lib.hid e2
                            go_quiet (fail)
                            go_wp2_with fail
                            go_roundw
                            case rel => exact ⟨j + 1, by omega, rfl, hf.out, bN (bA HB.out) _⟩
                            case measure => simp [intOf]; omega
                        · have b2 : (p == (a : Int)) = false := by simpa using e1
                          have hf := Lib.hid (hnext.out false (by simp [e1]))
                          replace e1 := Lib.hid e1
                          go_quiet (fail)
                          go_wp2_with fail
                          go_roundw
                          case rel => exact ⟨j + 1, by omega, rfl, hf.out, bN (bA HB.out) _⟩
                          case measure => simp [intOf]; omega
theorem waitsFinds_walk (n : Int) (v1 : Value) (Ls : List (Int × Int)) (hn : -9223372036854775808 ≤ n ∧ n ≤ 9223372036854775807) (w : World) (h1 : ArcSl w v1 Ls) :
    Calls Try.prog 5 #[.int .i64 n, v1] w fun e w' => e = .returned (.bool true) ∧ Below w.heap.size w w' := by
  obtain ⟨ad, c, rfl, hm, hA, _⟩ := h1
  by_cases hbad : WrongP n Ls.length (fun j => Ls.getD j (0, 0))
  · exact finds_wrong n ad Ls.length c _ hm hbad w hA
  · obtain ⟨k, rfl⟩ : ∃ k : Nat, n = k := ⟨n.toNat, by have : ¬ n < 0 := fun h => hbad (.inl h); omega⟩
    exact finds_ok k ad Ls.length c _ hm hbad w hA
end Go.Proofs.Ytiollfjhfcaogaa
