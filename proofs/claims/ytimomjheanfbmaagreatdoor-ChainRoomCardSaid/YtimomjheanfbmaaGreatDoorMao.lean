import Derived.Test.YtimomjheanfbmaaGreatDoorMan
import Derived.Deep.DeepCutAuto
import Derived.Deep.CutBlock
import Derived.BigRegion
import Derived.Test.YtimomjheanfbmaaGreatDoorMak
import Derived.Test.YtimomjheanfbmaaGreatDoorMab
import Derived.Test.YtimomjheanfbmaaGreatDoorMac
set_option linter.unusedSimpArgs false
set_option linter.unusedVariables false
namespace Go.Proofs.YtimomjheanfbmaaGreatDoor
open Go.RowKit
open Go.Maps (Keyed int_keyed keyOf_int_mk)

/-- a ledger at lb: in its map B, in all T -/
def LgAt (w : World) (lb mb n : Nat) (B : Int → Nat × Nat) (T : Nat × Nat) : Prop := w.heap[lb]? = some (.cells #[.map (some mb)] 194 (0, 0)) ∧ BkAt w mb n B T ∧ lb ≠ mb
theorem LgAt.keep {S : Nat → Prop} {w w' : World} {lb mb n : Nat} {B : Int → Nat × Nat} {T : Nat × Nat} (h : LgAt w lb mb n B T) (hk : Keeps S w w') (h1 : ¬ S lb) (h2 : ¬ S mb) : LgAt w' lb mb n B T :=
  ⟨hk.keep h.1 h1, h.2.1.keep hk h2, h.2.2⟩
theorem LgAt.later {w w' : World} {lb mb n : Nat} {B : Int → Nat × Nat} {T : Nat × Nat} (h : LgAt w lb mb n B T) (hb : Below w.heap.size w w') : LgAt w' lb mb n B T := h.keep (Keeps.of_below (fun _ => False) hb) (fun h => h) (fun h => h)
theorem LgAt.lt {w : World} {lb mb n : Nat} {B : Int → Nat × Nat} {T : Nat × Nat} (h : LgAt w lb mb n B T) : lb < w.heap.size ∧ mb < w.heap.size := ⟨block_lt h.1, h.2.1.lt⟩
theorem key_int {key : Value} {kl : Lit} (h : keyOf Tryz.prog 3 key = some kl) : ∃ x : Int, key = .int .i64 x := by
  obtain ⟨x, rfl, _⟩ := Maps.keyOf_int_inv Tryz.underlying3 h
  exact ⟨x, rfl⟩
theorem elem_cx {v : Value} {y : DataW Unit × List MemPlace} (h : cxR v = some y) : ∃ c : Nat × Nat, v = .complex .f64 (flB c.1) (flB c.2) := by
  obtain ⟨a, b, _, _, rfl, _⟩ := cxR_inv h
  exact ⟨(a, b), rfl⟩
theorem flB_inj {a b : Nat} (ha : a < 2 ^ 53) (hb : b < 2 ^ 53) (h : flB a = flB b) : a = b := by rw [← numN_fl a ha, h, numN_fl b hb]
theorem cx_bits {v1 v2 w1 w2 : Nat} (h : Value.complex .f64 v1 v2 = Value.complex .f64 w1 w2) : v1 = w1 ∧ v2 = w2 := by injection h with _ h1 h2; exact ⟨h1, h2⟩
theorem sumE_none (f : DataW Unit → Nat) (p : Lit → Bool) : ∀ (l : List (Lit × DataW Unit)), (∀ x, p x = false) → sumE f p l = 0
  | [], _ => rfl
  | y :: l, h => by rw [sumE, h, sumE_none f p l h]; rfl
theorem tot_has {w : World} {b n : Nat} {D : DataW Unit} (h : w.ownsMap Tryz.prog 3 cxR b n D) : totD (Maps.has D) D = totD (fun _ => true) D := by
  obtain ⟨es, rfl, h1, h2⟩ := h.entries (int_keyed Tryz.underlying3)
  have : ∀ x ∈ es, Maps.has (DataW.map es) x.1 = true := fun x hx => List.any_eq_true.2 ⟨x, hx, WideAt.sameKey_self (h2 x hx)⟩
  unfold totD entsOf
  dsimp only
  rw [sumE_same fB _ (fun _ => true) es this, sumE_same fP _ (fun _ => true) es this]
set_option maxRecDepth 100000 in
set_option maxHeartbeats 400000 in
theorem lg_sum {w : World} {lb mb n : Nat} {B : Int → Nat × Nat} {T : Nat × Nat} (h : LgAt w lb mb n B T) (hT : T.1 < 2 ^ 53 ∧ T.2 < 2 ^ 53) :
    Calls Tryz.prog 86 #[.pointer (some ⟨lb, 0, none⟩)] w fun e w' => e = .returned (.complex .f64 (flB T.1) (flB T.2)) ∧ Below w.heap.size w w' := by
  obtain ⟨hc, ⟨D, hD, hB, hTD⟩, hne⟩ := h
  have C0 := cell_at hc 0
  have HD := Lib.hid hD
  have HTD := Lib.hid hTD
  have HT := Lib.hid hT
  clear hc hD hB hTD hT hne
  go_enter Tryz.func86, Tryz.ntmps86
  go_wp2_with (refine wpList_range_own _ rfl _ 192 rfl 3 96 (int_keyed Tryz.underlying3) Tryz.underlying192 cxR mb n D rfl HD.out (fun w0 hrg0 hg0 hs0 => ?_))
  have HR0 := Lib.hid hrg0
  have HB0 : Hid (Below w.heap.size w w0) := ((Keeps.refl (fun _ => False) w).grown hg0 (fun j hj => by cases hj)).below
  clear hrg0 hg0 hs0 C0
  go_frame
  go_loopw [3] (fun x wr => ∃ (left : Lit → Bool) (cnt s1 s2 : Nat), x = .complex .f64 (flB s1) (flB s2) ∧ Hid (wr.ranges Tryz.prog 3 cxR mb w.heap.size n D left cnt) ∧ Hid (s1 + (totD left D).1 = T.1 ∧ s2 + (totD left D).2 = T.2) ∧ Hid (Below w.heap.size w wr)) (fun _ wr => wr.rangeLeft mb w.heap.size)
  case atStart => exact ⟨_, _, 0, 0, rfl, HR0, by show _ ∧ _; rw [tot_has HD.out, HTD.out]; exact ⟨Nat.zero_add _, Nat.zero_add _⟩, HB0⟩
  case round =>
    obtain ⟨left, cnt, s1, s2, rfl, HR, HS, HB⟩ := hrel
    go_upto_region 7 with (refine wpList_next_ranges _ rfl _ rfl 3 (int_keyed Tryz.underlying3) cxR (Value.int .i64) (fun c : Nat × Nat => .complex .f64 (flB c.1) (flB c.2)) (fun _ _ h => key_int h) (fun _ _ h => elem_cx h) mb w.heap.size n D left cnt rfl HR.out (fun hc0 hl0 => ?_) (fun x c kl y w1 cnt1 hkey hlk hv hat hrg1 hlt hg1 hs1 hen => ?_))
    · go_ret
      have e1 : totD left D = (0, 0) := by unfold totD; rw [sumE_none _ _ _ hl0, sumE_none _ _ _ hl0]
      have hS := HS.out
      rw [e1] at hS
      obtain ⟨q1, q2⟩ := hS
      rw [Nat.add_zero] at q1 q2
      have e2 : (.returned (.complex .f64 (flB s1) (flB s2)) : Ending) = .returned (.complex .f64 (flB T.1) (flB T.2)) := by rw [q1, q2]
      exact ⟨e2, HB.out⟩
    · obtain ⟨a, b, ha, hb, he, hz⟩ := cxR_inv hv
      obtain ⟨e1, e2⟩ := cx_bits he
      have hsp := split_tot hrg1.owns left kl (fun z hz => by rw [WideAt.sameKey_eq hz]; exact hlk)
      rw [hat, hz] at hsp
      simp only [valD_dV] at hsp
      have hS := HS.out
      rw [hsp] at hS
      obtain ⟨q1, q2⟩ := hS
      have hT := HT.out
      have hadd := run_complex_sum (P := Tryz.prog) w1 .add (.inl rfl) 96 .f64 (flB s1) (flB s2) (flB a) (flB b) (flB (s1 + a)) (flB (s2 + b)) (by unfold cSumBits; rw [fl_add s1 a (by omega), fl_add s2 b (by omega)]; rfl)
      rw [e1, e2] at hen ⊢
      have HR1 := Lib.hid hrg1
      have HB1 : Hid (Below w.heap.size w w1) := (HB.out.trans (((Keeps.refl (fun q => q = w.heap.size) wr).grown hg1 (fun j hj => .inl (by injection hj with hj; exact hj.symm))).belowB HB.out.size (fun k hk => by omega)))
      have HS1 : Hid ((s1 + a) + (totD (fun z => left z && !z.sameKey kl) D).1 = T.1 ∧ (s2 + b) + (totD (fun z => left z && !z.sameKey kl) D).2 = T.2) := ⟨by omega, by omega⟩
      have hmeas : Hid (w1.rangeLeft mb w.heap.size < wr.rangeLeft mb w.heap.size) := by show _ < _; rw [hrg1.left_eq, HR.out.left_eq]; exact hlt
      clear hv hat hrg1 hlt hg1 hs1 he hz hsp q1 q2 hkey hlk e1 e2
      go_wp2_with fail
      go_roundw
      case rel => exact ⟨_, cnt1, s1 + a, s2 + b, rfl, HR1, HS1, HB1⟩
      case measure => exact hmeas.out
end Go.Proofs.YtimomjheanfbmaaGreatDoor

namespace Go.Proofs.YtimomjheanfbmaaGreatDoor
open Go.RowKit

theorem add_run (a b c d : Nat) (h1 : a + c < 2 ^ 53) (h2 : b + d < 2 ^ 53) (ty : TypeId) (w : World) : (binOp .add ty (.complex .f64 (flB a) (flB b)) (.complex .f64 (flB c) (flB d))).run Tryz.prog w = .ok (.complex .f64 (flB (a + c)) (flB (b + d))) w :=
  run_complex_sum (P := Tryz.prog) w .add (.inl rfl) ty .f64 (flB a) (flB b) (flB c) (flB d) (flB (a + c)) (flB (b + d)) (by unfold cSumBits; rw [fl_add a c h1, fl_add b d h2]; rfl)
theorem sub_run (a b c d : Nat) (h1 : a < 2 ^ 53) (h2 : b < 2 ^ 53) (h3 : c ≤ a) (h4 : d ≤ b) (ty : TypeId) (w : World) : (binOp .sub ty (.complex .f64 (flB a) (flB b)) (.complex .f64 (flB c) (flB d))).run Tryz.prog w = .ok (.complex .f64 (flB (a - c)) (flB (b - d))) w :=
  run_complex_sum (P := Tryz.prog) w .sub (.inr rfl) ty .f64 (flB a) (flB b) (flB c) (flB d) (flB (a - c)) (flB (b - d)) (by unfold cSumBits; rw [fl_sub a c h1 h3, fl_sub b d h2 h4]; rfl)
def MostOk (T : Nat × Nat) : Prop := T.1 ≤ 1099511627776 ∧ T.2 ≤ 1099511627776
def addB (B : Int → Nat × Nat) (k : Int) (a b : Nat) : Int → Nat × Nat := fun i => if i = k then ((B k).1 + a, (B k).2 + b) else B i
def subB (B : Int → Nat × Nat) (k : Int) (a b : Nat) : Int → Nat × Nat := fun i => if i = k then ((B k).1 - a, (B k).2 - b) else B i
def delB (B : Int → Nat × Nat) (k : Int) : Int → Nat × Nat := fun i => if i = k then (0, 0) else B i
def RngK (k : Int) : Prop := -9223372036854775808 ≤ k ∧ k ≤ 9223372036854775807
set_option maxRecDepth 100000 in
theorem lg_new (w : World) : Calls Tryz.prog 98 #[] w fun e w' => ∃ lb mb, e = .returned (.pointer (some ⟨lb, 0, none⟩)) ∧ LgAt w' lb mb 0 (fun _ => (0, 0)) (0, 0) ∧ Below w.heap.size w w' ∧ w.heap.size ≤ lb ∧ w.heap.size ≤ mb := by
  have hmm := @run_makeMap Tryz.prog
  go_enter Tryz.func98, Tryz.ntmps98
  go_wp2_with fail
  go_ret
  refine ⟨(w.alloc (.map #[] 0)).heap.size, w.heap.size, by simp, ⟨hN rfl, (BkAt.made w).keep (S := fun _ => False) ((Keeps.refl _ _).alloc _) (fun h => h), by simp⟩, bA (bA bR), by simp, Nat.le_refl _⟩
set_option maxRecDepth 100000 in
set_option maxHeartbeats 400000 in
theorem lg_take {w : World} {lb mb n : Nat} {B : Int → Nat × Nat} {T : Nat × Nat} (h : LgAt w lb mb n B T) (hT : MostOk T) (hn : n < 1000000000000) (k : Int) (hk : RngK k) (a b fa fb : Nat) (hc : MostOk (a, b)) (hf : MostOk (fa, fb)) :
    Calls Tryz.prog 53 #[.pointer (some ⟨lb, 0, none⟩), .int .i64 k, .complex .f64 (flB a) (flB b), .complex .f64 (flB fa) (flB fb)] w fun e w' =>
      (¬ (a + T.1 ≤ fa ∧ b + T.2 ≤ fb) ∧ e = .returned (.tuple #[.bool false, .int .i64 0]) ∧ LgAt w' lb mb n B T ∧ Below w.heap.size w w') ∨
      ((a + T.1 ≤ fa ∧ b + T.2 ≤ fb) ∧ e = .returned (.tuple #[.bool true, .int .i64 0]) ∧ LgAt w' lb mb (n + 1) (addB B k a b) (T.1 + a, T.2 + b) ∧ Keeps (· = mb) w w') := by
  obtain ⟨t1, t2⟩ := hT
  obtain ⟨c1, c2⟩ := hc
  obtain ⟨f1, f2⟩ := hf
  dsimp only at c1 c2 f1 f2
  have HA1 := Lib.hid (lg_amount a b (by omega) (by omega))
  have HA2 := Lib.hid (lg_amount fa fb (by omega) (by omega))
  rw [show (whN a && whN b) = true by unfold whN; rw [decide_eq_true c1, decide_eq_true c2]; rfl] at HA1
  rw [show (whN fa && whN fb) = true by unfold whN; rw [decide_eq_true f1, decide_eq_true f2]; rfl] at HA2
  have HS := Lib.hid (lg_sum h ⟨by omega, by omega⟩)
  have HL := Lib.hid h
  have hadd := add_run a b T.1 T.2 (by omega) (by omega) 96
  have HF := Lib.hid (lg_fits (a + T.1) (b + T.2) fa fb (by omega) (by omega) (by omega) (by omega))
  have hle := h.2.1.le k
  have hsum := add_run (B k).1 (B k).2 a b (by omega) (by omega) 96
  have hbd : Hid ((B k).1 + a < 2 ^ 53 ∧ (B k).2 + b < 2 ^ 53) := ⟨by omega, by omega⟩
  have hle2 := Lib.hid hle
  have hn2 := Lib.hid hn
  have hk2 := Lib.hid hk
  clear h t1 t2 c1 c2 f1 f2 hle hn hk
  by_cases hfit : a + T.1 ≤ fa ∧ b + T.2 ≤ fb
  · rw [decide_eq_true hfit.1, decide_eq_true hfit.2] at HF
    replace hfit := Lib.hid hfit
    go_enter Tryz.func53, Tryz.ntmps53
    go_wp2_with fail
    refine (HA1.out _).mono ?_
    rintro e w1 ⟨rfl, rfl⟩
    go_wp2_with fail
    refine (HA2.out _).mono ?_
    rintro e w1 ⟨rfl, rfl⟩
    go_wp2_with fail
    refine (HS.out).mono ?_
    rintro e w1 ⟨rfl, hb⟩
    have HL1 := Lib.hid (HL.out.later hb)
    have hK1 : Hid (Keeps (· = mb) w w1) := Keeps.of_below _ hb
    clear hb HS
    go_wp2_with fail
    refine (HF.out _).mono ?_
    rintro e w2 ⟨rfl, rfl⟩
    have C0 := cell_at HL1.out.1 0
    have hget := HL1.out.2.1.get k hk2.out
    obtain ⟨w2, hup, hm2, hk3⟩ := HL1.out.2.1.put (by unfold maxLen; have := hn2.out; omega) k hk2.out ((B k).1 + a) ((B k).2 + b) hbd.out.1 hbd.out.2
    have HM2 := Lib.hid hm2
    have HK2 := Lib.hid hk3
    clear hm2 hk3
    go_wp2_with fail
    go_ret2
    refine .inr ⟨hfit.out, rfl, ⟨HK2.out.keep HL1.out.1 HL1.out.2.2, ?_, HL1.out.2.2⟩, hK1.out.trans HK2.out (fun k _ h => h)⟩
    have h2 := HM2.out
    have h3 := hle2.out
    rw [show T.1 - (B k).1 + ((B k).1 + a) = T.1 + a by omega, show T.2 - (B k).2 + ((B k).2 + b) = T.2 + b by omega] at h2
    exact h2
  · have hff : (decide (a + T.1 ≤ fa) && decide (b + T.2 ≤ fb)) = false := by
      by_cases h1 : a + T.1 ≤ fa
      · by_cases h2 : b + T.2 ≤ fb
        · exact absurd ⟨h1, h2⟩ hfit
        · rw [decide_eq_false h2]; simp
      · rw [decide_eq_false h1]; rfl
    rw [hff] at HF
    replace hfit := Lib.hid hfit
    clear hff
    go_enter Tryz.func53, Tryz.ntmps53
    go_wp2_with fail
    refine (HA1.out _).mono ?_
    rintro e w1 ⟨rfl, rfl⟩
    go_wp2_with fail
    refine (HA2.out _).mono ?_
    rintro e w1 ⟨rfl, rfl⟩
    go_wp2_with fail
    refine (HS.out).mono ?_
    rintro e w1 ⟨rfl, hb⟩
    have HL1 := Lib.hid (HL.out.later hb)
    have hK1 := Lib.hid hb
    clear hb HS
    go_wp2_with fail
    refine (HF.out _).mono ?_
    rintro e w2 ⟨rfl, rfl⟩
    go_wp2_with fail
    go_ret2
    exact .inl ⟨hfit.out, rfl, HL1.out, hK1.out⟩
set_option maxRecDepth 100000 in
theorem lg_own {w : World} {lb mb n : Nat} {B : Int → Nat × Nat} {T : Nat × Nat} (h : LgAt w lb mb n B T) (k : Int) (hk : RngK k) :
    Calls Tryz.prog 103 #[.pointer (some ⟨lb, 0, none⟩), .int .i64 k] w fun e w' => e = .returned (.complex .f64 (flB (B k).1) (flB (B k).2)) ∧ w = w' := by
  have C0 := cell_at h.1 0
  have hget := h.2.1.get k hk
  clear h
  go_enter Tryz.func103, Tryz.ntmps103
  go_wp2_with fail
  go_ret
  exact ⟨rfl, rfl⟩
set_option maxRecDepth 100000 in
theorem lg_drop {w : World} {lb mb n : Nat} {B : Int → Nat × Nat} {T : Nat × Nat} (h : LgAt w lb mb n B T) (k : Int) (hk : RngK k) :
    Calls Tryz.prog 87 #[.pointer (some ⟨lb, 0, none⟩), .int .i64 k] w fun e w' => e = .returned (.tuple #[]) ∧ LgAt w' lb mb n (delB B k) (T.1 - (B k).1, T.2 - (B k).2) ∧ Keeps (· = mb) w w' := by
  have C0 := cell_at h.1 0
  obtain ⟨w2, hup, hm2, hk2⟩ := h.2.1.del k hk 0
  have HL := Lib.hid h
  have HM2 := Lib.hid hm2
  have HK2 := Lib.hid hk2
  clear h hm2 hk2
  go_enter Tryz.func87, Tryz.ntmps87
  go_wp2_with fail
  exact bodyPost_end (results_none Tryz.results87 _ _ _) rfl ⟨rfl, ⟨HK2.out.keep HL.out.1 HL.out.2.2, HM2.out, HL.out.2.2⟩, HK2.out⟩
set_option maxRecDepth 100000 in
set_option maxHeartbeats 400000 in
theorem lg_give {w : World} {lb mb n : Nat} {B : Int → Nat × Nat} {T : Nat × Nat} (h : LgAt w lb mb n B T) (hT : MostOk T) (hn : n < 1000000000000) (k : Int) (hk : RngK k) (a b : Nat) (hc : a ≤ (B k).1 ∧ b ≤ (B k).2) :
    Calls Tryz.prog 56 #[.pointer (some ⟨lb, 0, none⟩), .int .i64 k, .complex .f64 (flB a) (flB b)] w fun e w' =>
      e = .returned (.int .i64 0) ∧ LgAt w' lb mb (n + 1) (subB B k a b) (T.1 - a, T.2 - b) ∧ Keeps (· = mb) w w' := by
  obtain ⟨t1, t2⟩ := hT
  obtain ⟨c1, c2⟩ := hc
  have hle := h.2.1.le k
  have HA1 := Lib.hid (lg_amount a b (by omega) (by omega))
  rw [show (whN a && whN b) = true by unfold whN; rw [decide_eq_true (by omega), decide_eq_true (by omega)]; rfl] at HA1
  have HO := Lib.hid (lg_own h k hk)
  have HL := Lib.hid h
  have HF := Lib.hid (lg_fits a b (B k).1 (B k).2 (by omega) (by omega) (by omega) (by omega))
  rw [decide_eq_true c1, decide_eq_true c2] at HF
  have hsub := sub_run (B k).1 (B k).2 a b (by omega) (by omega) c1 c2 96
  have C0 := cell_at h.1 0
  have hget := h.2.1.get k hk
  obtain ⟨w2, hup, hm2, hk2⟩ := h.2.1.put (by unfold maxLen; omega) k hk ((B k).1 - a) ((B k).2 - b) (by omega) (by omega)
  have C2 := cell_at (hk2.keep h.1 h.2.2) 0
  have hget2 := hm2.get k hk
  rw [if_pos rfl] at hget2
  have hz1 := ord_eq ((B k).1 - a) 0 (by omega) (by decide)
  have hz2 := ord_eq ((B k).2 - b) 0 (by omega) (by decide)
  rw [show flB 0 = 0 from rfl] at hz1 hz2
  have hTT : Hid (T.1 - (B k).1 + ((B k).1 - a) = T.1 - a ∧ T.2 - (B k).2 + ((B k).2 - b) = T.2 - b) := ⟨by omega, by omega⟩
  have hSB : Hid ((fun i => if i = k then ((B k).1 - a, (B k).2 - b) else B i) = subB B k a b) := rfl
  by_cases hzero : (B k).1 - a = 0 ∧ (B k).2 - b = 0
  · rw [decide_eq_true hzero.1] at hz1
    rw [decide_eq_true hzero.2] at hz2
    obtain ⟨w3, hdel, hm3, hk3⟩ := hm2.del k hk 0
    have HK3 : Hid (Keeps (· = mb) w w3) := hk2.trans hk3 (fun k _ h => h)
    have HM3 : Hid (BkAt w3 mb (n + 1) (subB B k a b) (T.1 - a, T.2 - b)) := by
      have e1 : ((fun i => if i = k then (0, 0) else (fun i => if i = k then ((B k).1 - a, (B k).2 - b) else B i) i) : Int → Nat × Nat) = subB B k a b := by
        funext i
        unfold subB
        by_cases hi : i = k
        · simp only [if_pos hi]; rw [hzero.1, hzero.2]
        · simp only [if_neg hi]
      rw [e1] at hm3
      simp only [if_pos rfl] at hm3
      have h3 := hTT.out
      rw [h3.1, h3.2, hzero.1, hzero.2] at hm3
      exact hm3
    clear h hm2 hk2 hm3 hk3 hzero t1 t2 c1 c2 hle hn hk
    go_enter Tryz.func56, Tryz.ntmps56
    go_wp2_with fail
    refine (HA1.out _).mono ?_
    rintro e w1 ⟨rfl, rfl⟩
    go_wp2_with fail
    refine (HO.out).mono ?_
    rintro e w1 ⟨rfl, rfl⟩
    go_wp2_with fail
    refine (HF.out _).mono ?_
    rintro e w1 ⟨rfl, rfl⟩
    go_wp2_with fail
    go_ret
    exact ⟨rfl, ⟨HK3.out.keep HL.out.1 HL.out.2.2, HM3.out, HL.out.2.2⟩, HK3.out⟩
  · have HK2 := Lib.hid hk2
    have HM2 : Hid (BkAt w2 mb (n + 1) (subB B k a b) (T.1 - a, T.2 - b)) := by
      have h3 := hTT.out
      rw [h3.1, h3.2] at hm2
      exact hm2
    obtain ⟨x1, hx1⟩ : ∃ x, decide ((B k).1 - a = 0) = x := ⟨_, rfl⟩
    obtain ⟨x2, hx2⟩ : ∃ x, decide ((B k).2 - b = 0) = x := ⟨_, rfl⟩
    have hxx : (x1 && x2) = false := by
      rw [← hx1, ← hx2]
      by_cases h1 : (B k).1 - a = 0
      · by_cases h2 : (B k).2 - b = 0
        · exact absurd ⟨h1, h2⟩ hzero
        · rw [decide_eq_false h2]; simp
      · rw [decide_eq_false h1]; rfl
    rw [hx1] at hz1
    rw [hx2] at hz2
    clear h hm2 hk2 hzero t1 t2 c1 c2 hle hn hk hx1 hx2
    cases x1 <;> cases x2 <;> first
      | (simp at hxx; done)
      | (clear hxx
         go_enter Tryz.func56, Tryz.ntmps56
         go_wp2_with fail
         refine (HA1.out _).mono ?_
         rintro e w1 ⟨rfl, rfl⟩
         go_wp2_with fail
         refine (HO.out).mono ?_
         rintro e w1 ⟨rfl, rfl⟩
         go_wp2_with fail
         refine (HF.out _).mono ?_
         rintro e w1 ⟨rfl, rfl⟩
         go_wp2_with fail
         go_ret
         exact ⟨rfl, ⟨HK2.out.keep HL.out.1 HL.out.2.2, HM2.out, HL.out.2.2⟩, HK2.out⟩)
end Go.Proofs.YtimomjheanfbmaaGreatDoor

namespace Go.Proofs.YtimomjheanfbmaaGreatDoor
open Go.RowKit

/-! ### transactions that live: a slice of them -/
abbrev Lv := Int × Int × Int
def lvV (l : List Lv) : List Value := l.flatMap lvL
theorem lvV_length (l : List Lv) : (lvV l).length = l.length * 3 := by
  unfold lvV
  induction l with
  | nil => rfl
  | cons x l ih => rw [List.flatMap_cons, List.length_append, ih, List.length_cons]; show 3 + _ = _; omega
theorem lvV_get (l : List Lv) (i j : Nat) (s : Lv) (hi : l[i]? = some s) (hj : j < 3) : (lvV l)[i * 3 + j]? = (lvL s)[j]? := by
  unfold lvV
  rw [flat_at lvL 3 lvL_length l i j hj, List.getElem?_map, hi]
  rfl
theorem lv_range {w : World} {g n c : Nat} {l : List Lv} (h : OwnS w 61 3 (.slice (some ⟨g, 0, none⟩) n c) n (lvV l)) (i : Nat) (s : Lv) (hi : l[i]? = some s) : w.rangeAt g (i * 3) (lvL s) := fun j v hj => by
  have hjl : j < 3 := (List.getElem?_eq_some_iff.1 hj).1
  have h2 : (lvV l)[i * 3 + j]? = some v := by rw [lvV_get l i j s hi hjl]; exact hj
  have := World.ownsRow.cells h (g := g) rfl (i * 3 + j) v h2
  rw [Addr.add_mid, Nat.zero_add] at this
  exact this
theorem OwnS.spot {w : World} {e : TypeId} {size n c : Nat} {a : Option Addr} {xs : List Value} (h : OwnS w e size (.slice a n c) n xs) (hn : 0 < n) : ∃ g, a = some ⟨g, 0, none⟩ := by
  obtain ⟨g, c', he⟩ := h.has hn
  exact ⟨g, by simpa using congrArg (fun v => match v with | .slice a _ _ => a | _ => none) he⟩
set_option maxRecDepth 100000 in
theorem ch_findc (s : Lv) (id : Int) (b : Nat) (w : World) (hb : w.cell? ⟨b, 0, none⟩ = some (.int .i64 id)) (hbl : b < w.heap.size) :
    Calls Tryz.prog 102 #[.agg (lvL s).toArray, .pointer (some ⟨b, 0, none⟩)] w fun e w' => e = .returned (.bool (decide (s.1 = id))) ∧ Below w.heap.size w w' := by
  have hC : (lvL s).toArray = #[.int .i64 s.1, .int .i64 s.2.1, .int .i64 s.2.2] := rfl
  rw [hC]
  clear hC
  have hb' : (w.alloc (.cells #[.int .i64 s.1, .int .i64 s.2.1, .int .i64 s.2.2] 61)).cell? ⟨b, 0, none⟩ = some (.int .i64 id) := by
    rw [← hb]
    unfold World.cell?
    rw [Below.heap_alloc _ _ _ hbl]
  by_cases he : s.1 = id
  · have hd : (s.1 == id) = true := by simpa using he
    rw [decide_eq_true he]
    replace he := Lib.hid he
    go_enter Tryz.func102, Tryz.ntmps102
    go_wp2_with fail
    go_ret
    exact ⟨rfl, bA bR⟩
  · have hd : (s.1 == id) = false := by simpa using he
    rw [decide_eq_false he]
    replace he := Lib.hid he
    go_enter Tryz.func102, Tryz.ntmps102
    go_wp2_with fail
    go_ret
    exact ⟨rfl, bA bR⟩
/-- where a transaction is -/
def FindIs (l : List Lv) (id : Int) (e : Ending) : Prop := (∃ i : Nat, ∃ s, l[i]? = some s ∧ s.1 = id ∧ (∀ j s', j < i → l[j]? = some s' → s'.1 ≠ id) ∧ e = .returned (.int .i64 i)) ∨ ((∀ s ∈ l, s.1 ≠ id) ∧ e = .returned (.int .i64 (-1)))
set_option maxRecDepth 100000 in
set_option maxHeartbeats 400000 in
theorem ch_index {w : World} {sv : Value} {l : List Lv} {n : Nat} (hn : l.length = n) (hn2 : n ≤ 8) (h : OwnS w 61 3 sv n (lvV l)) (id : Int) (b : Nat) (hb : w.cell? ⟨b, 0, none⟩ = some (.int .i64 id)) (hbl : b < w.heap.size) :
    Calls Tryz.prog 101 #[sv, .func (.func 102) #[] #[.pointer (some ⟨b, 0, none⟩)]] w fun e w' => FindIs l id e ∧ Below w.heap.size w w' := by
  obtain ⟨a, c, rfl⟩ := h.form
  have H := Lib.hid h
  replace hn := Lib.hid hn
  clear h
  go_enter Tryz.func101, Tryz.ntmps101
  go_wp2_with fail
  go_loopw [8] (fun x wr => ∃ k : Nat, k ≤ n ∧ x = .int .i64 k ∧ Hid (∀ j s', j < k → l[j]? = some s' → s'.1 ≠ id) ∧ Hid (Below w.heap.size w wr)) (fun x _ => n - (intOf x).toNat)
  case atStart => exact ⟨0, by omega, rfl, fun j s' hj => by omega, bR⟩
  case round =>
    obtain ⟨k, hk, rfl, hlo, HB⟩ := hrel
    by_cases hkn : k < n
    · have hkI : (k : Int) < n := by omega
      obtain ⟨g, rfl⟩ : ∃ g, a = some ⟨g, 0, none⟩ := by
        obtain ⟨g, c', he⟩ := H.out.has (by omega)
        exact ⟨g, by simpa using congrArg (fun v => match v with | .slice a _ _ => a | _ => none) he⟩
      obtain ⟨s, hs⟩ : ∃ s, l[k]? = some s := ⟨_, List.getElem?_eq_getElem (by rw [hn.out]; omega)⟩
      have HR := Lib.hid (lv_range (H.out.keep (Keeps.of_below (fun _ => False) HB.out) (fun _ _ h => h)) k s hs)
      have hbr : wr.cell? ⟨b, 0, none⟩ = some (.int .i64 id) := by
        rw [← hb]; unfold World.cell?; rw [HB.out.block b hbl]
      have HC := Lib.hid (ch_findc s id b wr hbr (Nat.lt_of_lt_of_le hbl HB.out.size))
      clear hbr
      replace hs := Lib.hid hs
      have hCl : (Tryz.prog.info? 61).map (·.size) = some (lvL s).length := by kernel_rfl
      obtain ⟨C, hC⟩ : ∃ C, lvL s = C := ⟨_, rfl⟩
      rw [hC] at HR HC hCl
      replace hC := Lib.hid hC
      replace hCl := Lib.hid hCl
      go_wp2_with (refine wpList_load_mid rfl 61 _ rfl g (k * 3) rfl C _ HR.out Tryz.underlying61 rfl hCl.out ?_)
      refine (HC.out).mono ?_
      rintro e w5 ⟨rfl, hb5⟩
      have HB5 := Lib.hid (bT HB.out hb5)
      clear hb5 HC HR
      by_cases hid : s.1 = id
      · rw [decide_eq_true hid]
        replace hid := Lib.hid hid
        go_wp2_with fail
        go_ret
        exact ⟨.inl ⟨k, s, hs.out, hid.out, hlo.out, rfl⟩, HB5.out⟩
      · rw [decide_eq_false hid]
        replace hid := Lib.hid hid
        go_wp2_with fail
        go_roundw
        case rel => exact ⟨k + 1, by omega, rfl, fun j s' hj hl he => by
          by_cases hjk : j = k
          · subst hjk
            rw [hs.out] at hl
            injection hl with hl
            subst hl
            exact hid.out he
          · exact hlo.out j s' (by omega) hl he, HB5⟩
        case measure => simp [intOf]; omega
    · obtain rfl : k = n := by omega
      go_wp2_with fail
      go_ret
      exact ⟨.inr ⟨fun s hs he => by
        obtain ⟨j, hj, rfl⟩ := List.getElem_of_mem hs
        exact hlo.out j _ (by rw [← hn.out]; exact hj) (List.getElem?_eq_getElem hj) he, rfl⟩, HB.out⟩
/-! ### a chain -/
def chC (lp p lb : Nat) (lv : Value) (fresh : Int) : Array Value := #[.pointer (some ⟨lp, 0, none⟩), .pointer (some ⟨p, 0, none⟩), .pointer (some ⟨lb, 0, none⟩), lv, .int .i64 fresh]
structure ChAt (w : World) (c lp p lb mb n : Nat) (lv : Value) (lives : List Lv) (fresh : Int) (B : Int → Nat × Nat) (T : Nat × Nat) : Prop where
  cell : w.heap[c]? = some (.cells (chC lp p lb lv fresh) 124 (0, 0))
  own : OwnS w 61 3 lv lives.length (lvV lives)
  lg : LgAt w lb mb n B T
  len : lives.length ≤ 8
  nd : (c :: lb :: mb :: blk lv).Nodup
def chL (c lb mb : Nat) (lv : Value) : List Nat := c :: lb :: mb :: blk lv
section
variable {w w' : World} {c lp p lb mb n : Nat} {lv : Value} {lives : List Lv} {fresh : Int} {B : Int → Nat × Nat} {T : Nat × Nat}
theorem ChAt.keep {S : Nat → Prop} (h : ChAt w c lp p lb mb n lv lives fresh B T) (hk : Keeps S w w') (hS : ∀ q ∈ chL c lb mb lv, ¬ S q) : ChAt w' c lp p lb mb n lv lives fresh B T :=
  ⟨hk.keep h.cell (hS c (by simp [chL])), h.own.keep hk (fun q hq => hS q (by simp [chL, hq])), h.lg.keep hk (hS lb (by simp [chL])) (hS mb (by simp [chL])), h.len, h.nd⟩
theorem ChAt.later (h : ChAt w c lp p lb mb n lv lives fresh B T) (hb : Below w.heap.size w w') : ChAt w' c lp p lb mb n lv lives fresh B T := h.keep (Keeps.of_below (fun _ => False) hb) (fun _ _ h => h)
theorem ChAt.lt (h : ChAt w c lp p lb mb n lv lives fresh B T) : ∀ q ∈ chL c lb mb lv, q < w.heap.size := fun q hq => by
  simp only [chL, List.mem_cons] at hq
  rcases hq with rfl | rfl | rfl | hq
  · exact block_lt h.cell
  · exact h.lg.lt.1
  · exact h.lg.lt.2
  · exact h.own.lt hq
set_option maxRecDepth 100000 in
set_option maxHeartbeats 400000 in
theorem ch_find (h : ChAt w c lp p lb mb n lv lives fresh B T) (id : Int) :
    Calls Tryz.prog 55 #[.pointer (some ⟨c, 0, none⟩), .int .i64 id] w fun e w' => FindIs lives id e ∧ Below w.heap.size w w' := by
  have hbox : (w.alloc (.cells #[.int .i64 id] 3)).cell? ⟨w.heap.size, 0, none⟩ = some (.int .i64 id) := cell_at (hN rfl) 0
  have h3 : (w.alloc (.cells #[.int .i64 id] 3)).cell? ⟨c, 3, none⟩ = some lv := cell_at (hO h.cell) 3
  have hO2 : OwnS (w.alloc (.cells #[.int .i64 id] 3)) 61 3 lv lives.length (lvV lives) := h.own.keep ((Keeps.refl (fun _ => False) w).alloc _) (fun _ _ h => h)
  have HI := Lib.hid (ch_index rfl h.len hO2 id w.heap.size hbox (by simp))
  obtain ⟨a, cc, rfl⟩ := h.own.form
  clear h hO2 hbox
  go_enter Tryz.func55, Tryz.ntmps55
  go_wp2_with fail
  refine (HI.out).mono ?_
  rintro e w5 ⟨h, hb⟩
  have HB5 := Lib.hid (show Below w.heap.size w w5 from (bA bR).trans (hb.mono (by simp)))
  clear hb HI
  rcases h with ⟨i, s, e1, e2, e3, rfl⟩ | ⟨e1, rfl⟩
  · have hfin := Lib.hid (And.intro e1 (And.intro e2 e3))
    clear e1 e2 e3
    go_wp2_with fail
    go_ret
    exact ⟨.inl ⟨i, s, hfin.out.1, hfin.out.2.1, hfin.out.2.2, rfl⟩, HB5.out⟩
  · have hfin := Lib.hid e1
    clear e1
    go_wp2_with fail
    go_ret
    exact ⟨.inr ⟨hfin.out, rfl⟩, HB5.out⟩
set_option maxRecDepth 100000 in
set_option maxHeartbeats 400000 in
theorem ch_save (h : ChAt w c lp p lb mb n lv lives fresh B T) (id : Int) :
    Calls Tryz.prog 32 #[.pointer (some ⟨c, 0, none⟩), .int .i64 id] w fun e w' => ((∃ i : Nat, ∃ s, lives[i]? = some s ∧ s.1 = id ∧ (∀ j s', j < i → lives[j]? = some s' → s'.1 ≠ id) ∧ e = .returned (.tuple #[.int .i64 s.2.2, .int .i64 0])) ∨ ((∀ s ∈ lives, s.1 ≠ id) ∧ e = .returned (.tuple #[.int .i64 0, .int .i64 191]))) ∧ Below w.heap.size w w' := by
  have HF := Lib.hid (ch_find h id)
  have H := Lib.hid h
  clear h
  go_enter Tryz.func32, Tryz.ntmps32
  go_wp2_with fail
  refine (HF.out).mono ?_
  rintro e w5 ⟨hr, hb⟩
  have HB5 := Lib.hid hb
  have H5 := Lib.hid (H.out.later hb)
  clear hb HF H
  rcases hr with ⟨i, s, e1, e2, e3, rfl⟩ | ⟨e1, rfl⟩
  · have hfin := Lib.hid (And.intro e1 (And.intro e2 e3))
    have hi : i < lives.length := (List.getElem?_eq_some_iff.1 e1).1
    obtain ⟨a, cc, rfl⟩ := H5.out.own.form
    obtain ⟨g, rfl⟩ := H5.out.own.spot (by omega)
    have C3 : w5.cell? ⟨c, 3, none⟩ = some (.slice (some ⟨g, 0, none⟩) lives.length cc) := cell_at H5.out.cell 3
    have hr := lv_range H5.out.own i s e1 2 _ rfl
    have hi0 : ¬ (i : Int) < 0 := by omega
    have hi1 : (i : Int) < lives.length := by omega
    clear e1 e2 e3 hi
    go_wp2_with fail
    go_ret2
    exact ⟨.inl ⟨i, s, hfin.out.1, hfin.out.2.1, hfin.out.2.2, rfl⟩, HB5.out⟩
  · have hfin := Lib.hid e1
    clear e1
    go_wp2_with fail
    go_ret2
    exact ⟨.inr ⟨hfin.out, rfl⟩, HB5.out⟩
end
end Go.Proofs.YtimomjheanfbmaaGreatDoor

namespace Go.Proofs.YtimomjheanfbmaaGreatDoor
open Go.RowKit

theorem repeat_zeros (s : ByteArray) (hs : s.data.toList = [0]) : ∀ n, (⟨(Lib.repeatL s.data.toList n).toArray⟩ : ByteArray) = zeros n := by
  intro n
  apply ByteArray.ext
  apply Array.toList_inj.1
  rw [hs]
  show Lib.repeatL [0] n = _
  have h : ∀ n, Lib.repeatL [0] n = List.replicate n 0 := by
    intro n
    induction n with
    | zero => rfl
    | succ n ih => rw [Lib.repeatL, ih]; rfl
  rw [h, zeros]
  show List.replicate n 0 = (List.replicate n (0 : Int)).map fun n => UInt8.ofNat n.toNat
  simp [List.map_replicate]
theorem str_zeros (s : ByteArray) (hs : s.data.toList = [0]) (n : Nat) (hn : n ≤ 64) (w : World) : Calls Tryz.prog 71 #[.string s, .int .i64 n] w fun e w' => e = .returned (.string (zeros n)) ∧ RowKit.Below w.heap.size w w' := by
  have h1 : s.size = 1 := by rw [Lib.size_eq, hs]; rfl
  refine (Tryz.strings_Repeat s n w (by omega) (by rw [h1]; omega)).mono ?_
  rintro e w' ⟨rfl, hb⟩
  rw [repeat_zeros s hs]
  exact ⟨rfl, hb⟩
end Go.Proofs.YtimomjheanfbmaaGreatDoor
