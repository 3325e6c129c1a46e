import Derived.Test.YtgealllnchpekaaNodeA
set_option linter.unusedSimpArgs false
set_option linter.unusedVariables false
namespace Go.Proofs.Ytgealllnchpekaa
open Go.RowKit

set_option maxHeartbeats 1600000 in
theorem nd_key (st : Int) (d : ByteArray) (hd : d.size ≤ maxLen) (w : World) :
    Calls Try.prog 18 #[cellV (st, d)] w fun e w' => e = .returned (.tuple #[.string (keyP st d).1, .string (keyP st d).2.1, .bool (keyP st d).2.2]) ∧ Below w.heap.size w w' := by
  unfold keyP cellV
  dsimp only
  by_cases h0 : st = 0
  · rw [if_pos (.inl h0)]
    subst h0
    go_enter Try.func18, Try.ntmps18
    go_wp2_with fail
    go_ret3
    exact ⟨rfl, bA bR⟩
  · have h0' : (st == 0) = false := by simpa using h0
    have HR := Lib.hid (fun w => oct_read d w)
    have HT := Lib.hid (fun b w h => oct_rtext b d false w h hd)
    have hz := rdText_rest_size d false
    have hz1 : (rdText d false).1.size ≤ d.size ∨ True := .inr trivial
    have hb1 : (rdText d false).1.size ≤ maxLen := by
      have := (rdBytes_size (rdNum d false 1).2.1 (rdNum d false 1).2.2 (rdNum d false 1).1).2
      have h2 := rdNum_size d false 1
      unfold rdText
      omega
    clear hz1
    generalize rdText d false = r at *
    obtain ⟨k, rest, bad⟩ := r
    dsimp only at HT hz hb1 ⊢
    have HD := Lib.hid (fun b w h => oct_bad b rest bad w h)
    have hrl : rest.size ≤ maxLen := Nat.le_trans hz hd
    unfold maxLen at hb1
    cases bad with
    | true =>
      rw [if_pos (.inr (.inl rfl))]
      go_enter Try.func18, Try.ntmps18
      go_wp2_with fail
      refine (HR.out _).mono ?_
      rintro e w1 ⟨rfl, hR, hb⟩
      rw [show (w.alloc (.cells #[.int .i64 st, .string d] 23)).heap.size = w.heap.size + 1 by simp] at hR
      have H1 := Lib.hid hR
      have HB1 := Lib.hid (bT (bA bR) hb)
      have hsz : w.heap.size ≤ (w.alloc (.cells #[.int .i64 st, .string d] 23)).heap.size := by simp
      clear hR hb
      go_wp2_with fail
      refine (HT.out _ _ H1.out).mono ?_
      rintro e w2 ⟨rfl, hR, hk⟩
      have H2 := Lib.hid hR
      have HB2 := Lib.hid (bK HB1.out hk (fun i e => by subst e; simp))
      clear hR hk
      go_wp2_with fail
      refine (HD.out _ _ H2.out).mono ?_
      rintro e w3 ⟨rfl, rfl⟩
      go_wp2_with fail
      go_ret3
      exact ⟨rfl, HB2.out⟩
    | false =>
      by_cases h8 : 8 < k.size
      · rw [if_pos (.inr (.inr h8))]
        have e8 : (8 : Int) < k.size := by omega
        go_enter Try.func18, Try.ntmps18
        go_wp2_with fail
        refine (HR.out _).mono ?_
        rintro e w1 ⟨rfl, hR, hb⟩
        rw [show (w.alloc (.cells #[.int .i64 st, .string d] 23)).heap.size = w.heap.size + 1 by simp] at hR
        have H1 := Lib.hid hR
        have HB1 := Lib.hid (bT (bA bR) hb)
        clear hR hb
        go_wp2_with fail
        refine (HT.out _ _ H1.out).mono ?_
        rintro e w2 ⟨rfl, hR, hk⟩
        have H2 := Lib.hid hR
        have HB2 := Lib.hid (bK HB1.out hk (fun i e => by subst e; simp))
        clear hR hk
        go_wp2_with fail
        refine (HD.out _ _ H2.out).mono ?_
        rintro e w3 ⟨rfl, rfl⟩
        go_wp2_with fail
        go_ret3
        exact ⟨rfl, HB2.out⟩
      · rw [if_neg (by simp [h0]; omega)]
        have e8 : (k.size : Int) ≤ 8 := by omega
        have HL := Lib.hid (fun b w h => oct_left b rest false w h hrl)
        have HY := Lib.hid (fun b w h => oct_bytes b rest false rest.size w h hrl)
        rw [show rdLeft rest false = rest.size from rfl] at HL
        rw [rdBytes_yes ⟨rfl, by omega, by omega⟩, Int.toNat_natCast, full_bytes] at HY
        dsimp only at HY
        clear h8
        go_enter Try.func18, Try.ntmps18
        go_wp2_with fail
        refine (HR.out _).mono ?_
        rintro e w1 ⟨rfl, hR, hb⟩
        rw [show (w.alloc (.cells #[.int .i64 st, .string d] 23)).heap.size = w.heap.size + 1 by simp] at hR
        have H1 := Lib.hid hR
        have HB1 := Lib.hid (bT (bA bR) hb)
        clear hR hb
        go_wp2_with fail
        refine (HT.out _ _ H1.out).mono ?_
        rintro e w2 ⟨rfl, hR, hk⟩
        have H2 := Lib.hid hR
        have HB2 := Lib.hid (bK HB1.out hk (fun i e => by subst e; simp))
        clear hR hk
        go_wp2_with fail
        refine (HD.out _ _ H2.out).mono ?_
        rintro e w3 ⟨rfl, rfl⟩
        go_wp2_with fail
        refine (HL.out _ _ H2.out).mono ?_
        rintro e w3 ⟨rfl, rfl⟩
        go_wp2_with fail
        refine (HY.out _ _ H2.out).mono ?_
        rintro e w3 ⟨rfl, hR, hk⟩
        have HB3 := Lib.hid (bK HB2.out hk (fun i e => by subst e; simp))
        clear hR hk
        go_wp2_with fail
        go_ret3
        exact ⟨rfl, HB3.out⟩
end Go.Proofs.Ytgealllnchpekaa
