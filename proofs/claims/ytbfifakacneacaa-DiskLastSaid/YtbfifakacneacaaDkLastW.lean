import Derived.Test.YtbfifakacneacaaDkLast
set_option linter.unusedSimpArgs false
set_option linter.unusedVariables false
namespace Go.Proofs.Ytbfifakacneacaa
open Go.RowKit

set_option maxRecDepth 100000 in
set_option maxHeartbeats 3200000 in
theorem diskLast_walk (v : Value) (x : LastArg) (hl : x.ss.length * 16 ≤ 140737488351232) (w : World) (hx : LastAt w v x) :
    Calls Try.prog 3 #[v] w fun e w' => e = .returned (.bool true) ∧ Below w.heap.size w w' := by
  obtain ⟨vw, ss, n, s, vb, ks⟩ := x
  obtain ⟨rfl, S0, S1, hn, hs⟩ := hx
  dsimp only at *
  have HN := Lib.hid (dsk_new 5 (by omega) (by omega))
  obtain ⟨sa, sc, rfl, hsl⟩ := S0.form
  have S0 := Lib.hid S0
  have S1 := Lib.hid S1
  have HPM := Lib.hid (law_padded s hs)
  have hZ : s.size ≤ 60 → (padS s).size = 64 := fun h => (padS_size s).2 ⟨by omega, by omega⟩
  have hZ := Lib.hid hZ
  generalize padS s = M at *
  unfold maxLen at hsl hs
  obtain ⟨ka, kc, hv1, hkl, -⟩ := S1.out
  unfold maxLen at hkl
  obtain ⟨a, ha, ha5⟩ := last_pos n
  subst hv1
  by_cases hs60 : 60 < s.size
  · have hs60' : (60 : Int) < s.size := by omega
    go_enter Try.func3, Try.ntmps3
    go_wp2_with fail
    go_quiet (fail)
    go_wp2_with fail
    refine (awake02 _).mono ?_
    rintro e w1 ⟨rfl, hb⟩
    have HB1 := Lib.hid (bT (bDN (bA bR) _) hb)
    clear hb
    go_wp2_with fail
    refine (HN.out _).mono ?_
    rintro e w2 ⟨p, S, rfl, hD, hb, hS⟩
    have HB2 := Lib.hid (bT HB1.out hb)
    clear hD hb hS
    go_wp2_with fail
    go_ret
    exact ⟨rfl, HB2.out⟩
  · have hs60' : (s.size : Int) ≤ 60 := by omega
    have hM := hZ.out (by omega)
    obtain ⟨hf1, hf2⟩ := last_first ha5 hM
    have hf1 := Lib.hid hf1
    have HF := Lib.hid hf2
    clear hf2 hZ
    have hM := Lib.hid hM
    have hMl : M.size ≤ maxLen := by rw [hM.out]; decide
    have hMl := Lib.hid hMl
    go_enter Try.func3, Try.ntmps3
    go_wp2_with fail
    go_quiet (fail)
    go_wp2_with fail
    refine (awake02 _).mono ?_
    rintro e w1 ⟨rfl, hb⟩
    have HB1 := Lib.hid (bT (bDN (bA bR) _) hb)
    clear hb
    go_wp2_with fail
    refine (HN.out _).mono ?_
    rintro e w2 ⟨p, S, rfl, hD, hb, hS⟩
    have HD2 := Lib.hid hD
    have HB2 := Lib.hid (bT HB1.out hb)
    have HS2 : Hid (∀ k ∈ S, w.heap.size ≤ k) := fun k hk => Nat.le_trans HB1.out.size (hS k hk)
    clear hD hb hS
    go_wp2_with fail
    refine (HPM.out _).mono ?_
    rintro e w3 ⟨rfl, hb⟩
    have HD3 := Lib.hid (HD2.out.later hb)
    have HB3 := Lib.hid (bT HB2.out hb)
    clear hb HD2
    go_wp2_with fail
    refine (dsk_write p (a : Int) M hMl.out _ S (by show ([] : List (Int × ByteArray)).length ≤ _; simp) _ HD3.out).mono ?_
    rintro e w4 ⟨rfl, S4, hD, hk', hR⟩
    rw [hf1.out]
    have HR4 := Lib.hid (below_newS HB3.out HS2.out hR)
    have HB4 := Lib.hid (below_keep HB3.out hk' HS2.out)
    have HD4 := Lib.hid hD
    clear hD hk' hR hf1 HD3 ha hn hs hsl hkl hs60
    generalize n.tmod 5 = t1 at *
    generalize wrap64 (t1 + 5) = t2 at *
    generalize decide ((60 : Int) < s.size) = dd at *
    clear hs60'
    go_wp2_with fail
    go_loopw [49] (fun i wr => ∃ (k : Nat) (D : Dev) (R : List Nat), k ≤ ss.length ∧ i = .int .i64 k ∧ Hid (LastInv a M k D) ∧ Hid (DiskAt wr p D R) ∧ Hid (∀ b ∈ R, w.heap.size ≤ b) ∧ Below w.heap.size w wr) (fun i _ => ss.length - (intOf i).toNat)
    case atStart => exact ⟨0, _, S4, by omega, rfl, HF, HD4, HR4, HB4.out⟩
    case round =>
      obtain ⟨k, D, R, hk, rfl, HI, HD, HR, hbr⟩ := hrel
      have HBr := Lib.hid hbr
      clear hbr HF
      have hbr1 : w.heap.size ≤ wr.heap.size := HBr.out.size
      have hsf := HI.out.2.2.2.1
      by_cases hkm : k < ss.length
      · obtain ⟨b, off, rfl, hbl, hcs, hsm⟩ := S0.out.at HBr.out k hkm
        have hblr : b < wr.heap.size := by omega
        have HP := Lib.hid (law_padded (ss.getD k ⟨#[]⟩) hsm)
        have hpm := padS_le _ hsm
        generalize ss.getD k ⟨#[]⟩ = s' at *
        by_cases hka : k % 5 = a
        · have hne : ((k : Int) % 5 != (a : Int)) = false := by simp; omega
          by_cases hkb : k < ks.length
          · have hkb' : (k : Int) < ks.length := by omega
            obtain ⟨bb, boff, bc, hve, hbbl, hbcell⟩ := bools_at_k S1.out HBr.out k hkb
            obtain ⟨rfl, rfl⟩ : ka = some ⟨bb, boff, none⟩ ∧ kc = bc := by simpa using hve
            have hw5 := HBr.out.size
            have hbb2 := Nat.lt_of_lt_of_le hbbl hw5
            cases hkv : ks.getD k false with
            | false =>
              rw [hkv] at hbcell
              go_wp2_with fail
              refine (dsk_read p a _ R _ HD.out).mono ?_
              rintro e w7 ⟨rfl, rfl⟩
              rw [last_read ha5 HI.out]
              go_wp2_with fail
              refine (HPM.out _).mono ?_
              rintro e w8 ⟨rfl, hb⟩
              have HD8 := Lib.hid (HD.out.later hb)
              have HB8 := Lib.hid (bT HBr.out hb)
              clear hb
              go_wp2_with fail
              go_roundw
              case rel => exact ⟨k + 1, _, R, by omega, rfl, last_mono HI.out, HD8, HR, HB8.out⟩
              case measure => simp [intOf]; omega
            | true =>
              rw [hkv] at hbcell
              obtain ⟨hI6, h06⟩ := last_barrier HI.out
              have HI6 := Lib.hid hI6
              clear hI6
              go_wp2_with fail
              refine (dsk_barrier p _ R _ HD.out).mono ?_
              rintro e w6 ⟨rfl, R6, hD, hk', hR⟩
              rw [h06]
              have HR6 := Lib.hid (below_newS HBr.out HR.out hR)
              have HB6 := Lib.hid (below_keep HBr.out hk' HR.out)
              have HD6 := Lib.hid hD
              clear hD hk' hR h06
              generalize (D).barrier.1 = D6 at *
              go_wp2_with fail
              refine (dsk_read p a _ R6 _ HD6.out).mono ?_
              rintro e w7 ⟨rfl, rfl⟩
              rw [last_read ha5 HI6.out]
              go_wp2_with fail
              refine (HPM.out _).mono ?_
              rintro e w8 ⟨rfl, hb⟩
              have HD8 := Lib.hid (HD6.out.later hb)
              have HB8 := Lib.hid (bT HB6.out hb)
              clear hb
              go_wp2_with fail
              go_roundw
              case rel => exact ⟨k + 1, _, R6, by omega, rfl, last_mono HI6.out, HD8, HR6, HB8.out⟩
              case measure => simp [intOf]; omega
          · have hkb : (ks.length : Int) ≤ k := by omega
            go_wp2_with fail
            refine (dsk_read p a _ R _ HD.out).mono ?_
            rintro e w7 ⟨rfl, rfl⟩
            rw [last_read ha5 HI.out]
            go_wp2_with fail
            refine (HPM.out _).mono ?_
            rintro e w8 ⟨rfl, hb⟩
            have HD8 := Lib.hid (HD.out.later hb)
            have HB8 := Lib.hid (bT HBr.out hb)
            clear hb
            go_wp2_with fail
            go_roundw
            case rel => exact ⟨k + 1, _, R, by omega, rfl, last_mono HI.out, HD8, HR, HB8.out⟩
            case measure => simp [intOf]; omega
        · have hne : ((k : Int) % 5 != (a : Int)) = true := by simp; omega
          go_wp2_with fail
          refine (HP.out _).mono ?_
          rintro e w4 ⟨rfl, hb4⟩
          have HDx := Lib.hid (HD.out.later hb4)
          have HBx := Lib.hid (bT HBr.out hb4)
          clear hb4
          generalize padS s' = A at *
          have hpm := Lib.hid hpm
          go_wp2_with fail
          have hi5 : ((k : Int) % 5) = ((k % 5 : Nat) : Int) := by omega
          refine (dsk_write p ((k : Int) % 5) A hpm.out D R (by omega) _ HDx.out).mono ?_
          rintro e w5 ⟨rfl, R', hD, hk', hR⟩
          have HI5 := Lib.hid (last_write HI.out (k % 5) hka A)
          rw [← hi5] at HI5
          have HR5 := Lib.hid (below_newS HBx.out HR.out hR)
          have HB5 := Lib.hid (below_keep HBx.out hk' HR.out)
          have HD5 := Lib.hid hD
          clear hD hk' hR
          clear hi5
          generalize D.write ((k : Int) % 5) A = DW at *
          obtain ⟨D5, r5⟩ := DW
          dsimp only at HD5 HI5 ⊢
          by_cases hkb : k < ks.length
          · have hkb' : (k : Int) < ks.length := by omega
            obtain ⟨bb, boff, bc, hve, hbbl, hbcell⟩ := bools_at_k S1.out HB5.out k hkb
            obtain ⟨rfl, rfl⟩ : ka = some ⟨bb, boff, none⟩ ∧ kc = bc := by simpa using hve
            have hw5 := HB5.out.size
            have hbb2 := Nat.lt_of_lt_of_le hbbl hw5
            cases hkv : ks.getD k false with
            | false =>
              rw [hkv] at hbcell
              go_wp2_with fail
              refine (dsk_read p a _ R' _ HD5.out).mono ?_
              rintro e w7 ⟨rfl, rfl⟩
              rw [last_read ha5 HI5.out]
              go_wp2_with fail
              refine (HPM.out _).mono ?_
              rintro e w8 ⟨rfl, hb⟩
              have HD8 := Lib.hid (HD5.out.later hb)
              have HB8 := Lib.hid (bT HB5.out hb)
              clear hb
              go_wp2_with fail
              go_roundw
              case rel => exact ⟨k + 1, _, R', by omega, rfl, HI5.out, HD8, HR5, HB8.out⟩
              case measure => simp [intOf]; omega
            | true =>
              rw [hkv] at hbcell
              obtain ⟨hI6, h06⟩ := last_barrier HI5.out
              have HI6 := Lib.hid hI6
              clear hI6
              go_wp2_with fail
              refine (dsk_barrier p _ R' _ HD5.out).mono ?_
              rintro e w6 ⟨rfl, R6, hD, hk', hR⟩
              rw [h06]
              have HR6 := Lib.hid (below_newS HB5.out HR5.out hR)
              have HB6 := Lib.hid (below_keep HB5.out hk' HR5.out)
              have HD6 := Lib.hid hD
              clear hD hk' hR h06
              generalize (D5).barrier.1 = D6 at *
              go_wp2_with fail
              refine (dsk_read p a _ R6 _ HD6.out).mono ?_
              rintro e w7 ⟨rfl, rfl⟩
              rw [last_read ha5 HI6.out]
              go_wp2_with fail
              refine (HPM.out _).mono ?_
              rintro e w8 ⟨rfl, hb⟩
              have HD8 := Lib.hid (HD6.out.later hb)
              have HB8 := Lib.hid (bT HB6.out hb)
              clear hb
              go_wp2_with fail
              go_roundw
              case rel => exact ⟨k + 1, _, R6, by omega, rfl, HI6.out, HD8, HR6, HB8.out⟩
              case measure => simp [intOf]; omega
          · have hkb : (ks.length : Int) ≤ k := by omega
            go_wp2_with fail
            refine (dsk_read p a _ R' _ HD5.out).mono ?_
            rintro e w7 ⟨rfl, rfl⟩
            rw [last_read ha5 HI5.out]
            go_wp2_with fail
            refine (HPM.out _).mono ?_
            rintro e w8 ⟨rfl, hb⟩
            have HD8 := Lib.hid (HD5.out.later hb)
            have HB8 := Lib.hid (bT HB5.out hb)
            clear hb
            go_wp2_with fail
            go_roundw
            case rel => exact ⟨k + 1, _, R', by omega, rfl, HI5.out, HD8, HR5, HB8.out⟩
            case measure => simp [intOf]; omega
      · obtain rfl : k = ss.length := by omega
        have hx := last_read ha5 HI.out
        go_wp2_with fail
        refine (dsk_read p a D R _ HD.out).mono ?_
        rintro e w7 ⟨rfl, rfl⟩
        rw [hx]
        go_wp2_with fail
        refine (HPM.out _).mono ?_
        rintro e w8 ⟨rfl, hb⟩
        have HB8 := Lib.hid (bT HBr.out hb)
        clear hb
        go_wp2_with fail
        go_ret
        exact ⟨rfl, HB8.out⟩
end Go.Proofs.Ytbfifakacneacaa
