import Derived.Test.YtbfifakacneacaaDkUp
set_option linter.unusedSimpArgs false
set_option linter.unusedVariables false
namespace Go.Proofs.Ytbfifakacneacaa
open Go.RowKit

set_option maxRecDepth 100000 in
set_option maxHeartbeats 3200000 in
theorem diskApart_walk (v0 : Value) (ss : List ByteArray) (v1 : Value) (ks : List Bool) (L0 : ss.length * 16 ≤ 140737488351232) (w : World) (S0 : StrSl w v0 ss) (S1 : BoolsAt w w.heap.size v1 ks) :
    Calls Try.prog 4 #[v0, v1] w fun e w' => e = .returned (.bool true) ∧ Below w.heap.size w w' := by
  have HN := Lib.hid (dsk_new 3 (by omega) (by omega))
  have hszm : ((⟨#[109, 105, 110, 101]⟩ : ByteArray)).size = 4 := rfl
  have HPM := Lib.hid (law_padded ⟨#[109, 105, 110, 101]⟩ (by rw [hszm]; decide))
  have zm := Lib.hid ((padS_size ⟨#[109, 105, 110, 101]⟩).2 (by rw [hszm]; omega))
  generalize padS ⟨#[109, 105, 110, 101]⟩ = M at *
  clear hszm
  obtain ⟨sa, sc, rfl, hsl⟩ := S0.form
  have S0 := Lib.hid S0
  have S1 := Lib.hid S1
  unfold maxLen at hsl
  obtain ⟨ka, kc, hv1, -, -⟩ := S1.out
  go_enter Try.func4, Try.ntmps4
  go_wp2_with fail
  refine (awake02 _).mono ?_
  rintro e w1 ⟨rfl, hb⟩
  have HB1 := Lib.hid hb
  clear hb
  go_wp2_with fail
  refine (HN.out _).mono ?_
  rintro e w2 ⟨p, S, rfl, hD, hb, hS⟩
  have HD2 := Lib.hid hD
  have HB2 := Lib.hid (bT HB1.out hb)
  have HS2 : Hid (∀ k ∈ S, w.heap.size ≤ k) := fun k hk => Nat.le_trans HB1.out.size (hS k hk)
  clear hD hb hS
  go_wp2_with fail
  go_loopw [34] (fun i wr => ∃ (k : Nat) (D : Dev) (R : List Nat), k ≤ ss.length ∧ i = .int .i64 k ∧ Hid (D.up ∧ D.firm.length = 3 ∧ D.soft.length ≤ k) ∧ Hid (DiskAt wr p D R) ∧ Hid (∀ b ∈ R, w.heap.size ≤ b) ∧ Below w.heap.size w wr) (fun i _ => ss.length - (intOf i).toNat)
  case atStart => exact ⟨0, _, S, by omega, rfl, ⟨up_new 3, rfl, Nat.le_refl _⟩, HD2, HS2, HB2.out⟩
  case round =>
    obtain ⟨k, D, R, hk, rfl, HI, HD, HR, hbr⟩ := hrel
    have HBr := Lib.hid hbr
    clear hbr
    have hbr1 : w.heap.size ≤ wr.heap.size := HBr.out.size
    have hup := HI.out.1
    have hfl := HI.out.2.1
    have hsf := HI.out.2.2
    have hup := Lib.hid hup
    by_cases hkm : k < ss.length
    · obtain ⟨b, off, rfl, hbl, hcs, hsm⟩ := S0.out.at HBr.out k hkm
      have hblr : b < wr.heap.size := by omega
      have HP := Lib.hid (law_padded (ss.getD k ⟨#[]⟩) hsm)
      have hpm := padS_le _ hsm
      generalize ss.getD k ⟨#[]⟩ = s at *
      go_wp2_with fail
      refine (HP.out _).mono ?_
      rintro e w4 ⟨rfl, hb4⟩
      have HDx := Lib.hid (HD.out.later hb4)
      have HBx := Lib.hid (bT HBr.out hb4)
      clear hb4
      generalize padS s = A at *
      go_wp2_with fail
      refine (dsk_write p ((k : Int) % 3) A hpm D R (by omega) _ HDx.out).mono ?_
      rintro e w5 ⟨rfl, R', hD, hk', hR⟩
      have HR' := Lib.hid (below_newS HBx.out HR.out hR)
      have HB4 := Lib.hid (below_keep HBx.out hk' HR.out)
      have HD4 := Lib.hid hD
      clear hD hk' hR
      go_wp2_with fail
      go_roundw
      case rel =>
        obtain ⟨u1, u2, u3⟩ := up_write_up hup.out ((k : Int) % 3) A
        exact ⟨k + 1, _, R', by omega, rfl, ⟨u1, by rw [u2]; exact hfl, by omega⟩, HD4, HR', HB4.out⟩
      case measure => simp [intOf]; omega
    · obtain rfl : k = ss.length := by omega
      subst hv1
      go_wp2_with fail
      refine (dsk_crash p D R w.heap.size _ ks _ HD.out (S1.out.keep (Keeps.of_below (fun _ => False) HBr.out) (Nat.le_refl _) (fun _ h => h.elim)) hbr1 HR.out).mono ?_
      rintro e w5 ⟨p5, S5, rfl, hD, hC, hk', hS5⟩
      have HB5 := Lib.hid (below_keep HBr.out hk' (fun k e => by subst e; exact HR.out _ HD.out.mem))
      have hS5' : Hid (∀ b ∈ S5, w.heap.size ≤ b) := fun b hb => Nat.le_trans hbr1 (hS5 b hb)
      have hdisR : Hid (∀ b ∈ S5, b ∉ R) := fun b h5 h6 => by have := hS5 b h5; have := HD.out.lt _ h6; omega
      have hp5 : p ∉ S5 := fun h => absurd (hS5 _ h) (by have := HD.out.lt _ HD.out.mem; omega)
      have HD5 := Lib.hid hD
      have HC5 := Lib.hid hC
      clear hD hC hk' hS5
      have hb5 : w.heap.size ≤ w5.heap.size := HB5.out.size
      go_wp2_with fail
      refine (dsk_crash p { D with down := true } R w.heap.size _ ks _ HD5.out (S1.out.keep (Keeps.of_below (fun _ => False) HB5.out) (Nat.le_refl _) (fun _ h => h.elim)) hb5 HR.out).mono ?_
      rintro e w6 ⟨p6, S6, rfl, hD, hC, hk', hS6⟩
      have HB6 := Lib.hid (below_keep HB5.out hk' (fun k e => by subst e; exact HR.out _ HD.out.mem))
      have hS6' : Hid (∀ b ∈ S6, w.heap.size ≤ b) := fun b hb => Nat.le_trans hb5 (hS6 b hb)
      have hdis : Hid (∀ b ∈ S5, b ∉ S6) := fun b h5 h6 => by have := HC5.out.lt _ h5; have := hS6 b h6; omega
      have HC56 := Lib.hid (HC5.out.keep hk' (fun k h e => hp5 (by subst e; exact h)))
      have HD6 := Lib.hid hD
      have HC6 := Lib.hid hC
      clear hD hC hk' hS6 HC5 HD5 hp5
      have hfa : (D.after ks).firm.length = 3 := by show (crashTo _ _ _ _).length = 3; rw [crashTo_length]; exact hfl
      rw [show Dev.after { D with down := true } ks = D.after ks from rfl] at HC6
      have hupa := up_after D ks
      have hupa := Lib.hid hupa
      have HX : Hid (∀ k : Nat, k < 3 → (D.after ks).read (k : Int) = ((D.after ks).seen.getD k ⟨#[]⟩, 0)) := fun k hk => by
        have := up_read (D := D.after ks) rfl (k : Int) (by omega) (by rw [hfa]; omega)
        rw [Int.toNat_natCast] at this
        exact this
      have hAs : (D.after ks).soft.length ≤ 9000000000000 := by show ([] : List (Int × ByteArray)).length ≤ _; simp
      have hAs := Lib.hid hAs
      have hfa := Lib.hid hfa
      generalize D.after ks = A at *
      go_wp2_with fail
      go_loopw [52] (fun i wq => ∃ (k : Nat), k ≤ 3 ∧ i = .int .i64 k ∧ wq = w6) (fun i _ => 3 - (intOf i).toNat)
      case atStart => exact ⟨0, by omega, rfl, rfl⟩
      case round =>
        obtain ⟨k, hk, rfl, rfl⟩ := hrel
        by_cases hk3 : k < 3
        · have hx := HX.out k hk3
          go_wp2_with fail
          refine (dsk_read p5 k A S5 _ HC56.out).mono ?_
          rintro e w7 ⟨rfl, rfl⟩
          rw [hx]
          go_wp2_with fail
          refine (dsk_read p6 k A S6 _ HC6.out).mono ?_
          rintro e w7 ⟨rfl, rfl⟩
          rw [hx]
          go_wp2_with fail
          go_roundw
          case rel => exact ⟨k + 1, by omega, rfl, by trivial⟩
          case measure => simp [intOf]; omega
        · obtain rfl : k = 3 := by omega
          have hx := HX.out 0 (by omega)
          rw [show ((0 : Nat) : Int) = 0 from rfl] at hx
          go_wp2_with fail
          refine (dsk_read p6 0 A S6 _ HC6.out).mono ?_
          rintro e w7 ⟨rfl, rfl⟩
          rw [hx]
          go_wp2_with fail
          refine (HPM.out _).mono ?_
          rintro e w7 ⟨rfl, hb7⟩
          have HC57 := Lib.hid (HC56.out.later hb7)
          have HC67 := Lib.hid (HC6.out.later hb7)
          have HD7 := Lib.hid (HD6.out.later hb7)
          have HB7 := Lib.hid (bT HB6.out hb7)
          clear hb7
          have hal : A.seen.length = 3 := by rw [HC57.out.1.2.2.1]; exact hfa.out
          have hw : A.write 0 M = ({ A with seen := A.seen.set 0 M, soft := A.soft ++ [(0, M)] }, 0) := by
            rw [up_write hupa.out, if_pos ⟨by omega, by rw [hfa.out]; omega, zm.out⟩]; rfl
          have hw := Lib.hid hw
          go_wp2_with fail
          refine (dsk_write p5 0 M (by rw [zm.out]; decide) A S5 hAs.out _ HC57.out).mono ?_
          rintro e w8 ⟨rfl, S8, hD, hk', hR⟩
          rw [hw.out] at hD ⊢
          have HS8 := Lib.hid (below_newS HB7.out hS5'.out hR)
          have HB8 := Lib.hid (below_keep HB7.out hk' hS5'.out)
          have HC8 := Lib.hid hD
          have HC68 := Lib.hid (HC67.out.keep hk' (fun k h h' => hdis.out k h' h))
          have HD8 := Lib.hid (HD7.out.keep hk' (fun k h h' => hdisR.out k h' h))
          have hdis8 : Hid (∀ b ∈ S8, b ∉ S6) := fun b h h' => (hR b h).elim (fun g => hdis.out b g h') (fun g => by have := HC67.out.lt b h'; omega)
          have hdisR8 : Hid (∀ b ∈ S8, b ∉ R) := fun b h h' => (hR b h).elim (fun g => hdisR.out b g h') (fun g => by have := HD7.out.lt b h'; omega)
          clear hD hk' hR HC57 HC67 HD7
          have hu8 : Dev.up { A with seen := A.seen.set 0 M, soft := A.soft ++ [(0, M)] } := hupa.out
          have hbar := Lib.hid (up_barrier hu8)
          have hu8 := Lib.hid hu8
          go_wp2_with fail
          refine (dsk_barrier p5 _ S8 _ HC8.out).mono ?_
          rintro e w9 ⟨rfl, S9, hD, hk', hR⟩
          rw [hbar.out] at hD ⊢
          have HB9 := Lib.hid (below_keep HB8.out hk' HS8.out)
          have HC9 := Lib.hid hD
          have HC69 := Lib.hid (HC68.out.keep hk' (fun k h h' => hdis8.out k h' h))
          have HD9 := Lib.hid (HD8.out.keep hk' (fun k h h' => hdisR8.out k h' h))
          clear hD hk' hR HC68 HC8 HD8
          go_wp2_with fail
          refine (dsk_read p5 0 _ S9 _ HC9.out).mono ?_
          rintro e w10 ⟨rfl, rfl⟩
          rw [up_read (D := { firm := A.seen.set 0 M, soft := [], seen := A.seen.set 0 M, fuel := A.fuel, down := A.down }) hupa.out.2 0 (by omega) (by show (0 : Int) < (A.seen.set 0 M).length; rw [List.length_set]; omega)]
          rw [show (A.seen.set 0 M).getD (0 : Int).toNat ⟨#[]⟩ = M from by
            show (A.seen.set 0 M).getD 0 ⟨#[]⟩ = M
            rw [List.getD_eq_getElem?_getD, List.getElem?_set]; simp [hal]]
          go_wp2_with fail
          refine (dsk_read p6 0 A S6 _ HC69.out).mono ?_
          rintro e w11 ⟨rfl, rfl⟩
          rw [hx]
          go_wp2_with fail
          refine (dsk_read p 0 _ R _ HD9.out).mono ?_
          rintro e w12 ⟨rfl, rfl⟩
          rw [show Dev.read { D with down := true } 0 = (⟨#[]⟩, 20) from rfl]
          go_wp2_with fail
          refine (HPM.out _).mono ?_
          rintro e w13 ⟨rfl, hb13⟩
          have HB13 := Lib.hid (bT HB9.out hb13)
          clear hb13
          go_wp2_with fail
          go_ret
          exact ⟨rfl, HB13.out⟩
end Go.Proofs.Ytbfifakacneacaa
