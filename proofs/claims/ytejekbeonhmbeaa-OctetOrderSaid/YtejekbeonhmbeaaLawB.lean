import Derived.Test.YtejekbeonhmbeaaLawA
import Derived.Deep.QuietTactic
import Derived.BigQuiet
set_option linter.unusedSimpArgs false
set_option linter.unusedVariables false
namespace Go.Proofs.Ytejekbeonhmbeaa
open Go.RowKit

theorem digit_step (a : Int) (i : Nat) : a / 2 ^ (8 * i) = 256 * (a / 2 ^ (8 * (i + 1))) + a / 2 ^ (8 * i) % 256 := by
  rw [← shift_div]; omega
theorem digits_same (a b : Int) (i : Nat) (h : a / 2 ^ (8 * (i + 1)) = b / 2 ^ (8 * (i + 1))) (hd : a / 2 ^ (8 * i) % 256 = b / 2 ^ (8 * i) % 256) : a / 2 ^ (8 * i) = b / 2 ^ (8 * i) := by
  rw [digit_step a i, digit_step b i, h, hd]
theorem digits_order (a b : Int) (i : Nat) (h : a / 2 ^ (8 * (i + 1)) = b / 2 ^ (8 * (i + 1))) (hd : a / 2 ^ (8 * i) % 256 ≠ b / 2 ^ (8 * i) % 256) :
    (a / 2 ^ (8 * i) % 256 < b / 2 ^ (8 * i) % 256 ↔ a < b) ∧ a ≠ b := by
  have ha := digit_step a i
  have hb := digit_step b i
  have hne : a ≠ b := fun e => hd (by rw [e])
  refine ⟨⟨fun h1 => ?_, fun h1 => ?_⟩, hne⟩
  · have h2 : a / 2 ^ (8 * i) < b / 2 ^ (8 * i) := by omega
    rcases Int.lt_or_le a b with h3 | h3
    · exact h3
    · have := Int.ediv_le_ediv (show (0 : Int) < 2 ^ (8 * i) from Int.pow_pos (by omega)) h3
      omega
  · have := Int.ediv_le_ediv (show (0 : Int) < 2 ^ (8 * i) from Int.pow_pos (by omega)) (Int.le_of_lt h1)
    omega

set_option maxHeartbeats 400000 in
theorem octetOrder_walk (a b : Int) (ha : 0 ≤ a ∧ a ≤ 18446744073709551615) (hb : 0 ≤ b ∧ b ≤ 18446744073709551615) (w : World) :
    Calls Try.prog 4 #[.int .u64 a, .int .u64 b] w fun e w' => e = .returned (.bool true) ∧ Below w.heap.size w w' := by
  have HA := Lib.hid (oct_num_ok a 8 (by omega) (by omega) ha.1 (fun h => by omega))
  have HB := Lib.hid (oct_num_ok b 8 (by omega) (by omega) hb.1 (fun h => by omega))
  have H0 : Hid (a / 2 ^ (8 * 8) = b / 2 ^ (8 * 8)) := by
    have h1 : (2 : Int) ^ (8 * 8) = 18446744073709551616 := by decide
    show _ = _
    rw [h1, Int.ediv_eq_zero_of_lt ha.1 (by omega), Int.ediv_eq_zero_of_lt hb.1 (by omega)]
  have hx : (leS a (8 : Int).toNat).size = 8 := leS_size _ _
  have hy : (leS b (8 : Int).toNat).size = 8 := leS_size _ _
  have HX : Hid (∀ i (h : i < (leS a (8 : Int).toNat).size), ((leS a (8 : Int).toNat)[i].toNat : Int) = a / 2 ^ (8 * i) % 256) := fun i h => leS_get a _ i h
  have HY : Hid (∀ i (h : i < (leS b (8 : Int).toNat).size), ((leS b (8 : Int).toNat)[i].toNat : Int) = b / 2 ^ (8 * i) % 256) := fun i h => leS_get b _ i h
  generalize leS a (8 : Int).toNat = X at *
  generalize leS b (8 : Int).toNat = Y at *
  clear ha hb
  go_enter Try.func4, Try.ntmps4
  go_wp2_with fail
  refine (awake01 _).mono ?_
  rintro e w1 ⟨rfl, hb1⟩
  go_wp2_with fail
  refine (HA.out _).mono ?_
  rintro e w2 ⟨rfl, hb2⟩
  go_wp2_with fail
  refine (HB.out _).mono ?_
  rintro e w3 ⟨rfl, hb3⟩
  have HB3 := Lib.hid (bT (bT hb1 hb2) hb3)
  clear hb1 hb2 hb3
  go_wp2_with fail
  go_loopw [9] (fun i wr => ∃ k : Nat, k ≤ 8 ∧ i = .int .i64 ((k : Int) - 1) ∧ Hid (a / 2 ^ (8 * k) = b / 2 ^ (8 * k)) ∧ Below w.heap.size w wr) (fun i _ => (intOf i + 1).toNat)
  case atStart => exact ⟨8, Nat.le_refl _, rfl, H0, HB3.out⟩
  case round =>
    obtain ⟨k, hk, rfl, HE, hbr⟩ := hrel
    by_cases hlt : 0 < k
    · obtain ⟨j, rfl⟩ : ∃ j, k = j + 1 := ⟨k - 1, by omega⟩
      rw [show (((j + 1 : Nat) : Int) - 1) = (j : Int) from by omega]
      have hxj : j < X.size := by omega
      have hyj : j < Y.size := by omega
      have hj8 : (j : Int) < 8 := by omega
      by_cases hd : a / 2 ^ (8 * j) % 256 = b / 2 ^ (8 * j) % 256
      · have HE' : Hid (a / 2 ^ (8 * j) = b / 2 ^ (8 * j)) := digits_same a b j HE.out hd
        have hne : ((X[j].toNat : Int) != (Y[j].toNat : Int)) = false := by rw [HX.out j hxj, HY.out j hyj, hd]; simp
        clear hd
        go_wp2_with fail
        go_region
        go_wp2_with fail
        go_roundw
        case rel => exact ⟨j, by omega, rfl, HE', hbr.drew⟩
        case measure => simp [intOf]
      · have ho := digits_order a b j HE.out hd
        have hne : ((X[j].toNat : Int) != (Y[j].toNat : Int)) = true := by rw [HX.out j hxj, HY.out j hyj]; simpa using hd
        have hab : (a != b) = true := by simpa using ho.2
        by_cases hl : a < b
        · have hl' : (X[j].toNat : Int) < (Y[j].toNat : Int) := by rw [HX.out j hxj, HY.out j hyj]; exact ho.1.2 hl
          clear hd ho
          go_wp2_with fail
          go_region
          go_wp2_with fail
          go_region
          go_wp2_with fail
          go_ret
          exact ⟨rfl, hbr.drew.drew⟩
        · have hl' : ¬ (X[j].toNat : Int) < (Y[j].toNat : Int) := by rw [HX.out j hxj, HY.out j hyj]; exact fun h => hl (ho.1.1 h)
          have hq : (decide (X[j].toNat < Y[j].toNat) == decide (a < b)) = true := by
            have : ¬ X[j].toNat < Y[j].toNat := by omega
            simp [hl, this]
          clear hd ho hl hl'
          go_wp2_with fail
          go_region
          go_wp2_with fail
          go_region
          go_wp2_with fail
          go_ret
          exact ⟨rfl, hbr.drew.drew⟩
    · obtain rfl : k = 0 := by omega
      have hab : (a == b) = true := by have := HE.out; simpa using this
      go_wp2_with fail
      go_ret
      exact ⟨rfl, hbr⟩
end Go.Proofs.Ytejekbeonhmbeaa
