import Derived.Test.YtbfifakacneacaaDkLib
set_option linter.unusedSimpArgs false
set_option linter.unusedVariables false
namespace Go.Proofs.Ytbfifakacneacaa
open Go.RowKit

/-- how a device stands behind i tries, n of which went well -/
def FuelInv (fuel : Int) (i : Nat) (n : Int) (D : Dev) : Prop := D.firm.length = 2 ∧ D.soft.length ≤ i ∧
  ((fuel < 0 ∧ D.fuel = -1 ∧ D.down = false ∧ n = i) ∨ (0 ≤ fuel ∧ (i : Int) ≤ fuel ∧ D.down = false ∧ D.fuel = fuel - i ∧ n = i) ∨ (0 ≤ fuel ∧ fuel < i ∧ D.down = true ∧ n = fuel))
theorem fuel_burn {fuel : Int} {i : Nat} {n : Int} {D : Dev} (h : FuelInv fuel i n D) (hd : D.down = false) :
    (D.burn.2 = true ∧ FuelInv fuel (i + 1) (n + 1) { D.burn.1 with soft := [] }) ∨ (D.burn.2 = false ∧ FuelInv fuel (i + 1) n D.burn.1) := by
  obtain ⟨h1, h2, h3 | h3 | h3⟩ := h
  · left
    obtain ⟨a, b, c, d⟩ := h3
    unfold Dev.burn
    rw [if_neg (by omega), if_neg (by omega)]
    exact ⟨rfl, h1, by simp, .inl ⟨a, b, c, by omega⟩⟩
  · obtain ⟨a, b, c, d, e⟩ := h3
    unfold Dev.burn
    by_cases hf : D.fuel = 0
    · right
      rw [if_pos hf]
      exact ⟨rfl, h1, by show D.soft.length ≤ _; omega, .inr (.inr ⟨a, by omega, rfl, by omega⟩)⟩
    · left
      rw [if_neg hf, if_pos (by omega)]
      exact ⟨rfl, h1, by simp, .inr (.inl ⟨a, by omega, c, by show D.fuel - 1 = _; omega, by omega⟩)⟩
  · rw [h3.2.2.1] at hd; exact absurd hd (by decide)
theorem fuel_down {fuel : Int} {i : Nat} {n : Int} {D : Dev} (h : FuelInv fuel i n D) (hd : D.down = true) : FuelInv fuel (i + 1) n D := by
  obtain ⟨h1, h2, h3 | h3 | h3⟩ := h
  · rw [h3.2.2.1] at hd; exact absurd hd (by decide)
  · rw [h3.2.2.1] at hd; exact absurd hd (by decide)
  · exact ⟨h1, by omega, .inr (.inr ⟨h3.1, by omega, h3.2.2.1, h3.2.2.2⟩)⟩
theorem fuel_barrier {fuel : Int} {i : Nat} {n : Int} {D : Dev} (hok : DevOk D) (h : FuelInv fuel i n D) :
    (D.barrier.2 = 0 ∧ FuelInv fuel (i + 1) (n + 1) D.barrier.1) ∨ (D.barrier.2 = 20 ∧ FuelInv fuel (i + 1) n D.barrier.1) := by
  unfold Dev.barrier
  cases hd : D.down with
  | true => right; simp only [if_true]; exact ⟨by trivial, fuel_down h hd⟩
  | false =>
    simp only [Bool.false_eq_true, if_false]
    rcases fuel_burn h hd with ⟨h1, h2⟩ | ⟨h1, h2⟩
    · left
      rw [h1]
      simp only [Bool.true_eq_false, if_false]
      refine ⟨by trivial, ?_, by simp, h2.2.2⟩
      have := burn_same D
      show D.burn.1.seen.length = 2
      rw [this.2.1, hok.2.2.1, h.1]
    · right
      rw [h1]
      simp only [if_true]
      exact ⟨by trivial, h2⟩
theorem fuel_write {fuel : Int} {i : Nat} {n : Int} {D : Dev} (h : FuelInv fuel i n D) (s : Int) (d : ByteArray) (hs0 : 0 ≤ s) (hs1 : s < 2) (hz : d.size = 64) :
    ((D.write s d).2 = 0 ∧ FuelInv fuel (i + 1) (n + 1) (D.write s d).1) ∨ ((D.write s d).2 = 20 ∧ FuelInv fuel (i + 1) n (D.write s d).1) := by
  have hl := h.1
  unfold Dev.write
  cases hd : D.down with
  | true => right; simp only [if_true]; exact ⟨by trivial, fuel_down h hd⟩
  | false =>
    simp only [Bool.false_eq_true, if_false]
    rw [if_neg (by omega)]
    rcases fuel_burn h hd with ⟨h1, h2⟩ | ⟨h1, h2⟩
    · left
      rw [h1]
      simp only [Bool.true_eq_false, if_false]
      have := burn_same D
      refine ⟨by trivial, h2.1, ?_, h2.2.2⟩
      show (D.burn.1.soft ++ [(s, d)]).length ≤ i + 1
      rw [List.length_append, this.2.2]
      have := h.2.1
      simp; omega
    · right
      rw [h1]
      simp only [if_true]
      exact ⟨by trivial, h2⟩
theorem fuel_start (fuel : Int) : FuelInv fuel 0 0 { Dev.new 2 with fuel := max fuel (-1) } := by
  refine ⟨rfl, Nat.le_refl _, ?_⟩
  by_cases h : fuel < 0
  · exact .inl ⟨h, by show max fuel (-1) = -1; omega, rfl, rfl⟩
  · exact .inr (.inl ⟨by omega, by simp; omega, rfl, by show max fuel (-1) = _; simp; omega, rfl⟩)
set_option maxRecDepth 100000 in
set_option maxHeartbeats 3200000 in
theorem fuel_pos (fuel : Int) (m : Nat) (hm : m ≤ 300) (hf : -9223372036854775808 ≤ fuel ∧ fuel ≤ 9223372036854775807) (w : World) :
    Calls Try.prog 5 #[.int .i64 fuel, .int .i64 m] w fun e w' => e = .returned (.bool true) ∧ Below w.heap.size w w' := by
  have HN := Lib.hid (dsk_new 2 (by omega) (by omega))
  have hsz1 : ((⟨#[97]⟩ : ByteArray)).size = 1 := rfl
  have hsz2 : ((⟨#[98]⟩ : ByteArray)).size = 1 := rfl
  have HP1 := Lib.hid (law_padded ⟨#[97]⟩ (by rw [hsz1]; decide))
  have HP2 := Lib.hid (law_padded ⟨#[98]⟩ (by rw [hsz2]; decide))
  have z1 := Lib.hid ((padS_size ⟨#[97]⟩).2 (by rw [hsz1]; omega))
  have z2 := Lib.hid ((padS_size ⟨#[98]⟩).2 (by rw [hsz2]; omega))
  have HST := Lib.hid (fuel_start fuel)
  generalize padS ⟨#[97]⟩ = A at *
  generalize padS ⟨#[98]⟩ = B at *
  clear hsz1 hsz2
  go_enter Try.func5, Try.ntmps5
  go_wp2_with fail
  refine (awake02 _).mono ?_
  rintro e w1 ⟨rfl, hb⟩
  have HB1 := Lib.hid hb
  clear hb
  go_wp2_with fail
  refine (HN.out _).mono ?_
  rintro e w2 ⟨p, S, rfl, hD, hb, hS⟩
  have HD2 := Lib.hid hD
  have HB2 := Lib.hid (bT HB1.out hb)
  have HS2 : Hid (∀ k ∈ S, w.heap.size ≤ k) := fun k hk => Nat.le_trans HB1.out.size (hS k hk)
  clear hD hb hS
  go_wp2_with fail
  refine (dsk_fuel p fuel hf.2 _ S _ HD2.out).mono ?_
  rintro e w3 ⟨rfl, hD, hk⟩
  have HD3 := Lib.hid hD
  have HB3 := Lib.hid (below_keep HB2.out hk (fun k e => by subst e; exact HS2.out _ HD2.out.mem))
  clear hD hk HD2
  go_wp2_with fail
  go_loopw [7, 8] (fun n i wr => ∃ (k : Nat) (c : Int) (D : Dev) (R : List Nat), k ≤ m ∧ i = .int .i64 k ∧ n = .int .i64 c ∧ Hid (FuelInv fuel k c D) ∧ Hid (DiskAt wr p D R) ∧ Hid (∀ b ∈ R, w.heap.size ≤ b) ∧ Below w.heap.size w wr) (fun _ i _ => m - (intOf i).toNat)
  case atStart => exact ⟨0, 0, _, S, by omega, rfl, rfl, HST, HD3, HS2, HB3.out⟩
  case round =>
    obtain ⟨k, c, D, R, hk, rfl, rfl, HI, HD, HR, hbr⟩ := hrel
    have HBr := Lib.hid hbr
    clear hbr
    have hbr1 : w.heap.size ≤ wr.heap.size := HBr.out.size
    have hbound := HI.out
    by_cases hkm : k < m
    · have hcr : 0 ≤ c ∧ c ≤ k := by
        obtain ⟨_, _, h | h | h⟩ := hbound <;> omega
      have hrel : ∀ (D' : Dev) (r : Int) (R' : List Nat) (wx : World), (r = 0 ∧ FuelInv fuel (k + 1) (c + 1) D' ∨ r = 20 ∧ FuelInv fuel (k + 1) c D') → DiskAt wx p D' R' → (∀ b ∈ R', b ∈ R ∨ wr.heap.size ≤ b) → True := fun _ _ _ _ _ _ _ => trivial
      clear hrel
      by_cases hk3 : k % 3 = 2
      · have hk3' : ((k : Int) % 3 == 2) = true := by simp; omega
        have HOP := Lib.hid (fuel_barrier HD.out.1 HI.out)
        go_wp2_with fail
        refine (dsk_barrier p D R _ HD.out).mono ?_
        rintro e w4 ⟨rfl, R', hD, hk, hR⟩
        have HR' : Hid (∀ b ∈ R', w.heap.size ≤ b) := fun b hb => (hR b hb).elim (HR.out b) (fun h => Nat.le_trans HBr.out.size h)
        have HB4 := Lib.hid (below_keep HBr.out hk HR.out)
        have HD4 := Lib.hid hD
        clear hD hk hR
        rcases HOP.out with ⟨hr, hI⟩ | ⟨hr, hI⟩
        · rw [hr]
          have HI4 := Lib.hid hI
          clear hI
          go_wp2_with fail
          go_roundw
          case rel => exact ⟨k + 1, c + 1, _, R', by omega, rfl, rfl, HI4, HD4, HR', HB4.out⟩
          case measure => simp [intOf]; omega
        · rw [hr]
          have HI4 := Lib.hid hI
          clear hI
          go_wp2_with fail
          go_roundw
          case rel => exact ⟨k + 1, c, _, R', by omega, rfl, rfl, HI4, HD4, HR', HB4.out⟩
          case measure => simp [intOf]; omega
      · have hk3' : ((k : Int) % 3 == 2) = false := by simp; omega
        have HOP := Lib.hid (fuel_write HI.out ((k : Int) % 2) A (by omega) (by omega) z1.out)
        have hsl := HI.out.2.1
        go_wp2_with fail
        refine (HP1.out _).mono ?_
        rintro e w4 ⟨rfl, hb4⟩
        have HDx := Lib.hid (HD.out.later hb4)
        have HBx := Lib.hid (bT HBr.out hb4)
        clear hb4
        go_wp2_with fail
        refine (dsk_write p ((k : Int) % 2) A (by rw [z1.out]; decide) D R (by omega) _ HDx.out).mono ?_
        rintro e w5 ⟨rfl, R', hD, hk, hR⟩
        have HR' : Hid (∀ b ∈ R', w.heap.size ≤ b) := fun b hb => (hR b hb).elim (HR.out b) (fun h => Nat.le_trans HBx.out.size h)
        have HB4 := Lib.hid (below_keep HBx.out hk HR.out)
        have HD4 := Lib.hid hD
        clear hD hk hR
        rcases HOP.out with ⟨hr, hI⟩ | ⟨hr, hI⟩
        · rw [hr]
          have HI4 := Lib.hid hI
          clear hI
          go_wp2_with fail
          go_roundw
          case rel => exact ⟨k + 1, c + 1, _, R', by omega, rfl, rfl, HI4, HD4, HR', HB4.out⟩
          case measure => simp [intOf]; omega
        · rw [hr]
          have HI4 := Lib.hid hI
          clear hI
          go_wp2_with fail
          go_roundw
          case rel => exact ⟨k + 1, c, _, R', by omega, rfl, rfl, HI4, HD4, HR', HB4.out⟩
          case measure => simp [intOf]; omega
    · obtain rfl : k = m := by omega
      have h0k : (0 : Int) ≤ k := by omega
      rcases hbound with ⟨h1, h2, ⟨h3, h4, h5, rfl⟩ | ⟨h3, h4, h5, h6, rfl⟩ | ⟨h3, h4, h5, rfl⟩⟩
      · go_wp2_with fail
        refine (dsk_fuel p 9 (by omega) _ R _ HD.out).mono ?_
        rintro e w5 ⟨rfl, hD, hk⟩
        have HB5 := Lib.hid (below_keep HBr.out hk (fun k e => by subst e; exact HR.out _ HD.out.mem))
        have HD5 := Lib.hid hD
        clear hD hk
        go_wp2_with fail
        go_ret
        exact ⟨rfl, HB5.out⟩
      · go_wp2_with fail
        refine (dsk_fuel p 9 (by omega) _ R _ HD.out).mono ?_
        rintro e w5 ⟨rfl, hD, hk⟩
        have HB5 := Lib.hid (below_keep HBr.out hk (fun k e => by subst e; exact HR.out _ HD.out.mem))
        have HD5 := Lib.hid hD
        clear hD hk
        go_wp2_with fail
        go_ret
        exact ⟨rfl, HB5.out⟩
      · have hne : ((c : Int) == (k : Int)) = false := by simp; omega
        go_wp2_with fail
        refine (dsk_fuel p 9 (by omega) _ R _ HD.out).mono ?_
        rintro e w5 ⟨rfl, hD, hk⟩
        have HB5 := Lib.hid (below_keep HBr.out hk (fun k e => by subst e; exact HR.out _ HD.out.mem))
        have HD5 := Lib.hid hD
        clear hD hk
        go_wp2_with fail
        refine (HP2.out _).mono ?_
        rintro e w6 ⟨rfl, hb6⟩
        have HDx := Lib.hid (HD5.out.later hb6)
        have HBx := Lib.hid (bT HB5.out hb6)
        clear hb6
        have hwr : (Dev.write { D with fuel := max 9 (-1) } 0 B) = ({ D with fuel := max 9 (-1) }, 20) := by
          unfold Dev.write
          rw [if_pos h5]
        go_wp2_with fail
        refine (dsk_write p 0 B (by rw [z2.out]; decide) _ R (by show (D.soft.length + 1) * 24 ≤ _; omega) _ HDx.out).mono ?_
        rintro e w7 ⟨rfl, R', hD, hk, hR⟩
        rw [hwr]
        have HB7 := Lib.hid (below_keep HBx.out hk HR.out)
        clear hD hk hR
        go_wp2_with fail
        go_ret
        exact ⟨rfl, HB7.out⟩
end Go.Proofs.Ytbfifakacneacaa
