import Derived.Test.YtejekbeonhmbeaaOctet
set_option linter.unusedSimpArgs false
set_option linter.unusedVariables false
namespace Go.Proofs.Ytejekbeonhmbeaa
open Go.RowKit

theorem e_num258 : leS 258 (2 : Int).toNat = ⟨#[2, 1]⟩ := by rfl
theorem e_textab : textS ⟨#[97, 98]⟩ = ⟨#[2, 97, 98]⟩ := by rfl
set_option maxHeartbeats 400000 in
theorem awake01 (w : World) : Calls Try.prog 9 #[] w fun e w' => e = .returned (.bool true) ∧ Below w.heap.size w w' := by
  have H1 := Lib.hid (fun w => oct_num_ok 258 2 (by omega) (by omega) (by omega) (fun _ => by decide) w)
  have H2 := Lib.hid (fun w => oct_text_ok ⟨#[97, 98]⟩ (by decide) w)
  rw [e_num258] at H1
  rw [e_textab] at H2
  go_enter Try.func9, Try.ntmps9
  go_wp2_with fail
  refine (H1.out _).mono ?_
  rintro e w1 ⟨rfl, hb1⟩
  go_wp2_with fail
  refine (H2.out _).mono ?_
  rintro e w2 ⟨rfl, hb2⟩
  go_wp2_with fail
  go_ret
  exact ⟨rfl, bT hb1 hb2⟩

set_option maxHeartbeats 400000 in
theorem fits_bad (n width : Int) (h : width < 1 ∨ 8 < width) (w : World) :
    Calls Try.prog 3 #[.int .u64 n, .int .i64 width] w fun e w' => e = .returned (.bool true) ∧ Below w.heap.size w w' := by
  have HN := Lib.hid (oct_num_bad n width h)
  rcases h with h | h
  · go_enter Try.func3, Try.ntmps3
    go_wp2_with fail
    refine (awake01 _).mono ?_
    rintro e w1 ⟨rfl, hb1⟩
    go_wp2_with fail
    refine (HN.out _).mono ?_
    rintro e w2 ⟨rfl, rfl⟩
    go_wp2_with fail
    go_ret
    exact ⟨rfl, hb1⟩
  · have h' : ¬ width < 1 := by omega
    go_enter Try.func3, Try.ntmps3
    go_wp2_with fail
    refine (awake01 _).mono ?_
    rintro e w1 ⟨rfl, hb1⟩
    go_wp2_with fail
    refine (HN.out _).mono ?_
    rintro e w2 ⟨rfl, rfl⟩
    go_wp2_with fail
    go_ret
    exact ⟨rfl, hb1⟩
theorem wrap_pow (width : Int) (h1 : 1 ≤ width) (h8 : width < 8) : IntKind.u64.wrap (2 ^ (8 * width).toNat) = 2 ^ (8 * width.toNat) := by
  have e : (8 * width).toNat = 8 * width.toNat := by omega
  rw [e, two_pow_8, int_pow_256]
  have := pow_256_le (show width.toNat < 8 by omega)
  exact wrap_u64_in _ (Int.natCast_nonneg _) (by omega)
theorem div_zero_iff (n : Int) (m : Nat) (hn : 0 ≤ n) : n / 2 ^ m = 0 ↔ n < 2 ^ m := by
  have hp : (0 : Int) < 2 ^ m := Int.pow_pos (by omega)
  constructor
  · intro h
    have := Int.emod_lt_of_pos n hp
    have := Int.mul_ediv_add_emod n (2 ^ m)
    rw [h] at this
    omega
  · exact Int.ediv_eq_zero_of_lt hn
set_option maxHeartbeats 400000 in
theorem fits_unfit (n width : Int) (h1 : 1 ≤ width) (h8 : width < 8) (hn : 0 ≤ n) (hf : n / 2 ^ (8 * width.toNat) ≠ 0) (w : World) :
    Calls Try.prog 3 #[.int .u64 n, .int .i64 width] w fun e w' => e = .returned (.bool true) ∧ Below w.heap.size w w' := by
  have HN := Lib.hid (oct_num_unfit n width h1 h8 hn hf)
  have hw8 : (width == 8) = false := by simp; omega
  have hge : ¬ n < IntKind.u64.wrap (2 ^ (8 * width).toNat) := by
    rw [wrap_pow width h1 h8]
    exact fun h => hf ((div_zero_iff n _ hn).2 h)
  clear hf
  go_enter Try.func3, Try.ntmps3
  go_wp2_with fail
  refine (awake01 _).mono ?_
  rintro e w1 ⟨rfl, hb1⟩
  go_wp2_with fail
  refine (HN.out _).mono ?_
  rintro e w2 ⟨rfl, rfl⟩
  go_wp2_with fail
  go_ret
  exact ⟨rfl, hb1⟩
set_option maxHeartbeats 400000 in
theorem fits_ok (n width : Int) (h1 : 1 ≤ width) (h8 : width ≤ 8) (hn : 0 ≤ n) (hf : width < 8 → n / 2 ^ (8 * width.toNat) = 0) (w : World) :
    Calls Try.prog 3 #[.int .u64 n, .int .i64 width] w fun e w' => e = .returned (.bool true) ∧ Below w.heap.size w w' := by
  have HN := Lib.hid (oct_num_ok n width h1 h8 hn hf)
  have hsz : ((leS n width.toNat).size : Int) = width := by rw [leS_size]; omega
  by_cases h : width = 8
  · clear hf
    subst h
    go_enter Try.func3, Try.ntmps3
    go_wp2_with fail
    refine (awake01 _).mono ?_
    rintro e w1 ⟨rfl, hb1⟩
    go_wp2_with fail
    refine (HN.out _).mono ?_
    rintro e w2 ⟨rfl, hb2⟩
    go_wp2_with fail
    go_ret
    exact ⟨by simpa using hsz, bT hb1 hb2⟩
  · have hw8 : (width == 8) = false := by simp; omega
    have hlt : n < IntKind.u64.wrap (2 ^ (8 * width).toNat) := by
      rw [wrap_pow width h1 (by omega)]
      exact (div_zero_iff n _ hn).1 (hf (by omega))
    clear hf
    go_enter Try.func3, Try.ntmps3
    go_wp2_with fail
    refine (awake01 _).mono ?_
    rintro e w1 ⟨rfl, hb1⟩
    go_wp2_with fail
    refine (HN.out _).mono ?_
    rintro e w2 ⟨rfl, hb2⟩
    go_wp2_with fail
    go_ret
    exact ⟨by simp, bT hb1 hb2⟩
theorem octetFits_walk (n width : Int) (hn : 0 ≤ n ∧ n ≤ 18446744073709551615) (_ : -9223372036854775808 ≤ width ∧ width ≤ 9223372036854775807) (w : World) :
    Calls Try.prog 3 #[.int .u64 n, .int .i64 width] w fun e w' => e = .returned (.bool true) ∧ Below w.heap.size w w' := by
  obtain ⟨hn, -⟩ := hn
  by_cases h : width < 1 ∨ 8 < width
  · exact fits_bad n width h w
  · by_cases hf : width < 8 → n / 2 ^ (8 * width.toNat) = 0
    · exact fits_ok n width (by omega) (by omega) hn hf w
    · exact fits_unfit n width (by omega) (by omega) hn (by omega) w
end Go.Proofs.Ytejekbeonhmbeaa
