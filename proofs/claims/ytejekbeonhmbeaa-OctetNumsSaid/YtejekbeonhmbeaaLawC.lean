import Derived.Test.YtejekbeonhmbeaaLawA
set_option linter.unusedSimpArgs false
set_option linter.unusedVariables false
namespace Go.Proofs.Ytejekbeonhmbeaa
open Go.RowKit

theorem num_pair (n width : Int) (hn : 0 ≤ n ∧ n ≤ 18446744073709551615) : ∃ (a b : ByteArray) (e : Int) (ok : Bool),
    (∀ w, Calls Try.prog 10 #[.int .u64 n, .int .i64 width] w fun r w' => r = .returned (.tuple #[.string a, .int .i64 e]) ∧ Below w.heap.size w w') ∧
    (∀ w, Calls Try.prog 11 #[.int .u64 n, .int .i64 width] w fun r w' => r = .returned (.tuple #[.string b, .bool ok]) ∧ Below w.heap.size w w') ∧
    ((e = 0 ∧ ok = true ∧ b = a) ∨ (e = 1 ∧ ok = false ∧ a = ⟨#[]⟩)) := by
  have hn64 : Hid (n < 18446744073709551616) := (by omega : n < 18446744073709551616)
  by_cases h : width < 1 ∨ 8 < width
  · exact ⟨_, _, _, _, fun w => (oct_num_bad n width h w).mono fun _ _ ⟨h1, h2⟩ => ⟨h1, h2 ▸ bR⟩, fun w => (ref_num_bad n width h w).mono fun _ _ ⟨h1, h2⟩ => ⟨h1, h2 ▸ bR⟩, .inr ⟨rfl, rfl, rfl⟩⟩
  · have hr := ref_num_ok n width (by omega) (by omega) hn.1 hn64
    by_cases hf : n / 2 ^ (8 * width.toNat) = 0
    · refine ⟨_, _, _, _, oct_num_ok n width (by omega) (by omega) hn.1 (fun _ => hf), hr, .inl ⟨rfl, ?_, rfl⟩⟩
      simpa using hf
    · by_cases h8 : width < 8
      · refine ⟨_, _, _, _, fun w => (oct_num_unfit n width (by omega) h8 hn.1 hf w).mono fun _ _ ⟨h1, h2⟩ => ⟨h1, h2 ▸ bR⟩, hr, .inr ⟨rfl, ?_, rfl⟩⟩
        simpa using hf
      · exfalso
        obtain rfl : width = 8 := by omega
        apply hf
        have h1 : (2 : Int) ^ (8 * (8 : Int).toNat) = 18446744073709551616 := by decide
        rw [h1, Int.ediv_eq_zero_of_lt hn.1 (by omega)]
theorem val_pair (s : ByteArray) (hs : s.size ≤ maxLen) : ∃ (v : Int) (e : Int) (ok : Bool),
    (∀ w, Calls Try.prog 12 #[.string s] w fun r w' => r = .returned (.tuple #[.int .u64 v, .int .i64 e]) ∧ w = w') ∧
    (∀ w, Calls Try.prog 13 #[.string s] w fun r w' => r = .returned (.tuple #[.int .u64 v, .bool ok]) ∧ w = w') ∧
    ((e = 0 ∧ ok = true) ∨ (e = 1 ∧ ok = false)) := by
  by_cases h : (s.size : Int) < 1 ∨ 8 < (s.size : Int)
  · exact ⟨_, _, _, fun w => oct_val_bad s h w hs, fun w => ref_val_bad s h w hs, .inr ⟨rfl, rfl⟩⟩
  · exact ⟨_, _, _, oct_val_ok s (by omega) (by omega), ref_val_ok s (by omega) (by omega), .inl ⟨rfl, rfl⟩⟩
theorem text_pair (s : ByteArray) (hs : s.size ≤ maxLen) : ∃ (v : ByteArray) (e : Int) (ok : Bool),
    (∀ w, Calls Try.prog 14 #[.string s] w fun r w' => r = .returned (.tuple #[.string v, .int .i64 e]) ∧ Below w.heap.size w w') ∧
    (∀ w, Calls Try.prog 15 #[.string s] w fun r w' => r = .returned (.tuple #[.string v, .bool ok]) ∧ Below w.heap.size w w') ∧
    ((e = 0 ∧ ok = true) ∨ (e = 2 ∧ ok = false)) := by
  by_cases h : 255 < (s.size : Int)
  · exact ⟨_, _, _, fun w => (oct_text_long s h hs w).mono fun _ _ ⟨h1, h2⟩ => ⟨h1, h2 ▸ bR⟩, fun w => (ref_text_long s h hs w).mono fun _ _ ⟨h1, h2⟩ => ⟨h1, h2 ▸ bR⟩, .inr ⟨rfl, rfl⟩⟩
  · exact ⟨_, _, _, oct_text_ok s (by omega), ref_text_ok s (by omega), .inl ⟨rfl, rfl⟩⟩

set_option maxHeartbeats 800000 in
theorem octetNums_walk (n width : Int) (s : ByteArray) (hn : 0 ≤ n ∧ n ≤ 18446744073709551615) (_ : -9223372036854775808 ≤ width ∧ width ≤ 9223372036854775807) (hs : s.size ≤ maxLen) (w : World) :
    Calls Try.prog 5 #[.int .u64 n, .int .i64 width, .string s] w fun e w' => e = .returned (.bool true) ∧ Below w.heap.size w w' := by
  obtain ⟨a, b, e, ok, N1, N2, hN⟩ := num_pair n width hn
  obtain ⟨v, f, fine, V1, V2, hV⟩ := val_pair s hs
  obtain ⟨t, g, short, T1, T2, hT⟩ := text_pair s hs
  clear hn
  have N1 := Lib.hid N1
  have N2 := Lib.hid N2
  have V1 := Lib.hid V1
  have V2 := Lib.hid V2
  have T1 := Lib.hid T1
  have T2 := Lib.hid T2
  rcases hN with ⟨rfl, rfl, rfl⟩ | ⟨rfl, rfl, rfl⟩ <;> rcases hV with ⟨rfl, rfl⟩ | ⟨rfl, rfl⟩ <;> rcases hT with ⟨rfl, rfl⟩ | ⟨rfl, rfl⟩
  all_goals
    go_enter Try.func5, Try.ntmps5
    go_wp2_with fail
    refine (awake01 _).mono ?_
    rintro e w1 ⟨rfl, hb1⟩
    go_wp2_with fail
    refine (N1.out _).mono ?_
    rintro e w2 ⟨rfl, hb2⟩
    go_wp2_with fail
    refine (N2.out _).mono ?_
    rintro e w3 ⟨rfl, hb3⟩
    go_wp2_with fail
    refine (V1.out _).mono ?_
    rintro e w4 ⟨rfl, rfl⟩
    go_wp2_with fail
    refine (V2.out _).mono ?_
    rintro e w4 ⟨rfl, rfl⟩
    go_wp2_with fail
    refine (T1.out _).mono ?_
    rintro e w4 ⟨rfl, hb4⟩
    go_wp2_with fail
    refine (T2.out _).mono ?_
    rintro e w5 ⟨rfl, hb5⟩
    go_wp2_with fail
    go_ret
    exact ⟨rfl, bT (bT (bT (bT hb1 hb2) hb3) hb4) hb5⟩
end Go.Proofs.Ytejekbeonhmbeaa
