import Derived.Test.YtiollfjhfcaogaaWaits
set_option linter.unusedSimpArgs false
set_option linter.unusedVariables false
namespace Go.Proofs.Ytiollfjhfcaogaa
open Go.RowKit

/-- numbers, as a slice of m of them reads -/
def Ints (w : World) (ad : Option Addr) (m : Nat) (L : Nat → Int) : Prop := ∀ j, j < m → ∃ g o, ad = some ⟨g, o, none⟩ ∧ g < w.heap.size ∧ w.cell? ⟨g, o + j, none⟩ = some (.int .i64 (L j))
def IsMax (m : Nat) (L : Nat → Int) (v : Int) : Prop := (∀ j, j < m → L j ≤ v) ∧ ∃ j, j < m ∧ L j = v
set_option maxRecDepth 100000 in
set_option maxHeartbeats 1600000 in
theorem sl_max (ad : Option Addr) (m c : Nat) (L : Nat → Int) (hm : m ≤ maxLen) (h0 : 0 < m) (w : World) (h : Ints w ad m L) :
    Calls Try.prog 25 #[.slice ad m c] w fun e w' => ∃ v, IsMax m L v ∧ e = .returned (.int .i64 v) ∧ w' = w := by
  unfold maxLen at hm
  obtain ⟨g, o, rfl, hg, c0⟩ := h 0 h0
  have h := Lib.hid h
  have h1 : (1 : Int) ≤ m := by omega
  have h1' : ¬ (m : Int) < 1 := by omega
  have h1'' : (0 : Int) < m := by omega
  rw [Nat.add_zero] at c0
  have hL0 := Lib.hid (rfl : L 0 = L 0)
  go_enter Try.func25, Try.ntmps25
  go_wp2_with fail
  clear c0
  go_loopw [3, 4] (fun a s wr => ∃ (k : Nat) (v : Int), k ≤ m ∧ a = .int .i64 v ∧ s = .int .i64 k ∧ Hid (IsMax k L v) ∧ wr = w) (fun a s _ => m - (intOf s).toNat)
  case atStart => exact ⟨1, L 0, by omega, rfl, rfl, ⟨fun j hj => by obtain rfl : j = 0 := by omega
                                                                     exact Int.le_refl _, 0, by omega, rfl⟩, rfl⟩
  case round =>
    obtain ⟨k, v, hk, rfl, rfl, hmx, rfl⟩ := hrel
    by_cases hkm : k < m
    · obtain ⟨g', o', hgo, hg', c0⟩ := h.out k hkm
      obtain ⟨rfl, rfl⟩ : g = g' ∧ o = o' := by simpa using hgo
      have hk' : (k : Int) < m := by omega
      have hk0 : (0 : Int) ≤ k := by omega
      have wrk : IntKind.i64.wrap ((k : Int) + 1) = (k : Int) + 1 := by rw [IntKind.wrap_i64]; omega
      obtain ⟨x, ex⟩ : ∃ x, L k = x := ⟨_, rfl⟩
      rw [ex] at c0
      replace ex := Lib.hid ex
      have hmore : ∀ u : Int, v ≤ u → x ≤ u → (u = v ∨ u = x) → Hid (IsMax (k + 1) L u) := fun u hv hx hu => by
        refine ⟨fun j hj => ?_, ?_⟩
        · by_cases e : j = k
          · subst e; rw [ex.out]; exact hx
          · exact Int.le_trans (hmx.out.1 j (by omega)) hv
        · rcases hu with rfl | rfl
          · obtain ⟨j, hj, e⟩ := hmx.out.2; exact ⟨j, by omega, e⟩
          · exact ⟨k, by omega, ex.out⟩
      rcases Int.lt_trichotomy v x with hxy | hxy | hxy
      · have hnew := hmore x (by omega) (by omega) (.inr rfl)
        have hf : v ≤ x := by omega
        have hf' : ¬ x ≤ v := by omega
        clear hmore
        go_wp2_with fail
        go_roundw
        case rel => exact ⟨k + 1, x, by omega, rfl, rfl, hnew, by simp⟩
        case measure => simp [intOf]; omega
      · subst hxy
        have hnew := hmore v (by omega) (by omega) (.inl rfl)
        clear hmore
        go_wp2_with fail
        go_roundw
        case rel => exact ⟨k + 1, v, by omega, rfl, rfl, hnew, by simp⟩
        case measure => simp [intOf]; omega
      · have hnew := hmore v (by omega) (by omega) (.inl rfl)
        have hf : x ≤ v := by omega
        have hf' : ¬ v ≤ x := by omega
        clear hmore
        go_wp2_with fail
        go_roundw
        case rel => exact ⟨k + 1, v, by omega, rfl, rfl, hnew, by simp⟩
        case measure => simp [intOf]; omega
    · obtain rfl : k = m := by omega
      go_wp2_with fail
      go_ret
      exact ⟨v, hmx.out, rfl, rfl⟩
set_option maxHeartbeats 800000 in
theorem wt_victim (ad : Option Addr) (m c : Nat) (L : Nat → Int) (hm : m ≤ maxLen) (w : World) (h : Ints w ad m L) :
    Calls Try.prog 18 #[.slice ad m c] w fun e w' => ∃ v, (0 < m → IsMax m L v) ∧ (m = 0 → v = 0) ∧ e = .returned (.tuple #[.int .i64 v, .bool (decide (0 < m))]) ∧ w' = w := by
  by_cases h0 : m = 0
  · subst h0
    go_enter Try.func18, Try.ntmps18
    go_wp2_with fail
    go_ret2
    exact ⟨0, fun e => absurd e (by omega), fun _ => rfl, rfl, rfl⟩
  · have h1 : 0 < m := by omega
    have HM := Lib.hid (sl_max ad m c L hm h1 w h)
    have h2 : ((m : Int) == 0) = false := by simpa using h0
    have h3 : decide (0 < m) = true := decide_eq_true h1
    rw [h3]
    have h0 := Lib.hid h0
    clear h1 h3
    go_enter Try.func18, Try.ntmps18
    go_wp2_with fail
    refine (HM.out).mono ?_
    rintro e w1 ⟨v, hv, rfl, rfl⟩
    have hv := Lib.hid hv
    go_wp2_with fail
    go_ret2
    exact ⟨v, fun _ => hv.out, fun e => absurd e h0.out, rfl, rfl⟩
end Go.Proofs.Ytiollfjhfcaogaa
