import Derived.Test.YtgealllnchpekaaNodeQ
import Derived.Test.YtgealllnchpekaaNodeG
set_option linter.unusedSimpArgs false
set_option linter.unusedVariables false
namespace Go.Proofs.Ytgealllnchpekaa
open Go.RowKit

theorem leaf_bx : leafP ⟨#[98]⟩ ⟨#[120]⟩ 1 = ((1, bx), 0) := by
  have : bx = textS ⟨#[98]⟩ ++ ⟨#[120]⟩ := by decide +kernel
  unfold leafP
  rw [if_pos (by decide), this]
theorem find1 {n i : Nat} {t : Bool} (hn : IsCount page1 n) (hf : FindAt page1 ⟨#[99]⟩ n i t) : i = 1 ∧ t = false := by
  obtain rfl := count1 hn
  obtain ⟨h1, h2, h3, h4⟩ := hf
  have hk : keyAt page1 0 = ⟨#[98]⟩ := by show (keyP 1 bx).1 = _; rw [key_bx]
  have hi : i = 1 := by
    by_cases e : i = 0
    · subst e
      have := h3 (by omega)
      rw [hk] at this
      exact absurd this (by decide +kernel)
    · omega
  subst hi
  exact ⟨rfl, by rw [h4]; simp⟩
set_option maxRecDepth 100000 in
set_option maxHeartbeats 3200000 in
theorem awake05 (w : World) : Calls Try.prog 9 #[] w fun e w' => e = .returned (.bool true) ∧ Below w.heap.size w w' := by
  have HL := Lib.hid (fun w => nd_leaf ⟨#[98]⟩ ⟨#[120]⟩ 1 (by decide) (by decide) w)
  rw [leaf_bx] at HL
  have HP := Lib.hid (fun w => nd_put0 w)
  have HF := Lib.hid (fun w => nd_find page1 ⟨#[99]⟩ (fun i => by
    show (if i = 0 then bx else ⟨#[]⟩ : ByteArray).size ≤ maxLen
    split
    · decide
    · decide) (by decide) w)
  have HC := Lib.hid (fun w => nd_count page1 w)
  have HZ := Lib.hid (fun w => nd_check0 w)
  have ez : pgV pageZ = .agg #[.int .i64 0, .int .i64 0, .int .i64 0, .int .i64 0, .int .i64 0, .string ⟨#[]⟩, .int .i64 0, .string ⟨#[]⟩, .int .i64 0, .string ⟨#[]⟩, .int .i64 0, .string ⟨#[]⟩, .int .i64 0, .string ⟨#[]⟩, .int .i64 0, .string ⟨#[]⟩] := rfl
  have e0 : pgV page0 = .agg #[.int .i64 4, .int .i64 0, .int .i64 0, .int .i64 0, .int .i64 0, .string ⟨#[]⟩, .int .i64 0, .string ⟨#[]⟩, .int .i64 0, .string ⟨#[]⟩, .int .i64 0, .string ⟨#[]⟩, .int .i64 0, .string ⟨#[]⟩, .int .i64 0, .string ⟨#[]⟩] := rfl
  have e1 : pgV page1 = .agg #[.int .i64 4, .int .i64 0, .int .i64 0, .int .i64 0, .int .i64 1, .string ⟨#[1, 98, 120]⟩, .int .i64 0, .string ⟨#[]⟩, .int .i64 0, .string ⟨#[]⟩, .int .i64 0, .string ⟨#[]⟩, .int .i64 0, .string ⟨#[]⟩, .int .i64 0, .string ⟨#[]⟩] := rfl
  rw [e0, e1] at HP
  rw [e1] at HF HC
  rw [ez] at HZ
  clear e0 e1 ez
  have hfind : Hid (∀ n i t, IsCount page1 n → FindAt page1 ⟨#[99]⟩ n i t → i = 1 ∧ t = false) := fun n i t hn hf => find1 hn hf
  have hcount : Hid (∀ n, IsCount page1 n → n = 1) := fun n h => count1 h
  unfold cellV bx at *
  dsimp only at HL HP HF HC HZ
  go_enter Try.func9, Try.ntmps9
  go_wp2_with fail
  refine (HL.out _).mono ?_
  rintro e w1 ⟨rfl, hb⟩
  have HB1 := Lib.hid hb
  clear hb
  go_wp2_with fail
  refine (HP.out _).mono ?_
  rintro e w2 ⟨rfl, hb⟩
  have HB2 := Lib.hid (bT (bA HB1.out) hb)
  have HA2 := Lib.hid (hBs hb (hN (n := w1.heap.size) rfl))
  have a2 := cell_at HA2.out
  clear hb
  go_wp2_with fail
  refine (HF.out _).mono ?_
  rintro e w3 ⟨n, i, t, hn, hf, rfl, hb⟩
  obtain ⟨rfl, rfl⟩ := hfind.out n i t hn hf
  have HB3 := Lib.hid (bT (bA HB2.out) hb)
  have HA3 := Lib.hid (hBs hb (hO HA2.out))
  have HP3 := Lib.hid (hBs hb (hN (n := w2.heap.size) rfl))
  have a3 := cell_at HA3.out
  have p3 := cell_at HP3.out
  clear hb hn hf a2
  go_wp2_with fail
  refine (HC.out _).mono ?_
  rintro e w4 ⟨n, hn, rfl, hb⟩
  obtain rfl := hcount.out n hn
  have HB4 := Lib.hid (bT HB3.out hb)
  clear hb hn a3 p3
  go_wp2_with fail
  refine (HZ.out _).mono ?_
  rintro e w5 ⟨rfl, hb⟩
  have HB5 := Lib.hid (bT HB4.out hb)
  clear hb
  go_wp2_with fail
  go_ret
  exact ⟨rfl, HB5.out⟩
end Go.Proofs.Ytgealllnchpekaa
