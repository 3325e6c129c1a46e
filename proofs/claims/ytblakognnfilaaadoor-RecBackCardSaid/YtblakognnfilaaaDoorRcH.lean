import Derived.Test.YtblakognnfilaaaDoorRcS
import Derived.Test.YtblakognnfilaaaDoorPgD
set_option linter.unusedSimpArgs false
set_option linter.unusedVariables false
namespace Go.Proofs.YtblakognnfilaaaDoor
open Go.RowKit

/-! ### reading a record: one number -/
theorem clip_big {v : Int} (h : 1099511627776 < v) : clip v = -1 := if_pos h
theorem num_range (w : Nat) (σ : St) (h8 : w ≤ 8) : 0 ≤ (rdNum σ.1 σ.2 w).1 ∧ (rdNum σ.1 σ.2 w).1 < 18446744073709551616 := by
  obtain ⟨h1, h2⟩ := rdNum_range σ.1 σ.2 w
  refine ⟨h1, Int.lt_of_lt_of_le h2 ?_⟩
  rw [Int.toNat_natCast, int_pow_256]
  have : 256 ^ w ≤ 256 ^ 8 := Nat.pow_le_pow_right (by omega) h8
  omega
set_option maxHeartbeats 1600000 in
theorem rc_dnum (wd : Nat) (h8 : wd ≤ 8) (rv rb : Nat) (σ : St) (hs : σ.1.size ≤ maxLen) (w : World) (hne : rv ≠ rb) (hV : w.heap[rv]? = some (.cells #[.pointer (some ⟨rb, 0, none⟩)] 73 (0, 0))) (hR : Rd w rb σ.1 σ.2) :
    Calls Tryd.prog 31 #[.int .i64 wd, .pointer (some ⟨rv, 0, none⟩)] w fun e w' => e = .returned (.int .i64 (rN wd σ).1) ∧ Rd w' rb (rN wd σ).2.1 (rN wd σ).2.2 ∧ Keeps (· = rb) w w' := by
  have HC := Lib.hid (oct_rnum rb σ.1 σ.2 wd w hR hs)
  have c0 : w.cell? ⟨rv, 0, none⟩ = some (.pointer (some ⟨rb, 0, none⟩)) := cell_at hV 0
  obtain ⟨h0, h64⟩ := num_range wd σ h8
  have e1 : Hid ((rN wd σ).1 = clip (rdNum σ.1 σ.2 wd).1) := rfl
  have e2 : Hid ((rN wd σ).2 = (rdNum σ.1 σ.2 wd).2) := rfl
  clear hV hR hs
  generalize rN wd σ = X at *
  generalize rdNum σ.1 σ.2 wd = Y at *
  obtain ⟨v, s', b'⟩ := Y
  obtain ⟨n, s2, b2⟩ := X
  dsimp only at *
  obtain ⟨rfl, rfl⟩ : s2 = s' ∧ b2 = b' := Prod.mk.inj e2.out
  have hn := e1.out
  clear e1 e2
  by_cases hb : 1099511627776 < v
  · rw [clip_big hb] at hn
    subst hn
    go_enter Tryd.func31, Tryd.ntmps31
    go_wp2_with fail
    refine (HC.out).mono ?_
    rintro e w1 ⟨rfl, hr, hk⟩
    replace hr := Lib.hid hr
    replace hk := Lib.hid hk
    go_wp2_with fail
    go_ret
    exact ⟨rfl, hr.out, hk.out⟩
  · rw [clip_in (by omega)] at hn
    subst hn
    go_enter Tryd.func31, Tryd.ntmps31
    go_wp2_with fail
    refine (HC.out).mono ?_
    rintro e w1 ⟨rfl, hr, hk⟩
    replace hr := Lib.hid hr
    replace hk := Lib.hid hk
    go_wp2_with fail
    go_ret
    exact ⟨rfl, hr.out, hk.out⟩
end Go.Proofs.YtblakognnfilaaaDoor
