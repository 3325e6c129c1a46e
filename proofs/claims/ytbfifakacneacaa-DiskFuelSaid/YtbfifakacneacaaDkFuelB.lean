import Derived.Test.YtbfifakacneacaaDkFuel
set_option linter.unusedSimpArgs false
set_option linter.unusedVariables false
namespace Go.Proofs.Ytbfifakacneacaa
open Go.RowKit

set_option maxRecDepth 100000 in
set_option maxHeartbeats 3200000 in
theorem fuel_many (fuel tries : Int) (hm : 300 < tries) (w : World) :
    Calls Try.prog 5 #[.int .i64 fuel, .int .i64 tries] w fun e w' => e = .returned (.bool true) ∧ Below w.heap.size w w' := by
  have HN := Lib.hid (dsk_new 2 (by omega) (by omega))
  go_enter Try.func5, Try.ntmps5
  go_wp2_with fail
  refine (awake02 _).mono ?_
  rintro e w1 ⟨rfl, hb⟩
  have HB1 := Lib.hid hb
  clear hb
  go_wp2_with fail
  refine (HN.out _).mono ?_
  rintro e w2 ⟨p, S, rfl, hD, hb, hS⟩
  have HB2 := Lib.hid (bT HB1.out hb)
  clear hD hb hS
  go_wp2_with fail
  go_ret
  exact ⟨rfl, HB2.out⟩
set_option maxRecDepth 100000 in
set_option maxHeartbeats 3200000 in
theorem fuel_neg (fuel tries : Int) (hm : tries < 0) (hf : -9223372036854775808 ≤ fuel ∧ fuel ≤ 9223372036854775807) (w : World) :
    Calls Try.prog 5 #[.int .i64 fuel, .int .i64 tries] w fun e w' => e = .returned (.bool true) ∧ Below w.heap.size w w' := by
  have HN := Lib.hid (dsk_new 2 (by omega) (by omega))
  have hff : fuel < 0 ∨ 0 ≤ fuel := by omega
  rcases hff with hff | hff
  all_goals
    go_enter Try.func5, Try.ntmps5
    go_wp2_with fail
    refine (awake02 _).mono ?_
    rintro e w1 ⟨rfl, hb⟩
    have HB1 := Lib.hid hb
    clear hb
    go_wp2_with fail
    refine (HN.out _).mono ?_
    rintro e w2 ⟨p, S, rfl, hD, hb, hS⟩
    have HD2 := Lib.hid hD
    have HB2 := Lib.hid (bT HB1.out hb)
    have HS2 : Hid (∀ k ∈ S, w.heap.size ≤ k) := fun k hk => Nat.le_trans HB1.out.size (hS k hk)
    clear hD hb hS
    go_wp2_with fail
    refine (dsk_fuel p fuel hf.2 _ S _ HD2.out).mono ?_
    rintro e w3 ⟨rfl, hD, hk⟩
    have HD3 := Lib.hid hD
    have HB3 := Lib.hid (below_keep HB2.out hk (fun k e => by subst e; exact HS2.out _ HD2.out.mem))
    clear hD hk HD2
    go_wp2_with fail
    refine wp_loop_rounds 1 ?_
    rw [rounds_succ]
    go_wp2_with fail
    refine (dsk_fuel p 9 (by omega) _ S _ HD3.out).mono ?_
    rintro e w5 ⟨rfl, hD, hk⟩
    have HB5 := Lib.hid (below_keep HB3.out hk (fun k e => by subst e; exact HS2.out _ HD3.out.mem))
    clear hD hk
    go_wp2_with fail
    go_ret
    exact ⟨rfl, HB5.out⟩
theorem diskFuel_walk (fuel tries : Int) (hf : -9223372036854775808 ≤ fuel ∧ fuel ≤ 9223372036854775807) (ht : -9223372036854775808 ≤ tries ∧ tries ≤ 9223372036854775807) (w : World) :
    Calls Try.prog 5 #[.int .i64 fuel, .int .i64 tries] w fun e w' => e = .returned (.bool true) ∧ Below w.heap.size w w' := by
  by_cases h1 : tries < 0
  · exact fuel_neg fuel tries h1 hf w
  · by_cases h2 : 300 < tries
    · exact fuel_many fuel tries h2 w
    · have := fuel_pos fuel tries.toNat (by omega) hf w
      rw [show ((tries.toNat : Nat) : Int) = tries from by omega] at this
      exact this
end Go.Proofs.Ytbfifakacneacaa
