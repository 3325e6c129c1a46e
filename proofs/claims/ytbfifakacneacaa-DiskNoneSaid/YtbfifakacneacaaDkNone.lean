import Derived.Test.YtbfifakacneacaaDkLib
set_option linter.unusedSimpArgs false
set_option linter.unusedVariables false
namespace Go.Proofs.Ytbfifakacneacaa
open Go.RowKit

set_option maxHeartbeats 1600000 in
theorem diskNone_walk (sector : Int) (v : Value) (ks : List Bool) (hs : -9223372036854775808 ≤ sector ∧ sector ≤ 9223372036854775807) (w : World) (hk : BoolsAt w w.heap.size v ks) :
    Calls Try.prog 9 #[.int .i64 sector, v] w fun e w' => e = .returned (.bool true) ∧ Below w.heap.size w w' := by
  obtain ⟨a, c, rfl, -, -⟩ := hk
  go_enter Try.func9, Try.ntmps9
  go_wp2_with fail
  refine (awake02 _).mono ?_
  rintro e w1 ⟨rfl, hb⟩
  have HB := Lib.hid hb
  clear hb
  go_wp2_with fail
  refine (dsk_read_nil _ _).mono ?_
  rintro e w2 ⟨rfl, rfl⟩
  go_wp2_with fail
  refine (dsk_fuel_nil _ _).mono ?_
  rintro e w2 ⟨rfl, rfl⟩
  go_wp2_with fail
  refine (dsk_write_nil _ _ _).mono ?_
  rintro e w2 ⟨rfl, rfl⟩
  go_wp2_with fail
  refine (dsk_barrier_nil _).mono ?_
  rintro e w2 ⟨rfl, rfl⟩
  go_wp2_with fail
  refine (dsk_size_nil _).mono ?_
  rintro e w2 ⟨rfl, rfl⟩
  go_wp2_with fail
  refine (dsk_pending_nil _).mono ?_
  rintro e w2 ⟨rfl, rfl⟩
  go_wp2_with fail
  refine (dsk_crash_nil _ _).mono ?_
  rintro e w2 ⟨rfl, rfl⟩
  go_wp2_with fail
  go_ret
  exact ⟨rfl, HB.out⟩
end Go.Proofs.Ytbfifakacneacaa
