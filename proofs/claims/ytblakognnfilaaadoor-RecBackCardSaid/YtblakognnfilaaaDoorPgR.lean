import Derived.Test.YtblakognnfilaaaDoorPg
set_option linter.unusedSimpArgs false
set_option linter.unusedVariables false
namespace Go.Proofs.YtblakognnfilaaaDoor
open Go.RowKit

set_option maxRecDepth 100000 in
set_option maxHeartbeats 16000000 in
theorem rf_right (P : Pg) (hd : ∀ i, i < 6 → (P.dt i).size ≤ maxLen) (w : World) : Calls Tryd.prog 29 #[pgV P] w fun e w' => (e = .returned (.bool true) ∧ PgOk P ∨ e = .returned (.bool false) ∧ ¬ PgOk P) ∧ Below w.heap.size w w' := by
  have hpc : pgC P = #[.int .i64 P.kind, .int .i64 P.level, .int .i64 P.store, .int .i64 P.next, .int .i64 (P.st 0), .string (P.dt 0), .int .i64 (P.st 1), .string (P.dt 1), .int .i64 (P.st 2), .string (P.dt 2),
  .int .i64 (P.st 3), .string (P.dt 3), .int .i64 (P.st 4), .string (P.dt 4), .int .i64 (P.st 5), .string (P.dt 5)] := rfl
  replace hpc := Lib.hid hpc
  have hpa : Hid (pgA P = #[.int .i64 (P.st 0), .string (P.dt 0), .int .i64 (P.st 1), .string (P.dt 1), .int .i64 (P.st 2), .string (P.dt 2), .int .i64 (P.st 3), .string (P.dt 3), .int .i64 (P.st 4), .string (P.dt 4), .int .i64 (P.st 5), .string (P.dt 5)]) := rfl
  have HQ : Hid ((w.alloc (.cells (pgC P) 60)).heap[w.heap.size]? = some (.cells (pgC P) 60 (0, 0))) := hN rfl
  unfold pgV
  rw [hpc.out]
  by_cases hh : HdOk P
  rotate_left
  · have hbad := Lib.hid (not_hd hh)
    rcases hd_cases hh with h | ⟨h1, h⟩ | ⟨h1, h2, h⟩ | ⟨h1, h2, h3, h⟩ | ⟨h1, h2, h3, h4, h⟩ | ⟨h1, h2, h3, h4, h5, h⟩ | ⟨h1, h2, h3, h4, h5, h6, h⟩ | ⟨h1, h2, h3, h4, h5, h6, h7, h⟩
    all_goals
      clear hh HQ hpa hpc
      go_enter Tryd.func29, Tryd.ntmps29
      go_wp2_with fail
      go_ret
      exact ⟨.inr ⟨rfl, hbad.out⟩, bA bR⟩
  obtain ⟨h1, h2, h3, h4, h5, h6, h7, h8⟩ := hh
  have hH : Hid (HdOk P) := ⟨h1, h2, h3, h4, h5, h6, h7, h8⟩
  go_enter Tryd.func29, Tryd.ntmps29
  go_wp2_with fail
  clear h1 h2 h3 h4 h5 h6 h7 h8
  rw [← hpc.out]
  try rw [← hpa.out]
  clear hpc hpa
  go_loopw [3] (fun i wr => ∃ (k : Nat), k ≤ 6 ∧ i = .int .i64 k ∧ Hid (∀ j, j < k → ClOk (P.st j) (P.dt j)) ∧ Hid (wr.heap[w.heap.size]? = some (.cells (pgC P) 60 (0, 0))) ∧ Hid (Below w.heap.size w wr)) (fun i _ => 6 - (intOf i).toNat)
  case atStart => exact ⟨0, by omega, rfl, fun j h => by omega, HQ, bA bR⟩
  case round =>
    obtain ⟨k, hk, rfl, hstep, HQ, HBr⟩ := hrel
    by_cases hk6 : k < 6
    rotate_left
    · obtain rfl : k = 6 := by omega
      go_wp2_with fail
      go_ret
      exact ⟨.inl ⟨rfl, hH.out, hstep.out⟩, HBr.out⟩
    have hix := run_index_pg P k hk6
    obtain ⟨c0, c1⟩ := pg_at HQ.out k hk6
    have hqr := block_lt HQ.out
    obtain ⟨s, es⟩ : ∃ s, P.st k = s := ⟨_, rfl⟩
    obtain ⟨d, ed⟩ : ∃ d, P.dt k = d := ⟨_, rfl⟩
    have hdz : d.size ≤ maxLen := ed ▸ hd k hk6
    unfold maxLen at hdz
    have hiff := Lib.hid (cl_more hstep.out (k := k))
    have hno := Lib.hid (not_cl (P := P) hk6)
    rw [es, ed] at hix hiff hno
    rw [es] at c0
    rw [ed] at c1
    replace es := Lib.hid es
    replace ed := Lib.hid ed
    have hk6' : (k : Int) < 6 := by omega
    by_cases hc : ClOk s d
    · have hcl := Lib.hid (hiff.out hc)
      obtain ⟨h1, h2, h3, h4⟩ := hc
      by_cases e : s = 0
      · subst e
        obtain rfl := str_none (h4 rfl)
        clear hiff hno h1 h2 h3 h4 hdz
        go_wp2_with fail
        go_roundw
        case rel => exact ⟨k + 1, by omega, rfl, hcl.out, hO HQ.out, bA HBr.out⟩
        case measure => simp [intOf]; omega
      · have e' : (s == 0) = false := by simpa using e
        clear hiff hno h4
        go_wp2_with fail
        go_roundw
        case rel => exact ⟨k + 1, by omega, rfl, hcl.out, hO HQ.out, bA HBr.out⟩
        case measure => simp [intOf]; omega
    · have hbad := Lib.hid (hno.out hc)
      rcases cl_cases hc with h | ⟨h1, h⟩ | ⟨h1, h2, h⟩ | ⟨h1, h2, h⟩
      · clear hc hiff hno hstep
        go_wp2_with fail
        go_ret
        exact ⟨.inr ⟨rfl, hbad.out⟩, bA HBr.out⟩
      · clear hc hiff hno hstep
        go_wp2_with fail
        go_ret
        exact ⟨.inr ⟨rfl, hbad.out⟩, bA HBr.out⟩
      · clear hc hiff hno hstep
        go_wp2_with fail
        go_ret
        exact ⟨.inr ⟨rfl, hbad.out⟩, bA HBr.out⟩
      · subst h1
        obtain ⟨n1, n2⟩ := str_some h
        clear hc hiff hno hstep
        go_wp2_with fail
        go_ret
        exact ⟨.inr ⟨rfl, hbad.out⟩, bA HBr.out⟩
end Go.Proofs.YtblakognnfilaaaDoor
