import Derived.Test.YtgealllnchpekaaNodeC
set_option linter.unusedSimpArgs false
set_option linter.unusedVariables false
namespace Go.Proofs.Ytgealllnchpekaa
open Go.RowKit

/-! ### pages -/
structure Pg where
  kind : Int
  level : Int
  store : Int
  next : Int
  st : Nat → Int
  dt : Nat → ByteArray
def pgC (P : Pg) : Array Value := #[.int .i64 P.kind, .int .i64 P.level, .int .i64 P.store, .int .i64 P.next, .int .i64 (P.st 0), .string (P.dt 0), .int .i64 (P.st 1), .string (P.dt 1), .int .i64 (P.st 2), .string (P.dt 2),
  .int .i64 (P.st 3), .string (P.dt 3), .int .i64 (P.st 4), .string (P.dt 4), .int .i64 (P.st 5), .string (P.dt 5)]
def pgV (P : Pg) : Value := .agg (pgC P)
theorem pg_at {w : World} {b : Nat} {P : Pg} {T : TypeId} {f : Nat × Nat} (h : w.heap[b]? = some (.cells (pgC P) T f)) (i : Nat) (hi : i < 6) :
    w.cell? ⟨b, 4 + i * 2, none⟩ = some (.int .i64 (P.st i)) ∧ w.cell? ⟨b, 4 + i * 2 + 1, none⟩ = some (.string (P.dt i)) := by
  rw [cell_at h, cell_at h]
  match i, hi with
  | 0, _ => exact ⟨rfl, rfl⟩
  | 1, _ => exact ⟨rfl, rfl⟩
  | 2, _ => exact ⟨rfl, rfl⟩
  | 3, _ => exact ⟨rfl, rfl⟩
  | 4, _ => exact ⟨rfl, rfl⟩
  | 5, _ => exact ⟨rfl, rfl⟩
def IsCount (P : Pg) (n : Nat) : Prop := n ≤ 6 ∧ (∀ j, j < n → P.st j ≠ 0) ∧ (n < 6 → P.st n = 0)
theorem IsCount.eq {P : Pg} {n m : Nat} (h : IsCount P n) (k : IsCount P m) : n = m := by
  rcases Nat.lt_trichotomy n m with h1 | h1 | h1
  · exact absurd (h.2.2 (by have := k.1; omega)) (k.2.1 n h1)
  · exact h1
  · exact absurd (k.2.2 (by have := h.1; omega)) (h.2.1 m h1)
set_option maxHeartbeats 800000 in
theorem nd_count (P : Pg) (w : World) : Calls Try.prog 14 #[pgV P] w fun e w' => ∃ n, IsCount P n ∧ e = .returned (.int .i64 n) ∧ Below w.heap.size w w' := by
  have HQ : Hid ((w.alloc (.cells (pgC P) 26)).heap[w.heap.size]? = some (.cells (pgC P) 26 (0, 0))) := hN rfl
  unfold pgV
  have hpc : pgC P = #[.int .i64 P.kind, .int .i64 P.level, .int .i64 P.store, .int .i64 P.next, .int .i64 (P.st 0), .string (P.dt 0), .int .i64 (P.st 1), .string (P.dt 1), .int .i64 (P.st 2), .string (P.dt 2),
  .int .i64 (P.st 3), .string (P.dt 3), .int .i64 (P.st 4), .string (P.dt 4), .int .i64 (P.st 5), .string (P.dt 5)] := rfl
  have hpc := Lib.hid hpc
  rw [hpc.out]
  go_enter Try.func14, Try.ntmps14
  go_wp2_with fail
  rw [← hpc.out]
  clear hpc
  go_loopw [3] (fun i wr => ∃ (k : Nat), k ≤ 6 ∧ i = .int .i64 k ∧ (∀ j, j < k → P.st j ≠ 0) ∧ Hid (wr.heap[w.heap.size]? = some (.cells (pgC P) 26 (0, 0))) ∧ Below w.heap.size w wr) (fun i _ => 6 - (intOf i).toNat)
  case atStart => exact ⟨0, by omega, rfl, fun j h => by omega, HQ, bA bR⟩
  case round =>
    obtain ⟨k, hk, rfl, hno, HQ, hbr⟩ := hrel
    have hno := Lib.hid hno
    have HBr := Lib.hid hbr
    clear hbr
    have hqr := block_lt HQ.out
    by_cases hk6 : k < 6
    · obtain ⟨c0, c1⟩ := pg_at HQ.out k hk6
      have hk6' : (k : Int) < 6 := by omega
      by_cases hs : P.st k = 0
      · have hs' : (P.st k == 0) = true := by simpa using hs
        have hfin : IsCount P k := ⟨by omega, hno.out, fun _ => hs⟩
        have hfin := Lib.hid hfin
        rw [hs] at c0
        go_wp2_with fail
        go_ret
        exact ⟨k, hfin.out, rfl, HBr.out⟩
      · have hs' : (P.st k != 0) = true := by simpa using hs
        have hn2 : ∀ j, j < k + 1 → P.st j ≠ 0 := fun j hj => by
          by_cases e : j = k
          · subst e; exact hs
          · exact hno.out j (by omega)
        have hn2 := Lib.hid hn2
        go_wp2_with fail
        go_roundw
        case rel => exact ⟨k + 1, by omega, rfl, hn2.out, HQ, HBr.out⟩
        case measure => simp [intOf]; omega
    · obtain rfl : k = 6 := by omega
      have hfin : IsCount P 6 := ⟨by omega, hno.out, fun h => by omega⟩
      have hfin := Lib.hid hfin
      go_wp2_with fail
      go_ret
      exact ⟨6, hfin.out, rfl, HBr.out⟩
end Go.Proofs.Ytgealllnchpekaa
