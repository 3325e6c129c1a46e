import Derived.Test.YtgealllnchpekaaNodeT
import Derived.Test.YtgealllnchpekaaNodeL
import Derived.Test.YtgealllnchpekaaLibD
set_option linter.unusedSimpArgs false
set_option linter.unusedVariables false
namespace Go.Proofs.Ytgealllnchpekaa
open Go.RowKit

theorem OwnS.form {w : World} {e : TypeId} {size : Nat} {v : Value} {n : Nat} {xs : List Value} (h : OwnS w e size v n xs) : ∃ a c, v = .slice a n c := by
  rcases h.2 with ⟨rfl, rfl⟩ | ⟨g, cap, cur, rfl, _⟩
  · exact ⟨_, _, rfl⟩
  · exact ⟨_, _, rfl⟩
theorem OwnS.has {w : World} {e : TypeId} {size : Nat} {v : Value} {n : Nat} {xs : List Value} (h : OwnS w e size v n xs) (hn : 0 < n) : ∃ g c, v = .slice (some ⟨g, 0, none⟩) n c := by
  rcases h.2 with ⟨rfl, rfl⟩ | ⟨g, cap, cur, rfl, _⟩
  · omega
  · exact ⟨_, _, rfl⟩
theorem cell_two_new (w : World) (x y : Value) (T : TypeId) (f : Nat × Nat) (n : Nat) (hn : n = w.heap.size) : ∀ (j : Nat) (u : Value), [x, y][j]? = some u → (w.alloc (.cells #[x, y] T f)).cell? ((⟨n, 0, none⟩ : Addr).add j) = some u := by
  intro j u hj
  subst hn
  have e : (⟨w.heap.size, 0, none⟩ : Addr).add j = ⟨w.heap.size, j, none⟩ := by unfold Addr.add; split <;> simp_all
  rw [e, cell_at (hN rfl)]
  simpa using hj

/-! ### the cells ahead of the first free one, as a list of their own -/
def cellsL (P : Pg) : Nat → List Value
  | 0 => []
  | n + 1 => cellsL P n ++ [.int .i64 (P.st n), .string (P.dt n)]
theorem cellsL_length (P : Pg) : ∀ n, (cellsL P n).length = n * 2
  | 0 => rfl
  | n + 1 => by rw [cellsL, List.length_append, cellsL_length P n]; simp; omega
theorem cellsL_get (P : Pg) : ∀ n j, j < n → (cellsL P n)[j * 2]? = some (.int .i64 (P.st j)) ∧ (cellsL P n)[j * 2 + 1]? = some (.string (P.dt j))
  | 0, j, h => by omega
  | n + 1, j, h => by
    rw [cellsL]
    by_cases e : j = n
    · subst e
      have h1 := cellsL_length P j
      rw [List.getElem?_append_right (by omega), List.getElem?_append_right (by omega), h1]
      simp
    · have h1 := cellsL_length P n
      rw [List.getElem?_append_left (by omega), List.getElem?_append_left (by omega)]
      exact cellsL_get P n j (by omega)
theorem Try.info_cell : (Try.prog.info? 23).map (fun i => (i.zero, i.size, i.bytes)) = some (some (.agg #[.int .i64 0, .string .empty]), 2, 24) := by kernel_rfl
/-- v: the slice of the n cells of P, in a block of its own, all of it from B on. -/
def CellsAt (w : World) (B : Nat) (v : Value) (P : Pg) (n : Nat) : Prop := OwnS w 23 2 v n (cellsL P n) ∧ ∀ k ∈ blk v, B ≤ k
theorem CellsAt.keep {S : Nat → Prop} {w w' : World} {B : Nat} {v : Value} {P : Pg} {n : Nat} (h : CellsAt w B v P n) (hk : Keeps S w w') (hS : ∀ k, B ≤ k → ¬ S k) : CellsAt w' B v P n := ⟨h.1.keep hk (fun k h' => hS k (h.2 k h')), h.2⟩
theorem CellsAt.at {w : World} {B : Nat} {g c : Nat} {P : Pg} {n : Nat} (h : CellsAt w B (.slice (some ⟨g, 0, none⟩) n c) P n) (j : Nat) (hj : j < n) :
    w.cell? ⟨g, j * 2, none⟩ = some (.int .i64 (P.st j)) ∧ w.cell? ⟨g, j * 2 + 1, none⟩ = some (.string (P.dt j)) := by
  have h1 := World.ownsRow.cellAt h.1 (j * 2) (by omega)
  have h2 := World.ownsRow.cellAt h.1 (j * 2 + 1) (by omega)
  obtain ⟨h3, h4⟩ := cellsL_get P n j hj
  exact ⟨h1.trans h3, h2.trans h4⟩
def NilIf (n : Nat) (v : Value) : Prop := n = 0 → v = .slice none 0 0
set_option maxRecDepth 100000 in
set_option maxHeartbeats 3200000 in
theorem rf_cells {P : Pg} {n : Nat} (hn : IsCount P n) (w : World) : Calls Try.prog 32 #[pgV P] w fun e w' => ∃ v, e = .returned v ∧ CellsAt w' w.heap.size v P n ∧ Below w.heap.size w w' ∧ NilIf n v := by
  obtain ⟨i0, hi, hi0, hi1, hi2⟩ := info_parts Try.info_cell
  have HQ : Hid ((w.alloc (.cells (pgC P) 26)).heap[w.heap.size]? = some (.cells (pgC P) 26 (0, 0))) := hN rfl
  unfold pgV
  have hn6 := hn.1
  have hn1 := Lib.hid hn.2.1
  have hn2 := Lib.hid hn.2.2
  clear hn
  go_enter Try.func32, Try.ntmps32
  go_wp2_with fail
  go_loopw [3, 4] (fun l i wr => ∃ (k : Nat) (v : Value), k ≤ n ∧ l = v ∧ i = .int .i64 k ∧ Hid (CellsAt wr (w.heap.size + 1) v P k) ∧ Hid (k = 0 → v = .slice none 0 0) ∧ Hid (wr.heap[w.heap.size]? = some (.cells (pgC P) 26 (0, 0))) ∧ Hid (Below w.heap.size w wr)) (fun l i _ => 6 - (intOf i).toNat)
  case atStart => exact ⟨0, _, by omega, rfl, rfl, ⟨OwnS.nil _ _ _, fun k h => by simp [blk, Value.ownBlock] at h⟩, fun _ => rfl, HQ, bA bR⟩
  case round =>
    obtain ⟨k, v, hk, hv, rfl, HC, Hnil, HQ, HB⟩ := hrel
    have hv := hv.symm
    subst hv
    have hqr := block_lt HQ.out
    have hk0 : (0 : Int) ≤ k := by omega
    by_cases hkn : k < n
    rotate_left
    · obtain rfl : k = n := by omega
      obtain ⟨ad, cc, hvf⟩ := HC.out.1.form
      have hfin := Lib.hid (show CellsAt wr w.heap.size v P k from ⟨HC.out.1, fun j hj => Nat.le_of_succ_le (HC.out.2 j hj)⟩)
      clear hvf
      by_cases hk6 : k < 6
      · obtain ⟨c0, c1⟩ := pg_at HQ.out k hk6
        rw [hn2.out hk6] at c0
        have hk6' : (k : Int) < 6 := by omega
        go_wp2_with fail
        go_ret
        exact ⟨v, rfl, hfin.out, HB.out, Hnil.out⟩
      · obtain rfl : k = 6 := by omega
        go_wp2_with fail
        go_ret
        exact ⟨v, rfl, hfin.out, HB.out, Hnil.out⟩
    have hst : (P.st k != 0) = true := by simpa using hn1.out k hkn
    have hk6' : (k : Int) < 6 := by omega
    obtain ⟨c0, c1⟩ := pg_at HQ.out k (by omega)
    have hpv : w.heap.size ∉ blk v := fun e => absurd (HC.out.2 _ e) (by omega)
    obtain ⟨s, es⟩ : ∃ s, P.st k = s := ⟨_, rfl⟩
    obtain ⟨d, ed⟩ : ∃ d, P.dt k = d := ⟨_, rfl⟩
    rw [es] at hst c0
    rw [ed] at c1
    replace es := Lib.hid es
    replace ed := Lib.hid ed
    have HO := Lib.hid (HC.out.1.keep ((Keeps.refl (fun _ => False) wr).alloc (.cells #[.int .i64 s, .string d] 23)) fun k hk e => e)
    go_wp2_with ((at_builtin; go_must (refine wpList_append_frame _ rfl _ _ 62 rfl 23 i0 (.agg #[.int .i64 0, .string .empty]) 2 24 Try.underlying62 hi hi0 hi1 hi2 rfl (by decide) _ _ _ rfl HO.out ⟨wr.heap.size, 0, none⟩ 1 1 [.int .i64 s, .string d] rfl rfl (cell_two_new _ _ _ _ _ _ (by simp)) (by simp [Value.oneCell']) (by unfold maxLen; omega) (by omega) ?_)); rintro v4 w4 ho4 hk4 hb4 hn4; (obtain ⟨g4, c4, rfl⟩ := ho4.has (by omega)); (replace hk4 : Keeps (· ∈ blk v) (wr.alloc (.cells #[.int .i64 s, .string d] 23)) w4 := hk4); (replace hb4 : ∀ j ∈ blk (.slice (some ⟨g4, 0, none⟩) (k + 1) c4), j ∈ blk v ∨ (wr.alloc (.cells #[.int .i64 s, .string d] 23)).heap.size ≤ j := hb4); (have HQ4 := Lib.hid (hk4.keep (hO HQ.out) hpv)); (have HO4 := Lib.hid ho4); (have HK4 := Lib.hid hk4); (have HB4 := Lib.hid hb4); clear ho4 hk4 hb4 hn4)
    go_roundw
    case rel =>
      refine ⟨k + 1, _, by omega, rfl, rfl, ⟨?_, ?_⟩, fun h => absurd h (by omega), HQ4, ?_⟩
      · show OwnS _ _ _ _ _ (cellsL P k ++ [.int .i64 (P.st k), .string (P.dt k)])
        rw [es.out, ed.out]
        exact HO4.out
      · intro j hj
        rcases HB4.out j hj with h | h
        · exact HC.out.2 j h
        · simp at h; omega
      · exact bK (bA HB.out) HK4.out (fun j hj => Nat.le_of_succ_le (HC.out.2 j hj))
    case measure => simp [intOf]; omega
end Go.Proofs.Ytgealllnchpekaa
