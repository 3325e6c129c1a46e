import Derived.Test.YtgealllnchpekaaNodeD
set_option linter.unusedSimpArgs false
set_option linter.unusedVariables false
namespace Go.Proofs.Ytgealllnchpekaa
open Go.RowKit

def keyAt (P : Pg) (j : Nat) : ByteArray := (keyP (P.st j) (P.dt j)).1
def FindAt (P : Pg) (key : ByteArray) (n i : Nat) (t : Bool) : Prop := i ≤ n ∧ (∀ j, j < i → Op.bytesLess (keyAt P j).toList key.toList = true) ∧ (i < n → Op.bytesLess (keyAt P i).toList key.toList = false) ∧
  t = (decide (i < n) && ((keyAt P i).toList == key.toList))
set_option maxHeartbeats 1600000 in
theorem nd_find (P : Pg) (key : ByteArray) (hd : ∀ i, (P.dt i).size ≤ maxLen) (hk : key.size ≤ maxLen) (w : World) : Calls Try.prog 10 #[pgV P, .string key] w fun e w' => ∃ (n i : Nat) (t : Bool), IsCount P n ∧ FindAt P key n i t ∧ e = .returned (.tuple #[.int .i64 i, .bool t]) ∧ Below w.heap.size w w' := by
  have HCn := Lib.hid (fun w => nd_count P w)
  have hpc : pgC P = #[.int .i64 P.kind, .int .i64 P.level, .int .i64 P.store, .int .i64 P.next, .int .i64 (P.st 0), .string (P.dt 0), .int .i64 (P.st 1), .string (P.dt 1), .int .i64 (P.st 2), .string (P.dt 2),
  .int .i64 (P.st 3), .string (P.dt 3), .int .i64 (P.st 4), .string (P.dt 4), .int .i64 (P.st 5), .string (P.dt 5)] := rfl
  have hpc := Lib.hid hpc
  unfold pgV at *
  have HQ : Hid ((w.alloc (.cells (pgC P) 26)).heap[w.heap.size]? = some (.cells (pgC P) 26 (0, 0))) := hN rfl
  rw [hpc.out] at HCn ⊢
  go_enter Try.func10, Try.ntmps10
  go_wp2_with fail
  refine (HCn.out _).mono ?_
  rintro e w1 ⟨n, hn, rfl, hb⟩
  have HQ1 := Lib.hid (hBs hb HQ.out)
  have HB1 := Lib.hid (bT (bA bR) hb)
  have hn6 := hn.1
  have hn6' : (n : Int) ≤ 6 := by omega
  have hn := Lib.hid hn
  clear hb HQ
  go_wp2_with fail
  have hlq := block_lt HQ1.out
  go_loopw [18] (fun i wr => ∃ (k : Nat), k ≤ n ∧ i = .int .i64 k ∧ Hid (∀ j, j < k → Op.bytesLess (keyAt P j).toList key.toList = true) ∧ Hid (wr.heap[w.heap.size]? = some (.cells (pgC P) 26 (0, 0))) ∧ Below w.heap.size w wr) (fun i _ => n - (intOf i).toNat)
  case atStart => exact ⟨0, by omega, rfl, fun j h => by omega, HQ1, HB1.out⟩
  case round =>
    obtain ⟨k, hk, rfl, hno, HQr, hbr⟩ := hrel
    have HBr := Lib.hid hbr
    clear hbr HQ1 HB1
    have hqr := block_lt HQr.out
    by_cases hkn : k < n
    · obtain ⟨c0, c1⟩ := pg_at HQr.out k (by omega)
      have HK := Lib.hid (fun w => nd_key (P.st k) (P.dt k) (hd k) w)
      unfold cellV at HK
      dsimp only at HK
      go_wp2_with fail
      refine (HK.out _).mono ?_
      rintro e w2 ⟨rfl, hb⟩
      have HB2 := Lib.hid (bT (bA HBr.out) hb)
      have HQ2 := Lib.hid (hBs hb (hO HQr.out))
      clear hb
      obtain ⟨own, how⟩ : ∃ own, keyAt P k = own := ⟨_, rfl⟩
      rw [show (keyP (P.st k) (P.dt k)).1 = own from how]
      have how := Lib.hid how
      cases hbl : Op.bytesLess own.toList key.toList with
      | true =>
        have hno2 : Hid (∀ j, j < k + 1 → Op.bytesLess (keyAt P j).toList key.toList = true) := fun j hj => by
          by_cases e : j = k
          · subst e; rw [how.out]; exact hbl
          · exact hno.out j (by omega)
        go_wp2_with fail
        go_roundw
        case rel => exact ⟨k + 1, by omega, rfl, hno2, HQ2, HB2.out⟩
        case measure => simp [intOf]; omega
      | false =>
        have hfin : FindAt P key n k (own.toList == key.toList) := ⟨by omega, hno.out, fun _ => by rw [how.out]; exact hbl, by rw [how.out]; simp [hkn]⟩
        have hfin := Lib.hid hfin
        go_wp2_with fail
        go_ret2
        exact ⟨n, k, _, hn.out, hfin.out, rfl, HB2.out⟩
    · obtain rfl : k = n := by omega
      go_wp2_with fail
      go_ret2
      exact ⟨k, k, false, hn.out, ⟨Nat.le_refl _, hno.out, fun h => by omega, by simp⟩, rfl, HBr.out⟩
end Go.Proofs.Ytgealllnchpekaa
