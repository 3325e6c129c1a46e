import Derived.Test.YtgealllnchpekaaNodeC
set_option linter.unusedSimpArgs false
set_option linter.unusedVariables false
namespace Go.Proofs.Ytgealllnchpekaa
open Go.RowKit

theorem ext_ext (s : ByteArray) (a b c d : Nat) (h : a + d ≤ b) (hb : b ≤ s.size) (hcd : c ≤ d) : (s.extract a b).extract c d = s.extract (a + c) (a + d) := by
  rw [ByteArray.extract_extract]
  congr 1
  omega
theorem valS_first (d : ByteArray) (h : 0 < d.size) : valS (d.extract 0 1) = (d[0].toNat : Int) := by
  unfold valS
  have : (d.extract 0 1).data.toList = [d[0]] := by
    have h2 := take_succ_bytes d 0 h
    rw [ByteArray.data_extract]
    simp only [Array.toList_extract]
    simpa [List.extract] using h2
  rw [this]
  simp [valL]
def saysP (st : Int) (d : ByteArray) : ByteArray × ByteArray × Bool :=
  if h : 0 < d.size then
    (if st = 0 ∨ 8 < d[0].toNat ∨ d.size - 1 < d[0].toNat then (⟨#[]⟩, ⟨#[]⟩, false) else (d.extract 1 (1 + d[0].toNat), d.extract (1 + d[0].toNat) d.size, true))
  else (⟨#[]⟩, ⟨#[]⟩, false)
theorem says_key (st : Int) (d : ByteArray) : saysP st d = keyP st d := by
  unfold saysP
  by_cases h : 0 < d.size
  · rw [dif_pos h]
    have h1 : rdNum d false 1 = ((d[0].toNat : Int), d.extract 1 d.size, false) := by
      unfold rdNum
      rw [if_neg (by omega), rdBytes_yes ⟨rfl, by omega, by omega⟩]
      show (valS (d.extract 0 1), d.extract 1 d.size, false) = _
      rw [valS_first d h]
    have hsz : (d.extract 1 d.size).size = d.size - 1 := by rw [ByteArray.size_extract]; omega
    generalize d[0].toNat = n at *
    unfold keyP rdText
    rw [h1]
    dsimp only
    by_cases hn : n ≤ d.size - 1
    · rw [rdBytes_yes ⟨rfl, by omega, by rw [hsz]; omega⟩]
      rw [Int.toNat_natCast, hsz, ext_ext d 1 d.size 0 n (by omega) (Nat.le_refl _) (by omega), ext_ext d 1 d.size n (d.size - 1) (by omega) (Nat.le_refl _) (by omega)]
      rw [show 1 + (d.size - 1) = d.size from by omega]
      have he : (d.extract 1 (1 + n)).size = n := by rw [ByteArray.size_extract]; omega
      rw [show 1 + 0 = 1 from rfl]
      dsimp only
      rw [he]
      by_cases hs : st = 0 ∨ 8 < n
      · rw [if_pos (by omega), if_pos (by simp; omega)]
      · rw [if_neg (by omega), if_neg (by simp; omega)]
    · rw [rdBytes_no (by rw [hsz]; simp; omega)]
      rw [if_pos (by omega), if_pos (.inr (.inl rfl))]
  · rw [dif_neg h]
    have h1 : rdNum d false 1 = (0, d, true) := by
      unfold rdNum
      rw [if_neg (by omega), rdBytes_no (by simp; omega)]
      rfl
    unfold keyP rdText
    rw [h1]
    dsimp only
    rw [rdBytes_no (by simp)]
    rw [if_pos (.inr (.inl rfl))]
set_option maxHeartbeats 1600000 in
theorem rf_says (st : Int) (d : ByteArray) (hd : d.size ≤ maxLen) (w : World) :
    Calls Try.prog 23 #[cellV (st, d)] w fun e w' => e = .returned (.tuple #[.string (keyP st d).1, .string (keyP st d).2.1, .bool (keyP st d).2.2]) ∧ Below w.heap.size w w' := by
  rw [← says_key]
  unfold saysP cellV
  unfold maxLen at hd
  dsimp only
  by_cases h0 : st = 0
  · subst h0
    have e : (if h : 0 < d.size then (if (0 : Int) = 0 ∨ 8 < d[0].toNat ∨ d.size - 1 < d[0].toNat then ((⟨#[]⟩ : ByteArray), (⟨#[]⟩ : ByteArray), false) else (d.extract 1 (1 + d[0].toNat), d.extract (1 + d[0].toNat) d.size, true)) else (⟨#[]⟩, ⟨#[]⟩, false)) = (⟨#[]⟩, ⟨#[]⟩, false) := by
      split
      · rw [if_pos (.inl rfl)]
      · rfl
    rw [e]
    go_enter Try.func23, Try.ntmps23
    go_wp2_with fail
    go_ret3
    exact ⟨rfl, bA bR⟩
  · have h0' : (st == 0) = false := by simpa using h0
    by_cases h1 : 0 < d.size
    · rw [dif_pos h1]
      have hd1 : (1 : Int) ≤ d.size := by omega
      have hix : (0 : Int) < d.size := by omega
      have hg : d[0]? = some d[0] := getElem?_pos d 0 h1
      have hb := d[0].toNat_lt
      generalize hdn : d[0] = x at *
      by_cases h8 : 8 < x.toNat
      · rw [if_pos (.inr (.inl h8))]
        have e8 : (8 : Int) < x.toNat := by omega
        go_enter Try.func23, Try.ntmps23
        go_wp2_with fail
        go_ret3
        exact ⟨rfl, bA bR⟩
      · have e8 : (x.toNat : Int) ≤ 8 := by omega
        by_cases h9 : d.size - 1 < x.toNat
        · rw [if_pos (.inr (.inr h9))]
          have e9 : (d.size : Int) - 1 < x.toNat := by omega
          go_enter Try.func23, Try.ntmps23
          go_wp2_with fail
          go_ret3
          exact ⟨rfl, bA bR⟩
        · rw [if_neg (by omega)]
          have e9 : (x.toNat : Int) ≤ (d.size : Int) - 1 := by omega
          have e10 : 1 + (x.toNat : Int) ≤ d.size := by omega
          have e11 : (1 + (x.toNat : Int)).toNat = 1 + x.toNat := by omega
          go_enter Try.func23, Try.ntmps23
          go_wp2_with fail
          go_quiet (fail)
          go_wp2_with fail
          go_ret3
          exact ⟨rfl, bDN (bA bR) _⟩
    · rw [dif_neg h1]
      have hd1 : (d.size : Int) < 1 := by omega
      go_enter Try.func23, Try.ntmps23
      go_wp2_with fail
      go_ret3
      exact ⟨rfl, bA bR⟩
end Go.Proofs.Ytgealllnchpekaa
