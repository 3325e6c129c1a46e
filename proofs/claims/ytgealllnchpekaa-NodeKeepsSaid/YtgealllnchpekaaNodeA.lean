import Derived.Test.YtgealllnchpekaaNode
import Derived.Test.YtgealllnchpekaaLibB
set_option linter.unusedSimpArgs false
set_option linter.unusedVariables false
namespace Go.Proofs.Ytgealllnchpekaa
open Go.RowKit

def cellV (c : Int × ByteArray) : Value := .agg #[.int .i64 c.1, .string c.2]
theorem str_some {k : ByteArray} (h : k.size ≠ 0) : (¬ k.toList = []) ∧ k.toList.isEmpty = false := by
  have : ¬ k.toList = [] := fun e => h (by
    rw [ByteArray.toList_eq] at e
    have : k.data = #[] := Array.toList_inj.1 e
    show k.data.size = 0; rw [this]; rfl)
  exact ⟨this, by simpa using this⟩
theorem str_none {k : ByteArray} (h : k.size = 0) : k = ⟨#[]⟩ := by
  cases k with
  | mk d => exact congrArg _ (Array.eq_empty_of_size_eq_zero h)
set_option maxHeartbeats 1600000 in
theorem nd_leaf (k v : ByteArray) (st : Int) (hk : k.size ≤ maxLen) (hv : v.size ≤ maxLen) (w : World) :
    Calls Try.prog 19 #[.string k, .string v, .int .i64 st] w fun e w' => e = .returned (.tuple #[cellV (leafP k v st).1, .int .i64 (leafP k v st).2]) ∧ Below w.heap.size w w' := by
  unfold leafP
  unfold maxLen at hk hv
  have fin : ∀ w' : World, w' = w.alloc (.cells #[.int .i64 0, .string ⟨#[]⟩] 23) → Below w.heap.size w w' := by
    rintro _ rfl
    exact bA bR
  have fin := Lib.hid fin
  by_cases h : leafOk k v st
  · rw [if_pos h]
    obtain ⟨h1, h2, h3, h4⟩ := h
    have HT := Lib.hid (oct_text_ok k (by omega))
    have hts := textS_size k
    have e1 : (k.size : Int) ≤ 8 := by omega
    have e2 : (v.size : Int) ≤ 20 := by omega
    obtain ⟨e3, e4⟩ := str_some h1
    clear h1 h2 h3
    generalize textS k = T at *
    rcases h4 with rfl | rfl
    all_goals
      go_enter Try.func19, Try.ntmps19
      go_wp2_with fail
      refine (HT.out _).mono ?_
      rintro e w1 ⟨rfl, hb⟩
      have HQ := hBs hb (hN rfl)
      have q0 := cell_at HQ 0
      have q1 := cell_at HQ 1
      have f0 := free_at HQ 0
      have f1 := free_at HQ 1
      have HQ := Lib.hid HQ
      have HB := Lib.hid (bT (bA bR) hb)
      clear hb
      go_wp2_with fail
      refine bodyPost_ret (v := .tuple #[cellV (_, T ++ v), .int .i64 0]) (by simp [results, Try.results19, go_sem, cellV, q0, q1]) rfl ⟨rfl, ?_⟩
      exact bS (bS HB.out (Nat.le_refl _)) (Nat.le_refl _)
  · rw [if_neg h]
    by_cases h1 : k.size = 0
    · obtain rfl := str_none h1
      go_enter Try.func19, Try.ntmps19
      go_wp2_with fail
      refine bodyPost_ret (v := .tuple #[cellV (0, ⟨#[]⟩), .int .i64 1]) (by simp [results, Try.results19, go_sem, cellV]) rfl ⟨rfl, fin.out _ rfl⟩
    · obtain ⟨e3, e4⟩ := str_some h1
      by_cases h2 : 8 < k.size
      · have e1 : (8 : Int) < k.size := by omega
        go_enter Try.func19, Try.ntmps19
        go_wp2_with fail
        refine bodyPost_ret (v := .tuple #[cellV (0, ⟨#[]⟩), .int .i64 1]) (by simp [results, Try.results19, go_sem, cellV]) rfl ⟨rfl, fin.out _ rfl⟩
      · have e1 : (k.size : Int) ≤ 8 := by omega
        by_cases h3 : 20 < v.size
        · have e2 : (20 : Int) < v.size := by omega
          go_enter Try.func19, Try.ntmps19
          go_wp2_with fail
          refine bodyPost_ret (v := .tuple #[cellV (0, ⟨#[]⟩), .int .i64 1]) (by simp [results, Try.results19, go_sem, cellV]) rfl ⟨rfl, fin.out _ rfl⟩
        · have e2 : (v.size : Int) ≤ 20 := by omega
          have h5 : ¬ (st = 1 ∨ st = 2) := fun h' => h ⟨h1, by omega, by omega, h'⟩
          have h6 : (st != 1) = true := by simp; omega
          have h7 : (st != 2) = true := by simp; omega
          clear h h5
          go_enter Try.func19, Try.ntmps19
          go_wp2_with fail
          refine bodyPost_ret (v := .tuple #[cellV (0, ⟨#[]⟩), .int .i64 1]) (by simp [results, Try.results19, go_sem, cellV]) rfl ⟨rfl, fin.out _ rfl⟩
set_option maxHeartbeats 1600000 in
theorem nd_inner (k : ByteArray) (c : Int) (hk : k.size ≤ maxLen) (w : World) :
    Calls Try.prog 21 #[.string k, .int .i64 c] w fun e w' => e = .returned (.tuple #[cellV (innerP k c).1, .int .i64 (innerP k c).2]) ∧ Below w.heap.size w w' := by
  unfold innerP
  unfold maxLen at hk
  have fin : ∀ w' : World, w' = w.alloc (.cells #[.int .i64 0, .string ⟨#[]⟩] 23) → Below w.heap.size w w' := by
    rintro _ rfl
    exact bA bR
  have fin := Lib.hid fin
  by_cases h : innerOk k c
  · rw [if_pos h]
    obtain ⟨h1, h2, h3⟩ := h
    have HT := Lib.hid (oct_text_ok k (by omega))
    have HU := Lib.hid (oct_num_ok c 4 (by omega) (by omega) (by omega) (fun _ => by
      rw [show (2 : Int) ^ (8 * (4 : Int).toNat) = 4294967296 by decide]
      omega))
    have hts := textS_size k
    have hls : (leS c (4 : Int).toNat).size = 4 := leS_size _ _
    have e1 : (k.size : Int) ≤ 8 := by omega
    rw [show leS c 4 = leS c (4 : Int).toNat from rfl]
    clear h1
    generalize textS k = T at *
    generalize leS c (4 : Int).toNat = M at *
    have hwr : IntKind.u64.wrap c = c := wrap_u64_in c (by omega) (by omega)
    go_enter Try.func21, Try.ntmps21
    go_wp2_with fail
    refine (HT.out _).mono ?_
    rintro e w1 ⟨rfl, hb⟩
    have HQ := Lib.hid (hBs hb (hN rfl))
    have HB := Lib.hid (bT (bA bR) hb)
    clear hb
    go_wp2_with fail
    refine (HU.out _).mono ?_
    rintro e w2 ⟨rfl, hb⟩
    have HQ2 := hBs hb HQ.out
    have q0 := cell_at HQ2 0
    have q1 := cell_at HQ2 1
    have f0 := free_at HQ2 0
    have f1 := free_at HQ2 1
    have HQ2 := Lib.hid HQ2
    have HB2 := Lib.hid (bT HB.out hb)
    clear hb
    go_wp2_with fail
    refine bodyPost_ret (v := .tuple #[cellV (_, T ++ M), .int .i64 0]) (by simp [results, Try.results21, go_sem, cellV, q0, q1]) rfl ⟨rfl, ?_⟩
    exact bS (bS HB2.out (Nat.le_refl _)) (Nat.le_refl _)
  · rw [if_neg h]
    by_cases h2 : 8 < k.size
    · have e1 : (8 : Int) < k.size := by omega
      go_enter Try.func21, Try.ntmps21
      go_wp2_with fail
      refine bodyPost_ret (v := .tuple #[cellV (0, ⟨#[]⟩), .int .i64 1]) (by simp [results, Try.results21, go_sem, cellV]) rfl ⟨rfl, fin.out _ rfl⟩
    · have e1 : (k.size : Int) ≤ 8 := by omega
      by_cases h3 : c < 1
      · go_enter Try.func21, Try.ntmps21
        go_wp2_with fail
        refine bodyPost_ret (v := .tuple #[cellV (0, ⟨#[]⟩), .int .i64 1]) (by simp [results, Try.results21, go_sem, cellV]) rfl ⟨rfl, fin.out _ rfl⟩
      · have h4 : 1024 ≤ c := Int.not_lt.1 (fun h' => h ⟨by omega, by omega, h'⟩)
        go_enter Try.func21, Try.ntmps21
        go_wp2_with fail
        refine bodyPost_ret (v := .tuple #[cellV (0, ⟨#[]⟩), .int .i64 1]) (by simp [results, Try.results21, go_sem, cellV]) rfl ⟨rfl, fin.out _ rfl⟩
end Go.Proofs.Ytgealllnchpekaa
