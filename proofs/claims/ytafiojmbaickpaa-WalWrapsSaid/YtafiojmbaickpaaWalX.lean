import Derived.Test.YtafiojmbaickpaaWalU
set_option linter.unusedSimpArgs false
set_option linter.unusedVariables false
namespace Go.Proofs.Ytafiojmbaickpaa
open Go.RowKit

set_option maxRecDepth 100000 in
theorem find_cmp (x : Int) (s : ByteArray) (t : Int) (hx : 0 ≤ x ∧ x ≤ 1152921504606846976) (ht : 0 ≤ t ∧ t ≤ 1152921504606846976) (w : World) :
    Calls Try.prog 49 #[.agg #[.int .i64 x, .string s], .int .i64 t] w fun e w' => e = .returned (.int .i64 (x - t)) ∧ Below w.heap.size w w' := by
  have hw : IntKind.i64.wrap (x - t) = x - t := by rw [IntKind.wrap_i64]; omega
  go_enter Try.func49, Try.ntmps49
  go_wp2_with fail
  go_ret
  exact ⟨rfl, bA bR⟩
set_option maxRecDepth 100000 in
set_option maxHeartbeats 800000 in
theorem ent_search (v : Value) (L : List (Int × ByteArray)) (t : Int) (hL : L.length ≤ 221184) (hx : ∀ x ∈ L, 0 ≤ x.1 ∧ x.1 ≤ 1152921504606846976) (hs : ∀ i j, i < j → j < L.length → (L.getD i (0, ⟨#[]⟩)).1 < (L.getD j (0, ⟨#[]⟩)).1) (ht : 0 ≤ t ∧ t ≤ 1152921504606846976) (fv : Value) (w : World) (h : EntSl w v L) :
    Calls Try.prog 48 #[v, .int .i64 t, .func (.func 49) #[] #[]] w fun e w' => ∃ i, i ≤ L.length ∧ (∀ k, k < i → (L.getD k (0, ⟨#[]⟩)).1 < t) ∧ (∀ k, i ≤ k → k < L.length → t ≤ (L.getD k (0, ⟨#[]⟩)).1) ∧ e = .returned (.tuple #[.int .i64 (i : Int), .bool (decide (i < L.length) && decide ((L.getD i (0, ⟨#[]⟩)).1 = t))]) ∧ Below w.heap.size w w' := by
  obtain ⟨a, c, rfl⟩ := h.form
  obtain ⟨n, hn⟩ : ∃ n, L.length = n := ⟨_, rfl⟩
  rw [hn] at h hL ⊢
  replace hn := Lib.hid hn
  have h := Lib.hid h
  have hx := Lib.hid hx
  have hs := Lib.hid hs
  have ht := Lib.hid ht
  go_enter Try.func48, Try.ntmps48
  go_wp2_with fail
  go_loopw [9, 10] (fun x y wr => ∃ i j : Nat, i ≤ j ∧ j ≤ n ∧ x = .int .i64 (i : Int) ∧ y = .int .i64 (j : Int) ∧ Hid (∀ k, k < i → (L.getD k (0, ⟨#[]⟩)).1 < t) ∧ Hid (∀ k, j ≤ k → k < n → t ≤ (L.getD k (0, ⟨#[]⟩)).1) ∧ Hid (Below w.heap.size w wr)) (fun x y _ => (intOf y).toNat - (intOf x).toNat)
  case atStart => exact ⟨0, n, by omega, by omega, rfl, rfl, fun k hk => by omega, fun k hk hk2 => by omega, bR⟩
  case round =>
    obtain ⟨i, j, hij, hjn, rfl, rfl, hlo, hhi, HB⟩ := hrel
    by_cases hlt : i < j
    · have hltI : (i : Int) < j := by omega
      have w1 : IntKind.i64.wrap ((i : Int) + j) = (i : Int) + j := by rw [IntKind.wrap_i64]; omega
      have w2 : IntKind.u64.wrap ((i : Int) + j) = (i : Int) + j := wrap_u64_in _ (by omega) (by omega)
      obtain ⟨m, hm⟩ : ∃ m, (i + j) / 2 = m := ⟨_, rfl⟩
      have hmI : ((i : Int) + j) / 2 = (m : Int) := by omega
      have hm0 : (0 : Int) ≤ m := by omega
      have hmn : (m : Int) < n := by omega
      have hm1 : i ≤ m := by omega
      have hm2 : m < j := by omega
      have w3 : IntKind.i64.wrap ((m : Int) + 1) = (m : Int) + 1 := by rw [IntKind.wrap_i64]; omega
      obtain ⟨g, o, rfl, c1, c2⟩ := (h.out.later HB.out).at m (by rw [hn.out]; omega)
      have hmem : L.getD m (0, ⟨#[]⟩) ∈ L := by
        rw [List.getD_eq_getElem?_getD, List.getElem?_eq_getElem (by rw [hn.out]; omega)]; exact List.getElem_mem _
      obtain ⟨x1, x2⟩ := hx.out _ hmem
      obtain ⟨y, hy⟩ : ∃ y, (L.getD m (0, ⟨#[]⟩)).1 = y := ⟨_, rfl⟩
      rw [hy] at c1 x1 x2
      generalize (L.getD m (0, ⟨#[]⟩)).2 = z at c2
      have HC := Lib.hid (fun w' => find_cmp y z t ⟨x1, x2⟩ ⟨ht.out.1, ht.out.2⟩ w')
      replace hy := Lib.hid hy
      replace hm := Lib.hid hm
      replace hij := Lib.hid hij
      replace hjn := Lib.hid hjn
      replace hm1 := Lib.hid hm1
      replace hm2 := Lib.hid hm2
      replace hlt := Lib.hid hlt
      clear hmem
      go_wp2_with fail
      refine (HC.out _).mono ?_
      rintro e w5 ⟨rfl, hb⟩
      have HB5 := Lib.hid (bT HB.out hb)
      clear hb HC HB c1 c2
      by_cases hyt : y < t
      · have b1 : y - t < 0 := by omega
        replace hyt := Lib.hid hyt
        go_wp2_with fail
        go_roundw
        case rel => exact ⟨m + 1, j, hm2.out, hjn.out, rfl, rfl, fun k hk => by
          by_cases hk' : k = m
          · subst hk'; rw [hy.out]; exact hyt.out
          · have hlt2 := hs.out k m (by omega) (by rw [hn.out]; have := hm2.out; have := hjn.out; omega)
            rw [hy.out] at hlt2
            have := hyt.out
            omega, hhi, HB5⟩
        case measure => have := hm1.out; have := hm2.out; simp [intOf]; omega
      · have b1 : ¬ y - t < 0 := by omega
        replace hyt := Lib.hid hyt
        go_wp2_with fail
        go_roundw
        case rel => exact ⟨i, m, hm1.out, by have := hm2.out; have := hjn.out; omega, rfl, rfl, hlo, fun k hk hkn => by
          by_cases hk' : k = m
          · subst hk'; rw [hy.out]; have := hyt.out; omega
          · have hlt2 := hs.out m k (by omega) (by rw [hn.out]; omega)
            rw [hy.out] at hlt2
            have := hyt.out
            omega, HB5⟩
        case measure => have := hm1.out; have := hm2.out; simp [intOf]; omega
    · obtain rfl : i = j := by omega
      have hltI : ¬ (i : Int) < i := by omega
      by_cases hin : i < n
      · have hinI : (i : Int) < n := by omega
        have hi0 : (0 : Int) ≤ i := by omega
        obtain ⟨g, o, rfl, c1, c2⟩ := (h.out.later HB.out).at i (by rw [hn.out]; omega)
        have hmem : L.getD i (0, ⟨#[]⟩) ∈ L := by
          rw [List.getD_eq_getElem?_getD, List.getElem?_eq_getElem (by rw [hn.out]; omega)]; exact List.getElem_mem _
        obtain ⟨x1, x2⟩ := hx.out _ hmem
        obtain ⟨y, hy⟩ : ∃ y, (L.getD i (0, ⟨#[]⟩)).1 = y := ⟨_, rfl⟩
        rw [hy] at c1 x1 x2
        generalize (L.getD i (0, ⟨#[]⟩)).2 = z at c2
        have HC := Lib.hid (fun w' => find_cmp y z t ⟨x1, x2⟩ ⟨ht.out.1, ht.out.2⟩ w')
        replace hy := Lib.hid hy
        replace hin := Lib.hid hin
        clear hmem
        go_wp2_with fail
        refine (HC.out _).mono ?_
        rintro e w5 ⟨rfl, hb⟩
        have HB5 := Lib.hid (bT HB.out hb)
        clear hb HC HB c1 c2
        by_cases hyt : y = t
        · subst hyt
          have b1 : (y - y == 0) = true := by simp
          go_wp2_with fail
          go_ret2
          exact ⟨i, hjn, hlo.out, hhi.out, by rw [hy.out, show (decide (i < n) && decide (y = y)) = true by simp [hin.out]]; rfl, HB5.out⟩
        · have b1 : (y - t == 0) = false := by
            rw [beq_eq_false_iff_ne]; omega
          replace hyt := Lib.hid hyt
          go_wp2_with fail
          go_ret2
          exact ⟨i, hjn, hlo.out, hhi.out, by rw [hy.out, show (decide (i < n) && decide (y = t)) = false by simp [hyt.out]]; rfl, HB5.out⟩
      · have hinI : ¬ (i : Int) < n := by omega
        replace hin := Lib.hid hin
        go_wp2_with fail
        go_ret2
        exact ⟨i, hjn, hlo.out, hhi.out, by rw [show decide (i < n) = false by simp [hin.out]]; rfl, HB.out⟩
end Go.Proofs.Ytafiojmbaickpaa
