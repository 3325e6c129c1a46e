import Derived.Test.YtafiojmbaickpaaWalK
import Derived.Test.YtafiojmbaickpaaWalF
set_option linter.unusedSimpArgs false
set_option linter.unusedVariables false
namespace Go.Proofs.Ytafiojmbaickpaa
open Go.RowKit

theorem EntSl.later {w w' : World} {v : Value} {L : List (Int × ByteArray)} (h : EntSl w v L) (hb : Below w.heap.size w w') : EntSl w' v L := by
  obtain ⟨a, c, rfl, hc⟩ := h
  refine ⟨a, c, rfl, fun hl => ?_⟩
  obtain ⟨g, o, rfl, hg, hcell⟩ := hc hl
  exact ⟨g, o, rfl, Nat.lt_of_lt_of_le hg hb.size, fun j u hj => (cell_below hb hg).trans (hcell j u hj)⟩
theorem EntSl.take {w : World} {a : Option Addr} {n c : Nat} {L : List (Int × ByteArray)} (h : EntSl w (.slice a n c) L) (m : Nat) (hm : m ≤ L.length) : EntSl w (.slice a m c) (L.take m) := by
  obtain ⟨a', c', he, hc⟩ := h
  obtain ⟨rfl, rfl, rfl⟩ : a = a' ∧ n = L.length ∧ c = c' := by simpa using he
  have hl : (L.take m).length = m := by rw [List.length_take]; omega
  refine ⟨a, c, by rw [hl], fun hl2 => ?_⟩
  obtain ⟨g, o, rfl, hg, hcell⟩ := hc (by omega)
  refine ⟨g, o, rfl, hg, fun j u hj => hcell j u ?_⟩
  have : ∀ (L : List (Int × ByteArray)) (m j : Nat) (u : Value), (recV (L.take m))[j]? = some u → (recV L)[j]? = some u := by
    intro L
    induction L with
    | nil => intro m j u h; simp [recV] at h
    | cons x L ih =>
      intro m j u h
      cases m with
      | zero => simp [recV] at h
      | succ m =>
        obtain ⟨x1, x2⟩ := x
        rw [List.take_succ_cons] at h
        match j, h with
        | 0, h => exact h
        | 1, h => exact h
        | j + 2, h => exact ih m j u h
  exact this L m j u hj
theorem EntSl.at {w : World} {a : Option Addr} {n c : Nat} {L : List (Int × ByteArray)} (h : EntSl w (.slice a n c) L) (i : Nat) (hi : i < L.length) : ∃ g o, a = some ⟨g, o, none⟩ ∧ w.cell? ⟨g, o + i * 2, none⟩ = some (.int .i64 (L.getD i (0, ⟨#[]⟩)).1) ∧ w.cell? ⟨g, o + i * 2 + 1, none⟩ = some (.string (L.getD i (0, ⟨#[]⟩)).2) := by
  obtain ⟨a', c', he, hc⟩ := h
  obtain ⟨rfl, rfl, rfl⟩ : a = a' ∧ n = L.length ∧ c = c' := by simpa using he
  obtain ⟨g, o, rfl, hg, hcell⟩ := hc (by omega)
  have h2 := recV_get L i
  refine ⟨g, o, rfl, ?_, ?_⟩
  · rw [Nat.mul_comm]
    exact hcell _ _ (by rw [h2.1, List.getElem?_eq_getElem hi]; simp [List.getD_eq_getElem?_getD, List.getElem?_eq_getElem hi])
  · rw [Nat.mul_comm, Nat.add_assoc]
    exact hcell _ _ (by rw [h2.2, List.getElem?_eq_getElem hi]; simp [List.getD_eq_getElem?_getD, List.getElem?_eq_getElem hi])
theorem EntSl.form {w : World} {v : Value} {L : List (Int × ByteArray)} (h : EntSl w v L) : ∃ a c, v = .slice a L.length c := by
  obtain ⟨a, c, rfl, hc⟩ := h
  exact ⟨a, c, rfl⟩
theorem same_to {L M : List (Int × ByteArray)} (hl : L.length = M.length) (h : ∀ j, j < L.length → L.getD j (0, ⟨#[]⟩) = M.getD j (0, ⟨#[]⟩)) : L = M := by
  apply List.ext_getElem hl
  intro i h1 h2
  have := h i h1
  simpa [List.getD_eq_getElem?_getD, List.getElem?_eq_getElem h1, List.getElem?_eq_getElem h2] using this
set_option maxRecDepth 100000 in
set_option maxHeartbeats 800000 in
theorem ref_same (va vb : Value) (L M : List (Int × ByteArray)) (hL : L.length ≤ 4611686018427387904) (hM : M.length ≤ 4611686018427387904) (w : World) (ha : EntSl w va L) (hb : EntSl w vb M) :
    Calls Try.prog 19 #[va, vb] w fun e w' => e = .returned (.bool (decide (L = M))) ∧ Below w.heap.size w w' := by
  obtain ⟨a, c, rfl⟩ := ha.form
  obtain ⟨b, d, rfl⟩ := hb.form
  by_cases hl : L.length = M.length
  · rw [hl] at ha
    have ha := Lib.hid ha
    have hb := Lib.hid hb
    rw [hl] at hL ⊢
    obtain ⟨n, hn⟩ : ∃ n, M.length = n := ⟨_, rfl⟩
    rw [hn] at ha hb hL ⊢
    rw [hn] at hl
    replace hl := Lib.hid hl
    replace hn := Lib.hid hn
    obtain ⟨R, hR⟩ : ∃ R, decide (L = M) = R := ⟨_, rfl⟩
    rw [hR]
    replace hR := Lib.hid hR
    go_enter Try.func19, Try.ntmps19
    go_wp2_with fail
    go_loopw [5] (fun s wr => ∃ i : Nat, i ≤ n ∧ s = .int .i64 (i : Int) ∧ wr.heap = w.heap ∧ Below w.heap.size w wr ∧ Hid (∀ j, j < i → L.getD j (0, ⟨#[]⟩) = M.getD j (0, ⟨#[]⟩))) (fun s _ => n - (intOf s).toNat)
    case atStart => exact ⟨0, by omega, rfl, rfl, bR, fun j hj => by omega⟩
    case round =>
      obtain ⟨i, hi, rfl, hwe, hB, hsame⟩ := hrel
      by_cases hin : i < n
      · have hiI : (i : Int) < n := by omega
        have hi0 : (0 : Int) ≤ i := by omega
        have wri : IntKind.i64.wrap ((i : Int) + 1) = (i : Int) + 1 := by rw [IntKind.wrap_i64]; omega
        obtain ⟨ga, oa, rfl, ca1, ca2⟩ := ha.out.at i (by rw [hl.out]; exact hin)
        obtain ⟨gb, ob, rfl, cb1, cb2⟩ := hb.out.at i (by rw [hn.out]; exact hin)
        have hce : ∀ b o, w.cell? ⟨b, o, none⟩ = wr.cell? ⟨b, o, none⟩ := fun b o => by simp [World.cell?, hwe]
        rw [hce] at ca1 ca2 cb1 cb2
        clear hce
        obtain ⟨X, hX⟩ : ∃ X, L.getD i (0, ⟨#[]⟩) = X := ⟨_, rfl⟩
        obtain ⟨Y, hY⟩ : ∃ Y, M.getD i (0, ⟨#[]⟩) = Y := ⟨_, rfl⟩
        rw [hX] at ca1 ca2
        rw [hY] at cb1 cb2
        obtain ⟨x, s⟩ := X
        obtain ⟨y, t⟩ := Y
        dsimp only at ca1 ca2 cb1 cb2
        replace hX := Lib.hid hX
        replace hY := Lib.hid hY
        replace hwe := Lib.hid hwe
        replace hB := Lib.hid hB
        by_cases hxy : x = y
        · subst hxy
          by_cases hst : s = t
          · have he : (s.toList == t.toList) = true := by subst hst; simp
            replace hst := Lib.hid hst
            go_wp2_with fail
            go_quiet (fail)
            go_wp2_with fail
            go_roundw
            case rel => exact ⟨i + 1, hin, rfl, hwe.out, bN hB.out _, fun j hj => by
              by_cases hj' : j = i
              · subst hj'; rw [hX.out, hY.out, hst.out]
              · exact hsame.out j (by omega)⟩
            case measure => simp [intOf]; omega
          · have he : (s.toList == t.toList) = false := by
              rw [beq_eq_false_iff_ne]; exact fun h => hst (bytes_toList h)
            replace hst := Lib.hid hst
            go_wp2_with fail
            go_quiet (fail)
            go_wp2_with fail
            go_ret
            have : R = false := by
              rw [← hR.out]
              refine decide_eq_false (fun h => hst.out ?_)
              have h1 := hX.out
              have h2 := hY.out
              rw [h] at h1
              rw [h1] at h2
              injection h2
            rw [this]
            exact ⟨rfl, bN hB.out _⟩
        · have he : (x == y) = false := by simpa using hxy
          replace hxy := Lib.hid hxy
          go_wp2_with fail
          go_quiet (fail)
          go_wp2_with fail
          go_ret
          have : R = false := by
            rw [← hR.out]
            refine decide_eq_false (fun h => hxy.out ?_)
            have h1 := hX.out
            have h2 := hY.out
            rw [h] at h1
            rw [h1] at h2
            injection h2
          rw [this]
          exact ⟨rfl, bN hB.out _⟩
      · obtain rfl : i = n := by omega
        have hiI : ¬ (i : Int) < i := by omega
        go_wp2_with fail
        go_ret
        have : R = true := by
          rw [← hR.out]
          exact decide_eq_true (same_to (by rw [hl.out, hn.out]) (by rw [hl.out]; exact hsame.out))
        rw [this]
        exact ⟨rfl, hB⟩
  · have hl1 : ((L.length : Int) != M.length) = true := by simpa using fun h => hl (by omega)
    rw [show decide (L = M) = false from decide_eq_false (fun h => hl (by rw [h]))]
    replace hl := Lib.hid hl
    clear ha hb
    go_enter Try.func19, Try.ntmps19
    go_wp2_with fail
    go_ret
    exact ⟨rfl, bR⟩
end Go.Proofs.Ytafiojmbaickpaa
