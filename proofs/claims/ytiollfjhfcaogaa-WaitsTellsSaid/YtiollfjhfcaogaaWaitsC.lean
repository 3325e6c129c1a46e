import Derived.Test.YtiollfjhfcaogaaWaitsB
import Derived.Test.YtiollfjhfcaogaaLibD
import Derived.BigQuiet
set_option linter.unusedSimpArgs false
set_option linter.unusedVariables false
namespace Go.Proofs.Ytiollfjhfcaogaa
open Go.RowKit

/-- words of 64 bits, as a slice of m of them reads -/
def Words (w : World) (ad : Option Addr) (m : Nat) (L : Nat → Int) : Prop := ∀ j, j < m → ∃ g o, ad = some ⟨g, o, none⟩ ∧ g < w.heap.size ∧ w.cell? ⟨g, o + j, none⟩ = some (.int .u64 (L j))
def wordsL (L : Nat → Int) : Nat → List Value
  | 0 => []
  | n + 1 => wordsL L n ++ [.int .u64 (L n)]
theorem wordsL_length (L : Nat → Int) : ∀ n, (wordsL L n).length = n
  | 0 => rfl
  | n + 1 => by rw [wordsL, List.length_append, wordsL_length L n]; rfl
theorem wordsL_get (L : Nat → Int) : ∀ n j, j < n → (wordsL L n)[j]? = some (.int .u64 (L j))
  | 0, j, h => by omega
  | n + 1, j, h => by
    rw [wordsL]
    by_cases e : j = n
    · subst e
      rw [List.getElem?_append_right (by rw [wordsL_length]; omega), wordsL_length]
      simp
    · rw [List.getElem?_append_left (by rw [wordsL_length]; omega)]
      exact wordsL_get L n j (by omega)
theorem wordsL_one (L : Nat → Int) : ∀ n, ∀ v ∈ wordsL L n, v.oneCell' = true
  | 0 => fun v h => by cases h
  | n + 1 => fun v h => by
    rw [wordsL] at h
    rcases List.mem_append.1 h with h | h
    · exact wordsL_one L n v h
    · simp only [List.mem_cons, List.not_mem_nil, or_false] at h
      subst h; rfl
theorem Words.src {w : World} {ad : Option Addr} {m : Nat} {L : Nat → Int} (h : Words w ad m L) : ∀ a', ad = some a' → ∀ j u, (wordsL L m)[j]? = some u → w.cell? (a'.add j) = some u := by
  rintro a' rfl j u hj
  have hlt : j < m := by rw [← wordsL_length L m]; exact (List.getElem?_eq_some_iff.1 hj).1
  obtain ⟨g, o, e, hg, hc⟩ := h j hlt
  obtain rfl := Option.some.inj e
  rw [wordsL_get L m j hlt] at hj
  rw [← hj, show (⟨g, o, none⟩ : Addr).add j = ⟨g, o + j, none⟩ by unfold Addr.add; split <;> simp_all]
  exact hc
/-- an owned slice of words reads its words -/
theorem words_own {w : World} {v : Value} {m : Nat} {L : Nat → Int} (h : OwnS w 41 1 v m (wordsL L m)) : ∃ ad c, v = .slice ad m c ∧ Words w ad m L := by
  rcases h.2 with ⟨rfl, rfl⟩ | ⟨g, cap, cur, rfl, _, hg, _, _, _, ht⟩
  · exact ⟨none, 0, rfl, fun j hj => by omega⟩
  · refine ⟨_, _, rfl, fun j hj => ⟨g, 0, rfl, block_lt hg, ?_⟩⟩
    rw [Nat.zero_add, cell_at hg]
    have h1 := wordsL_get L m j hj
    rw [← ht, List.getElem?_take] at h1
    rw [if_pos (by omega)] at h1
    simpa using h1
theorem bN {a w : World} (h : Below a.heap.size a w) (n : Nat) : Below a.heap.size a (w.drewN n) := ⟨h.os, h.tape, h.output, h.size, h.block⟩
theorem Try.info_u64 : (Try.prog.info? 41).map (fun i => (i.zero, i.size, i.bytes)) = some (some (.int .u64 0), 1, 8) := by kernel_rfl
set_option maxRecDepth 100000 in
set_option maxHeartbeats 1600000 in
theorem sl_equal (a1 a2 : Option Addr) (m n c d : Nat) (L M : Nat → Int) (hm : m ≤ maxLen) (b : Bool) (hb : b = true ↔ (m = n ∧ ∀ j, j < m → L j = M j)) (w : World) (h1 : Words w a1 m L) (h2 : Words w a2 n M) :
    Calls Try.prog 20 #[.slice a1 m c, .slice a2 n d] w fun e w' => e = .returned (.bool b) ∧ Below w.heap.size w w' := by
  unfold maxLen at hm
  have hyes : Hid ((m = n ∧ ∀ j, j < m → L j = M j) → b = true) := hb.2
  have hnot : Hid (¬ (m = n ∧ ∀ j, j < m → L j = M j) → b = false) := fun h => by cases b with
    | false => rfl
    | true => exact absurd (hb.1 rfl) h
  have h1 := Lib.hid h1
  have h2 := Lib.hid h2
  clear hb
  by_cases hmn : m = n
  rotate_left
  · have hne : ((m : Int) != n) = true := by simp; omega
    have hbad := Lib.hid (hnot.out (fun h => hmn h.1))
    replace hmn := Lib.hid hmn
    go_enter Try.func20, Try.ntmps20
    go_wp2_with fail
    go_ret
    exact ⟨by rw [hbad.out]; rfl, bR⟩
  subst hmn
  go_enter Try.func20, Try.ntmps20
  go_wp2_with fail
  go_loopw [13] (fun s wr => ∃ (k q : Nat), k ≤ m ∧ s = .int .i64 k ∧ Hid (∀ j, j < k → L j = M j) ∧ Hid (Below w.heap.size w wr)) (fun s _ => m - (intOf s).toNat)
  case atStart => exact ⟨0, 0, by omega, rfl, fun j h => by omega, bR⟩
  case round =>
    obtain ⟨k, q, hk, rfl, hno, HB⟩ := hrel
    by_cases hkm : k < m
    · obtain ⟨g, o, rfl, hg, c0⟩ := h1.out k hkm
      obtain ⟨g2, o2, rfl, hg2, d0⟩ := h2.out k hkm
      have c0' : wr.cell? ⟨g, o + k, none⟩ = some (.int .u64 (L k)) := (cell_below HB.out hg).trans c0
      have d0' : wr.cell? ⟨g2, o2 + k, none⟩ = some (.int .u64 (M k)) := (cell_below HB.out hg2).trans d0
      clear c0 d0
      have hk' : (k : Int) < m := by omega
      have hk0 : (0 : Int) ≤ k := by omega
      have wrk : IntKind.i64.wrap ((k : Int) + 1) = (k : Int) + 1 := by rw [IntKind.wrap_i64]; omega
      by_cases e : L k = M k
      · have hno2 : Hid (∀ j, j < k + 1 → L j = M j) := fun j hj => by
          by_cases e' : j = k
          · subst e'; exact e
          · exact hno.out j (by omega)
        rw [e] at c0'
        replace e := Lib.hid e
        go_wp2_with fail
        go_quiet (fail)
        go_wp2_with fail
        go_roundw
        case rel => exact ⟨k + 1, 0, by omega, rfl, hno2, bN HB.out _⟩
        case measure => simp [intOf]; omega
      · have he : (L k != M k) = true := by simpa using e
        have hbad := Lib.hid (hnot.out (fun h => e (h.2 k hkm)))
        replace e := Lib.hid e
        go_wp2_with fail
        go_quiet (fail)
        go_wp2_with fail
        go_ret
        exact ⟨by rw [hbad.out]; rfl, bN HB.out _⟩
    · obtain rfl : k = m := by omega
      have hok := Lib.hid (hyes.out ⟨by simp, hno.out⟩)
      go_wp2_with fail
      go_ret
      exact ⟨by rw [hok.out]; rfl, HB.out⟩
end Go.Proofs.Ytiollfjhfcaogaa
