import Derived.Test.YtafiojmbaickpaaDkLib
set_option linter.unusedSimpArgs false
set_option linter.unusedVariables false
namespace Go.Proofs.Ytafiojmbaickpaa
open Go.RowKit

/-! ### a device that is up and has fuel without end -/
def Dev.up (D : Dev) : Prop := D.fuel = -1 ∧ D.down = false
theorem up_write {D : Dev} (h : D.up) (s : Int) (d : ByteArray) : D.write s d = if 0 ≤ s ∧ s < (D.firm.length : Int) ∧ d.size = 64 then ({ D with seen := D.seen.set s.toNat d, soft := D.soft ++ [(s, d)] }, 0) else (D, 1) := by
  obtain ⟨hf, hd⟩ := h
  have hb : D.burn = (D, true) := by
    unfold Dev.burn
    rw [if_neg (by omega), if_neg (by omega)]
  unfold Dev.write
  rw [hd, hb]
  simp only [Bool.false_eq_true, Bool.true_eq_false, if_false]
  by_cases hs : 0 ≤ s ∧ s < (D.firm.length : Int) ∧ d.size = 64
  · rw [if_pos hs, if_neg (by omega), ← hd]
  · rw [if_neg hs, if_pos (by omega)]
theorem up_write_up {D : Dev} (h : D.up) (s : Int) (d : ByteArray) : (D.write s d).1.up ∧ (D.write s d).1.firm = D.firm ∧ (D.write s d).1.soft.length ≤ D.soft.length + 1 := by
  rw [up_write h]
  split
  · exact ⟨h, rfl, by simp⟩
  · exact ⟨h, rfl, by simp⟩
theorem up_barrier {D : Dev} (h : D.up) : D.barrier = ({ D with firm := D.seen, soft := [] }, 0) := by
  obtain ⟨hf, hd⟩ := h
  have hb : D.burn = (D, true) := by
    unfold Dev.burn
    rw [if_neg (by omega), if_neg (by omega)]
  unfold Dev.barrier
  rw [hd, hb]
  simp only [Bool.false_eq_true, Bool.true_eq_false, if_false]
  rw [← hd]
theorem up_read {D : Dev} (h : D.down = false) (s : Int) (h0 : 0 ≤ s) (h1 : s < (D.firm.length : Int)) : D.read s = (D.seen.getD s.toNat ⟨#[]⟩, 0) := by
  unfold Dev.read
  rw [h]
  simp only [Bool.false_eq_true, if_false]
  rw [if_neg (by omega)]
theorem up_new (n : Nat) : (Dev.new n).up := ⟨rfl, rfl⟩
theorem up_after (D : Dev) (ks : List Bool) : (D.after ks).up := ⟨rfl, rfl⟩
/-- one text of a slice of texts, in a later world -/
theorem StrSl.at {w wr : World} {a : Option Addr} {n c : Nat} {ss : List ByteArray} (h : StrSl w (.slice a n c) ss) (hb : Below w.heap.size w wr) (k : Nat) (hk : k < ss.length) :
    ∃ b off, a = some ⟨b, off, none⟩ ∧ b < w.heap.size ∧ wr.cell? ⟨b, off + k, none⟩ = some (.string (ss.getD k ⟨#[]⟩)) ∧ (ss.getD k ⟨#[]⟩).size ≤ maxLen := by
  obtain ⟨⟨a', c', hv, hl, hx⟩, hs⟩ := h
  simp only [Value.slice.injEq] at hv
  obtain ⟨rfl, rfl, rfl⟩ := hv
  obtain ⟨b, off, rfl, hbl, hc⟩ := hx (by intro e; rw [List.map_eq_nil_iff] at e; subst e; simp at hk)
  have := hc k (by simpa using hk) 0 (by omega)
  rw [show off + k * 1 + 0 = off + k from by omega] at this
  refine ⟨b, off, rfl, hbl, ?_, ?_⟩
  · rw [hb.cell (p := ⟨b, off + k, none⟩) hbl, this]
    simp [List.getD_eq_getElem?_getD, List.getElem?_eq_getElem hk]
  · rw [List.getD_eq_getElem?_getD, List.getElem?_eq_getElem hk]
    exact hs _ (List.getElem_mem _)
theorem StrSl.form {w : World} {v : Value} {ss : List ByteArray} (h : StrSl w v ss) : ∃ a c, v = .slice a ss.length c ∧ ss.length ≤ maxLen := by
  obtain ⟨⟨a', c', hv, hl, hx⟩, hs⟩ := h
  rw [List.length_map] at hv hl
  exact ⟨_, _, hv, hl⟩
theorem below_newS {w w1 : World} {S S' : List Nat} (h : Below w.heap.size w w1) (hS : ∀ k ∈ S, w.heap.size ≤ k) (hR : ∀ k ∈ S', k ∈ S ∨ w1.heap.size ≤ k) : ∀ k ∈ S', w.heap.size ≤ k :=
  fun k hk => (hR k hk).elim (hS k) (fun h' => Nat.le_trans h.size h')
end Go.Proofs.Ytafiojmbaickpaa
