import Derived.Test.YtiollfjhfcaogaaWaitsN
set_option linter.unusedSimpArgs false
set_option linter.unusedVariables false
namespace Go.Proofs.Ytiollfjhfcaogaa
open Go.RowKit

/-! ### the graph -/
def Ed (L : Nat → Int × Int) (m a b : Nat) : Prop := ∃ j, j < m ∧ (L j).1 = (a : Int) ∧ (L j).2 = (b : Int)
def GoodArcs (n m : Nat) (L : Nat → Int × Int) : Prop := ∀ j, j < m → 0 ≤ (L j).1 ∧ (L j).1 < n ∧ 0 ≤ (L j).2 ∧ (L j).2 < n
theorem good_of {n m : Nat} {L : Nat → Int × Int} (hok : ¬ WrongP n m L) : GoodArcs n m L := fun j hj => by
  have hb : ¬ BadArc n (L j) := fun hb => hok (.inr (.inr ⟨j, hj, hb⟩))
  unfold BadArc at hb
  omega
theorem Ed.lt {L : Nat → Int × Int} {n m a b : Nat} (hg : GoodArcs n m L) (h : Ed L m a b) : a < n ∧ b < n := by
  obtain ⟨j, hj, h1, h2⟩ := h
  have := hg j hj
  omega
/-- a way from a to b of one arc or more -/
inductive Rch (L : Nat → Int × Int) (m : Nat) : Nat → Nat → Prop
  | one {a b : Nat} : Ed L m a b → Rch L m a b
  | step {a c b : Nat} : Ed L m a c → Rch L m c b → Rch L m a b
theorem Rch.trans {L : Nat → Int × Int} {m a b c : Nat} (h : Rch L m a b) (k : Rch L m b c) : Rch L m a c := by
  induction h with
  | one e => exact .step e k
  | step e _ ih => exact .step e (ih k)
theorem Rch.mono {L M : Nat → Int × Int} {m k a b : Nat} (hM : ∀ a b, Ed L k a b → Ed M m a b) (h : Rch L k a b) : Rch M m a b := by
  induction h with
  | one e => exact .one (hM _ _ e)
  | step e _ ih => exact .step (hM _ _ e) ih
theorem Rch.lt {L : Nat → Int × Int} {n m a b : Nat} (hg : GoodArcs n m L) (h : Rch L m a b) : a < n ∧ b < n := by
  induction h with
  | one e => exact e.lt hg
  | step e _ ih => exact ⟨(e.lt hg).1, ih.2⟩
theorem spreadP_bit (D : Nat → BitVec 64) (L : Nat → Int × Int) (a b : Nat) : ∀ k, (spreadP D L k a).getLsbD b = true ↔ (D a).getLsbD b = true ∨ ∃ j, j < k ∧ (L j).1 = (a : Int) ∧ ((D (L j).2.toNat).getLsbD b = true ∨ (b = (L j).2.toNat ∧ b < 64))
  | 0 => by
    refine ⟨fun h => .inl h, fun h => ?_⟩
    rcases h with h | ⟨j, hj, _⟩
    · exact h
    · omega
  | k + 1 => by
    have ih := spreadP_bit D L a b k
    show (if (a : Int) = (L k).1 then spreadP D L k a ||| (D (L k).2.toNat ||| BitVec.twoPow 64 (L k).2.toNat) else spreadP D L k a).getLsbD b = true ↔ _
    split
    · rename_i e
      rw [BitVec.getLsbD_or, BitVec.getLsbD_or, BitVec.getLsbD_twoPow]
      simp only [Bool.or_eq_true, Bool.and_eq_true, decide_eq_true_eq, ih]
      constructor
      · rintro ((h | ⟨j, hj, h⟩) | (h | ⟨h1, h2⟩))
        · exact .inl h
        · exact .inr ⟨j, by omega, h⟩
        · exact .inr ⟨k, by omega, e.symm, .inl h⟩
        · exact .inr ⟨k, by omega, e.symm, .inr ⟨h2.symm, by omega⟩⟩
      · rintro (h | ⟨j, hj, h1, h2⟩)
        · exact .inl (.inl h)
        · by_cases ej : j = k
          · subst ej
            rcases h2 with h2 | ⟨h2, h3⟩
            · exact .inr (.inl h2)
            · exact .inr (.inr ⟨by omega, h2.symm⟩)
          · exact .inl (.inr ⟨j, by omega, h1, h2⟩)
    · rename_i e
      rw [ih]
      constructor
      · rintro (h | ⟨j, hj, h⟩)
        · exact .inl h
        · exact .inr ⟨j, by omega, h⟩
      · rintro (h | ⟨j, hj, h1, h2⟩)
        · exact .inl h
        · by_cases ej : j = k
          · subst ej; exact absurd h1.symm e
          · exact .inr ⟨j, by omega, h1, h2⟩
/-- the same, by arcs -/
theorem spreadP_ed {D : Nat → BitVec 64} {L : Nat → Int × Int} {n m a b : Nat} (hg : GoodArcs n m L) (hn : n ≤ 64) : (spreadP D L m a).getLsbD b = true ↔ (D a).getLsbD b = true ∨ ∃ c, Ed L m a c ∧ ((D c).getLsbD b = true ∨ b = c) := by
  rw [spreadP_bit]
  constructor
  · rintro (h | ⟨j, hj, h1, h2⟩)
    · exact .inl h
    · have := hg j hj
      refine .inr ⟨(L j).2.toNat, ⟨j, hj, h1, by omega⟩, ?_⟩
      rcases h2 with h2 | ⟨h2, _⟩
      · exact .inl h2
      · exact .inr h2
  · rintro (h | ⟨c, ⟨j, hj, h1, h2⟩, h3⟩)
    · exact .inl h
    · have := hg j hj
      have e : (L j).2.toNat = c := by omega
      refine .inr ⟨j, hj, h1, ?_⟩
      rw [e]
      rcases h3 with h3 | h3
      · exact .inl h3
      · exact .inr ⟨h3, by omega⟩
theorem spreadN_sub {L : Nat → Int × Int} {n m : Nat} (hg : GoodArcs n m L) (hn : n ≤ 64) : ∀ i a b, (spreadN L m i a).getLsbD b = true → Rch L m a b
  | 0, a, b, h => by simp [spreadN] at h
  | i + 1, a, b, h => by
    rcases (spreadP_ed hg hn).1 h with h | ⟨c, e, h | rfl⟩
    · exact spreadN_sub hg hn i a b h
    · exact .step e (spreadN_sub hg hn i c b h)
    · exact .one e
/-- a digest that spreading leaves is whom one can reach -/
theorem digest_bits {L : Nat → Int × Int} {n m N : Nat} (hg : GoodArcs n m L) (hn : n ≤ 64) (hfix : ∀ j, j < n → spreadP (spreadN L m N) L m j = spreadN L m N j) (a b : Nat) (ha : a < n) : (spreadN L m N a).getLsbD b = true ↔ Rch L m a b := by
  refine ⟨spreadN_sub hg hn N a b, fun h => ?_⟩
  induction h with
  | one e =>
    rw [← hfix _ ha, spreadP_ed hg hn]
    exact .inr ⟨_, e, .inr rfl⟩
  | step e _ ih =>
    rw [← hfix _ ha, spreadP_ed hg hn]
    exact .inr ⟨_, e, .inl (ih (e.lt hg).2)⟩
theorem andnot_bv (A B : BitVec 64) : bits .andNot .u64 (A.toNat : Int) (B.toNat : Int) = ((A &&& ~~~B).toNat : Int) := by
  show IntKind.u64.wrap (((BitVec.ofInt 64 (A.toNat : Int)) &&& ~~~(BitVec.ofInt 64 (B.toNat : Int))).toNat : Int) = _
  rw [ofInt_bv, ofInt_bv, wrap_bv]
theorem andnot_zero (A B : BitVec 64) (h : ∀ i, A.getLsbD i = true → B.getLsbD i = true) : bits .andNot .u64 (A.toNat : Int) (B.toNat : Int) = 0 := by
  rw [andnot_bv]
  have : A &&& ~~~B = 0#64 := by
    apply BitVec.eq_of_getLsbD_eq
    intro i hi
    rw [BitVec.getLsbD_and, BitVec.getLsbD_not, BitVec.getLsbD_zero]
    cases ha : A.getLsbD i with
    | false => rfl
    | true => simp [h i ha]
  rw [this]
  rfl
end Go.Proofs.Ytiollfjhfcaogaa
