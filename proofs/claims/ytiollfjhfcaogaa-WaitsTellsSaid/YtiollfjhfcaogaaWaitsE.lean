import Derived.Test.YtiollfjhfcaogaaWaitsD
set_option linter.unusedSimpArgs false
set_option linter.unusedVariables false
namespace Go.Proofs.Ytiollfjhfcaogaa
open Go.RowKit

/-! ### words as bit vectors -/
theorem ofInt_bv (a : BitVec 64) : BitVec.ofInt 64 (a.toNat : Int) = a := by
  apply BitVec.eq_of_toNat_eq
  simp
theorem wrap_bv (a : BitVec 64) : IntKind.u64.wrap (a.toNat : Int) = a.toNat := wrap_u64_in _ (by omega) (by have := a.isLt; omega)
theorem bits_or_bv (a b : BitVec 64) : bits .or .u64 (a.toNat : Int) (b.toNat : Int) = ((a ||| b).toNat : Int) := by
  show IntKind.u64.wrap (((BitVec.ofInt 64 (a.toNat : Int)) ||| (BitVec.ofInt 64 (b.toNat : Int))).toNat : Int) = _
  rw [ofInt_bv, ofInt_bv, wrap_bv]
theorem shl_bv (k : Nat) (hk : k < 64) : IntKind.u64.wrap (1 * 2 ^ k) = ((BitVec.twoPow 64 k).toNat : Int) := by
  rw [BitVec.toNat_twoPow, Nat.mod_eq_of_lt (Nat.pow_lt_pow_right (by omega) hk), Int.one_mul]
  have h : (2 : Nat) ^ k < 2 ^ 64 := Nat.pow_lt_pow_right (by omega) hk
  have e : ((2 : Int) ^ k) = ((2 ^ k : Nat) : Int) := by simp
  rw [e]
  generalize (2 : Nat) ^ k = n at h ⊢
  exact wrap_u64_in _ (by omega) (by omega)
/-- a word stored into an owned slice of words -/
theorem OwnS.set {w : World} {e : TypeId} {g n c i : Nat} {xs : List Value} {u : Value} (h : OwnS w e 1 (.slice (some ⟨g, 0, none⟩) n c) n xs) : OwnS (w.setCell ⟨g, i, none⟩ u) e 1 (.slice (some ⟨g, 0, none⟩) n c) n (xs.set i u) := by
  refine ⟨by rw [List.length_set]; exact h.1, ?_⟩
  rcases h.2 with ⟨h1, _⟩ | ⟨g', cap, cur, hv, hb, hg, h1, h2, h3, h4⟩
  · simp at h1
  · have e1 : g = g' ∧ c = cap := by simpa using hv
    obtain ⟨rfl, rfl⟩ := e1
    refine .inr ⟨g, c, cur.setIfInBounds i u, rfl, hb, heap_set hg i u, h1, h2, by simpa using h3, ?_⟩
    rw [Array.toList_setIfInBounds, List.take_set, h4]
/-- one round of digests: the arcs ahead of the k-th are taken in -/
def spreadP (D : Nat → BitVec 64) (L : Nat → Int × Int) : Nat → Nat → BitVec 64
  | 0 => D
  | k + 1 => fun j => if (j : Int) = (L k).1 then spreadP D L k j ||| (D (L k).2.toNat ||| BitVec.twoPow 64 (L k).2.toNat) else spreadP D L k j
def wordsB (D : Nat → BitVec 64) (n : Nat) : List Value := wordsL (fun j => ((D j).toNat : Int)) n
theorem wordsB_set (D E : Nat → BitVec 64) (i : Nat) (x : BitVec 64) (hE : ∀ j, E j = if j = i then x else D j) : ∀ n, (wordsB D n).set i (.int .u64 (x.toNat : Int)) = wordsB E n := by
  intro n
  apply List.ext_getElem?
  intro j
  rw [List.getElem?_set]
  have hl : (wordsB D n).length = n := wordsL_length _ n
  have hl' : (wordsB E n).length = n := wordsL_length _ n
  by_cases hj : j < n
  · rw [show (wordsB E n)[j]? = some (.int .u64 ((E j).toNat : Int)) from wordsL_get _ n j hj, show (wordsB D n)[j]? = some (.int .u64 ((D j).toNat : Int)) from wordsL_get _ n j hj, hE j, hl]
    by_cases e : i = j
    · subst e; simp [hj]
    · have e' : ¬ j = i := fun h => e h.symm
      simp [e, e']
  · rw [List.getElem?_eq_none (by omega : (wordsB E n).length ≤ j), List.getElem?_eq_none (by omega : (wordsB D n).length ≤ j), hl]
    by_cases e : i = j
    · subst e; simp [hj]
    · simp [e]
end Go.Proofs.Ytiollfjhfcaogaa
