import Derived.Test.YtiollfjhfcaogaaWaitsU
set_option linter.unusedSimpArgs false
set_option linter.unusedVariables false
namespace Go.Proofs.Ytiollfjhfcaogaa
open Go.RowKit

/-! ### ways and their lengths -/
def Wk (L : Nat → Int × Int) (m : Nat) : Nat → Nat → Nat → Prop
  | 0, a, b => a = b
  | k + 1, a, b => ∃ c, Ed L m a c ∧ Wk L m k c b
def Lst (L : Nat → Int × Int) (m x y k : Nat) : Prop := Wk L m k y x ∧ ∀ k', k' < k → ¬ Wk L m k' y x
theorem Lst.uniq {L : Nat → Int × Int} {m x y k k' : Nat} (h : Lst L m x y k) (h' : Lst L m x y k') : k = k' := by
  rcases Nat.lt_trichotomy k k' with e | e | e
  · exact absurd h.1 (h'.2 k e)
  · exact e
  · exact absurd h'.1 (h.2 k' e)
theorem lst_of {L : Nat → Int × Int} {m x y : Nat} : ∀ k, Wk L m k y x → ∃ e, e ≤ k ∧ Lst L m x y e := by
  intro k
  induction k using Nat.strongRecOn with
  | _ k ih =>
    intro h
    by_cases hs : ∃ k', k' < k ∧ Wk L m k' y x
    · obtain ⟨k', h1, h2⟩ := hs
      obtain ⟨e, h3, h4⟩ := ih k' h1 h2
      exact ⟨e, by omega, h4⟩
    · exact ⟨k, Nat.le_refl _, h, fun k' hk' hw => hs ⟨k', hk', hw⟩⟩
theorem wk_rch {L : Nat → Int × Int} {m : Nat} : ∀ k a b, Wk L m (k + 1) a b → Rch L m a b
  | 0, a, b, ⟨c, e, h⟩ => by
    have h : c = b := h
    subst h; exact .one e
  | k + 1, a, b, ⟨c, e, h⟩ => .step e (wk_rch k c b h)
theorem spreadN_wk {L : Nat → Int × Int} {n m : Nat} (hg : GoodArcs n m L) (hn : n ≤ 64) : ∀ i a b, (spreadN L m i a).getLsbD b = true → ∃ k, k + 1 ≤ i ∧ Wk L m (k + 1) a b
  | 0, a, b, h => by simp [spreadN] at h
  | i + 1, a, b, h => by
    rcases (spreadN_succ hg hn).1 h with h | ⟨c, e, h | rfl⟩
    · obtain ⟨k, h1, h2⟩ := spreadN_wk hg hn i a b h
      exact ⟨k, by omega, h2⟩
    · obtain ⟨k, h1, h2⟩ := spreadN_wk hg hn i c b h
      exact ⟨k + 1, by omega, c, e, h2⟩
    · exact ⟨0, by omega, b, e, rfl⟩
theorem rch_wk {L : Nat → Int × Int} {n m a b : Nat} (hg : GoodArcs n m L) (hn : n ≤ 64) (h : Rch L m a b) : ∃ k, k + 1 ≤ n ∧ Wk L m (k + 1) a b :=
  spreadN_wk hg hn n a b ((spread_n hg hn a b (h.lt hg).1).2 h)
theorem lst_le {L : Nat → Int × Int} {n m x y e : Nat} (hg : GoodArcs n m L) (hn : n ≤ 64) (h : Lst L m x y e) : e ≤ n := by
  match e, h with
  | 0, _ => exact Nat.zero_le _
  | e + 1, h =>
    obtain ⟨k, h1, h2⟩ := rch_wk hg hn (wk_rch e y x h.1)
    apply Classical.byContradiction
    intro hlt
    exact h.2 (k + 1) (by omega) h2
theorem Wk.trans {L : Nat → Int × Int} {m b c j : Nat} (h2 : Wk L m j b c) : ∀ i a, Wk L m i a b → Wk L m (i + j) a c
  | 0, a, h => by
    have h : a = b := h
    subst h; rw [Nat.zero_add]; exact h2
  | i + 1, a, ⟨d, e, h⟩ => by
    rw [show i + 1 + j = (i + j) + 1 by omega]
    exact ⟨d, e, Wk.trans h2 i d h⟩

/-! ### what the reference's distances are -/
theorem dRound_val (D : Nat → Int) (L : Nat → Int × Int) (k : Nat) : ∀ i y, dRound D L k i y = if D y < 0 ∧ (∃ j, j < i ∧ (L j).1.toNat = y ∧ D (L j).2.toNat = k) then ((k : Int) + 1) else D y
  | 0, y => by rw [if_neg (fun h => by obtain ⟨_, j, hj, _⟩ := h; omega)]; rfl
  | i + 1, y => by
    have ih := dRound_val D L k i
    have hk : dRound D L k i (L i).2.toNat = k ↔ D (L i).2.toNat = k := by
      rw [ih]
      split
      · rename_i h
        have := h.1
        omega
      · exact Iff.rfl
    show dStep (dRound D L k i) L k i y = _
    unfold dStep setF
    by_cases hc : dRound D L k i (L i).1.toNat < 0 ∧ dRound D L k i (L i).2.toNat = k
    · rw [if_pos hc]
      by_cases e : y = (L i).1.toNat
      · subst e
        have h1 : D (L i).1.toNat < 0 := by
          have := hc.1
          rw [ih] at this
          split at this
          · omega
          · exact this
        rw [if_pos rfl, if_pos ⟨h1, i, by omega, rfl, hk.1 hc.2⟩]
      · rw [if_neg e, ih y]
        by_cases h2 : D y < 0 ∧ ∃ j, j < i ∧ (L j).1.toNat = y ∧ D (L j).2.toNat = k
        · obtain ⟨h3, j, h4, h5⟩ := h2
          rw [if_pos ⟨h3, j, h4, h5⟩, if_pos ⟨h3, j, by omega, h5⟩]
        · rw [if_neg h2, if_neg]
          rintro ⟨h3, j, h4, h5, h6⟩
          by_cases ej : j = i
          · subst ej; exact e h5.symm
          · exact h2 ⟨h3, j, by omega, h5, h6⟩
    · rw [if_neg hc, ih y]
      by_cases h2 : D y < 0 ∧ ∃ j, j < i ∧ (L j).1.toNat = y ∧ D (L j).2.toNat = k
      · obtain ⟨h3, j, h4, h5⟩ := h2
        rw [if_pos ⟨h3, j, h4, h5⟩, if_pos ⟨h3, j, by omega, h5⟩]
      · rw [if_neg h2, if_neg]
        rintro ⟨h3, j, h4, h5, h6⟩
        by_cases ej : j = i
        · subst ej
          subst h5
          refine hc ⟨?_, hk.2 h6⟩
          rw [ih, if_neg h2]
          exact h3
        · exact h2 ⟨h3, j, by omega, h5, h6⟩
theorem dAll_sem {L : Nat → Int × Int} {n m x : Nat} (hg : GoodArcs n m L) : ∀ k y, (dAll L m x k y = -1 ∧ ∀ k', k' ≤ k → ¬ Wk L m k' y x) ∨ (∃ e : Nat, e ≤ k ∧ dAll L m x k y = e ∧ Lst L m x y e)
  | 0, y => by
    have hv : dAll L m x 0 y = if y = x then 0 else -1 := rfl
    by_cases e : y = x
    · subst e
      exact .inr ⟨0, Nat.le_refl _, by rw [hv, if_pos rfl]; rfl, rfl, fun k' h => by omega⟩
    · refine .inl ⟨by rw [hv, if_neg e], fun k' hk' h => ?_⟩
      obtain rfl : k' = 0 := by omega
      exact e h
  | k + 1, y => by
    have ih := dAll_sem (x := x) hg k
    have hv : dAll L m x (k + 1) y = _ := dRound_val (dAll L m x k) L k m y
    rcases ih y with ⟨h1, h2⟩ | ⟨e, h1, h2, h3⟩
    · by_cases hc : ∃ j, j < m ∧ (L j).1.toNat = y ∧ dAll L m x k (L j).2.toNat = k
      · rw [if_pos ⟨by omega, hc⟩] at hv
        obtain ⟨j, hj, h4, h5⟩ := hc
        have hgj := hg j hj
        have hed : Ed L m y (L j).2.toNat := ⟨j, hj, by omega, by omega⟩
        have hl : Lst L m x (L j).2.toNat k := by
          rcases ih (L j).2.toNat with ⟨h6, _⟩ | ⟨e, h6, h7, h8⟩
          · omega
          · obtain rfl : e = k := by omega
            exact h8
        exact .inr ⟨k + 1, Nat.le_refl _, by rw [hv]; omega, ⟨_, hed, hl.1⟩, fun k' hk' => h2 k' (by omega)⟩
      · rw [if_neg (fun h => hc h.2)] at hv
        refine .inl ⟨by rw [hv, h1], fun k' hk' hw => ?_⟩
        by_cases e : k' = k + 1
        · subst e
          obtain ⟨c, ⟨j, hj, e1, e2⟩, hw⟩ := hw
          have hed : Ed L m y c := ⟨j, hj, e1, e2⟩
          rcases ih c with ⟨h6, h7⟩ | ⟨e, h6, h7, h8⟩
          · exact h7 k (Nat.le_refl _) hw
          · by_cases ek : e = k
            · subst ek
              refine hc ⟨j, hj, by omega, ?_⟩
              rw [e2, Int.toNat_natCast, h7]
            · exact h2 (e + 1) (by omega) ⟨c, hed, h8.1⟩
        · exact h2 k' (by omega) hw
    · rw [if_neg (fun h => by have := h.1; omega)] at hv
      exact .inr ⟨e, by omega, by rw [hv, h2], h3⟩
theorem dist_iff {L : Nat → Int × Int} {n m x y e : Nat} (hg : GoodArcs n m L) (hn : n ≤ 64) : dAll L m x n y = (e : Int) ↔ Lst L m x y e := by
  rcases dAll_sem (x := x) hg n y with ⟨h1, h2⟩ | ⟨e', h1, h2, h3⟩
  · constructor
    · intro h; omega
    · intro h
      exact absurd h.1 (h2 e (lst_le hg hn h))
  · constructor
    · intro h
      obtain rfl : e' = e := by omega
      exact h3
    · intro h
      rw [h2, h3.uniq h]
theorem dist_some {L : Nat → Int × Int} {n m x y : Nat} (hg : GoodArcs n m L) (hn : n ≤ 64) : 0 ≤ dAll L m x n y ↔ ∃ e, Lst L m x y e := by
  constructor
  · intro h
    obtain ⟨e, he⟩ : ∃ e : Nat, dAll L m x n y = e := ⟨(dAll L m x n y).toNat, by omega⟩
    exact ⟨e, (dist_iff hg hn).1 he⟩
  · rintro ⟨e, he⟩
    rw [(dist_iff hg hn).2 he]; omega
theorem lst_rch {L : Nat → Int × Int} {n m x y : Nat} (hg : GoodArcs n m L) (hn : n ≤ 64) : (∃ e, Lst L m x y e) ↔ y = x ∨ Rch L m y x := by
  constructor
  · rintro ⟨e, h⟩
    match e, h with
    | 0, h => exact .inl h.1
    | e + 1, h => exact .inr (wk_rch e y x h.1)
  · rintro (rfl | h)
    · exact ⟨0, rfl, fun k h => by omega⟩
    · obtain ⟨k, _, h2⟩ := rch_wk hg hn h
      obtain ⟨e, _, he⟩ := lst_of _ h2
      exact ⟨e, he⟩
/-! ### what the reference's digests are -/
theorem oRound_bit {out : Nat → BitVec 64} {d : Nat → Int} {L : Nat → Int × Int} {x : Nat} (hx : x < 64) (a b : Nat) : ∀ i, (oRound out d L x i a).getLsbD b = true ↔ (out a).getLsbD b = true ∨ (b = x ∧ ∃ j, j < i ∧ (L j).1.toNat = a ∧ 0 ≤ d (L j).2.toNat)
  | 0 => by
    refine ⟨fun h => .inl h, fun h => ?_⟩
    rcases h with h | ⟨_, j, hj, _⟩
    · exact h
    · omega
  | i + 1 => by
    have ih := oRound_bit (out := out) (d := d) (L := L) hx a b i
    have e : oRound out d L x (i + 1) a = if 0 ≤ d (L i).2.toNat then (if a = (L i).1.toNat then oRound out d L x i (L i).1.toNat ||| BitVec.twoPow 64 x else oRound out d L x i a) else oRound out d L x i a := by
      show (if 0 ≤ d (L i).2.toNat then _ else _ : Nat → BitVec 64) a = _
      split <;> rfl
    rw [e]
    by_cases h1 : 0 ≤ d (L i).2.toNat
    · rw [if_pos h1]
      by_cases h2 : a = (L i).1.toNat
      · rw [if_pos h2, ← h2, getLsbD_or_two _ x b hx]
        simp only [Bool.or_eq_true, decide_eq_true_eq, ih]
        constructor
        · rintro ((h | ⟨h3, j, hj, h4⟩) | h)
          · exact .inl h
          · exact .inr ⟨h3, j, by omega, h4⟩
          · exact .inr ⟨h, i, by omega, h2.symm, h1⟩
        · rintro (h | ⟨h3, _⟩)
          · exact .inl (.inl h)
          · exact .inr h3
      · rw [if_neg h2, ih]
        constructor
        · rintro (h | ⟨h3, j, hj, h4⟩)
          · exact .inl h
          · exact .inr ⟨h3, j, by omega, h4⟩
        · rintro (h | ⟨h3, j, hj, h4, h5⟩)
          · exact .inl h
          · by_cases ej : j = i
            · subst ej; exact absurd h4.symm h2
            · exact .inr ⟨h3, j, by omega, h4, h5⟩
    · rw [if_neg h1, ih]
      constructor
      · rintro (h | ⟨h3, j, hj, h4⟩)
        · exact .inl h
        · exact .inr ⟨h3, j, by omega, h4⟩
      · rintro (h | ⟨h3, j, hj, h4, h5⟩)
        · exact .inl h
        · by_cases ej : j = i
          · subst ej; exact absurd h5 h1
          · exact .inr ⟨h3, j, by omega, h4, h5⟩
theorem oDig_bit {L : Nat → Int × Int} {n m : Nat} (hg : GoodArcs n m L) (hn : n ≤ 64) (a b : Nat) : ∀ x, x ≤ n → ((oDig L m n x a).getLsbD b = true ↔ b < x ∧ Rch L m a b)
  | 0, _ => by
    refine ⟨fun h => ?_, fun h => by omega⟩
    simp [oDig] at h
  | x + 1, hx => by
    have ih := oDig_bit hg hn a b x (by omega)
    rw [show oDig L m n (x + 1) a = oRound (oDig L m n x) (dAll L m x n) L x m a from rfl, oRound_bit (by omega), ih]
    constructor
    · rintro (⟨h1, h2⟩ | ⟨rfl, j, hj, h3, h4⟩)
      · exact ⟨by omega, h2⟩
      · have hgj := hg j hj
        have hed : Ed L m a (L j).2.toNat := ⟨j, hj, by omega, by omega⟩
        refine ⟨by omega, ?_⟩
        rcases (lst_rch hg hn).1 ((dist_some hg hn).1 h4) with h | h
        · rw [h] at hed; exact .one hed
        · exact .step hed h
    · rintro ⟨h1, h2⟩
      by_cases e : b < x
      · exact .inl ⟨e, h2⟩
      · obtain rfl : b = x := by omega
        right
        refine ⟨rfl, ?_⟩
        have : ∃ c, Ed L m a c ∧ (c = b ∨ Rch L m c b) := by
          cases h2 with
          | one e => exact ⟨b, e, .inl rfl⟩
          | step e h => exact ⟨_, e, .inr h⟩
        obtain ⟨c, ⟨j, hj, e1, e2⟩, h3⟩ := this
        refine ⟨j, hj, by omega, ?_⟩
        rw [e2, Int.toNat_natCast]
        exact (dist_some hg hn).2 ((lst_rch hg hn).2 h3)
/-! ### the best next one -/
def bestP (d : Nat → Int) (L : Nat → Int × Int) (a : Nat) : Nat → Int
  | 0 => -1
  | i + 1 => if (L i).1 = a ∧ 0 ≤ d (L i).2.toNat ∧ (bestP d L a i < 0 ∨ d (L i).2.toNat < d (bestP d L a i).toNat ∨ (d (L i).2.toNat = d (bestP d L a i).toNat ∧ (L i).2 < bestP d L a i)) then (L i).2 else bestP d L a i
/-- of the first i arcs, b is the best end -/
def BestB (d : Nat → Int) (L : Nat → Int × Int) (a i b : Nat) : Prop := 0 ≤ d b ∧ (∃ j, j < i ∧ (L j).1 = (a : Int) ∧ (L j).2 = (b : Int)) ∧ ∀ j, j < i → (L j).1 = (a : Int) → 0 ≤ d (L j).2.toNat → d b < d (L j).2.toNat ∨ (d b = d (L j).2.toNat ∧ b ≤ (L j).2.toNat)
theorem bestP_sem {d : Nat → Int} {L : Nat → Int × Int} {n m a : Nat} (hg : GoodArcs n m L) : ∀ i, i ≤ m → (bestP d L a i = -1 ∧ ∀ j, j < i → (L j).1 = (a : Int) → d (L j).2.toNat < 0) ∨ (∃ b : Nat, bestP d L a i = b ∧ b < n ∧ BestB d L a i b)
  | 0, _ => .inl ⟨rfl, fun j hj => by omega⟩
  | i + 1, hi => by
    have ih := bestP_sem (d := d) (a := a) hg i (by omega)
    have hgi := hg i (by omega)
    have e : bestP d L a (i + 1) = if (L i).1 = a ∧ 0 ≤ d (L i).2.toNat ∧ (bestP d L a i < 0 ∨ d (L i).2.toNat < d (bestP d L a i).toNat ∨ (d (L i).2.toNat = d (bestP d L a i).toNat ∧ (L i).2 < bestP d L a i)) then (L i).2 else bestP d L a i := rfl
    rw [e]
    by_cases hc : (L i).1 = a ∧ 0 ≤ d (L i).2.toNat ∧ (bestP d L a i < 0 ∨ d (L i).2.toNat < d (bestP d L a i).toNat ∨ (d (L i).2.toNat = d (bestP d L a i).toNat ∧ (L i).2 < bestP d L a i))
    · rw [if_pos hc]
      refine .inr ⟨(L i).2.toNat, by omega, by omega, hc.2.1, ⟨i, by omega, hc.1, by omega⟩, fun j hj h1 h2 => ?_⟩
      by_cases ej : j = i
      · subst ej; exact .inr ⟨rfl, Nat.le_refl _⟩
      · rcases ih with ⟨h3, h4⟩ | ⟨b, h3, _, h4, h5, h6⟩
        · exact absurd (h4 j (by omega) h1) (by omega)
        · have h7 := h6 j (by omega) h1 h2
          rw [h3, Int.toNat_natCast] at hc
          rcases hc.2.2 with h | h | ⟨h8, h9⟩
          · omega
          · rcases h7 with h7 | ⟨h7, _⟩
            · exact .inl (by omega)
            · exact .inl (by omega)
          · rcases h7 with h7 | ⟨h7, _⟩
            · exact .inl (by omega)
            · exact .inr ⟨by omega, by omega⟩
    · rw [if_neg hc]
      rcases ih with ⟨h3, h4⟩ | ⟨b, h3, hb, h4, ⟨j0, h5, h5'⟩, h6⟩
      · refine .inl ⟨h3, fun j hj h1 => ?_⟩
        by_cases ej : j = i
        · subst ej
          apply Classical.byContradiction
          intro h
          exact hc ⟨h1, by omega, .inl (by omega)⟩
        · exact h4 j (by omega) h1
      · refine .inr ⟨b, h3, hb, h4, ⟨j0, by omega, h5'⟩, fun j hj h1 h2 => ?_⟩
        by_cases ej : j = i
        · subst ej
          rw [h3, Int.toNat_natCast] at hc
          apply Classical.byContradiction
          intro h
          refine hc ⟨h1, h2, ?_⟩
          right
          by_cases e1 : d (L j).2.toNat < d b
          · exact .inl e1
          · right
            have h7 : ¬ d b < d (L j).2.toNat := fun h' => h (.inl h')
            have h8 : d (L j).2.toNat = d b := by omega
            refine ⟨h8, ?_⟩
            apply Classical.byContradiction
            intro h'
            exact h (.inr ⟨by omega, by omega⟩)
        · exact h6 j (by omega) h1 h2
/-- over all arcs: in terms of ways -/
theorem best_none {L : Nat → Int × Int} {n m x a : Nat} (hg : GoodArcs n m L) (hn : n ≤ 64) (h : bestP (dAll L m x n) L a m = -1) : ∀ y e, Ed L m a y → ¬ Lst L m x y e := by
  rintro y e ⟨j, hj, h1, h2⟩ hl
  have h3 := (dist_iff hg hn).2 hl
  rcases bestP_sem (d := dAll L m x n) (a := a) hg m (Nat.le_refl _) with ⟨_, h4⟩ | ⟨b, h4, _⟩
  · have := h4 j hj h1
    rw [h2, Int.toNat_natCast] at this
    omega
  · omega
theorem best_some {L : Nat → Int × Int} {n m x a : Nat} (hg : GoodArcs n m L) (hn : n ≤ 64) (h : bestP (dAll L m x n) L a m ≠ -1) : ∃ b e : Nat, bestP (dAll L m x n) L a m = b ∧ b < n ∧ Ed L m a b ∧ Lst L m x b e ∧ ∀ y e', Ed L m a y → Lst L m x y e' → e < e' ∨ (e = e' ∧ b ≤ y) := by
  rcases bestP_sem (d := dAll L m x n) (a := a) hg m (Nat.le_refl _) with ⟨h4, _⟩ | ⟨b, h4, hb, h5, h6, h7⟩
  · exact absurd h4 h
  · obtain ⟨e, he⟩ := (dist_some hg hn).1 h5
    have hd := (dist_iff hg hn).2 he
    refine ⟨b, e, h4, hb, h6, he, ?_⟩
    rintro y e' ⟨j, hj, h8, h9⟩ hl
    have hd' := (dist_iff hg hn).2 hl
    have := h7 j hj h8 (by rw [h9, Int.toNat_natCast, hd']; omega)
    rw [h9, Int.toNat_natCast, hd, hd'] at this
    omega
/-! ### the greedy way -/
def GrI (L : Nat → Int × Int) (m x i : Nat) (r : List Nat) : Prop := r.length = i + 1 ∧ r.getD 0 0 = x ∧ (0 < i → ∃ K, i ≤ K ∧ (∀ y e, Ed L m x y → Lst L m x y e → K ≤ e) ∧ ∀ j, j < i → Ed L m (r.getD j 0) (r.getD (j + 1) 0) ∧ Lst L m x (r.getD (j + 1) 0) (K - j) ∧ ∀ y, y < r.getD (j + 1) 0 → Ed L m (r.getD j 0) y → ¬ Lst L m x y (K - j))
/-- the least circle through x, of k + 1 numbers -/
def GrEnd (L : Nat → Int × Int) (m x k : Nat) (r : List Nat) : Prop := r.length = k + 1 ∧ r.getD 0 0 = x ∧ (∀ j, j < k → Ed L m (r.getD j 0) (r.getD (j + 1) 0) ∧ Lst L m x (r.getD (j + 1) 0) (k - j) ∧ ∀ y, y < r.getD (j + 1) 0 → Ed L m (r.getD j 0) y → ¬ Lst L m x y (k - j)) ∧ Ed L m (r.getD k 0) x ∧ ∀ k', k' < k → ¬ Wk L m (k' + 1) x x
theorem GrI.zero (L : Nat → Int × Int) (m x : Nat) : GrI L m x 0 [x] := ⟨rfl, rfl, fun h => by omega⟩
theorem GrI.bound {L : Nat → Int × Int} {n m x i : Nat} {r : List Nat} (hg : GoodArcs n m L) (hn : n ≤ 64) (h : GrI L m x i r) : i ≤ 64 := by
  rcases Nat.eq_zero_or_pos i with h0 | h0
  · omega
  · obtain ⟨K, h1, _, h2⟩ := h.2.2 h0
    have := lst_le hg hn (h2 0 h0).2.1
    omega
theorem GrI.has {L : Nat → Int × Int} {m x i : Nat} {r : List Nat} (h : GrI L m x i r) (h0 : 0 < i) : ∃ K, i ≤ K ∧ (∀ y e, Ed L m x y → Lst L m x y e → K ≤ e) ∧ (∃ c, Ed L m (r.getD i 0) c ∧ Lst L m x c (K - i)) ∧ ∀ y e, Ed L m (r.getD i 0) y → Lst L m x y e → K - i ≤ e := by
  obtain ⟨K, h1, h2, h3⟩ := h.2.2 h0
  have h4 := (h3 (i - 1) (by omega)).2.1
  rw [show i - 1 + 1 = i by omega, show K - (i - 1) = K - i + 1 by omega] at h4
  have hmin : ∀ y e, Ed L m (r.getD i 0) y → Lst L m x y e → K - i ≤ e := fun y e he hl => by
    apply Classical.byContradiction
    intro hlt
    exact h4.2 (e + 1) (by omega) ⟨y, he, hl.1⟩
  refine ⟨K, h1, h2, ?_, hmin⟩
  obtain ⟨c, he, hw⟩ := h4.1
  obtain ⟨e, h5, h6⟩ := lst_of _ hw
  have := hmin c e he h6
  obtain rfl : e = K - i := by omega
  exact ⟨c, he, h6⟩
theorem GrI.next {L : Nat → Int × Int} {m x i b e : Nat} {r : List Nat} (h : GrI L m x i r) (he : Ed L m (r.getD i 0) b) (hl : Lst L m x b e) (hb : ∀ y e', Ed L m (r.getD i 0) y → Lst L m x y e' → e < e' ∨ (e = e' ∧ b ≤ y)) (hx : b ≠ x) : GrI L m x (i + 1) (r ++ [b]) := by
  have he0 : 0 < e := by
    rcases Nat.eq_zero_or_pos e with h0 | h0
    · subst h0; exact absurd hl.1 hx
    · exact h0
  have hmin : ∀ y, y < b → Ed L m (r.getD i 0) y → ¬ Lst L m x y e := fun y hy hey hly => by
    rcases hb y e hey hly with h1 | ⟨_, h1⟩ <;> omega
  have hli := h.1
  have hlast : (r ++ [b]).getD (i + 1) 0 = b := by rw [← hli]; exact getD_snoc r b
  refine ⟨by simp [h.1], by rw [getD_append_lt (by omega)]; exact h.2.1, fun _ => ?_⟩
  rcases Nat.eq_zero_or_pos i with h0 | h0
  · subst h0
    refine ⟨e, by omega, fun y e' hy hl' => ?_, fun j hj => ?_⟩
    · rw [h.2.1] at hb
      rcases hb y e' hy hl' with h1 | ⟨h1, _⟩ <;> omega
    · obtain rfl : j = 0 := by omega
      rw [hlast, getD_append_lt (by omega)]
      exact ⟨he, hl, hmin⟩
  · obtain ⟨K, h1, h2, ⟨c, hc1, hc2⟩, h4⟩ := h.has h0
    obtain ⟨K', h1', h2', h3'⟩ := h.2.2 h0
    have hKK : K = K' := by
      have a1 := h.1
      have hb1 : Ed L m x (r.getD 1 0) := by
        have := (h3' 0 h0).1
        rw [h.2.1] at this
        exact this
      have hb2 := (h3' 0 h0).2.1
      have := h2 _ _ hb1 hb2
      have hl2 : Lst L m x (r.getD i 0) (K' - i + 1) := by
        have := (h3' (i - 1) (by omega)).2.1
        rwa [show i - 1 + 1 = i by omega, show K' - (i - 1) = K' - i + 1 by omega] at this
      have hl3 : Wk L m (K - i + 1) (r.getD i 0) x := ⟨c, hc1, hc2.1⟩
      have : ¬ (K - i + 1 < K' - i + 1) := fun hlt => hl2.2 _ hlt hl3
      omega
    subst hKK
    have heK : e = K - i := by
      have a1 := h4 b e he hl
      rcases hb c (K - i) hc1 hc2 with a2 | ⟨a2, _⟩ <;> omega
    refine ⟨K, by omega, h2, fun j hj => ?_⟩
    by_cases ej : j = i
    · subst ej
      rw [hlast, getD_append_lt (by omega), ← heK]
      exact ⟨he, hl, hmin⟩
    · rw [getD_append_lt (by omega), getD_append_lt (by omega)]
      exact h3' j (by omega)
theorem GrI.done {L : Nat → Int × Int} {m x i e : Nat} {r : List Nat} (h : GrI L m x i r) (he : Ed L m (r.getD i 0) x) : GrEnd L m x i r := by
  have hxx : Lst L m x x 0 := ⟨rfl, fun k hk => by omega⟩
  rcases Nat.eq_zero_or_pos i with h0 | h0
  · subst h0
    exact ⟨h.1, h.2.1, fun j hj => by omega, he, fun k hk => by omega⟩
  · obtain ⟨K, h1, h2, _, h4⟩ := h.has h0
    obtain ⟨K', h1', h2', h3'⟩ := h.2.2 h0
    have hiK' : K' = i := by
      have hl2 : Lst L m x (r.getD i 0) (K' - i + 1) := by
        have := (h3' (i - 1) (by omega)).2.1
        rwa [show i - 1 + 1 = i by omega, show K' - (i - 1) = K' - i + 1 by omega] at this
      have hl3 : Wk L m 1 (r.getD i 0) x := ⟨x, he, rfl⟩
      have : ¬ (1 < K' - i + 1) := fun hlt => hl2.2 _ hlt hl3
      omega
    subst hiK'
    refine ⟨h.1, h.2.1, h3', he, fun k hk hw => ?_⟩
    obtain ⟨c, hc, hw⟩ := hw
    obtain ⟨e', h5, h6⟩ := lst_of _ hw
    have := h2' c e' hc h6
    omega
theorem GrI.none {L : Nat → Int × Int} {n m x i : Nat} {r : List Nat} (hg : GoodArcs n m L) (hn : n ≤ 64) (h : GrI L m x i r) (hb : ∀ y e, Ed L m (r.getD i 0) y → ¬ Lst L m x y e) : ¬ Rch L m x x := by
  rcases Nat.eq_zero_or_pos i with h0 | h0
  · subst h0
    rw [h.2.1] at hb
    intro hr
    obtain ⟨k, _, c, hc, hw⟩ := rch_wk hg hn hr
    obtain ⟨e, _, he⟩ := lst_of _ hw
    exact hb c e hc he
  · obtain ⟨K, _, _, ⟨c, h1, h2⟩, _⟩ := h.has h0
    exact absurd h2 (hb c _ h1)
end Go.Proofs.Ytiollfjhfcaogaa
