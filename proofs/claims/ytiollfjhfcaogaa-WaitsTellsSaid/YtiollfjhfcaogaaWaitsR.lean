import Derived.Test.YtiollfjhfcaogaaWaitsQ
set_option linter.unusedSimpArgs false
set_option linter.unusedVariables false
namespace Go.Proofs.Ytiollfjhfcaogaa
open Go.RowKit

/-! ### digests are there after n rounds -/
theorem tbit {L : Nat → Int × Int} {n m : Nat} (hg : GoodArcs n m L) (hn : n ≤ 64) (a b : Nat) : (spreadP zeroB L m a).getLsbD b = true ↔ Ed L m a b := by
  rw [spreadP_ed hg hn]
  constructor
  · rintro (h | ⟨c, e, h | rfl⟩)
    · simp [zeroB] at h
    · simp [zeroB] at h
    · exact e
  · intro e
    exact .inr ⟨b, e, .inr rfl⟩
theorem spreadN_succ {L : Nat → Int × Int} {n m i a b : Nat} (hg : GoodArcs n m L) (hn : n ≤ 64) : (spreadN L m (i + 1) a).getLsbD b = true ↔ (spreadN L m i a).getLsbD b = true ∨ ∃ c, Ed L m a c ∧ ((spreadN L m i c).getLsbD b = true ∨ b = c) := spreadP_ed hg hn
def colN (L : Nat → Int × Int) (m n i b : Nat) : Nat := sumN (fun a => if (spreadN L m i a).getLsbD b = true then 1 else 0) n
def StableAt (L : Nat → Int × Int) (m n i b : Nat) : Prop := ∀ a, a < n → (spreadN L m (i + 1) a).getLsbD b = true → (spreadN L m i a).getLsbD b = true
theorem StableAt.next {L : Nat → Int × Int} {n m i b : Nat} (hg : GoodArcs n m L) (hn : n ≤ 64) (h : StableAt L m n i b) : StableAt L m n (i + 1) b := fun a ha hb => by
  rcases (spreadN_succ hg hn).1 hb with h1 | ⟨c, e, h1 | h1⟩
  · exact h1
  · exact (spreadN_succ hg hn).2 (.inr ⟨c, e, .inl (h c (e.lt hg).2 h1)⟩)
  · exact (spreadN_succ hg hn).2 (.inr ⟨c, e, .inr h1⟩)
theorem StableAt.later {L : Nat → Int × Int} {n m i b : Nat} (hg : GoodArcs n m L) (hn : n ≤ 64) (h : StableAt L m n i b) : ∀ k, StableAt L m n (i + k) b
  | 0 => h
  | k + 1 => (StableAt.later hg hn h k).next hg hn
theorem stable_or {L : Nat → Int × Int} {n m b : Nat} (hg : GoodArcs n m L) (hn : n ≤ 64) : ∀ i, (∃ j, j < i ∧ StableAt L m n j b) ∨ i ≤ colN L m n i b
  | 0 => .inr (Nat.zero_le _)
  | i + 1 => by
    rcases stable_or hg hn i with ⟨j, hj, h⟩ | h
    · exact .inl ⟨j, by omega, h⟩
    · by_cases hs : StableAt L m n i b
      · exact .inl ⟨i, by omega, hs⟩
      · right
        have hex : ∃ a, a < n ∧ (spreadN L m (i + 1) a).getLsbD b = true ∧ ¬ (spreadN L m i a).getLsbD b = true := by
          apply Classical.byContradiction
          intro hno
          exact hs fun a ha h1 => Classical.byContradiction fun h2 => hno ⟨a, ha, h1, h2⟩
        obtain ⟨a, ha, h1, h2⟩ := hex
        have : colN L m n i b < colN L m n (i + 1) b := by
          refine sumN_lt (fun c hc => ?_) a ha ?_
          · by_cases h3 : (spreadN L m i c).getLsbD b = true
            · rw [if_pos h3, if_pos ((spreadN_succ hg hn).2 (.inl h3))]
              exact Nat.le_refl _
            · rw [if_neg h3]; exact Nat.zero_le _
          · rw [if_neg h2, if_pos h1]; exact Nat.one_pos
        omega
theorem stable_n {L : Nat → Int × Int} {n m : Nat} (hg : GoodArcs n m L) (hn : n ≤ 64) (b : Nat) : StableAt L m n n b := by
  rcases stable_or hg hn (n + 1) (b := b) with ⟨j, hj, h⟩ | h
  · obtain ⟨k, rfl⟩ : ∃ k, n = j + k := ⟨n - j, by omega⟩
    exact h.later hg hn k
  · have : colN L m n (n + 1) b ≤ n := sumN_bound _ (fun a => by split <;> omega) n
    omega
theorem spreadN_le {L : Nat → Int × Int} {n m i b a : Nat} (hg : GoodArcs n m L) (hn : n ≤ 64) (h : (spreadN L m i a).getLsbD b = true) : ∀ k, (spreadN L m (i + k) a).getLsbD b = true
  | 0 => h
  | k + 1 => (spreadN_succ hg hn).2 (.inl (spreadN_le hg hn h k))
theorem rch_some {L : Nat → Int × Int} {n m a b : Nat} (hg : GoodArcs n m L) (hn : n ≤ 64) (h : Rch L m a b) : ∃ i, (spreadN L m i a).getLsbD b = true := by
  induction h with
  | one e => exact ⟨1, (spreadN_succ hg hn).2 (.inr ⟨_, e, .inr rfl⟩)⟩
  | step e _ ih =>
    obtain ⟨i, hi⟩ := ih
    exact ⟨i + 1, (spreadN_succ hg hn).2 (.inr ⟨_, e, .inl hi⟩)⟩
theorem stable_back {L : Nat → Int × Int} {n m b : Nat} (hg : GoodArcs n m L) (hn : n ≤ 64) (a : Nat) (ha : a < n) : ∀ k, (spreadN L m (n + k) a).getLsbD b = true → (spreadN L m n a).getLsbD b = true
  | 0, h => h
  | k + 1, h => stable_back hg hn a ha k ((stable_n hg hn b).later hg hn k a ha h)
theorem spread_n {L : Nat → Int × Int} {n m : Nat} (hg : GoodArcs n m L) (hn : n ≤ 64) (a b : Nat) (ha : a < n) : (spreadN L m n a).getLsbD b = true ↔ Rch L m a b := by
  refine ⟨spreadN_sub hg hn n a b, fun h => ?_⟩
  obtain ⟨i, hi⟩ := rch_some hg hn h
  have h1 := spreadN_le hg hn hi n
  rw [Nat.add_comm] at h1
  exact stable_back hg hn a ha i h1

/-! ### the search -/
def Pth (E : Nat → Nat → Prop) (x : Nat) (l : List Nat) : Prop := 0 < l.length ∧ l.getD 0 0 = x ∧ ∀ i, i + 1 < l.length → E (l.getD i 0) (l.getD (i + 1) 0)
theorem getD_append_lt {l m : List Nat} {i : Nat} (h : i < l.length) : (l ++ m).getD i 0 = l.getD i 0 := by
  rw [List.getD_eq_getElem?_getD, List.getD_eq_getElem?_getD, List.getElem?_append_left h]
theorem getD_snoc (l : List Nat) (y : Nat) : (l ++ [y]).getD l.length 0 = y := by
  rw [List.getD_eq_getElem?_getD]; simp
theorem lastN_snoc (l : List Nat) (y : Nat) : lastN (l ++ [y]) = y := by
  unfold lastN
  rw [List.length_append, List.length_singleton, Nat.add_sub_cancel, getD_snoc]
theorem Pth.snoc {E : Nat → Nat → Prop} {x y : Nat} {l : List Nat} (h : Pth E x l) (e : E (lastN l) y) : Pth E x (l ++ [y]) := by
  obtain ⟨h0, h1, h2⟩ := h
  refine ⟨by simp, by rw [getD_append_lt h0]; exact h1, fun i hi => ?_⟩
  simp only [List.length_append, List.length_singleton] at hi
  by_cases hil : i + 1 < l.length
  · rw [getD_append_lt (by omega), getD_append_lt hil]; exact h2 i hil
  · have e1 : i + 1 = l.length := by omega
    rw [getD_append_lt (by omega), e1, getD_snoc]
    have : i = l.length - 1 := by omega
    rw [this]; exact e
/-- what a run over numbers below k does to the state -/
structure YRun (T : Nat → BitVec 64) (x : Nat) (l : List Nat) (q k : Nat) (s s' : BitVec 64 × List (List Nat)) : Prop where
  mono : ∀ y, s.1.getLsbD y = true → s'.1.getLsbD y = true
  app : ∃ post, s'.2 = s.2 ++ post ∧ ∀ l' ∈ post, ∃ y, y < k ∧ l' = l ++ [y] ∧ (T q).getLsbD y = true ∧ y ≠ x ∧ s'.1.getLsbD y = true
  cover : ∀ y, y < k → (T q).getLsbD y = true → y ≠ x → s'.1.getLsbD y = true
  new : ∀ y, s'.1.getLsbD y = true → s.1.getLsbD y = true ∨ (y < k ∧ (T q).getLsbD y = true ∧ y ≠ x ∧ l ++ [y] ∈ s'.2)
theorem yLoop_run (T : Nat → BitVec 64) (x : Nat) (l : List Nat) (q : Nat) (s : BitVec 64 × List (List Nat)) : ∀ k, k ≤ 64 → YRun T x l q k s (yLoop T x l q s k)
  | 0, _ => ⟨fun _ h => h, ⟨[], by simp [yLoop], by simp⟩, fun y h => by omega, fun y h => .inl h⟩
  | k + 1, hk => by
    obtain ⟨h1, ⟨post, h2, h2'⟩, h3, h4⟩ := yLoop_run T x l q s k (by omega)
    have e : yLoop T x l q s (k + 1) = yStep T x l q (yLoop T x l q s k) k := rfl
    rw [e]
    generalize yLoop T x l q s k = p at *
    unfold yStep
    split
    · rename_i hc
      have hor : ∀ j, (p.1 ||| BitVec.twoPow 64 k).getLsbD j = (p.1.getLsbD j || decide (j = k)) := fun j => getLsbD_or_two p.1 k j (by omega)
      refine ⟨fun y hy => ?_, ⟨post ++ [l ++ [k]], ?_, fun l' hl' => ?_⟩, fun y hy ht hx => ?_, fun y hy => ?_⟩
      · simp only [hor, h1 y hy, Bool.true_or]
      · simp only [h2, List.append_assoc]
      · rcases List.mem_append.1 hl' with h | h
        · obtain ⟨y, a, b, c, d, f⟩ := h2' l' h
          exact ⟨y, by omega, b, c, d, by simp only [hor, f, Bool.true_or]⟩
        · simp only [List.mem_cons, List.not_mem_nil, or_false] at h
          exact ⟨k, by omega, h, hc.1, hc.2.2, by simp [hor]⟩
      · simp only [hor, Bool.or_eq_true, decide_eq_true_eq]
        by_cases e : y = k
        · exact .inr e
        · exact .inl (h3 y (by omega) ht hx)
      · simp only [hor, Bool.or_eq_true, decide_eq_true_eq] at hy
        rcases hy with hy | rfl
        · rcases h4 y hy with h | ⟨a, b, c, d⟩
          · exact .inl h
          · exact .inr ⟨by omega, b, c, List.mem_append_left _ d⟩
        · exact .inr ⟨by omega, hc.1, hc.2.2, by simp⟩
    · rename_i hc
      refine ⟨h1, ⟨post, h2, fun l' hl' => ?_⟩, fun y hy ht hx => ?_, fun y hy => ?_⟩
      · obtain ⟨y, a, b, c, d, f⟩ := h2' l' hl'
        exact ⟨y, by omega, b, c, d, f⟩
      · by_cases e : y = k
        · subst e
          apply Classical.byContradiction
          intro hb
          exact hc ⟨ht, by simpa using hb, hx⟩
        · exact h3 y (by omega) ht hx
      · rcases h4 y hy with h | ⟨a, b, c, d⟩
        · exact .inl h
        · exact .inr ⟨by omega, b, c, d⟩
/-- what a run over the first k lists does -/
structure LRun (T : Nat → BitVec 64) (x n : Nat) (ls : List (List Nat)) (k : Nat) (s s' : BitVec 64 × List (List Nat)) : Prop where
  mono : ∀ y, s.1.getLsbD y = true → s'.1.getLsbD y = true
  app : ∃ post, s'.2 = s.2 ++ post
  mem : ∀ l' ∈ s'.2, l' ∈ s.2 ∨ ∃ i, i < k ∧ ∃ y, y < n ∧ l' = ls.getD i [] ++ [y] ∧ (T (lastN (ls.getD i []))).getLsbD y = true ∧ y ≠ x
  cover : ∀ i, i < k → ∀ y, y < n → (T (lastN (ls.getD i []))).getLsbD y = true → y ≠ x → s'.1.getLsbD y = true
  new : ∀ y, s'.1.getLsbD y = true → s.1.getLsbD y = true ∨ (y < n ∧ ∃ i, i < k ∧ (T (lastN (ls.getD i []))).getLsbD y = true ∧ ls.getD i [] ++ [y] ∈ s'.2)
theorem lLoop_run (T : Nat → BitVec 64) (x n : Nat) (hn : n ≤ 64) (ls : List (List Nat)) (s : BitVec 64 × List (List Nat)) : ∀ k, LRun T x n ls k s (lLoop T x n ls s k)
  | 0 => ⟨fun _ h => h, ⟨[], by simp [lLoop]⟩, fun l h => .inl h, fun i h => by omega, fun y h => .inl h⟩
  | k + 1 => by
    obtain ⟨h1, ⟨post, h2⟩, h3, h4, h5⟩ := lLoop_run T x n hn ls s k
    obtain ⟨g1, ⟨post2, g2, g2'⟩, g3, g4⟩ := yLoop_run T x (ls.getD k []) (lastN (ls.getD k [])) (lLoop T x n ls s k) n hn
    have e : lLoop T x n ls s (k + 1) = yLoop T x (ls.getD k []) (lastN (ls.getD k [])) (lLoop T x n ls s k) n := rfl
    rw [← e] at g1 g2 g2' g3 g4
    refine ⟨fun y hy => g1 y (h1 y hy), ⟨post ++ post2, by rw [g2, h2, List.append_assoc]⟩, fun l' hl' => ?_, fun i hi y hy ht hx => ?_, fun y hy => ?_⟩
    · rw [g2] at hl'
      rcases List.mem_append.1 hl' with h | h
      · rcases h3 l' h with h | ⟨i, a, r⟩
        · exact .inl h
        · exact .inr ⟨i, by omega, r⟩
      · obtain ⟨y, a, b, c, d, _⟩ := g2' l' h
        exact .inr ⟨k, by omega, y, a, b, c, d⟩
    · by_cases e : i = k
      · subst e; exact g3 y hy ht hx
      · exact g1 y (h4 i (by omega) y hy ht hx)
    · rcases g4 y hy with h | ⟨a, b, c, d⟩
      · rcases h5 y h with h | ⟨a, i, b, c, d⟩
        · exact .inl h
        · exact .inr ⟨a, i, by omega, c, by rw [g2]; exact List.mem_append_left _ d⟩
      · exact .inr ⟨a, k, by omega, b, d⟩
theorem bfs_run (T : Nat → BitVec 64) (x n : Nat) (hn : n ≤ 64) (r : Nat) : LRun T x n (bfs T x n r).2 (bfs T x n r).2.length ((bfs T x n r).1, []) (bfs T x n (r + 1)) := lLoop_run T x n hn _ _ _
theorem bfs_path {T : Nat → BitVec 64} {x n : Nat} (hn : n ≤ 64) {E : Nat → Nat → Prop} (hT : ∀ a b, (T a).getLsbD b = true → E a b) : ∀ r, ∀ l ∈ (bfs T x n r).2, Pth E x l
  | 0, l, hl => by
    simp only [bfs, List.mem_cons, List.not_mem_nil, or_false] at hl
    subst hl
    exact ⟨by simp, rfl, fun i hi => by simp at hi⟩
  | r + 1, l, hl => by
    rcases (bfs_run T x n hn r).mem l hl with h | ⟨i, hi, y, _, rfl, ht, _⟩
    · cases h
    · exact (bfs_path hn hT r _ (getD_mem hi)).snoc (hT _ _ ht)
/-- who has been seen is the last of a list -/
theorem bfs_seen {T : Nat → BitVec 64} {x n : Nat} (hn : n ≤ 64) : ∀ r y, (bfs T x n r).1.getLsbD y = true → ∃ r', r' ≤ r ∧ 0 < r' ∧ ∃ l ∈ (bfs T x n r').2, lastN l = y
  | 0, y, h => by simp [bfs] at h
  | r + 1, y, h => by
    rcases (bfs_run T x n hn r).new y h with h | ⟨_, i, _, _, h⟩
    · obtain ⟨r', a, b, c⟩ := bfs_seen hn r y h
      exact ⟨r', by omega, b, c⟩
    · exact ⟨r + 1, by omega, by omega, _, h, lastN_snoc _ _⟩
theorem bfs_mono {T : Nat → BitVec 64} {x n : Nat} (hn : n ≤ 64) (r y : Nat) (h : (bfs T x n r).1.getLsbD y = true) : ∀ k, (bfs T x n (r + k)).1.getLsbD y = true
  | 0 => h
  | k + 1 => (bfs_run T x n hn (r + k)).mono y (bfs_mono hn r y h k)
theorem bfs_cover {T : Nat → BitVec 64} {x n : Nat} (hn : n ≤ 64) (r : Nat) (l : List Nat) (hl : l ∈ (bfs T x n r).2) (y : Nat) (hy : y < n) (ht : (T (lastN l)).getLsbD y = true) (hx : y ≠ x) : (bfs T x n (r + 1)).1.getLsbD y = true := by
  obtain ⟨i, hi, e⟩ := List.getElem_of_mem hl
  refine (bfs_run T x n hn r).cover i hi y hy ?_ hx
  rw [List.getD_eq_getElem?_getD, List.getElem?_eq_getElem hi, e]
  exact ht
/-- a search that has come to its end without a circle: there is none -/
theorem bfs_none {L : Nat → Int × Int} {n m x r : Nat} (hg : GoodArcs n m L) (hn : n ≤ 64) (hx : x < n) (hN : NoneHits (spreadP zeroB L m) x n r) (he : (bfs (spreadP zeroB L m) x n r).2 = []) : ¬ Rch L m x x := by
  have htb := tbit hg hn
  generalize spreadP zeroB L m = T at *
  have key : ∀ y, (bfs T x n r).1.getLsbD y = true → ∃ r', r' < r ∧ ∃ l ∈ (bfs T x n r').2, lastN l = y := fun y h => by
    obtain ⟨r', a, _, l, hl, e⟩ := bfs_seen hn r y h
    by_cases h : r' = r
    · subst h; rw [he] at hl; cases hl
    · exact ⟨r', by omega, l, hl, e⟩
  have hr : 0 < r := by
    rcases Nat.eq_zero_or_pos r with h | h
    · subst h; simp [bfs] at he
    · exact h
  have go : ∀ a b, Rch L m a b → (a = x ∨ (bfs T x n r).1.getLsbD a = true) → b ≠ x := by
    intro a b h
    induction h with
    | @one a b e =>
      intro ha hbx
      subst hbx
      have hl : ∃ r', r' < r ∧ ∃ l ∈ (bfs T b n r').2, lastN l = a := by
        rcases ha with ha | ha
        · subst ha; exact ⟨0, hr, [a], by simp [bfs], rfl⟩
        · exact key a ha
      obtain ⟨r', h1, l, h2, h3⟩ := hl
      refine hN r' h1 l h2 ?_
      unfold Hits
      rw [h3, htb]; exact e
    | @step a c b e _ ih =>
      intro ha
      apply ih
      by_cases hcx : c = x
      · exact .inl hcx
      · right
        have hl : ∃ r', r' < r ∧ ∃ l ∈ (bfs T x n r').2, lastN l = a := by
          rcases ha with ha | ha
          · subst ha; exact ⟨0, hr, [a], by simp [bfs], rfl⟩
          · exact key a ha
        obtain ⟨r', h1, l, h2, h3⟩ := hl
        have := bfs_cover hn r' l h2 c (e.lt hg).2 (by rw [h3, htb]; exact e) hcx
        have h4 := bfs_mono hn (r' + 1) c this (r - (r' + 1))
        rwa [show r' + 1 + (r - (r' + 1)) = r by omega] at h4
  exact fun h => go x x h (.inl rfl) rfl
theorem pth_rch {L : Nat → Int × Int} {m x : Nat} {l : List Nat} (h : Pth (Ed L m) x l) : ∀ i, i + 1 < l.length → Rch L m (l.getD 0 0) (l.getD (i + 1) 0)
  | 0, hi => .one (h.2.2 0 hi)
  | i + 1, hi => (pth_rch h i (by omega)).trans (.one (h.2.2 (i + 1) hi))
theorem hits_rch {L : Nat → Int × Int} {m x : Nat} {l : List Nat} (h : Pth (Ed L m) x l) (he : Ed L m (lastN l) x) : Rch L m x x := by
  by_cases h1 : l.length = 1
  · have : lastN l = x := by unfold lastN; rw [h1]; exact h.2.1
    rw [this] at he
    exact .one he
  · have h0 := h.1
    have h2 := pth_rch h (l.length - 2) (by omega)
    rw [h.2.1, show l.length - 2 + 1 = l.length - 1 by omega] at h2
    exact h2.trans (.one he)
end Go.Proofs.Ytiollfjhfcaogaa
