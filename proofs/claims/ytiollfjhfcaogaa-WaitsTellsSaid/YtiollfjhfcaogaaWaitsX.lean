import Derived.Test.YtiollfjhfcaogaaWaitsW
set_option linter.unusedSimpArgs false
set_option linter.unusedVariables false
namespace Go.Proofs.Ytiollfjhfcaogaa
open Go.RowKit

/-! ### the search finds the greedy way -/
theorem pth_wk {L : Nat → Int × Int} {m x : Nat} {l : List Nat} (h : Pth (Ed L m) x l) : ∀ i, i < l.length → Wk L m i x (l.getD i 0)
  | 0, _ => h.2.1.symm
  | i + 1, hi => by
    have h1 : Wk L m 1 (l.getD i 0) (l.getD (i + 1) 0) := ⟨_, h.2.2 i hi, rfl⟩
    exact Wk.trans h1 i x (pth_wk h i (by omega))
theorem yLoop_grow (T : Nat → BitVec 64) (x : Nat) (l : List Nat) (q : Nat) (s : BitVec 64 × List (List Nat)) (a : Nat) : ∀ b, ∃ post, (yLoop T x l q s (a + b)).2 = (yLoop T x l q s a).2 ++ post
  | 0 => ⟨[], by simp⟩
  | b + 1 => by
    obtain ⟨post, h⟩ := yLoop_grow T x l q s a b
    have e : yLoop T x l q s (a + (b + 1)) = yStep T x l q (yLoop T x l q s (a + b)) (a + b) := rfl
    rw [e]
    unfold yStep
    split
    · exact ⟨post ++ [l ++ [a + b]], by simp only [h, List.append_assoc]⟩
    · exact ⟨post, h⟩
theorem lLoop_grow (T : Nat → BitVec 64) (x n : Nat) (hn : n ≤ 64) (ls : List (List Nat)) (s : BitVec 64 × List (List Nat)) (a : Nat) : ∀ b, ∃ post, (lLoop T x n ls s (a + b)).2 = (lLoop T x n ls s a).2 ++ post
  | 0 => ⟨[], by simp⟩
  | b + 1 => by
    obtain ⟨post, h⟩ := lLoop_grow T x n hn ls s a b
    obtain ⟨post2, h2, _⟩ := (yLoop_run T x (ls.getD (a + b) []) (lastN (ls.getD (a + b) [])) (lLoop T x n ls s (a + b)) n hn).app
    have e : lLoop T x n ls s (a + (b + 1)) = yLoop T x (ls.getD (a + b) []) (lastN (ls.getD (a + b) [])) (lLoop T x n ls s (a + b)) n := rfl
    exact ⟨post ++ post2, by rw [e, h2, h, List.append_assoc]⟩
theorem yPre {T : Nat → BitVec 64} {x q n y0 : Nat} {l : List Nat} {s : BitVec 64 × List (List Nat)} (Q : Nat → Prop) (hn : n ≤ 64) (h1 : ∀ l' ∈ s.2, ¬ Q (lastN l')) (h2 : ¬ s.1.getLsbD y0 = true) (hy : Q y0) (h3 : ∀ y, (T q).getLsbD y = true → ¬ Q y) :
    (∀ l' ∈ (yLoop T x l q s n).2, ¬ Q (lastN l')) ∧ ¬ (yLoop T x l q s n).1.getLsbD y0 = true := by
  obtain ⟨_, ⟨post, a1, a2⟩, _, a4⟩ := yLoop_run T x l q s n hn
  refine ⟨fun l' hl' => ?_, fun hs => ?_⟩
  · rw [a1] at hl'
    rcases List.mem_append.1 hl' with h | h
    · exact h1 l' h
    · obtain ⟨y, _, rfl, ht, _⟩ := a2 l' h
      rw [lastN_snoc]
      exact h3 y ht
  · rcases a4 y0 hs with h | ⟨_, ht, _⟩
    · exact h2 h
    · exact h3 y0 ht hy
theorem lPre {T : Nat → BitVec 64} {x n y0 : Nat} {ls : List (List Nat)} {s : BitVec 64 × List (List Nat)} (Q : Nat → Prop) (hn : n ≤ 64) (h1 : ∀ l' ∈ s.2, ¬ Q (lastN l')) (h2 : ¬ s.1.getLsbD y0 = true) (hy : Q y0) : ∀ t, (∀ i, i < t → ∀ y, (T (lastN (ls.getD i []))).getLsbD y = true → ¬ Q y) →
    (∀ l' ∈ (lLoop T x n ls s t).2, ¬ Q (lastN l')) ∧ ¬ (lLoop T x n ls s t).1.getLsbD y0 = true
  | 0, _ => ⟨h1, h2⟩
  | t + 1, h3 => by
    obtain ⟨a1, a2⟩ := lPre Q hn h1 h2 hy t (fun i hi => h3 i (by omega))
    exact yPre Q hn a1 a2 hy (h3 t (by omega))
theorem yTarget {T : Nat → BitVec 64} {x q n y0 : Nat} {l : List Nat} {s : BitVec 64 × List (List Nat)} (Q : Nat → Prop) (hn : n ≤ 64) (h1 : ∀ l' ∈ s.2, ¬ Q (lastN l')) (h2 : ¬ s.1.getLsbD y0 = true) (ht : (T q).getLsbD y0 = true) (hx : y0 ≠ x) (hyn : y0 < n) (h3 : ∀ y, y < y0 → (T q).getLsbD y = true → ¬ Q y) :
    ∃ pre post, (yLoop T x l q s n).2 = pre ++ [l ++ [y0]] ++ post ∧ ∀ l' ∈ pre, ¬ Q (lastN l') := by
  obtain ⟨_, ⟨post, a1, a2⟩, _, a4⟩ := yLoop_run T x l q s y0 (by omega)
  have hns : ¬ (yLoop T x l q s y0).1.getLsbD y0 = true := fun hs => by
    rcases a4 y0 hs with h | ⟨h, _⟩
    · exact h2 h
    · omega
  have e : (yLoop T x l q s (y0 + 1)).2 = (yLoop T x l q s y0).2 ++ [l ++ [y0]] := by
    show (yStep T x l q (yLoop T x l q s y0) y0).2 = _
    unfold yStep
    rw [if_pos ⟨ht, by simpa using hns, hx⟩]
  obtain ⟨p2, h⟩ := yLoop_grow T x l q s (y0 + 1) (n - (y0 + 1))
  rw [show y0 + 1 + (n - (y0 + 1)) = n by omega, e] at h
  refine ⟨_, p2, h, fun l' hl' => ?_⟩
  rw [a1] at hl'
  rcases List.mem_append.1 hl' with h | h
  · exact h1 l' h
  · obtain ⟨y, hy, rfl, ht', _⟩ := a2 l' h
    rw [lastN_snoc]
    exact h3 y hy ht'
theorem take_last {r : List Nat} {i : Nat} (h : i < r.length) : lastN (r.take (i + 1)) = r.getD i 0 := by
  unfold lastN
  rw [List.length_take, show min (i + 1) r.length - 1 = i by omega, List.getD_eq_getElem?_getD, List.getElem?_take, if_pos (by omega), List.getD_eq_getElem?_getD]
theorem take_snoc {r : List Nat} {i : Nat} (h : i + 1 < r.length) : r.take (i + 1 + 1) = r.take (i + 1) ++ [r.getD (i + 1) 0] := by
  rw [List.take_succ_eq_append_getElem h, List.getD_eq_getElem?_getD, List.getElem?_eq_getElem h]
  rfl
def LevI (L : Nat → Int × Int) (m n x k : Nat) (r : List Nat) (i : Nat) : Prop := ∃ pre post, (bfs (spreadP zeroB L m) x n i).2 = pre ++ [r.take (i + 1)] ++ post ∧ (i = 0 → pre = []) ∧ ∀ l ∈ pre, ¬ Lst L m x (lastN l) (k + 1 - i)
theorem lev {L : Nat → Int × Int} {n m x k : Nat} {r : List Nat} (hg : GoodArcs n m L) (hn : n ≤ 64) (hr : GrEnd L m x k r) : ∀ i, i ≤ k → LevI L m n x k r i
  | 0, _ => by
    refine ⟨[], [], ?_, fun _ => rfl, by simp⟩
    have h0 := hr.1
    have h1 := hr.2.1
    match r, h0, h1 with
    | a :: t, _, h1 =>
      have : a = x := h1
      subst this
      rfl
  | i + 1, hi => by
    obtain ⟨pre, post, hb, h0, hpre⟩ := lev hg hn hr i (by omega)
    have tb := tbit hg hn
    have hlen := hr.1
    obtain ⟨g1, g2, g3⟩ := hr.2.2.1 i (by omega)
    have hno := hr.2.2.2.2
    have hpath := bfs_path (E := Ed L m) (x := x) hn (fun a b => (tb a b).1)
    have hgood := bfs_good hn (x := x) (T := spreadP zeroB L m) (n := n)
    have hxn : x < n := by
      have := hr.2.2.2.1
      exact (this.lt hg).2
    generalize hT : spreadP zeroB L m = T at *
    have hy0 : r.getD (i + 1) 0 ≠ x := fun e => by
      rw [e] at g2
      have h0 : Lst L m x x 0 := ⟨rfl, fun k hk => by omega⟩
      have := g2.uniq h0
      omega
    have hseen : ¬ (bfs T x n i).1.getLsbD (r.getD (i + 1) 0) = true := fun hs => by
      obtain ⟨r', a1, a2, l, a3, a4⟩ := bfs_seen hn i _ hs
      have hp := hpath r' l a3
      have hl := (hgood hxn r').1 l a3
      have hw := pth_wk hp r' (by rw [hl.1]; omega)
      have : l.getD r' 0 = r.getD (i + 1) 0 := by
        rw [← a4]; unfold lastN; rw [hl.1, Nat.add_sub_cancel]
      rw [this] at hw
      have hw2 := Wk.trans g2.1 r' x hw
      rw [show r' + (k - i) = (r' + (k - i) - 1) + 1 by omega] at hw2
      exact hno _ (by omega) hw2
    obtain ⟨b1, b2⟩ := lPre (T := T) (x := x) (n := n) (ls := (bfs T x n i).2) (s := ((bfs T x n i).1, [])) (fun y => Lst L m x y (k - i)) hn (by simp) hseen g2 pre.length (fun j hj y hy => by
      have e1 : (bfs T x n i).2.getD j [] = pre.getD j [] := by
        rw [hb, List.getD_eq_getElem?_getD, List.getD_eq_getElem?_getD, List.append_assoc, List.getElem?_append_left hj]
      rw [e1] at hy
      have hm : pre.getD j [] ∈ pre := getD_mem hj
      have hi0 : 0 < i := by
        rcases Nat.eq_zero_or_pos i with h | h
        · rw [h0 h] at hj; simp at hj
        · exact h
      have hmb : pre.getD j [] ∈ (bfs T x n i).2 := by rw [hb]; exact List.mem_append_left _ (List.mem_append_left _ hm)
      generalize pre.getD j [] = l at hm hmb hy
      intro hl
      have hw : Wk L m (k - i + 1) (lastN l) x := ⟨y, (tb _ _).1 hy, hl.1⟩
      obtain ⟨e, he, hle⟩ := lst_of _ hw
      have hne : e ≠ k + 1 - i := fun h => hpre l hm (h ▸ hle)
      have hll := (hgood hxn i).1 l hmb
      have hw2 := pth_wk (hpath i l hmb) i (by rw [hll.1]; omega)
      have : l.getD i 0 = lastN l := by unfold lastN; rw [hll.1, Nat.add_sub_cancel]
      rw [this] at hw2
      have hw3 := Wk.trans hle.1 i x hw2
      rw [show i + e = (i + e - 1) + 1 by omega] at hw3
      exact hno _ (by omega) hw3)
    have ek : (bfs T x n i).2.getD pre.length [] = r.take (i + 1) := by
      rw [hb, List.getD_eq_getElem?_getD, List.append_assoc, List.getElem?_append_right (Nat.le_refl _), Nat.sub_self]
      rfl
    have hlr : lastN (r.take (i + 1)) = r.getD i 0 := take_last (by omega)
    obtain ⟨p1, p2, c1, c2⟩ := yTarget (T := T) (x := x) (q := r.getD i 0) (n := n) (y0 := r.getD (i + 1) 0) (l := r.take (i + 1)) (s := lLoop T x n (bfs T x n i).2 ((bfs T x n i).1, []) pre.length) (fun y => Lst L m x y (k - i)) hn b1 b2 ((tb _ _).2 g1) hy0 (g1.lt hg).2 (fun y hy ht => g3 y hy ((tb _ _).1 ht))
    have hstep : (lLoop T x n (bfs T x n i).2 ((bfs T x n i).1, []) (pre.length + 1)).2 = p1 ++ [r.take (i + 1 + 1)] ++ p2 := by
      rw [show lLoop T x n (bfs T x n i).2 ((bfs T x n i).1, []) (pre.length + 1) = yLoop T x ((bfs T x n i).2.getD pre.length []) (lastN ((bfs T x n i).2.getD pre.length [])) (lLoop T x n (bfs T x n i).2 ((bfs T x n i).1, []) pre.length) n from rfl, ek, hlr, c1, take_snoc (by omega)]
    obtain ⟨p3, c3⟩ := lLoop_grow T x n hn (bfs T x n i).2 ((bfs T x n i).1, []) (pre.length + 1) ((bfs T x n i).2.length - (pre.length + 1))
    have hle : pre.length + 1 ≤ (bfs T x n i).2.length := by rw [hb]; simp
    rw [show pre.length + 1 + ((bfs T x n i).2.length - (pre.length + 1)) = (bfs T x n i).2.length by omega, hstep] at c3
    refine ⟨p1, p2 ++ p3, ?_, fun h => by omega, fun l hl => ?_⟩
    · rw [hT, show bfs T x n (i + 1) = lLoop T x n (bfs T x n i).2 ((bfs T x n i).1, []) (bfs T x n i).2.length from rfl, c3]
      simp only [List.append_assoc]
    · rw [show k + 1 - (i + 1) = k - i by omega]
      exact c2 l hl
theorem circle_same {w : World} {L : Nat → Int × Int} {n m x k : Nat} {v : Value} {r : List Nat} (hg : GoodArcs n m L) (hn : n ≤ 64) (hc : CircleAt w (spreadP zeroB L m) x n v) (hr : GrEnd L m x k r) : LAt w (fun _ => False) v r := by
  obtain ⟨rr, hN, hc⟩ := hc
  have tb := tbit hg hn
  have hno := hr.2.2.2.2
  have hxn : x < n := (hr.2.2.2.1.lt hg).2
  have hpath := bfs_path (E := Ed L m) (x := x) (n := n) hn (fun a b => (tb a b).1)
  have hgood := bfs_good hn (x := x) (T := spreadP zeroB L m) (n := n) hxn
  have hhit : ∀ r', r' < k → ∀ l ∈ (bfs (spreadP zeroB L m) x n r').2, ¬ Hits (spreadP zeroB L m) x l := fun r' hr' l hl hh => by
    have hll := (hgood r').1 l hl
    have hw2 := pth_wk (hpath r' l hl) r' (by rw [hll.1]; omega)
    have : l.getD r' 0 = lastN l := by unfold lastN; rw [hll.1, Nat.add_sub_cancel]
    rw [this] at hw2
    have h1 : Wk L m 1 (lastN l) x := ⟨x, (tb _ _).1 hh, rfl⟩
    exact hno r' hr' (Wk.trans h1 r' x hw2)
  obtain ⟨pre, post, hb, h0, hpre⟩ := lev hg hn hr k (Nat.le_refl _)
  have htk : r.take (k + 1) = r := by rw [List.take_of_length_le (by rw [hr.1]; omega)]
  rw [htk] at hb
  have hrl : lastN r = r.getD k 0 := by
    have := take_last (r := r) (i := k) (by rw [hr.1]; omega)
    rwa [htk] at this
  have hrh : Hits (spreadP zeroB L m) x r := by
    unfold Hits
    rw [hrl, tb]
    exact hr.2.2.2.1
  have hpn : ∀ l ∈ pre, ¬ Hits (spreadP zeroB L m) x l := fun l hl hh => by
    have hk0 : 0 < k := by
      rcases Nat.eq_zero_or_pos k with h | h
      · rw [h0 h] at hl; cases hl
      · exact h
    have h1 : Wk L m 1 (lastN l) x := ⟨x, (tb _ _).1 hh, rfl⟩
    obtain ⟨e, he, hle⟩ := lst_of _ h1
    have hne : e ≠ 1 := fun h => hpre l hl (by rw [show k + 1 - k = 1 by omega]; exact h ▸ hle)
    obtain rfl : e = 0 := by omega
    have hq : lastN l = x := hle.1
    have hlb : l ∈ (bfs (spreadP zeroB L m) x n k).2 := by rw [hb]; simp [hl]
    have hll := (hgood k).1 l hlb
    have hw2 := pth_wk (hpath k l hlb) k (by rw [hll.1]; omega)
    have : l.getD k 0 = lastN l := by unfold lastN; rw [hll.1, Nat.add_sub_cancel]
    rw [this, hq] at hw2
    rw [show k = (k - 1) + 1 by omega] at hw2
    exact hno (k - 1) (by omega) hw2
  rcases Nat.lt_trichotomy rr k with hlt | heq | hgt
  · rcases hc with ⟨he, _⟩ | ⟨i, l, hl, hh, _⟩
    · obtain ⟨p, q, hb', _⟩ := lev hg hn hr rr (by omega)
      rw [he] at hb'
      simp at hb'
    · exact absurd hh (hhit rr hlt l (List.mem_of_getElem? hl))
  · subst heq
    rcases hc with ⟨he, _⟩ | ⟨i, l, hl, hh, hpri, hv⟩
    · rw [he] at hb
      simp at hb
    · have hat : (bfs (spreadP zeroB L m) x n rr).2[pre.length]? = some r := by
        rw [hb, List.append_assoc, List.getElem?_append_right (Nat.le_refl _), Nat.sub_self]
        rfl
      rcases Nat.lt_trichotomy i pre.length with h | h | h
      · rw [hb, List.append_assoc, List.getElem?_append_left h] at hl
        exact absurd hh (hpn l (List.mem_of_getElem? hl))
      · subst h
        rw [hat] at hl
        obtain rfl := Option.some.inj hl
        exact hv
      · exact absurd hrh (hpri _ _ h hat)
  · exact absurd hrh (hN k hgt r (by rw [hb]; simp))
end Go.Proofs.Ytiollfjhfcaogaa
