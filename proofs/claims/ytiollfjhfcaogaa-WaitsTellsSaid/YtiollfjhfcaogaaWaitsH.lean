import Derived.Test.YtiollfjhfcaogaaWaitsG
set_option linter.unusedSimpArgs false
set_option linter.unusedVariables false
namespace Go.Proofs.Ytiollfjhfcaogaa
open Go.RowKit

/-! ### the search for a circle, in plain Lean -/
def yStep (T : Nat → BitVec 64) (x : Nat) (l : List Nat) (q : Nat) (s : BitVec 64 × List (List Nat)) (y : Nat) : BitVec 64 × List (List Nat) :=
  if (T q).getLsbD y = true ∧ s.1.getLsbD y = false ∧ y ≠ x then (s.1 ||| BitVec.twoPow 64 y, s.2 ++ [l ++ [y]]) else s
def yLoop (T : Nat → BitVec 64) (x : Nat) (l : List Nat) (q : Nat) (s : BitVec 64 × List (List Nat)) : Nat → BitVec 64 × List (List Nat)
  | 0 => s
  | k + 1 => yStep T x l q (yLoop T x l q s k) k
def lastN (l : List Nat) : Nat := l.getD (l.length - 1) 0
def lLoop (T : Nat → BitVec 64) (x n : Nat) (ls : List (List Nat)) (s : BitVec 64 × List (List Nat)) : Nat → BitVec 64 × List (List Nat)
  | 0 => s
  | k + 1 => yLoop T x (ls.getD k []) (lastN (ls.getD k [])) (lLoop T x n ls s k) n
def bfs (T : Nat → BitVec 64) (x n : Nat) : Nat → BitVec 64 × List (List Nat)
  | 0 => (0, [[x]])
  | r + 1 => lLoop T x n (bfs T x n r).2 ((bfs T x n r).1, []) (bfs T x n r).2.length
def cnt (s : BitVec 64) : Nat := sumN (fun y => if s.getLsbD y = true then 1 else 0) 64
theorem sumN_bound (f : Nat → Nat) (h : ∀ j, f j ≤ 1) : ∀ n, sumN f n ≤ n
  | 0 => Nat.le_refl _
  | n + 1 => by have := sumN_bound f h n; have := h n; rw [sumN]; omega
theorem cnt_le (s : BitVec 64) : cnt s ≤ 64 := sumN_bound _ (fun j => by split <;> omega) 64
theorem getLsbD_or_two (s : BitVec 64) (y j : Nat) (hy : y < 64) : (s ||| BitVec.twoPow 64 y).getLsbD j = (s.getLsbD j || decide (j = y)) := by
  rw [BitVec.getLsbD_or, BitVec.getLsbD_twoPow]
  by_cases e : y = j
  · subst e; simp [hy]
  · have e' : ¬ j = y := fun h => e h.symm
    simp [e, e']
theorem sumN_point (f g : Nat → Nat) (y : Nat) (h : ∀ j, j ≠ y → f j = g j) (h1 : f y + 1 = g y) : ∀ n, y < n → sumN f n + 1 = sumN g n
  | 0, hy => by omega
  | n + 1, hy => by
    rw [sumN, sumN]
    by_cases e : y = n
    · subst e
      rw [sumN_congr (fun j hj => h j (by omega))]
      omega
    · have := sumN_point f g y h h1 n (by omega)
      have := h n (fun e' => e e'.symm)
      omega
theorem cnt_add (s : BitVec 64) (y : Nat) (hy : y < 64) (h : s.getLsbD y = false) : cnt (s ||| BitVec.twoPow 64 y) = cnt s + 1 := by
  refine (sumN_point _ _ y (fun j hj => ?_) ?_ 64 hy).symm
  · rw [getLsbD_or_two s y j hy]; simp [hj]
  · rw [getLsbD_or_two s y y hy, h]; simp
/-- what holds of a round's state: as many lists as numbers have been seen anew, each of r numbers below n -/
def Grown (n c0 r : Nat) (s : BitVec 64 × List (List Nat)) : Prop := s.2.length + c0 ≤ cnt s.1 ∧ ∀ l ∈ s.2, l.length = r ∧ ∀ y ∈ l, y < n
theorem yStep_grown {n c0 r x q y : Nat} {T : Nat → BitVec 64} {l : List Nat} {s : BitVec 64 × List (List Nat)} (hn : n ≤ 64) (hy : y < n) (hl : l.length + 1 = r) (hl2 : ∀ z ∈ l, z < n) (h : Grown n c0 r s) : Grown n c0 r (yStep T x l q s y) := by
  unfold yStep
  split
  · rename_i hc
    refine ⟨?_, fun l' hl' => ?_⟩
    · have h1 := h.1
      simp only [List.length_append, List.length_cons, List.length_nil]
      rw [cnt_add s.1 y (by omega) hc.2.1]
      omega
    · rcases List.mem_append.1 hl' with h2 | h2
      · exact h.2 l' h2
      · simp only [List.mem_cons, List.not_mem_nil, or_false] at h2
        subst h2
        refine ⟨by simp [hl], fun z hz => ?_⟩
        rcases List.mem_append.1 hz with h3 | h3
        · exact hl2 z h3
        · simp only [List.mem_cons, List.not_mem_nil, or_false] at h3
          omega
  · exact h
theorem yLoop_grown {n c0 r x q : Nat} {T : Nat → BitVec 64} {l : List Nat} {s : BitVec 64 × List (List Nat)} (hn : n ≤ 64) (hl : l.length + 1 = r) (hl2 : ∀ z ∈ l, z < n) (h : Grown n c0 r s) : ∀ k, k ≤ n → Grown n c0 r (yLoop T x l q s k)
  | 0, _ => h
  | k + 1, hk => yStep_grown hn hk hl hl2 (yLoop_grown hn hl hl2 h k (by omega))
theorem getD_mem {ls : List (List Nat)} {k : Nat} (hk : k < ls.length) : ls.getD k [] ∈ ls := by
  rw [List.getD_eq_getElem?_getD, List.getElem?_eq_getElem hk]; exact List.getElem_mem _
theorem lLoop_grown {n c0 r x : Nat} {T : Nat → BitVec 64} {ls : List (List Nat)} {s : BitVec 64 × List (List Nat)} (hn : n ≤ 64) (hl : ∀ l ∈ ls, l.length + 1 = r ∧ ∀ z ∈ l, z < n) (h : Grown n c0 r s) : ∀ k, k ≤ ls.length → Grown n c0 r (lLoop T x n ls s k)
  | 0, _ => h
  | k + 1, hk => yLoop_grown hn (hl _ (getD_mem hk)).1 (hl _ (getD_mem hk)).2 (lLoop_grown hn hl h k (by omega)) n (Nat.le_refl _)
theorem bfs_good {T : Nat → BitVec 64} {x n : Nat} (hn : n ≤ 64) (hx : x < n) : ∀ r, (∀ l ∈ (bfs T x n r).2, l.length = r + 1 ∧ ∀ z ∈ l, z < n) ∧ (bfs T x n r).2.length ≤ cnt (bfs T x n r).1 + 1 ∧ ((bfs T x n r).2 ≠ [] → r ≤ cnt (bfs T x n r).1)
  | 0 => by
    refine ⟨fun l hl => ?_, by simp [bfs], fun _ => Nat.zero_le _⟩
    simp only [bfs, List.mem_cons, List.not_mem_nil, or_false] at hl
    subst hl
    simpa using hx
  | r + 1 => by
    obtain ⟨h1, h2, h3⟩ := bfs_good hn hx (T := T) r
    have hg : Grown n (cnt (bfs T x n r).1) (r + 2) (bfs T x n (r + 1)) := lLoop_grown hn (fun l hl => ⟨by rw [(h1 l hl).1], (h1 l hl).2⟩) ⟨by simp, fun l hl => by cases hl⟩ _ (Nat.le_refl _)
    refine ⟨hg.2, by have := hg.1; omega, fun hne => ?_⟩
    have h4 : 0 < (bfs T x n (r + 1)).2.length := List.length_pos_iff.2 hne
    have h5 : (bfs T x n r).2 ≠ [] := by
      intro e
      apply hne
      rw [bfs, e]
      rfl
    have := h3 h5
    have := hg.1
    omega

/-! ### the lists, as they lie in memory -/
def natL (l : List Nat) : List Value := l.map fun (y : Nat) => .int .i64 (y : Int)
/-- a list of numbers, in a block of which A does not hold -/
def LAt (w : World) (A : Nat → Prop) (u : Value) (l : List Nat) : Prop := ∃ g c, u = .slice (some ⟨g, 0, none⟩) l.length c ∧ g < w.heap.size ∧ ¬ A g ∧ ∀ (j y : Nat), l[j]? = some y → w.cell? ⟨g, j, none⟩ = some (.int .i64 (y : Int))
def LsAt (w : World) (A : Nat → Prop) (ad : Option Addr) (ls : List (List Nat)) : Prop := ∀ (j : Nat) (l : List Nat), ls[j]? = some l → ∃ g u, ad = some ⟨g, 0, none⟩ ∧ g < w.heap.size ∧ ¬ A g ∧ w.cell? ⟨g, j, none⟩ = some u ∧ LAt w A u l
def ToAt (w : World) (A : Nat → Prop) (g n : Nat) (T : Nat → BitVec 64) : Prop := g < w.heap.size ∧ ¬ A g ∧ ∀ j, j < n → w.cell? ⟨g, j, none⟩ = some (.int .u64 ((T j).toNat : Int))
/-- lists that are owned: more can be appended -/
def LoAt (w : World) (B : Nat) (v : Value) (ls : List (List Nat)) : Prop := ∃ us, OwnS w 30 1 v ls.length us ∧ (∀ k ∈ blk v, B ≤ k) ∧ ∀ (j : Nat) (l : List Nat), ls[j]? = some l → ∃ u, us[j]? = some u ∧ LAt w (· ∈ blk v) u l
theorem Keeps.cell {S : Nat → Prop} {w w' : World} (h : Keeps S w w') {g o : Nat} (hg : g < w.heap.size) (hs : ¬ S g) : w'.cell? ⟨g, o, none⟩ = w.cell? ⟨g, o, none⟩ := by
  simp [World.cell?, h.block g hg hs]
theorem LAt.keep {S A A' : Nat → Prop} {w w' : World} {u : Value} {l : List Nat} (h : LAt w A u l) (hk : Keeps S w w') (hS : ∀ k, k < w.heap.size → S k → A k) (hA : ∀ k, k < w.heap.size → A' k → A k) : LAt w' A' u l := by
  obtain ⟨g, c, e, hg, ha, hc⟩ := h
  exact ⟨g, c, e, Nat.lt_of_lt_of_le hg hk.size, fun h => ha (hA g hg h), fun j y hj => (hk.cell hg (fun h => ha (hS g hg h))).trans (hc j y hj)⟩
theorem LsAt.keep {S A A' : Nat → Prop} {w w' : World} {ad : Option Addr} {ls : List (List Nat)} (h : LsAt w A ad ls) (hk : Keeps S w w') (hS : ∀ k, k < w.heap.size → S k → A k) (hA : ∀ k, k < w.heap.size → A' k → A k) : LsAt w' A' ad ls := fun j l hj => by
  obtain ⟨g, u, e, hg, ha, hc, hl⟩ := h j l hj
  exact ⟨g, u, e, Nat.lt_of_lt_of_le hg hk.size, fun h => ha (hA g hg h), (hk.cell hg (fun h => ha (hS g hg h))).trans hc, hl.keep hk hS hA⟩
theorem ToAt.keep {S A A' : Nat → Prop} {w w' : World} {g n : Nat} {T : Nat → BitVec 64} (h : ToAt w A g n T) (hk : Keeps S w w') (hS : ∀ k, k < w.heap.size → S k → A k) (hA : ∀ k, k < w.heap.size → A' k → A k) : ToAt w' A' g n T := by
  obtain ⟨hg, ha, hc⟩ := h
  exact ⟨Nat.lt_of_lt_of_le hg hk.size, fun h => ha (hA g hg h), fun j hj => (hk.cell hg (fun h => ha (hS g hg h))).trans (hc j hj)⟩
theorem LoAt.keep {w w' : World} {B : Nat} {v : Value} {ls : List (List Nat)} (h : LoAt w B v ls) (hk : Below w.heap.size w w') : LoAt w' B v ls := by
  obtain ⟨us, ho, hb, hl⟩ := h
  exact ⟨us, ho.keep (Keeps.of_below (fun _ => False) hk) (fun _ _ h => h), hb, fun j l hj => by
    obtain ⟨u, hu, hu2⟩ := hl j l hj
    exact ⟨u, hu, hu2.keep (Keeps.of_below (fun _ => False) hk) (fun _ _ h => h.elim) (fun _ _ h => h)⟩⟩
/-- lists that are owned read as lists -/
theorem LoAt.read {w : World} {B : Nat} {v : Value} {ls : List (List Nat)} (h : LoAt w B v ls) : ∃ ad c, v = .slice ad ls.length c ∧ LsAt w (fun _ => False) ad ls := by
  obtain ⟨us, ho, hb, hl⟩ := h
  rcases ho.2 with ⟨h1, h2⟩ | ⟨g, cap, cur, hv, _, hg, hnc, _, _, ht⟩
  · refine ⟨none, 0, by rw [h1, h2], fun j l hj => ?_⟩
    have := (List.getElem?_eq_some_iff.1 hj).1
    omega
  · subst hv
    refine ⟨_, _, rfl, fun j l hj => ?_⟩
    obtain ⟨u, hu, hu2⟩ := hl j l hj
    refine ⟨g, u, rfl, block_lt hg, fun h => h, ?_, hu2.keep (Keeps.refl (fun _ => False) _) (fun _ _ h => h.elim) (fun _ _ h => h.elim)⟩
    rw [cell_at hg]
    have hlt := (List.getElem?_eq_some_iff.1 hj).1
    rw [← ht, List.getElem?_take] at hu
    rw [if_pos (by omega)] at hu
    simpa using hu
theorem Try.info_i64 : (Try.prog.info? 3).map (fun i => (i.zero, i.size, i.bytes)) = some (some (.int .i64 0), 1, 8) := by kernel_rfl
theorem Try.info_ints : (Try.prog.info? 30).map (fun i => (i.zero, i.size, i.bytes)) = some (some (.slice none 0 0), 1, 24) := by kernel_rfl
theorem natL_one (l : List Nat) : ∀ v ∈ natL l, v.oneCell' = true := by
  intro v hv
  simp only [natL, List.mem_map] at hv
  obtain ⟨y, _, rfl⟩ := hv
  rfl
set_option maxHeartbeats 1600000 in
theorem sl_cloneI (A : Nat → Prop) (u : Value) (l : List Nat) (hm : l.length ≤ 100) (w : World) (h : LAt w A u l) :
    Calls Try.prog 23 #[u] w fun e w' => ∃ v, OwnS w' 3 1 v l.length (natL l) ∧ (∀ k ∈ blk v, w.heap.size ≤ k) ∧ e = .returned v ∧ Below w.heap.size w w' := by
  obtain ⟨i0, hj, hj0, hj1, hj2⟩ := info_parts Try.info_i64
  obtain ⟨g, c, rfl, hg, _, hc⟩ := h
  have hO : OwnS (w.alloc (.cells #[] 3)) 3 1 (.slice (some ⟨w.heap.size, 0, none⟩) 0 0) 0 [] := ⟨rfl, .inr ⟨w.heap.size, 0, #[], rfl, Nat.zero_le _, hN rfl, Nat.le_refl _, by unfold maxLen; omega, rfl, rfl⟩⟩
  have hW : ∀ a', some (⟨g, 0, none⟩ : Addr) = some a' → ∀ j u, (natL l)[j]? = some u → (w.alloc (.cells #[] 3)).cell? (a'.add j) = some u := by
    rintro a' ⟨⟩ j u hu
    rw [show (⟨g, 0, none⟩ : Addr).add j = ⟨g, j, none⟩ by unfold Addr.add; split <;> simp_all]
    rw [natL, List.getElem?_map] at hu
    obtain ⟨y, hy, rfl⟩ := Option.map_eq_some_iff.1 hu
    exact (cell_below (bA bR) hg).trans (hc j y hy)
  have hnil : (binOp .eql 30 (.slice (some ⟨g, 0, none⟩) l.length c) (.slice none 0 0)).run Try.prog w = .ok (.bool false) w := run_eql_nil_slice (P := Try.prog) w 30 3 (some ⟨g, 0, none⟩) l.length c 0 0 Try.underlying30
  have hlen : (natL l).length = l.length * 1 := by simp [natL]
  go_enter Try.func23, Try.ntmps23
  go_wp2_with (at_builtin; (refine wpList_append_seg rfl _ _ 30 rfl 3 i0 (.int .i64 0) 1 8 Try.underlying30 hj hj0 hj1 hj2 rfl (by decide) _ _ _ rfl hO _ l.length _ (natL l) rfl hlen hW (fun _ => rfl) (natL_one l) (by unfold maxLen; omega) (by omega) ?_); intro v5 w5 ho5 hk5 hb5)
  go_ret
  refine ⟨v5, by simpa using ho5, fun k hk => ?_, rfl, ?_⟩
  · rcases hb5 k hk with h' | h'
    · have : k = w.heap.size := by simpa [blk, Value.ownBlock, Act.eval] using h'
      omega
    · simp at h'; omega
  · exact bK (bA bR) hk5 (fun k hk => by
      have : k = w.heap.size := by simpa [blk, Value.ownBlock, Act.eval] using hk
      omega)
end Go.Proofs.Ytiollfjhfcaogaa
