import Derived.Test.YtbfifakacneacaaDkUp
import Derived.Deep.RegionLaw
set_option linter.unusedSimpArgs false
set_option linter.unusedVariables false
namespace Go.Proofs.Ytbfifakacneacaa
open Go.RowKit

/-! ### four slices of texts, each in a block of its own -/
def upd {α : Type} (f : Nat → α) (j : Nat) (x : α) : Nat → α := fun i => if i = j then x else f i
def Apart4 (q : Nat) (mv : Nat → Value) : Prop := (∀ j, j < 4 → q ∉ blk (mv j)) ∧ ∀ i, i < 4 → ∀ j, j < 4 → i ≠ j → ∀ k ∈ blk (mv i), k ∉ blk (mv j)
def MayAt (w : World) (q : Nat) (mv : Nat → Value) (L : Nat → List ByteArray) : Prop :=
  w.heap[q]? = some (.cells #[mv 0, mv 1, mv 2, mv 3] 41 (0, 0)) ∧ (∀ j, j < 4 → OwnS w 9 1 (mv j) (L j).length (strV (L j))) ∧ Apart4 q mv
theorem MayAt.keep {R : Nat → Prop} {w w' : World} {q : Nat} {mv : Nat → Value} {L : Nat → List ByteArray} (h : MayAt w q mv L) (hk : Keeps R w w') (hq : ¬ R q) (hb : ∀ j, j < 4 → ∀ k ∈ blk (mv j), ¬ R k) : MayAt w' q mv L :=
  ⟨hk.keep h.1 hq, fun j hj => (h.2.1 j hj).keep hk (hb j hj), h.2.2⟩
theorem MayAt.later {w w' : World} {q : Nat} {mv : Nat → Value} {L : Nat → List ByteArray} (h : MayAt w q mv L) (hb : Below w.heap.size w w') : MayAt w' q mv L :=
  h.keep (Keeps.of_below (fun _ => False) hb) id (fun _ _ _ _ => id)
theorem MayAt.cell {w : World} {q : Nat} {mv : Nat → Value} {L : Nat → List ByteArray} (h : MayAt w q mv L) (j : Nat) (hj : j < 4) : w.cell? ⟨q, j, none⟩ = some (mv j) ∧ w.frozen? ⟨q, j, none⟩ = false := by
  refine ⟨?_, free_at h.1 j⟩
  rw [cell_at h.1 j]
  match j, hj with
  | 0, _ => rfl
  | 1, _ => rfl
  | 2, _ => rfl
  | 3, _ => rfl
/-- one of the four is turned -/
theorem MayAt.put {w w' : World} {q : Nat} {mv : Nat → Value} {L : Nat → List ByteArray} (h : MayAt w q mv L) (j : Nat) (hj : j < 4) (v' : Value) (l' : List ByteArray) (hk : Keeps (· ∈ blk (mv j)) w w')
    (hown : OwnS w' 9 1 v' l'.length (strV l')) (hblk : ∀ k ∈ blk v', k ∈ blk (mv j) ∨ w.heap.size ≤ k) : MayAt (w'.setCell ⟨q, j, none⟩ v') q (upd mv j v') (upd L j l') := by
  obtain ⟨h1, h2, h3, h4⟩ := h
  have hqlt := block_lt h1
  have hqv : q ∉ blk v' := fun hh => (hblk q hh).elim (h3 j hj) (fun h => by omega)
  have hq' := hk.keep h1 (h3 j hj)
  have hsc : Keeps (· = q) w' (w'.setCell ⟨q, j, none⟩ v') := (Keeps.refl (· = q) w').setCell _ _ (.inl rfl)
  refine ⟨?_, ?_, ?_, ?_⟩
  · rw [heap_set hq' j v']
    match j, hj with
    | 0, _ => rfl
    | 1, _ => rfl
    | 2, _ => rfl
    | 3, _ => rfl
  · intro i hi
    unfold upd
    by_cases e : i = j
    · subst e
      rw [if_pos rfl, if_pos rfl]
      exact hown.keep hsc (fun k hkk e => hqv (by subst e; exact hkk))
    · rw [if_neg e, if_neg e]
      exact ((h2 i hi).keep hk (fun k hkk => h4 i hi j hj e k hkk)).keep hsc (fun k hkk e => h3 i hi (by subst e; exact hkk))
  · intro i hi
    unfold upd
    split
    · exact hqv
    · exact h3 i hi
  · intro a ha b hb hab k hka hkb
    unfold upd at hka hkb
    split at hka
    · rename_i ea
      rw [if_neg (fun e => hab (ea.trans e.symm))] at hkb
      rcases hblk k hka with h | h
      · exact h4 j hj b hb (fun e => hab (ea.trans e)) k h hkb
      · have := (h2 b hb).lt hkb; omega
    · rename_i ea
      split at hkb
      · rcases hblk k hkb with h | h
        · exact h4 a ha j hj ea k hka h
        · have := (h2 a ha).lt hka; omega
      · exact h4 a ha b hb hab k hka hkb
theorem MayAt.lt {w : World} {q : Nat} {mv : Nat → Value} {L : Nat → List ByteArray} (h : MayAt w q mv L) (j : Nat) (hj : j < 4) : ∀ k ∈ blk (mv j), k < w.heap.size := fun k hk => (h.2.1 j hj).lt hk
/-- a slice of one text, made now -/
theorem own_one (w : World) (s : ByteArray) (n : Nat) (hn : n = w.heap.size) : OwnS (w.alloc (.cells #[.string s] 9)) 9 1 (.slice (some ⟨n, 0, none⟩) 1 1) 1 (strV [s]) := by
  subst hn
  refine ⟨rfl, .inr ⟨w.heap.size, 1, #[.string s], rfl, Nat.zero_le _, heap_alloc_new w _, by omega, by unfold maxLen; omega, rfl, rfl⟩⟩
/-- where the four lie: nothing of the device's, and above what was there -/
def Clear (B : Nat) (S : List Nat) (q : Nat) (mv : Nat → Value) : Prop := q ∉ S ∧ B ≤ q ∧ ∀ j, j < 4 → ∀ k ∈ blk (mv j), k ∉ S ∧ B ≤ k
theorem Clear.put {B : Nat} {S : List Nat} {q : Nat} {mv : Nat → Value} (h : Clear B S q mv) {w : World} (hS : ∀ k ∈ S, k < w.heap.size) (hB : B ≤ w.heap.size) (j : Nat) (hj : j < 4) (v' : Value) (hblk : ∀ k ∈ blk v', k ∈ blk (mv j) ∨ w.heap.size ≤ k) : Clear B S q (upd mv j v') := by
  refine ⟨h.1, h.2.1, fun i hi k hk => ?_⟩
  unfold upd at hk
  split at hk
  · rcases hblk k hk with h' | h'
    · exact h.2.2 j hj k h'
    · exact ⟨fun hs => by have := hS k hs; omega, by omega⟩
  · exact h.2.2 i hi k hk
theorem Clear.dev {B : Nat} {S S' : List Nat} {q : Nat} {mv : Nat → Value} {w : World} {L : Nat → List ByteArray} (h : Clear B S q mv) (hm : MayAt w q mv L) (hS : ∀ k ∈ S', k ∈ S ∨ w.heap.size ≤ k) : Clear B S' q mv := by
  refine ⟨fun hq => (hS q hq).elim h.1 (fun h' => by have := block_lt hm.1; omega), h.2.1, fun j hj k hk => ⟨fun hk' => (hS k hk').elim (h.2.2 j hj k hk).1 (fun h' => by have := hm.lt j hj k hk; omega), (h.2.2 j hj k hk).2⟩⟩
theorem MayAt.dev {B : Nat} {S : List Nat} {q : Nat} {mv : Nat → Value} {w w' : World} {L : Nat → List ByteArray} (hm : MayAt w q mv L) (h : Clear B S q mv) (hk : Keeps (· ∈ S) w w') : MayAt w' q mv L :=
  hm.keep hk h.1 (fun j hj k hkk => (h.2.2 j hj k hkk).1)

/-! ### what the law says of it -/
def Inv1 (Z : ByteArray) (k : Nat) (D : Dev) (L : Nat → List ByteArray) : Prop := D.up ∧ D.firm.length = 4 ∧ D.seen.length = 4 ∧ D.soft.length ≤ k ∧ ∀ j, j < 4 → (L j = [] ∧ D.seen.getD j ⟨#[]⟩ = Z) ∨ L j = [D.seen.getD j ⟨#[]⟩]
theorem set_getD (l : List ByteArray) (i j : Nat) (d : ByteArray) (hi : i < l.length) : (l.set i d).getD j ⟨#[]⟩ = if j = i then d else l.getD j ⟨#[]⟩ := by
  rw [List.getD_eq_getElem?_getD, List.getD_eq_getElem?_getD, List.getElem?_set]
  by_cases e : j = i
  · subst e; simp [hi]
  · rw [if_neg e, if_neg (fun h => e h.symm)]
theorem inv1_write {Z : ByteArray} {k : Nat} {D : Dev} {L : Nat → List ByteArray} (h : Inv1 Z k D L) (j : Nat) (hj : j < 4) (A : ByteArray) :
    ((D.write j A).2 = 0 ∧ Inv1 Z (k + 1) (D.write j A).1 (upd L j [A])) ∨ ((D.write j A).2 = 1 ∧ Inv1 Z (k + 1) (D.write j A).1 L) := by
  obtain ⟨h1, h2, h3, h4, h5⟩ := h
  rw [up_write h1]
  split
  · left
    refine ⟨rfl, h1, h2, by show (D.seen.set _ _).length = 4; rw [List.length_set]; exact h3, by show (D.soft ++ _).length ≤ _; simp; omega, fun i hi => ?_⟩
    show (upd L j [A] i = [] ∧ (D.seen.set (j : Int).toNat A).getD i ⟨#[]⟩ = Z) ∨ upd L j [A] i = [(D.seen.set (j : Int).toNat A).getD i ⟨#[]⟩]
    rw [Int.toNat_natCast, set_getD _ _ _ _ (by omega)]
    unfold upd
    by_cases e : i = j
    · rw [if_pos e, if_pos e]; exact .inr rfl
    · rw [if_neg e, if_neg e]; exact h5 i hi
  · right
    exact ⟨rfl, h1, h2, h3, by show D.soft.length ≤ _; omega, h5⟩
def Inv2 (Z : ByteArray) (i : Nat) (D : Dev) (L : Nat → List ByteArray) : Prop := ∀ j, j < 4 → (j < i → L j = [D.firm.getD j ⟨#[]⟩]) ∧ ((L j = [] ∧ D.firm.getD j ⟨#[]⟩ = Z) ∨ L j = [D.firm.getD j ⟨#[]⟩])
theorem inv2_start {Z : ByteArray} {k : Nat} {D : Dev} {L : Nat → List ByteArray} (h : Inv1 Z k D L) : D.barrier.2 = 0 ∧ D.barrier.1.up ∧ D.barrier.1.firm.length = 4 ∧ D.barrier.1.soft = [] ∧ Inv2 Z 0 D.barrier.1 L := by
  obtain ⟨h1, h2, h3, h4, h5⟩ := h
  rw [up_barrier h1]
  exact ⟨rfl, h1, h3, rfl, fun j hj => ⟨fun h => by omega, h5 j hj⟩⟩
theorem inv2_fill {Z : ByteArray} {i : Nat} {D : Dev} {L : Nat → List ByteArray} (hi : i < 4) (h : Inv2 Z i D L) (he : L i = []) : Inv2 Z (i + 1) D (upd L i [Z]) := by
  have hz : D.firm.getD i ⟨#[]⟩ = Z := by
    rcases (h i hi).2 with h' | h'
    · exact h'.2
    · rw [he] at h'; simp at h'
  intro j hj
  unfold upd
  by_cases e : j = i
  · subst e
    rw [if_pos rfl, hz]
    exact ⟨fun _ => rfl, .inr rfl⟩
  · rw [if_neg e]
    exact ⟨fun h' => (h j hj).1 (by omega), (h j hj).2⟩
theorem inv2_skip {Z : ByteArray} {i : Nat} {D : Dev} {L : Nat → List ByteArray} (h : Inv2 Z i D L) (he : L i ≠ []) : Inv2 Z (i + 1) D L := by
  intro j hj
  refine ⟨fun h' => ?_, (h j hj).2⟩
  by_cases e : j = i
  · subst e
    rcases (h j hj).2 with h' | h'
    · exact (he h'.1).elim
    · exact h'
  · exact (h j hj).1 (by omega)
def Inv3 (k : Nat) (D : Dev) (L : Nat → List ByteArray) : Prop := D.up ∧ D.firm.length = 4 ∧ D.soft.length ≤ k ∧ (∀ j, j < 4 → (L j).length ≤ k + 1 ∧ D.firm.getD j ⟨#[]⟩ ∈ L j) ∧ ∀ x ∈ D.soft, 0 ≤ x.1 ∧ x.1 < 4 ∧ x.2 ∈ L x.1.toNat
theorem inv3_start {Z : ByteArray} {D : Dev} {L : Nat → List ByteArray} (h1 : D.up) (h2 : D.firm.length = 4) (h3 : D.soft = []) (h : Inv2 Z 4 D L) : Inv3 0 D L := by
  refine ⟨h1, h2, by rw [h3]; simp, fun j hj => ?_, by rw [h3]; simp⟩
  rw [(h j hj).1 hj]
  simp
theorem inv3_write {k : Nat} {D : Dev} {L : Nat → List ByteArray} (h : Inv3 k D L) (j : Nat) (hj : j < 4) (A : ByteArray) :
    ((D.write j A).2 = 0 ∧ Inv3 (k + 1) (D.write j A).1 (upd L j (L j ++ [A]))) ∨ ((D.write j A).2 = 1 ∧ Inv3 (k + 1) (D.write j A).1 L) := by
  obtain ⟨h1, h2, h3, h4, h5⟩ := h
  rw [up_write h1]
  split
  · left
    have hsub : ∀ i x, x ∈ L i → x ∈ upd L j (L j ++ [A]) i := by
      intro i x hx
      unfold upd
      split
      · rename_i e; subst e; simp [hx]
      · exact hx
    refine ⟨rfl, h1, h2, by show (D.soft ++ _).length ≤ _; simp; omega, fun i hi => ⟨?_, hsub i _ (h4 i hi).2⟩, ?_⟩
    · unfold upd
      split
      · rename_i e; subst e; have := (h4 i hi).1; simp; omega
      · have := (h4 i hi).1; omega
    · intro x hx
      have hx : x ∈ D.soft ++ [((j : Int), A)] := hx
      rw [List.mem_append, List.mem_singleton] at hx
      rcases hx with hx | rfl
      · exact ⟨(h5 x hx).1, (h5 x hx).2.1, hsub _ _ (h5 x hx).2.2⟩
      · refine ⟨by show (0 : Int) ≤ (j : Int); omega, by show (j : Int) < 4; omega, ?_⟩
        show A ∈ upd L j (L j ++ [A]) (j : Int).toNat
        rw [Int.toNat_natCast]
        simp [upd]
  · right
    exact ⟨rfl, h1, h2, by show D.soft.length ≤ _; omega, fun i hi => ⟨by have := (h4 i hi).1; omega, (h4 i hi).2⟩, h5⟩
theorem inv3_crash {k : Nat} {D : Dev} {L : Nat → List ByteArray} (h : Inv3 k D L) (ks : List Bool) : ∀ i, i ≤ D.soft.length → ∀ j, j < 4 → (crashTo D.firm D.soft ks i).getD j ⟨#[]⟩ ∈ L j
  | 0, _ => fun j hj => (h.2.2.2.1 j hj).2
  | i + 1, hi => by
    intro j hj
    have ih := inv3_crash h ks i (by omega)
    unfold crashTo
    split
    · have hx := h.2.2.2.2 D.soft[i] (List.getElem_mem _)
      rw [show D.soft.getD i (0, ⟨#[]⟩) = D.soft[i] from by rw [List.getD_eq_getElem?_getD, List.getElem?_eq_getElem (by omega)]; rfl]
      rw [set_getD _ _ _ _ (by rw [crashTo_length, h.2.1]; omega)]
      split
      · rename_i e; rw [e]; exact hx.2.2
      · exact ih j hj
    · exact ih j hj
theorem inv3_read {k : Nat} {D : Dev} {L : Nat → List ByteArray} (h : Inv3 k D L) (ks : List Bool) (j : Nat) (hj : j < 4) : ∃ s, (D.after ks).read (j : Int) = (s, 0) ∧ s ∈ L j := by
  refine ⟨_, up_read (D := D.after ks) rfl (j : Int) (by omega) (by show (j : Int) < ((crashTo D.firm D.soft ks D.soft.length).length : Int); rw [crashTo_length, h.2.1]; omega), ?_⟩
  rw [Int.toNat_natCast]
  exact inv3_crash h ks _ (Nat.le_refl _) j hj
end Go.Proofs.Ytbfifakacneacaa
