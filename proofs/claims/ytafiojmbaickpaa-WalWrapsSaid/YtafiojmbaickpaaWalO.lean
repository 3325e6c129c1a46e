import Derived.Test.YtafiojmbaickpaaWalN
set_option linter.unusedSimpArgs false
set_option linter.unusedVariables false
namespace Go.Proofs.Ytafiojmbaickpaa
open Go.RowKit

/-! ### plain law: what a device may hold -/
def AllP (P : Nat → ByteArray → Prop) (D : Dev) : Prop := (∀ p, p < D.firm.length → P p (D.firm.getD p ⟨#[]⟩)) ∧ (∀ p, p < D.seen.length → P p (D.seen.getD p ⟨#[]⟩)) ∧ ∀ x ∈ D.soft, P x.1.toNat x.2
theorem getD_set {α : Type} (l : List α) (i p : Nat) (x d : α) (hp : p < l.length) : (l.set i x).getD p d = if i = p then x else l.getD p d := by
  simp only [List.getD_eq_getElem?_getD, List.getElem?_set]
  by_cases h : i = p
  · subst h; simp [hp]
  · simp [h]
theorem crashTo_P {P : Nat → ByteArray → Prop} (now : List ByteArray) (soft : List (Int × ByteArray)) (keep : List Bool) (h1 : ∀ p, p < now.length → P p (now.getD p ⟨#[]⟩)) (h2 : ∀ x ∈ soft, P x.1.toNat x.2) :
    ∀ i, i ≤ soft.length → ∀ p, p < (crashTo now soft keep i).length → P p ((crashTo now soft keep i).getD p ⟨#[]⟩)
  | 0, _ => h1
  | i + 1, hi => by
    have ih := crashTo_P now soft keep h1 h2 i (by omega)
    intro p hp
    rw [crashTo_length] at hp
    unfold crashTo
    split
    · rw [getD_set _ _ _ _ _ (by rw [crashTo_length]; exact hp)]
      split
      · rename_i he
        rw [← he]
        have hm : soft.getD i (0, ⟨#[]⟩) ∈ soft := by
          rw [List.getD_eq_getElem?_getD, List.getElem?_eq_getElem (by omega)]
          exact List.getElem_mem _
        exact h2 _ hm
      · exact ih p (by rw [crashTo_length]; exact hp)
    · exact ih p (by rw [crashTo_length]; exact hp)
theorem AllP.crash {P : Nat → ByteArray → Prop} {D : Dev} (h : AllP P D) (ks : List Bool) : AllP P (D.after ks) :=
  ⟨crashTo_P D.firm D.soft ks h.1 h.2.2 _ (Nat.le_refl _), crashTo_P D.firm D.soft ks h.1 h.2.2 _ (Nat.le_refl _), fun x hx => by simp [Dev.after] at hx⟩
theorem AllP.mono {P Q : Nat → ByteArray → Prop} {D : Dev} (h : AllP P D) (hPQ : ∀ p d, P p d → Q p d) : AllP Q D := ⟨fun p hp => hPQ _ _ (h.1 p hp), fun p hp => hPQ _ _ (h.2.1 p hp), fun x hx => hPQ _ _ (h.2.2 x hx)⟩
/-- the same lists -/
def SameL (D D' : Dev) : Prop := D'.firm = D.firm ∧ D'.seen = D.seen ∧ D'.soft = D.soft
theorem AllP.same {P : Nat → ByteArray → Prop} {D D' : Dev} (h : AllP P D) (e : SameL D D') : AllP P D' := by
  obtain ⟨e1, e2, e3⟩ := e
  unfold AllP
  rw [e1, e2, e3]
  exact h
theorem burn_down {D : Dev} (h : D.burn.2 = false) : D.burn.1.down = true := by
  unfold Dev.burn at h ⊢
  split
  · rfl
  · rename_i h0; rw [if_neg h0] at h; cases h
theorem burn_alive {D : Dev} (h : ¬ D.burn.2 = false) : D.burn.1.down = D.down := by
  unfold Dev.burn at h ⊢
  split
  · rename_i h0; rw [if_pos h0] at h; exact absurd rfl h
  · split <;> rfl
theorem write_cases (D : Dev) (s : Int) (d : ByteArray) (h0 : 0 ≤ s) (h1 : s < D.firm.length) (h2 : d.size = 64) :
    ((D.write s d).2 = 20 ∧ SameL D (D.write s d).1 ∧ (D.write s d).1.down = true) ∨
    (D.down = false ∧ (D.write s d).2 = 0 ∧ (D.write s d).1.firm = D.firm ∧ (D.write s d).1.seen = D.seen.set s.toNat d ∧ (D.write s d).1.soft = D.soft ++ [(s, d)] ∧ (D.write s d).1.down = false) := by
  obtain ⟨e1, e2, e3⟩ := burn_same D
  unfold Dev.write
  by_cases hd : D.down = true
  · rw [if_pos hd]; exact .inl ⟨rfl, ⟨rfl, rfl, rfl⟩, hd⟩
  · rw [if_neg hd, if_neg (by omega)]
    by_cases hb : D.burn.2 = false
    · rw [if_pos hb]; exact .inl ⟨rfl, ⟨e1, e2, e3⟩, burn_down hb⟩
    · rw [if_neg hb]
      have hd' : D.down = false := by simpa using hd
      exact .inr ⟨hd', rfl, e1, by show D.burn.1.seen.set _ _ = _; rw [e2], by show D.burn.1.soft ++ _ = _; rw [e3], by show D.burn.1.down = _; rw [burn_alive hb, hd']⟩
theorem barrier_cases (D : Dev) : (D.barrier.2 = 20 ∧ SameL D D.barrier.1 ∧ D.barrier.1.down = true) ∨ (D.down = false ∧ D.barrier.2 = 0 ∧ D.barrier.1.firm = D.seen ∧ D.barrier.1.seen = D.seen ∧ D.barrier.1.soft = [] ∧ D.barrier.1.down = false) := by
  obtain ⟨e1, e2, e3⟩ := burn_same D
  unfold Dev.barrier
  by_cases hd : D.down = true
  · rw [if_pos hd]; exact .inl ⟨rfl, ⟨rfl, rfl, rfl⟩, hd⟩
  · rw [if_neg hd]
    by_cases hb : D.burn.2 = false
    · rw [if_pos hb]; exact .inl ⟨rfl, ⟨e1, e2, e3⟩, burn_down hb⟩
    · rw [if_neg hb]
      have hd' : D.down = false := by simpa using hd
      exact .inr ⟨hd', rfl, e2, e2, rfl, by show D.burn.1.down = _; rw [burn_alive hb, hd']⟩
theorem AllP.write {P : Nat → ByteArray → Prop} {D : Dev} (h : AllP P D) (s : Int) (d : ByteArray) (h0 : 0 ≤ s) (h1 : s < D.firm.length) (h2 : d.size = 64) (hl : D.seen.length = D.firm.length) (hP : P s.toNat d) : AllP P (D.write s d).1 := by
  rcases write_cases D s d h0 h1 h2 with ⟨_, hs, _⟩ | ⟨_, _, e1, e2, e3, _⟩
  · exact h.same hs
  · unfold AllP
    rw [e1, e2, e3]
    refine ⟨h.1, fun p hp => ?_, fun x hx => ?_⟩
    · rw [List.length_set] at hp
      rw [getD_set _ _ _ _ _ hp]
      split
      · rename_i he; rw [← he]; exact hP
      · exact h.2.1 p hp
    · rw [List.mem_append, List.mem_singleton] at hx
      rcases hx with hx | rfl
      · exact h.2.2 x hx
      · exact hP
theorem AllP.barrier {P : Nat → ByteArray → Prop} {D : Dev} (h : AllP P D) (hl : D.seen.length = D.firm.length) : AllP P D.barrier.1 := by
  rcases barrier_cases D with ⟨_, hs, _⟩ | ⟨_, _, e1, e2, e3, _⟩
  · exact h.same hs
  · unfold AllP
    rw [e1, e2, e3]
    exact ⟨h.2.1, h.2.1, fun x hx => by cases hx⟩
theorem write_len (D : Dev) (s : Int) (d : ByteArray) : (D.write s d).1.firm.length = D.firm.length ∧ (D.write s d).1.seen.length = D.seen.length := by
  obtain ⟨e1, e2, e3⟩ := burn_same D
  unfold Dev.write
  split
  · exact ⟨rfl, rfl⟩
  · split
    · exact ⟨rfl, rfl⟩
    · split
      · rw [e1, e2]; exact ⟨rfl, rfl⟩
      · exact ⟨by show D.burn.1.firm.length = _; rw [e1], by show (D.burn.1.seen.set _ _).length = _; rw [List.length_set, e2]⟩
/-! ### a ring that holds a stream -/
/-- sector number bb + j may hold d: some beginning of its share of B, f of which are firm; or nothing of it yet -/
def SecOk (bb : Nat) (B : ByteArray) (f j : Nat) (d : ByteArray) : Prop :=
  (valS (d.extract 0 8) ≤ ((bb + j : Nat) : Int) ∧ f ≤ 54 * j) ∨ ∃ m, 0 < m ∧ m ≤ 54 ∧ 54 * j + m ≤ B.size ∧ d = secS ((bb + j : Nat) : Int) (B.extract (54 * j) (54 * j + m)) ∧ (f ≤ 54 * j + m ∨ m = 54)
def RingP (first n bb : Nat) (B : ByteArray) (f : Nat) (p : Nat) (d : ByteArray) : Prop := d.size = 64 ∧ ∀ j, j < n → p = first + (bb + j) % n → SecOk bb B f j d
theorem SecOk.more {bb : Nat} {B B' : ByteArray} {f j : Nat} {d : ByteArray} (h : SecOk bb B f j d) (hB : B'.extract 0 B.size = B) (hs : B.size ≤ B'.size) : SecOk bb B' f j d := by
  rcases h with h | ⟨m, h1, h2, h3, h4, h5⟩
  · exact .inl h
  · refine .inr ⟨m, h1, h2, by omega, ?_, h5⟩
    rw [h4, ← hB, cut_extract _ _ _ _ (by omega) h3 hs]
theorem ring_inj {bb n i j : Nat} (hi : i < n) (hj : j < n) (h : (bb + i) % n = (bb + j) % n) : i = j := by
  have hn : 0 < n := by omega
  have h1 := Nat.div_add_mod (bb + i) n
  have h2 := Nat.div_add_mod (bb + j) n
  rw [h] at h1
  rcases Nat.lt_trichotomy ((bb + i) / n) ((bb + j) / n) with hlt | heq | hgt
  · have : n * ((bb + i) / n) + n ≤ n * ((bb + j) / n) := by
      have := Nat.mul_le_mul_left n (show (bb + i) / n + 1 ≤ (bb + j) / n from hlt)
      rwa [Nat.mul_add, Nat.mul_one] at this
    omega
  · rw [heq] at h1; omega
  · have : n * ((bb + j) / n) + n ≤ n * ((bb + i) / n) := by
      have := Nat.mul_le_mul_left n (show (bb + j) / n + 1 ≤ (bb + i) / n from hgt)
      rwa [Nat.mul_add, Nat.mul_one] at this
    omega
theorem ring_surj {bb n i : Nat} (hi : i < n) : ∃ j, j < n ∧ (bb + j) % n = i := by
  have hn : 0 < n := by omega
  have hm := Nat.mod_lt bb hn
  by_cases h : bb % n ≤ i
  · refine ⟨i - bb % n, by omega, ?_⟩
    have := Nat.div_add_mod bb n
    rw [show bb + (i - bb % n) = n * (bb / n) + i by omega, Nat.mul_add_mod, Nat.mod_eq_of_lt hi]
  · refine ⟨i + n - bb % n, by omega, ?_⟩
    have := Nat.div_add_mod bb n
    rw [show bb + (i + n - bb % n) = n * (bb / n) + (n + i) by omega, Nat.mul_add_mod, Nat.add_mod_left, Nat.mod_eq_of_lt hi]
/-- what a sector of the stream tells -/
theorem secS_tell (k : Nat) (s : ByteArray) (hk : k + 1 < 256 ^ 8) (hs : s.size ≤ 54) : valS ((secS (k : Int) s).extract 0 8) = k + 1 ∧ valS ((secS (k : Int) s).extract 8 10) = s.size ∧ (secS (k : Int) s).extract 10 (10 + s.size) = s := by
  have e1 : (secS (k : Int) s).extract 0 8 = leS ((k : Int) + 1) 8 := by
    unfold secS
    have := mid_extract ⟨#[]⟩ (leS ((k : Int) + 1) 8) (leS s.size 2 ++ s ++ zeros (54 - s.size))
    rw [bytes_nil_left, leS_size] at this
    simp only [bytes_assoc] at this ⊢
    exact this
  have e2 : (secS (k : Int) s).extract 8 10 = leS s.size 2 := by
    unfold secS
    have := mid_extract (leS ((k : Int) + 1) 8) (leS s.size 2) (s ++ zeros (54 - s.size))
    rw [leS_size, leS_size] at this
    simp only [bytes_assoc] at this ⊢
    exact this
  have e3 : (secS (k : Int) s).extract 10 (10 + s.size) = s := by
    unfold secS
    have := mid_extract (leS ((k : Int) + 1) 8 ++ leS s.size 2) s (zeros (54 - s.size))
    rw [ByteArray.size_append, leS_size, leS_size] at this
    exact this
  refine ⟨?_, ?_, e3⟩
  · rw [e1]
    have := valS_leS ((k : Int) + 1) 8 (by omega) (by omega)
    exact this
  · rw [e2]
    exact valS_leS _ _ (by omega) (by omega)
theorem extract_append_extract (B : ByteArray) (a b : Nat) (hab : a ≤ b) (hb : b ≤ B.size) : B.extract 0 a ++ B.extract a b = B.extract 0 b := by
  apply ByteArray.ext
  apply Array.toList_inj.1
  rw [ByteArray.data_append, ByteArray.data_extract, ByteArray.data_extract, ByteArray.data_extract, Array.toList_append, Array.toList_extract, Array.toList_extract, Array.toList_extract]
  simp only [List.extract, Nat.sub_zero, List.drop_zero]
  rw [show b = a + (b - a) by omega, List.take_add]
  simp
end Go.Proofs.Ytafiojmbaickpaa
