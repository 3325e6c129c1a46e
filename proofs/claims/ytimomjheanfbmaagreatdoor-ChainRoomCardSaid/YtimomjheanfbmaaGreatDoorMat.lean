import Derived.Test.YtimomjheanfbmaaGreatDoorMas
import Derived.Test.YtimomjheanfbmaaGreatDoorMac
set_option linter.unusedSimpArgs false
set_option linter.unusedVariables false
namespace Go.Proofs.YtimomjheanfbmaaGreatDoor
open Go.RowKit

/-! ### plain law: records as bytes -/
def encL : List ByteArray → ByteArray
  | [] => ⟨#[]⟩
  | r :: rs => leS r.size 2 ++ r ++ encL rs
def lenL : List ByteArray → Nat
  | [] => 0
  | r :: rs => 2 + r.size + lenL rs
def plL (p : Int) : List ByteArray → List (Int × ByteArray)
  | [] => []
  | r :: rs => (p, r) :: plL (p + (2 + r.size)) rs
def RecOk (rs : List ByteArray) : Prop := ∀ r ∈ rs, 0 < r.size ∧ r.size ≤ 65535
def fitL (T : Nat) : Nat → List ByteArray → Nat
  | _, [] => 0
  | a, r :: rs => if a + 2 + r.size ≤ T then fitL T (a + 2 + r.size) rs + 1 else 0
theorem encL_size : ∀ rs, (encL rs).size = lenL rs
  | [] => rfl
  | r :: rs => by rw [encL, lenL, ByteArray.size_append, ByteArray.size_append, leS_size, encL_size rs]
theorem lenL_append : ∀ a b, lenL (a ++ b) = lenL a + lenL b
  | [], b => by simp [lenL]
  | r :: rs, b => by rw [List.cons_append, lenL, lenL, lenL_append rs b]; omega
theorem encL_append : ∀ a b, encL (a ++ b) = encL a ++ encL b
  | [], b => by rw [List.nil_append, encL, bytes_nil_left]
  | r :: rs, b => by rw [List.cons_append, encL, encL, encL_append rs b, bytes_assoc (leS r.size 2 ++ r)]
theorem plL_append : ∀ p a b, plL p (a ++ b) = plL p a ++ plL (p + lenL a) b
  | p, [], b => by simp [plL, lenL]
  | p, r :: rs, b => by
    rw [List.cons_append, plL, plL, plL_append _ rs b, lenL, List.cons_append]
    congr 3
    push_cast
    omega
theorem plL_length : ∀ p rs, (plL p rs).length = rs.length
  | p, [] => rfl
  | p, r :: rs => by rw [plL, List.length_cons, List.length_cons, plL_length _ rs]
theorem plL_take : ∀ p rs i, (plL p rs).take i = plL p (rs.take i)
  | p, [], i => by simp [plL]
  | p, r :: rs, 0 => by simp [plL]
  | p, r :: rs, i + 1 => by rw [plL, List.take_succ_cons, List.take_succ_cons, plL, plL_take _ rs i]
theorem lenL_pos {rs : List ByteArray} : lenL rs = 0 ↔ rs = [] := by
  cases rs with
  | nil => simp [lenL]
  | cons r rs => simp [lenL]
theorem mid_extract (X Y Z : ByteArray) : (X ++ Y ++ Z).extract X.size (X.size + Y.size) = Y := by
  apply ByteArray.ext
  apply Array.toList_inj.1
  have h1 : X.size = X.data.toList.length := by simp
  have h2 : Y.size = Y.data.toList.length := by simp
  rw [ByteArray.data_extract, Array.toList_extract, h1, h2]
  simp [List.extract, ByteArray.data_append]
theorem cut_extract (B : ByteArray) (T a b : Nat) (hab : a ≤ b) (hb : b ≤ T) (hT : T ≤ B.size) : (B.extract 0 T).extract a b = B.extract a b := by
  have := extract_extract B 0 T a b hab (by omega) hT
  simpa using this
theorem prs_enc (base : Int) : ∀ (rs : List ByteArray) (P : ByteArray) (T f : Nat), RecOk rs → T ≤ P.size + lenL rs → T < f + P.size →
    prs ((P ++ encL rs).extract 0 T) base f P.size = (plL (base + P.size) (rs.take (fitL T P.size rs)), P.size + lenL (rs.take (fitL T P.size rs)))
  | [], P, T, f, hr, hT, hf => by
    have hs : ((P ++ encL []).extract 0 T).size = T := by rw [ByteArray.size_extract, ByteArray.size_append, encL_size]; simp [lenL] at hT ⊢; omega
    cases f with
    | zero => simp [prs, fitL, plL, lenL]
    | succ f =>
      rw [prs, hs, if_neg (by simp [lenL] at hT; omega)]
      simp [fitL, plL, lenL]
  | r :: rs, P, T, f, hr, hT, hf => by
    have hr1 := hr r (List.mem_cons_self)
    have hrs : RecOk rs := fun x hx => hr x (List.mem_cons_of_mem _ hx)
    have hsz : (P ++ encL (r :: rs)).size = P.size + lenL (r :: rs) := by rw [ByteArray.size_append, encL_size]
    have hs : ((P ++ encL (r :: rs)).extract 0 T).size = T := by rw [ByteArray.size_extract, hsz]; omega
    have hall : P ++ encL (r :: rs) = (P ++ leS r.size 2 ++ r) ++ encL rs := by rw [encL]; simp only [bytes_assoc]
    have hP' : (P ++ leS r.size 2 ++ r).size = P.size + 2 + r.size := by rw [ByteArray.size_append, ByteArray.size_append, leS_size]
    rw [lenL] at hT
    cases f with
    | zero => rw [prs, fitL, if_neg (by omega)]; simp [plL, lenL]
    | succ f =>
      rw [prs, hs]
      by_cases h2 : P.size + 2 ≤ T
      · have e1 : ((P ++ encL (r :: rs)).extract 0 T).extract P.size (P.size + 2) = leS r.size 2 := by
          rw [cut_extract _ _ _ _ (by omega) h2 (by rw [hsz, lenL]; omega), encL]
          have := mid_extract P (leS r.size 2) (r ++ encL rs)
          rw [leS_size] at this
          simpa only [bytes_assoc] using this
        have e2 : valS (leS (r.size : Int) 2) = r.size := valS_leS _ _ (by omega) (by omega)
        rw [e1, e2, Int.toNat_natCast]
        by_cases h3 : P.size + 2 + r.size ≤ T
        · have e3 : ((P ++ encL (r :: rs)).extract 0 T).extract (P.size + 2) (P.size + 2 + r.size) = r := by
            rw [cut_extract _ _ _ _ (by omega) h3 (by rw [hsz, lenL]; omega), hall]
            have := mid_extract (P ++ leS r.size 2) r (encL rs)
            rw [ByteArray.size_append, leS_size] at this
            exact this
          rw [if_pos ⟨h2, by omega, h3⟩, e3, fitL, if_pos h3]
          have ih := prs_enc base rs (P ++ leS r.size 2 ++ r) T f hrs (by rw [hP']; omega) (by rw [hP']; omega)
          rw [← hall, hP'] at ih
          rw [ih, List.take_succ_cons, plL, lenL]
          refine Prod.ext ?_ ?_
          · show _ :: _ = _ :: _
            rw [show base + ((P.size + 2 + r.size : Nat) : Int) = base + P.size + (2 + r.size) by omega]
          · show P.size + 2 + r.size + lenL _ = P.size + (2 + r.size + lenL _)
            omega
        · rw [if_neg (fun h => h3 h.2.2), fitL, if_neg h3]
          simp [plL, lenL]
      · rw [if_neg (fun h => h2 h.1), fitL, if_neg (by omega)]
        simp [plL, lenL]
/-- how many fit: bounds -/
theorem fitL_le (T : Nat) : ∀ (a : Nat) (rs : List ByteArray), fitL T a rs ≤ rs.length ∧ (a ≤ T → a + lenL (rs.take (fitL T a rs)) ≤ T)
  | a, [] => by simp [fitL, lenL]
  | a, r :: rs => by
    rw [fitL]
    have ih := fitL_le T (a + 2 + r.size) rs
    split
    · rename_i h
      refine ⟨by simp; exact ih.1, fun _ => ?_⟩
      rw [List.take_succ_cons, lenL]
      have := ih.2 h
      omega
    · exact ⟨Nat.zero_le _, fun h => by simp [lenL]; exact h⟩
theorem fitL_ge (T : Nat) : ∀ (a : Nat) (rs : List ByteArray) (i : Nat), i ≤ rs.length → a + lenL (rs.take i) ≤ T → i ≤ fitL T a rs
  | a, [], i, hi, h => by
    have : i = 0 := by simpa using hi
    subst this
    exact Nat.zero_le _
  | a, r :: rs, 0, hi, h => Nat.zero_le _
  | a, r :: rs, i + 1, hi, h => by
    rw [List.take_succ_cons, lenL] at h
    rw [fitL, if_pos (by omega)]
    have := fitL_ge T (a + 2 + r.size) rs i (by simpa using hi) (by omega)
    omega
end Go.Proofs.YtimomjheanfbmaaGreatDoor

namespace Go.Proofs.YtimomjheanfbmaaGreatDoor
open Go.RowKit

/-! ### plain law: what a device may hold -/
def AllP (P : Nat → ByteArray → Prop) (D : Dev) : Prop := (∀ p, p < D.firm.length → P p (D.firm.getD p ⟨#[]⟩)) ∧ (∀ p, p < D.seen.length → P p (D.seen.getD p ⟨#[]⟩)) ∧ ∀ x ∈ D.soft, P x.1.toNat x.2
theorem getD_set {α : Type} (l : List α) (i p : Nat) (x d : α) (hp : p < l.length) : (l.set i x).getD p d = if i = p then x else l.getD p d := by
  simp only [List.getD_eq_getElem?_getD, List.getElem?_set]
  by_cases h : i = p
  · subst h; simp [hp]
  · simp [h]
theorem crashTo_P {P : Nat → ByteArray → Prop} (now : List ByteArray) (soft : List (Int × ByteArray)) (keep : List Bool) (h1 : ∀ p, p < now.length → P p (now.getD p ⟨#[]⟩)) (h2 : ∀ x ∈ soft, P x.1.toNat x.2) :
    ∀ i, i ≤ soft.length → ∀ p, p < (crashTo now soft keep i).length → P p ((crashTo now soft keep i).getD p ⟨#[]⟩)
  | 0, _ => h1
  | i + 1, hi => by
    have ih := crashTo_P now soft keep h1 h2 i (by omega)
    intro p hp
    rw [crashTo_length] at hp
    unfold crashTo
    split
    · rw [getD_set _ _ _ _ _ (by rw [crashTo_length]; exact hp)]
      split
      · rename_i he
        rw [← he]
        have hm : soft.getD i (0, ⟨#[]⟩) ∈ soft := by
          rw [List.getD_eq_getElem?_getD, List.getElem?_eq_getElem (by omega)]
          exact List.getElem_mem _
        exact h2 _ hm
      · exact ih p (by rw [crashTo_length]; exact hp)
    · exact ih p (by rw [crashTo_length]; exact hp)
theorem AllP.crash {P : Nat → ByteArray → Prop} {D : Dev} (h : AllP P D) (ks : List Bool) : AllP P (D.after ks) :=
  ⟨crashTo_P D.firm D.soft ks h.1 h.2.2 _ (Nat.le_refl _), crashTo_P D.firm D.soft ks h.1 h.2.2 _ (Nat.le_refl _), fun x hx => by simp [Dev.after] at hx⟩
theorem AllP.mono {P Q : Nat → ByteArray → Prop} {D : Dev} (h : AllP P D) (hPQ : ∀ p d, P p d → Q p d) : AllP Q D := ⟨fun p hp => hPQ _ _ (h.1 p hp), fun p hp => hPQ _ _ (h.2.1 p hp), fun x hx => hPQ _ _ (h.2.2 x hx)⟩
/-- the same lists -/
def SameL (D D' : Dev) : Prop := D'.firm = D.firm ∧ D'.seen = D.seen ∧ D'.soft = D.soft
theorem AllP.same {P : Nat → ByteArray → Prop} {D D' : Dev} (h : AllP P D) (e : SameL D D') : AllP P D' := by
  obtain ⟨e1, e2, e3⟩ := e
  unfold AllP
  rw [e1, e2, e3]
  exact h
theorem burn_down {D : Dev} (h : D.burn.2 = false) : D.burn.1.down = true := by
  unfold Dev.burn at h ⊢
  split
  · rfl
  · rename_i h0; rw [if_neg h0] at h; cases h
theorem burn_alive {D : Dev} (h : ¬ D.burn.2 = false) : D.burn.1.down = D.down := by
  unfold Dev.burn at h ⊢
  split
  · rename_i h0; rw [if_pos h0] at h; exact absurd rfl h
  · split <;> rfl
theorem write_cases (D : Dev) (s : Int) (d : ByteArray) (h0 : 0 ≤ s) (h1 : s < D.firm.length) (h2 : d.size = 64) :
    ((D.write s d).2 = 20 ∧ SameL D (D.write s d).1 ∧ (D.write s d).1.down = true) ∨
    (D.down = false ∧ (D.write s d).2 = 0 ∧ (D.write s d).1.firm = D.firm ∧ (D.write s d).1.seen = D.seen.set s.toNat d ∧ (D.write s d).1.soft = D.soft ++ [(s, d)] ∧ (D.write s d).1.down = false) := by
  obtain ⟨e1, e2, e3⟩ := burn_same D
  unfold Dev.write
  by_cases hd : D.down = true
  · rw [if_pos hd]; exact .inl ⟨rfl, ⟨rfl, rfl, rfl⟩, hd⟩
  · rw [if_neg hd, if_neg (by omega)]
    by_cases hb : D.burn.2 = false
    · rw [if_pos hb]; exact .inl ⟨rfl, ⟨e1, e2, e3⟩, burn_down hb⟩
    · rw [if_neg hb]
      have hd' : D.down = false := by simpa using hd
      exact .inr ⟨hd', rfl, e1, by show D.burn.1.seen.set _ _ = _; rw [e2], by show D.burn.1.soft ++ _ = _; rw [e3], by show D.burn.1.down = _; rw [burn_alive hb, hd']⟩
theorem barrier_cases (D : Dev) : (D.barrier.2 = 20 ∧ SameL D D.barrier.1 ∧ D.barrier.1.down = true) ∨ (D.down = false ∧ D.barrier.2 = 0 ∧ D.barrier.1.firm = D.seen ∧ D.barrier.1.seen = D.seen ∧ D.barrier.1.soft = [] ∧ D.barrier.1.down = false) := by
  obtain ⟨e1, e2, e3⟩ := burn_same D
  unfold Dev.barrier
  by_cases hd : D.down = true
  · rw [if_pos hd]; exact .inl ⟨rfl, ⟨rfl, rfl, rfl⟩, hd⟩
  · rw [if_neg hd]
    by_cases hb : D.burn.2 = false
    · rw [if_pos hb]; exact .inl ⟨rfl, ⟨e1, e2, e3⟩, burn_down hb⟩
    · rw [if_neg hb]
      have hd' : D.down = false := by simpa using hd
      exact .inr ⟨hd', rfl, e2, e2, rfl, by show D.burn.1.down = _; rw [burn_alive hb, hd']⟩
theorem AllP.write {P : Nat → ByteArray → Prop} {D : Dev} (h : AllP P D) (s : Int) (d : ByteArray) (h0 : 0 ≤ s) (h1 : s < D.firm.length) (h2 : d.size = 64) (hl : D.seen.length = D.firm.length) (hP : P s.toNat d) : AllP P (D.write s d).1 := by
  rcases write_cases D s d h0 h1 h2 with ⟨_, hs, _⟩ | ⟨_, _, e1, e2, e3, _⟩
  · exact h.same hs
  · unfold AllP
    rw [e1, e2, e3]
    refine ⟨h.1, fun p hp => ?_, fun x hx => ?_⟩
    · rw [List.length_set] at hp
      rw [getD_set _ _ _ _ _ hp]
      split
      · rename_i he; rw [← he]; exact hP
      · exact h.2.1 p hp
    · rw [List.mem_append, List.mem_singleton] at hx
      rcases hx with hx | rfl
      · exact h.2.2 x hx
      · exact hP
theorem AllP.barrier {P : Nat → ByteArray → Prop} {D : Dev} (h : AllP P D) (hl : D.seen.length = D.firm.length) : AllP P D.barrier.1 := by
  rcases barrier_cases D with ⟨_, hs, _⟩ | ⟨_, _, e1, e2, e3, _⟩
  · exact h.same hs
  · unfold AllP
    rw [e1, e2, e3]
    exact ⟨h.2.1, h.2.1, fun x hx => by cases hx⟩
theorem write_len (D : Dev) (s : Int) (d : ByteArray) : (D.write s d).1.firm.length = D.firm.length ∧ (D.write s d).1.seen.length = D.seen.length := by
  obtain ⟨e1, e2, e3⟩ := burn_same D
  unfold Dev.write
  split
  · exact ⟨rfl, rfl⟩
  · split
    · exact ⟨rfl, rfl⟩
    · split
      · rw [e1, e2]; exact ⟨rfl, rfl⟩
      · exact ⟨by show D.burn.1.firm.length = _; rw [e1], by show (D.burn.1.seen.set _ _).length = _; rw [List.length_set, e2]⟩
/-! ### a ring that holds a stream -/
/-- sector number bb + j may hold d: some beginning of its share of B, f of which are firm; or nothing of it yet -/
def SecOk (bb : Nat) (B : ByteArray) (f j : Nat) (d : ByteArray) : Prop :=
  (valS (d.extract 0 8) ≤ ((bb + j : Nat) : Int) ∧ f ≤ 54 * j) ∨ ∃ m, 0 < m ∧ m ≤ 54 ∧ 54 * j + m ≤ B.size ∧ d = secS ((bb + j : Nat) : Int) (B.extract (54 * j) (54 * j + m)) ∧ (f ≤ 54 * j + m ∨ m = 54)
def RingP (first n bb : Nat) (B : ByteArray) (f : Nat) (p : Nat) (d : ByteArray) : Prop := d.size = 64 ∧ ∀ j, j < n → p = first + (bb + j) % n → SecOk bb B f j d
theorem SecOk.more {bb : Nat} {B B' : ByteArray} {f j : Nat} {d : ByteArray} (h : SecOk bb B f j d) (hB : B'.extract 0 B.size = B) (hs : B.size ≤ B'.size) : SecOk bb B' f j d := by
  rcases h with h | ⟨m, h1, h2, h3, h4, h5⟩
  · exact .inl h
  · refine .inr ⟨m, h1, h2, by omega, ?_, h5⟩
    rw [h4, ← hB, cut_extract _ _ _ _ (by omega) h3 hs]
theorem ring_inj {bb n i j : Nat} (hi : i < n) (hj : j < n) (h : (bb + i) % n = (bb + j) % n) : i = j := by
  have hn : 0 < n := by omega
  have h1 := Nat.div_add_mod (bb + i) n
  have h2 := Nat.div_add_mod (bb + j) n
  rw [h] at h1
  rcases Nat.lt_trichotomy ((bb + i) / n) ((bb + j) / n) with hlt | heq | hgt
  · have : n * ((bb + i) / n) + n ≤ n * ((bb + j) / n) := by
      have := Nat.mul_le_mul_left n (show (bb + i) / n + 1 ≤ (bb + j) / n from hlt)
      rwa [Nat.mul_add, Nat.mul_one] at this
    omega
  · rw [heq] at h1; omega
  · have : n * ((bb + j) / n) + n ≤ n * ((bb + i) / n) := by
      have := Nat.mul_le_mul_left n (show (bb + j) / n + 1 ≤ (bb + i) / n from hgt)
      rwa [Nat.mul_add, Nat.mul_one] at this
    omega
theorem ring_surj {bb n i : Nat} (hi : i < n) : ∃ j, j < n ∧ (bb + j) % n = i := by
  have hn : 0 < n := by omega
  have hm := Nat.mod_lt bb hn
  by_cases h : bb % n ≤ i
  · refine ⟨i - bb % n, by omega, ?_⟩
    have := Nat.div_add_mod bb n
    rw [show bb + (i - bb % n) = n * (bb / n) + i by omega, Nat.mul_add_mod, Nat.mod_eq_of_lt hi]
  · refine ⟨i + n - bb % n, by omega, ?_⟩
    have := Nat.div_add_mod bb n
    rw [show bb + (i + n - bb % n) = n * (bb / n) + (n + i) by omega, Nat.mul_add_mod, Nat.add_mod_left, Nat.mod_eq_of_lt hi]
/-- what a sector of the stream tells -/
theorem secS_tell (k : Nat) (s : ByteArray) (hk : k + 1 < 256 ^ 8) (hs : s.size ≤ 54) : valS ((secS (k : Int) s).extract 0 8) = k + 1 ∧ valS ((secS (k : Int) s).extract 8 10) = s.size ∧ (secS (k : Int) s).extract 10 (10 + s.size) = s := by
  have e1 : (secS (k : Int) s).extract 0 8 = leS ((k : Int) + 1) 8 := by
    unfold secS
    have := mid_extract ⟨#[]⟩ (leS ((k : Int) + 1) 8) (leS s.size 2 ++ s ++ zeros (54 - s.size))
    rw [bytes_nil_left, leS_size] at this
    simp only [bytes_assoc] at this ⊢
    exact this
  have e2 : (secS (k : Int) s).extract 8 10 = leS s.size 2 := by
    unfold secS
    have := mid_extract (leS ((k : Int) + 1) 8) (leS s.size 2) (s ++ zeros (54 - s.size))
    rw [leS_size, leS_size] at this
    simp only [bytes_assoc] at this ⊢
    exact this
  have e3 : (secS (k : Int) s).extract 10 (10 + s.size) = s := by
    unfold secS
    have := mid_extract (leS ((k : Int) + 1) 8 ++ leS s.size 2) s (zeros (54 - s.size))
    rw [ByteArray.size_append, leS_size, leS_size] at this
    exact this
  refine ⟨?_, ?_, e3⟩
  · rw [e1]
    have := valS_leS ((k : Int) + 1) 8 (by omega) (by omega)
    exact this
  · rw [e2]
    exact valS_leS _ _ (by omega) (by omega)
theorem extract_append_extract (B : ByteArray) (a b : Nat) (hab : a ≤ b) (hb : b ≤ B.size) : B.extract 0 a ++ B.extract a b = B.extract 0 b := by
  apply ByteArray.ext
  apply Array.toList_inj.1
  rw [ByteArray.data_append, ByteArray.data_extract, ByteArray.data_extract, ByteArray.data_extract, Array.toList_append, Array.toList_extract, Array.toList_extract, Array.toList_extract]
  simp only [List.extract, Nat.sub_zero, List.drop_zero]
  rw [show b = a + (b - a) by omega, List.take_add]
  simp
end Go.Proofs.YtimomjheanfbmaaGreatDoor

namespace Go.Proofs.YtimomjheanfbmaaGreatDoor
open Go.RowKit

/-- the log's plain state: P: what stands ahead of the first record in its sector -/
def mkLg (first n bb : Nat) (P : ByteArray) (rs : List ByteArray) (i0 : Nat) : Lg :=
  { first := first, n := n, start := ((54 * bb + P.size : Nat) : Int), fin := ((54 * bb + P.size + lenL rs : Nat) : Int), firm := ((54 * bb + P.size + lenL (rs.take i0) : Nat) : Int), base := ((54 * bb : Nat) : Int), buf := P ++ encL rs, list := plL ((54 * bb + P.size : Nat) : Int) rs }
def DevHas (D : Dev) (first n bb : Nat) (B : ByteArray) (f : Nat) : Prop := DevOk D ∧ first + n ≤ D.firm.length ∧ AllP (RingP first n bb B f) D
theorem place_lt {first n k : Nat} (hn : 0 < n) : first + k % n < first + n := by have := Nat.mod_lt k hn; omega
theorem read_ring {D : Dev} {first n bb : Nat} {B : ByteArray} {f : Nat} (h : DevHas D first n bb B f) (hd : D.down = false) (hn : 0 < n) (j : Nat) (hj : j < n) :
    ∃ d, D.read ((first : Int) + ((bb + j : Nat) : Int) % (n : Int)) = (d, 0) ∧ d = D.seen.getD (first + (bb + j) % n) ⟨#[]⟩ ∧ d.size = 64 ∧ SecOk bb B f j d := by
  obtain ⟨hok, hl, hA⟩ := h
  have hp := place_lt (first := first) (k := bb + j) hn
  have e1 : (first : Int) + ((bb + j : Nat) : Int) % (n : Int) = ((first + (bb + j) % n : Nat) : Int) := by push_cast; omega
  have hlt : first + (bb + j) % n < D.seen.length := by have := hok.2.2.1; omega
  have hR := hA.2.1 (first + (bb + j) % n) hlt
  refine ⟨_, ?_, rfl, hR.1, hR.2 j hj rfl⟩
  rw [e1, up_read hd _ (by omega) (by have := hok.2.2.1; omega), Int.toNat_natCast]
theorem load_ring {D : Dev} {first n bb start : Nat} {B : ByteArray} {f : Nat} (h : DevHas D first n bb B f) (hd : D.down = false) (hn : 0 < n) (hk : bb + n < 72057594037927936) (j : Nat) (hj : j < n) :
    ((Lg.op0 first n start).load D ((bb + j : Nat) : Int) = (⟨#[]⟩, false, 0) ∧ f ≤ 54 * j) ∨ ∃ m, 0 < m ∧ m ≤ 54 ∧ 54 * j + m ≤ B.size ∧ (f ≤ 54 * j + m ∨ m = 54) ∧ (Lg.op0 first n start).load D ((bb + j : Nat) : Int) = (B.extract (54 * j) (54 * j + m), true, 0) := by
  obtain ⟨d, hr, -, hs, hok⟩ := read_ring h hd hn j hj
  have hr' : D.read ((Lg.op0 first n start).first + ((bb + j : Nat) : Int) % (Lg.op0 first n start).n) = (d, 0) := hr
  unfold Lg.load
  rw [hr']
  dsimp only
  rw [if_neg (fun h => h rfl)]
  rcases hok with ⟨h1, h2⟩ | ⟨m, h1, h2, h3, rfl, h5⟩
  · rw [if_pos (.inl (by omega))]
    exact .inl ⟨rfl, h2⟩
  · have hsz : (B.extract (54 * j) (54 * j + m)).size = m := by rw [ByteArray.size_extract]; omega
    obtain ⟨t1, t2, t3⟩ := secS_tell (bb + j) (B.extract (54 * j) (54 * j + m)) (by rw [show (256 : Nat) ^ 8 = 18446744073709551616 by decide]; omega) (by omega)
    rw [t1, t2, hsz, if_neg (by omega), Int.toNat_natCast]
    rw [hsz] at t3
    rw [t3]
    exact .inr ⟨m, h1, h2, h3, h5, rfl⟩
theorem ld_ring {D : Dev} {first n bb start : Nat} {B : ByteArray} {f : Nat} (h : DevHas D first n bb B f) (hd : D.down = false) (hn : 0 < n) (hk : bb + n < 72057594037927936) : ∀ i, i ≤ n →
    ((Lg.op0 first n start).ld D bb i).2.2 = 0 ∧ ((((Lg.op0 first n start).ld D bb i).2.1 = false ∧ ((Lg.op0 first n start).ld D bb i).1 = B.extract 0 (54 * i) ∧ 54 * i ≤ B.size ∨ i = 0 ∧ ((Lg.op0 first n start).ld D bb i) = (⟨#[]⟩, false, 0)) ∨ (((Lg.op0 first n start).ld D bb i).2.1 = true ∧ ∃ T, T ≤ B.size ∧ f ≤ T ∧ ((Lg.op0 first n start).ld D bb i).1 = B.extract 0 T))
  | 0, _ => ⟨rfl, .inl (.inr ⟨rfl, rfl⟩)⟩
  | i + 1, hi => by
    obtain ⟨ih0, ih⟩ := ld_ring h hd hn hk i (by omega)
    rcases ih with ih | ⟨hst, T, hT1, hT2, hT3⟩
    · have ⟨hn1, hn2, hn3⟩ : ((Lg.op0 first n start).ld D bb i).2.1 = false ∧ ((Lg.op0 first n start).ld D bb i).1 = B.extract 0 (54 * i) ∧ 54 * i ≤ B.size := by
        rcases ih with h | ⟨rfl, h⟩
        · exact h
        · rw [h]; refine ⟨rfl, ?_, by omega⟩
          apply ByteArray.ext; apply Array.toList_inj.1; simp
      have hstep : (Lg.op0 first n start).ld D bb (i + 1) = (if ((Lg.op0 first n start).load D ((bb + i : Nat) : Int)).2.2 ≠ 0 then (((Lg.op0 first n start).ld D bb i).1, true, ((Lg.op0 first n start).load D ((bb + i : Nat) : Int)).2.2)
          else if ((Lg.op0 first n start).load D ((bb + i : Nat) : Int)).2.1 = false then (((Lg.op0 first n start).ld D bb i).1, true, 0)
          else (((Lg.op0 first n start).ld D bb i).1 ++ ((Lg.op0 first n start).load D ((bb + i : Nat) : Int)).1, decide (((Lg.op0 first n start).load D ((bb + i : Nat) : Int)).1.size < 54), 0)) := by
        rw [Lg.ld, if_neg (by rw [hn1]; simp)]
      rw [hstep, hn2]
      rcases load_ring (start := start) h hd hn hk i (by omega) with ⟨hl, hf⟩ | ⟨m, h1, h2, h3, h4, hl⟩
      · rw [hl]
        dsimp only
        rw [if_neg (fun h => h rfl), if_pos rfl]
        exact ⟨rfl, .inr ⟨rfl, 54 * i, hn3, hf, rfl⟩⟩
      · rw [hl]
        dsimp only
        rw [if_neg (fun h => h rfl), if_neg (by simp), extract_append_extract _ _ _ (by omega) h3]
        have hsz : (B.extract (54 * i) (54 * i + m)).size = m := by rw [ByteArray.size_extract]; omega
        rw [hsz]
        refine ⟨rfl, ?_⟩
        by_cases hm : m < 54
        · exact .inr ⟨by simpa using hm, 54 * i + m, h3, by omega, rfl⟩
        · obtain rfl : m = 54 := by omega
          exact .inl (.inl ⟨by simp, by rw [show 54 * (i + 1) = 54 * i + 54 by omega], by omega⟩)
    · rw [ld_stop hst (i + 1) (by omega)]
      exact ⟨ih0, .inr ⟨hst, T, hT1, hT2, hT3⟩⟩
theorem ld_all {D : Dev} {first n bb start : Nat} {B : ByteArray} {f : Nat} (h : DevHas D first n bb B f) (hd : D.down = false) (hn : 0 < n) (hk : bb + n < 72057594037927936) (hB : B.size ≤ 54 * n) (hf : f ≤ B.size) :
    ((Lg.op0 first n start).ld D bb n).2.2 = 0 ∧ ∃ T, T ≤ B.size ∧ f ≤ T ∧ ((Lg.op0 first n start).ld D bb n).1 = B.extract 0 T := by
  obtain ⟨h0, h1⟩ := ld_ring (start := start) h hd hn hk n (Nat.le_refl _)
  refine ⟨h0, ?_⟩
  rcases h1 with (⟨_, h2, h3⟩ | ⟨rfl, _⟩) | ⟨_, h2⟩
  · exact ⟨54 * n, h3, by omega, h2⟩
  · omega
  · exact h2
theorem enc_cut (P : ByteArray) (rs : List ByteArray) (i : Nat) : (P ++ encL rs).extract 0 (P.size + lenL (rs.take i)) = P ++ encL (rs.take i) := by
  have h : P ++ encL rs = (P ++ encL (rs.take i)) ++ encL (rs.drop i) := by
    rw [bytes_assoc, ← encL_append, List.take_append_drop]
  rw [h]
  have := bytes_left (P ++ encL (rs.take i)) (encL (rs.drop i))
  rw [ByteArray.size_append, encL_size] at this
  exact this
/-- what Open finds in a ring that holds a stream -/
theorem open_finds {D : Dev} {first n bb : Nat} {P : ByteArray} {rs : List ByteArray} {i0 : Nat} (hP : P.size < 54) (hr : RecOk rs) (hi0 : i0 ≤ rs.length) (h : DevHas D first n bb (P ++ encL rs) (P.size + lenL (rs.take i0))) (hd : D.down = false) (hn : 0 < n) (hk : bb + n < 72057594037927936) (hB : P.size + lenL rs ≤ 54 * n) :
    ((Lg.op0 first n (54 * bb + P.size)).ld D bb n).2.2 = 0 ∧ ∃ i, i0 ≤ i ∧ i ≤ rs.length ∧ Lg.opened first n (54 * bb + P.size) ((Lg.op0 first n (54 * bb + P.size)).ld D bb n).1 = mkLg first n bb P (rs.take i) i := by
  have hsz : (P ++ encL rs).size = P.size + lenL rs := by rw [ByteArray.size_append, encL_size]
  have hle : ∀ i, lenL (rs.take i) ≤ lenL rs := fun i => by
    have := lenL_append (rs.take i) (rs.drop i)
    rw [List.take_append_drop] at this
    omega
  obtain ⟨h0, T, hT1, hT2, hT3⟩ := ld_all (start := 54 * bb + P.size) h hd hn hk (by omega) (by have := hle i0; omega)
  refine ⟨h0, fitL T P.size rs, fitL_ge T P.size rs i0 hi0 hT2, (fitL_le T P.size rs).1, ?_⟩
  have hE := (fitL_le T P.size rs).2 (by omega)
  rw [hT3]
  have e1 : (54 * bb + P.size) / 54 = bb := by omega
  have hTs : ((P ++ encL rs).extract 0 T).size = T := by rw [ByteArray.size_extract]; omega
  have hprs := prs_enc ((54 * bb : Nat) : Int) rs P T (T + 1) hr (by omega) (by omega)
  have e2 : ((54 * bb : Nat) : Int) + P.size = ((54 * bb + P.size : Nat) : Int) := by push_cast; rfl
  rw [e2] at hprs
  unfold Lg.opened Lg.op0 mkLg
  rw [e1, show 54 * bb + P.size - 54 * bb = P.size by omega, hTs, hprs]
  dsimp only
  have htt : (rs.take (fitL T P.size rs)).take (fitL T P.size rs) = rs.take (fitL T P.size rs) := by rw [List.take_take, Nat.min_self]
  rw [htt]
  have hbuf : opB ((P ++ encL rs).extract 0 T) (P.size + lenL (rs.take (fitL T P.size rs))) = P ++ encL (rs.take (fitL T P.size rs)) := by
    unfold opB
    rw [hTs]
    by_cases hlt : P.size + lenL (rs.take (fitL T P.size rs)) < T
    · rw [if_pos hlt, cut_extract _ _ _ _ (by omega) (by omega) (by omega), enc_cut]
    · have : P.size + lenL (rs.take (fitL T P.size rs)) = T := by omega
      have h5 := enc_cut P rs (fitL T P.size rs)
      rw [this] at h5
      rw [if_neg hlt, this, Nat.sub_self, show zeros 0 = ⟨#[]⟩ from rfl, bytes_nil_right, h5]
  rw [hbuf, Nat.add_assoc]
end Go.Proofs.YtimomjheanfbmaaGreatDoor
