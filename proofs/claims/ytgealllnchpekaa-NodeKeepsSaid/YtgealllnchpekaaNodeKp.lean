import Derived.Test.YtgealllnchpekaaNodeX
import Derived.Test.YtgealllnchpekaaNodeSplit
import Derived.Test.YtgealllnchpekaaNodeU
set_option linter.unusedSimpArgs false
set_option linter.unusedVariables false
namespace Go.Proofs.Ytgealllnchpekaa
open Go.RowKit

/-! ### a node with a cell more, or less, and both halves: what holds of them -/
def COk (lev : Int) (s : Int) (d : ByteArray) (z : Prop) : Prop :=
  if lev = 0 then (keyP s d).1.size ≠ 0 ∧ (keyP s d).2.1.size ≤ 20 ∧ (s = 1 ∨ s = 2) else s = 1 ∧ childP s d ≠ 0 ∧ (z ↔ (keyP s d).1.size = 0)
theorem rstep_iff (P : Pg) (j : Nat) : RStep P j ↔ (keyP (P.st j) (P.dt j)).2.2 = true ∧ (∀ m, j = m + 1 → Op.bytesLess (keyAt P m).toList (keyAt P j).toList = true) ∧ COk P.level (P.st j) (P.dt j) (j = 0) := Iff.rfl
theorem COk.imp {lev s : Int} {d : ByteArray} {z z' : Prop} (h : COk lev s d z) (hz : lev ≠ 0 → (z ↔ z')) : COk lev s d z' := by
  unfold COk at h ⊢
  by_cases hl : lev = 0
  · rw [if_pos hl] at h ⊢; exact h
  · rw [if_neg hl] at h ⊢
    exact ⟨h.1, h.2.1, (hz hl).symm.trans h.2.2⟩
theorem put_lt (P : Pg) (i n : Nat) (s : Int) (d : ByteArray) (j : Nat) (h : j < i) : (putPg P i n s d).st j = P.st j ∧ (putPg P i n s d).dt j = P.dt j := by simp [putPg, h]
theorem put_eq (P : Pg) (i n : Nat) (s : Int) (d : ByteArray) : (putPg P i n s d).st i = s ∧ (putPg P i n s d).dt i = d := by simp [putPg]
theorem put_gt (P : Pg) (i n : Nat) (s : Int) (d : ByteArray) (j : Nat) (h : i < j) (hn : j ≤ n) : (putPg P i n s d).st j = P.st (j - 1) ∧ (putPg P i n s d).dt j = P.dt (j - 1) := by
  have h1 : ¬ j < i := by omega
  have h2 : ¬ j = i := by omega
  simp [putPg, h1, h2, hn]
theorem put_ge (P : Pg) (i n : Nat) (s : Int) (d : ByteArray) (j : Nat) (hi : i ≤ n) (hn : n < j) : (putPg P i n s d).st j = P.st j ∧ (putPg P i n s d).dt j = P.dt j := by
  have h1 : ¬ j < i := by omega
  have h2 : ¬ j = i := by omega
  have h3 : ¬ j ≤ n := by omega
  simp [putPg, h1, h2, h3]
theorem key_of {P Q : Pg} {j k : Nat} (h : Q.st j = P.st k ∧ Q.dt j = P.dt k) : keyAt Q j = keyAt P k := by unfold keyAt; rw [h.1, h.2]
theorem put_ok {P : Pg} {s : Int} {d : ByteArray} {n i : Nat} {key rest : ByteArray} (hok : NodeOk P) (hn : IsCount P n) (hn5 : n < 6) (hf : FindAt P key n i false) (hk : keyP s d = (key, rest, true)) (hs : s ≠ 0)
    (hl0 : P.level = 0 → key.size ≠ 0 ∧ rest.size ≤ 20 ∧ (s = 1 ∨ s = 2)) (hl1 : P.level ≠ 0 → s = 1 ∧ childP s d ≠ 0 ∧ key.size ≠ 0) :
    NodeOk (putPg P i n s d) ∧ IsCount (putPg P i n s d) (n + 1) ∧ FindAt (putPg P i n s d) key (n + 1) i true := by
  obtain ⟨r1, r2, r3, r4, r5⟩ := (node_r hn).1 hok
  obtain ⟨f1, f2, f3, f4⟩ := hf
  have hc : IsCount (putPg P i n s d) (n + 1) := by
    refine ⟨by omega, fun j hj => ?_, fun h6 => ?_⟩
    · rcases Nat.lt_trichotomy j i with h | h | h
      · rw [(put_lt P i n s d j h).1]; exact hn.2.1 j (by omega)
      · subst h; rw [(put_eq P j n s d).1]; exact hs
      · rw [(put_gt P i n s d j h (by omega)).1]; exact hn.2.1 (j - 1) (by omega)
    · rw [(put_ge P i n s d (n + 1) f1 (by omega)).1]
      exact (r3 (n + 1) (by omega) h6).1
  have hkeyi : keyAt (putPg P i n s d) i = key := by unfold keyAt; rw [(put_eq P i n s d).1, (put_eq P i n s d).2, hk]
  have hi0 : P.level ≠ 0 → i ≠ 0 := by
    intro hl e
    subst e
    have h0 : 0 < n := by have := r5 hl; omega
    have h1 := ((rstep_iff P 0).1 (r4 0 h0)).2.2
    unfold COk at h1
    rw [if_neg hl] at h1
    have h2 : (keyAt P 0).size = 0 := h1.2.2.1 rfl
    have h3 := f3 h0
    rw [str_none h2] at h3
    have h4 := (str_some (hl1 hl).2.2).1
    cases h5 : key.toList with
    | nil => exact h4 h5
    | cons a l => rw [h5] at h3; simp [Op.bytesLess] at h3
  have hgt : i < n → Op.bytesLess key.toList (keyAt P i).toList = true := by
    intro h
    cases e : Op.bytesLess key.toList (keyAt P i).toList with
    | true => rfl
    | false =>
      have := bl_total _ _ (f3 h) e
      rw [this] at f4
      simp [h] at f4
  refine ⟨(node_r hc).2 ⟨r1, r2, fun j hj h6 => ?_, fun j hj => ?_, fun _ => by omega⟩, hc, ?_⟩
  · obtain ⟨e1, e2⟩ := put_ge P i n s d j f1 (by omega)
    rw [e1, e2]
    exact r3 j (by omega) h6
  · rw [rstep_iff]
    rcases Nat.lt_trichotomy j i with h | h | h
    · obtain ⟨e1, e2⟩ := put_lt P i n s d j h
      obtain ⟨a1, a2, a3⟩ := (rstep_iff P j).1 (r4 j (by omega))
      rw [e1, e2]
      refine ⟨a1, fun m hm => ?_, a3⟩
      rw [key_of (put_lt P i n s d m (by omega)), key_of (put_lt P i n s d j h)]
      exact a2 m hm
    · subst h
      obtain ⟨e1, e2⟩ := put_eq P j n s d
      rw [e1, e2, hk]
      refine ⟨rfl, fun m hm => ?_, ?_⟩
      · rw [key_of (put_lt P j n s d m (by omega)), hkeyi]
        exact f2 m (by omega)
      · unfold COk
        rw [hk]
        by_cases hl : P.level = 0
        · rw [show (putPg P j n s d).level = P.level from rfl, if_pos hl]
          exact hl0 hl
        · rw [show (putPg P j n s d).level = P.level from rfl, if_neg hl]
          obtain ⟨b1, b2, b3⟩ := hl1 hl
          exact ⟨b1, b2, fun e => absurd e (hi0 hl), fun e => absurd e b3⟩
    · obtain ⟨e1, e2⟩ := put_gt P i n s d j h (by omega)
      obtain ⟨a1, a2, a3⟩ := (rstep_iff P (j - 1)).1 (r4 (j - 1) (by omega))
      rw [e1, e2]
      refine ⟨a1, fun m hm => ?_, a3.imp (fun hl => ?_)⟩
      · rw [key_of (put_gt P i n s d j h (by omega))]
        by_cases hmi : m = i
        · subst hmi
          rw [hkeyi, show j - 1 = m by omega]
          exact hgt (by omega)
        · rw [key_of (put_gt P i n s d m (by omega) (by omega))]
          exact a2 (m - 1) (by omega)
      · have := hi0 hl
        constructor <;> intro e <;> omega
  · refine ⟨by omega, fun j hj => ?_, fun h => ?_, ?_⟩
    · rw [key_of (put_lt P i n s d j hj)]; exact f2 j hj
    · rw [hkeyi]; exact bl_irrefl _
    · rw [hkeyi]
      have : i < n + 1 := by omega
      simp [this]
theorem take_ok {P : Pg} {n i : Nat} (hok : NodeOk P) (hn : IsCount P n) (hl : P.level = 0) (hi : i < n) : NodeOk (takePg P i n) ∧ IsCount (takePg P i n) (n - 1) := by
  obtain ⟨r1, r2, r3, r4, r5⟩ := (node_r hn).1 hok
  have hup := keys_up hok hn
  have lt : ∀ j, j < i → (takePg P i n).st j = P.st j ∧ (takePg P i n).dt j = P.dt j := fun j h => by simp [takePg, h]
  have ge : ∀ j, i ≤ j → j + 1 < n → (takePg P i n).st j = P.st (j + 1) ∧ (takePg P i n).dt j = P.dt (j + 1) := fun j h h' => by
    have h1 : ¬ j < i := by omega
    simp [takePg, h1, h']
  have last : (takePg P i n).st (n - 1) = 0 ∧ (takePg P i n).dt (n - 1) = ⟨#[]⟩ := by
    have h1 : ¬ n - 1 < i := by omega
    have h2 : ¬ n - 1 + 1 < n := by omega
    have h3 : n - 1 < n := by omega
    simp [takePg, h1, h2, h3]
  have far : ∀ j, n ≤ j → (takePg P i n).st j = P.st j ∧ (takePg P i n).dt j = P.dt j := fun j h => by
    have h1 : ¬ j < i := by omega
    have h2 : ¬ j + 1 < n := by omega
    have h3 : ¬ j < n := by omega
    simp [takePg, h1, h2, h3]
  have hc : IsCount (takePg P i n) (n - 1) := by
    refine ⟨by have := hn.1; omega, fun j hj => ?_, fun _ => last.1⟩
    by_cases h : j < i
    · rw [(lt j h).1]; exact hn.2.1 j (by omega)
    · rw [(ge j (by omega) (by omega)).1]; exact hn.2.1 (j + 1) (by omega)
  have src : ∀ j, j < n - 1 → ∃ k, k < n ∧ (takePg P i n).st j = P.st k ∧ (takePg P i n).dt j = P.dt k ∧ k = (if j < i then j else j + 1) := fun j hj => by
    by_cases h : j < i
    · exact ⟨j, by omega, (lt j h).1, (lt j h).2, by rw [if_pos h]⟩
    · exact ⟨j + 1, by omega, (ge j (by omega) (by omega)).1, (ge j (by omega) (by omega)).2, by rw [if_neg h]⟩
  refine ⟨(node_r hc).2 ⟨r1, r2, fun j hj h6 => ?_, fun j hj => ?_, fun h => absurd hl h⟩, hc⟩
  · by_cases h : j = n - 1
    · subst h; rw [last.1, last.2]; exact ⟨rfl, rfl⟩
    · rw [(far j (by omega)).1, (far j (by omega)).2]; exact r3 j (by omega) h6
  · rw [rstep_iff]
    obtain ⟨k, hk, e1, e2, e3⟩ := src j hj
    obtain ⟨a1, a2, a3⟩ := (rstep_iff P k).1 (r4 k hk)
    rw [e1, e2]
    refine ⟨a1, fun m hm => ?_, a3.imp (fun h => absurd hl h)⟩
    obtain ⟨k', hk', g1, g2, g3⟩ := src m (by omega)
    rw [key_of ⟨g1, g2⟩, key_of ⟨e1, e2⟩]
    refine hup k hk k' ?_
    rw [e3, g3]
    split <;> split <;> omega
end Go.Proofs.Ytgealllnchpekaa
