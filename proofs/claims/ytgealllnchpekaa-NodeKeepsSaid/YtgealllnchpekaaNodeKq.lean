import Derived.Test.YtgealllnchpekaaNodeKp
import Derived.Test.YtgealllnchpekaaNodeRSplit
set_option linter.unusedSimpArgs false
set_option linter.unusedVariables false
namespace Go.Proofs.Ytgealllnchpekaa
open Go.RowKit

def hiPg (P : Pg) (h n : Nat) : Pg := if P.level = 0 then highPg P h n else highKey P h n (⟨#[0]⟩ ++ (keyP (P.st h) (P.dt h)).2.1)
theorem child_rest {s : Int} {d d' : ByteArray} (h1 : (keyP s d).2.2 = (keyP s d').2.2) (h2 : (keyP s d).2.1 = (keyP s d').2.1) : childP s d = childP s d' := by
  unfold childP
  rw [h1, h2]
theorem low_ok {P : Pg} {n h : Nat} (hok : NodeOk P) (hn : IsCount P n) (h1 : 1 ≤ h) (hh : h < n) : NodeOk (lowPg P h) ∧ IsCount (lowPg P h) h := by
  obtain ⟨r1, r2, r3, r4, r5⟩ := (node_r hn).1 hok
  have hn6 := hn.1
  have lt : ∀ j, j < h → (lowPg P h).st j = P.st j ∧ (lowPg P h).dt j = P.dt j := fun j hj => by simp [lowPg, hj]
  have ge : ∀ j, h ≤ j → (lowPg P h).st j = 0 ∧ (lowPg P h).dt j = ⟨#[]⟩ := fun j hj => by
    have : ¬ j < h := by omega
    simp [lowPg, this]
  have hc : IsCount (lowPg P h) h := ⟨by omega, fun j hj => by rw [(lt j hj).1]; exact hn.2.1 j (by omega), fun _ => (ge h (Nat.le_refl _)).1⟩
  refine ⟨(node_r hc).2 ⟨r1, r2, fun j hj h6 => ?_, fun j hj => ?_, fun _ => by omega⟩, hc⟩
  · rw [(ge j hj).1, (ge j hj).2]; exact ⟨rfl, rfl⟩
  · rw [rstep_iff]
    obtain ⟨a1, a2, a3⟩ := (rstep_iff P j).1 (r4 j (by omega))
    rw [(lt j hj).1, (lt j hj).2]
    refine ⟨a1, fun m hm => ?_, a3⟩
    rw [key_of (lt m (by omega)), key_of (lt j hj)]
    exact a2 m hm
theorem hi_at {P : Pg} {n h : Nat} (hok : NodeOk P) (hn : IsCount P n) (h1 : 1 ≤ h) (hh : h < n) : ∀ j, h + j < n → (hiPg P h n).st j = P.st (h + j) ∧ (keyP ((hiPg P h n).st j) ((hiPg P h n).dt j)).2 = (keyP (P.st (h + j)) (P.dt (h + j))).2 ∧
    (P.level = 0 ∨ j ≠ 0 → keyAt (hiPg P h n) j = keyAt P (h + j)) ∧ (P.level ≠ 0 → j = 0 → keyAt (hiPg P h n) j = ⟨#[]⟩) := by
  intro j hj
  have e1 : (highPg P h n).st j = P.st (h + j) := by simp [highPg, hj]
  have e2 : (highPg P h n).dt j = P.dt (h + j) := by simp [highPg, hj]
  unfold hiPg
  by_cases hl : P.level = 0
  · rw [if_pos hl]
    refine ⟨e1, by rw [e1, e2], fun _ => by unfold keyAt; rw [e1, e2], fun h' => absurd hl h'⟩
  · rw [if_neg hl]
    by_cases h0 : j = 0
    · subst h0
      have d0 : (highKey P h n (⟨#[0]⟩ ++ (keyP (P.st h) (P.dt h)).2.1)).dt 0 = ⟨#[0]⟩ ++ (keyP (P.st h) (P.dt h)).2.1 := by simp [highKey]
      have s0 : (highKey P h n (⟨#[0]⟩ ++ (keyP (P.st h) (P.dt h)).2.1)).st 0 = P.st (h + 0) := e1
      have hs : P.st h ≠ 0 := hn.2.1 h hh
      have hk := keyP_text (P.st h) ⟨#[]⟩ (keyP (P.st h) (P.dt h)).2.1 hs (by decide)
      rw [text_nil] at hk
      have hko := key_ok hok hn h hh
      have hk2 : keyP ((highKey P h n (⟨#[0]⟩ ++ (keyP (P.st h) (P.dt h)).2.1)).st 0) ((highKey P h n (⟨#[0]⟩ ++ (keyP (P.st h) (P.dt h)).2.1)).dt 0) = (⟨#[]⟩, (keyP (P.st h) (P.dt h)).2.1, true) := by
        rw [s0, d0]; exact hk
      refine ⟨s0, ?_, fun h' => ?_, fun _ _ => ?_⟩
      · rw [hk2]
        show ((keyP (P.st h) (P.dt h)).2.1, true) = (keyP (P.st h) (P.dt h)).2
        rw [← hko]
      · rcases h' with h' | h'
        · exact absurd h' hl
        · exact absurd rfl h'
      · unfold keyAt; rw [hk2]
    · have d0 : (highKey P h n (⟨#[0]⟩ ++ (keyP (P.st h) (P.dt h)).2.1)).dt j = P.dt (h + j) := by simp [highKey, h0, e2]
      have s0 : (highKey P h n (⟨#[0]⟩ ++ (keyP (P.st h) (P.dt h)).2.1)).st j = P.st (h + j) := e1
      exact ⟨s0, by rw [s0, d0], fun _ => by unfold keyAt; rw [s0, d0], fun _ h' => absurd h' h0⟩
theorem hi_ok {P : Pg} {n h : Nat} (hok : NodeOk P) (hn : IsCount P n) (h1 : 1 ≤ h) (hh : h < n) : NodeOk (hiPg P h n) ∧ IsCount (hiPg P h n) (n - h) := by
  obtain ⟨r1, r2, r3, r4, r5⟩ := (node_r hn).1 hok
  have hn6 := hn.1
  have hlev : (hiPg P h n).level = P.level := by unfold hiPg; split <;> rfl
  have hkind : (hiPg P h n).kind = P.kind := by unfold hiPg; split <;> rfl
  have far : ∀ j, n ≤ h + j → (hiPg P h n).st j = 0 ∧ (hiPg P h n).dt j = ⟨#[]⟩ := fun j hj => by
    have h2 : ¬ h + j < n := by omega
    have h3 : ¬ j = 0 := by omega
    unfold hiPg
    split <;> simp [highPg, highKey, h2, h3]
  have hat := hi_at hok hn h1 hh
  have hc : IsCount (hiPg P h n) (n - h) := ⟨by omega, fun j hj => by rw [(hat j (by omega)).1]; exact hn.2.1 (h + j) (by omega), fun _ => (far (n - h) (by omega)).1⟩
  refine ⟨(node_r hc).2 ⟨hkind.trans r1, by rw [hlev]; exact r2, fun j hj h6 => ?_, fun j hj => ?_, fun _ => by omega⟩, hc⟩
  · rw [(far j (by omega)).1, (far j (by omega)).2]; exact ⟨rfl, rfl⟩
  · rw [rstep_iff]
    obtain ⟨b1, b2, b3, b4⟩ := hat j (by omega)
    obtain ⟨a1, a2, a3⟩ := (rstep_iff P (h + j)).1 (r4 (h + j) (by omega))
    refine ⟨by rw [b2]; exact a1, fun m hm => ?_, ?_⟩
    · obtain ⟨c1, c2, c3, c4⟩ := hat m (by omega)
      by_cases hcase : P.level = 0 ∨ m ≠ 0
      · rw [b3 (.inr (by omega)), c3 hcase]
        exact a2 (h + m) (by omega)
      · have hl : P.level ≠ 0 := fun e => hcase (.inl e)
        have hm0 : m = 0 := by
          by_cases e : m = 0
          · exact e
          · exact absurd (.inr e) hcase
        rw [b3 (.inr (by omega)), c4 hl hm0]
        unfold COk at a3
        rw [if_neg hl] at a3
        have hne : (keyAt P (h + j)).size ≠ 0 := fun e => absurd (a3.2.2.2 e) (by omega)
        have := (str_some hne).1
        cases h5 : (keyAt P (h + j)).toList with
        | nil => exact absurd h5 this
        | cons x l => rw [show (⟨#[]⟩ : ByteArray).toList = [] by rw [ByteArray.toList_eq]]; rfl
    · unfold COk at a3 ⊢
      rw [hlev]
      by_cases hl : P.level = 0
      · rw [if_pos hl] at a3 ⊢
        have hk := b3 (.inl hl)
        unfold keyAt at hk
        rw [hk, b2, b1]
        exact a3
      · rw [if_neg hl] at a3 ⊢
        have hch : childP ((hiPg P h n).st j) ((hiPg P h n).dt j) = childP (P.st (h + j)) (P.dt (h + j)) := by
          rw [b1] at b2 ⊢
          exact child_rest (congrArg Prod.snd b2) (congrArg Prod.fst b2)
        refine ⟨b1.trans a3.1, by rw [hch]; exact a3.2.1, ?_⟩
        by_cases h0 : j = 0
        · have := b4 hl h0
          unfold keyAt at this
          rw [this]
          exact ⟨fun _ => rfl, fun _ => h0⟩
        · have hk := b3 (.inr h0)
          unfold keyAt at hk
          rw [hk]
          refine ⟨fun e => absurd e h0, fun e => absurd (a3.2.2.2 e) (by omega)⟩
theorem sep_lt {P : Pg} {n h : Nat} (hok : NodeOk P) (hn : IsCount P n) (hh : h < n) (k : Nat) (hk : k < n) : Op.bytesLess (keyAt P k).toList (keyAt P h).toList = decide (k < h) := by
  have hup := keys_up hok hn
  rcases Nat.lt_trichotomy k h with e | e | e
  · rw [hup h hh k e]; simp [e]
  · subst e; rw [bl_irrefl]; simp
  · rw [bl_asymm _ _ (hup k hk h e)]; simp; omega
end Go.Proofs.Ytgealllnchpekaa
