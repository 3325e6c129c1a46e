import Derived.Test.YtblakognnfilaaaDoorRcI
import Derived.Test.YtblakognnfilaaaDoorRcG
set_option linter.unusedSimpArgs false
set_option linter.unusedVariables false
namespace Go.Proofs.YtblakognnfilaaaDoor
open Go.RowKit

/-! ### the document's reader goes as the program's does -/
/-- what the document's reader holds where the program's holds σ: once bad, what is left plays no part -/
def Alike (s : ByteArray) (σ : St) : Prop := s.size ≤ maxLen ∧ (σ.2 = false → s = σ.1)
theorem bytes_alike {s : ByteArray} {σ : St} (h : Alike s σ) (n : Int) : (rfBytes s σ.2 n).1 = (rdBytes σ.1 σ.2 n).1 ∧ (rfBytes s σ.2 n).2.2 = (rdBytes σ.1 σ.2 n).2.2 ∧ Alike (rfBytes s σ.2 n).2.1 (rdBytes σ.1 σ.2 n).2 := by
  have hsz : (rfBytes s σ.2 n).2.1.size ≤ maxLen := Nat.le_trans (rfBytes_size s σ.2 n) h.1
  cases hb : σ.2 with
  | true =>
    rw [rfBytes_no (by simp), rdBytes_no (by simp)]
    exact ⟨rfl, rfl, Nat.zero_le _, fun h => by cases h⟩
  | false =>
    have hs := h.2 hb
    subst hs
    by_cases hc : 0 ≤ n ∧ n ≤ (σ.1.size : Int)
    · rw [rfBytes_yes ⟨rfl, hc.1, hc.2⟩, rdBytes_yes ⟨rfl, hc.1, hc.2⟩]
      refine ⟨rfl, rfl, ?_, fun _ => rfl⟩
      have := h.1
      simp [ByteArray.size_extract]; omega
    · rw [rfBytes_no (fun h => hc ⟨h.2.1, h.2.2⟩), rdBytes_no (fun h => hc ⟨h.2.1, h.2.2⟩)]
      exact ⟨rfl, rfl, Nat.zero_le _, fun h => by cases h⟩
theorem num_alike {s : ByteArray} {σ : St} (h : Alike s σ) (n : Int) : (rfNum s σ.2 n).1 = (rdNum σ.1 σ.2 n).1 ∧ (rfNum s σ.2 n).2.2 = (rdNum σ.1 σ.2 n).2.2 ∧ Alike (rfNum s σ.2 n).2.1 (rdNum σ.1 σ.2 n).2 := by
  unfold rfNum rdNum
  split
  · exact ⟨rfl, rfl, Nat.zero_le _, fun h => by cases h⟩
  · obtain ⟨e1, e2, e3⟩ := bytes_alike h n
    exact ⟨by dsimp only; rw [e1], e2, e3⟩
theorem text_alike {s : ByteArray} {σ : St} (h : Alike s σ) : (rfText s σ.2).1 = (rT σ).1 ∧ (rfText s σ.2).2.2 = (rT σ).2.2 ∧ Alike (rfText s σ.2).2.1 (rT σ).2 := by
  obtain ⟨e1, e2, e3⟩ := num_alike h 1
  unfold rfText rT rdText
  rw [e1, e2]
  exact bytes_alike (σ := (rdNum σ.1 σ.2 1).2) e3 _
/-- the reader in block b -/
def Rf (w : World) (b : Nat) (σ : St) : Prop := ∃ s, Alike s σ ∧ w.heap[b]? = some (.cells #[.string s, .bool σ.2] 85 (0, 0))
theorem Rf.keep {S : Nat → Prop} {w w' : World} {b : Nat} {σ : St} (h : Rf w b σ) (hk : Keeps S w w') (hb : ¬ S b) : Rf w' b σ := by
  obtain ⟨s, h1, h2⟩ := h
  exact ⟨s, h1, hk.keep h2 hb⟩
theorem Rf.lt {w : World} {b : Nat} {σ : St} (h : Rf w b σ) : b < w.heap.size := by
  obtain ⟨s, h1, h2⟩ := h
  exact block_lt h2
set_option maxHeartbeats 3200000 in
theorem rr_num (wd : Nat) (h8 : wd ≤ 8) (b : Nat) (σ : St) (w : World) (h : Rf w b σ) :
    Calls Tryd.prog 38 #[.pointer (some ⟨b, 0, none⟩), .int .i64 wd] w fun e w' => e = .returned (.int .i64 (rN wd σ).1) ∧ Rf w' b (rN wd σ).2 ∧ Keeps (· = b) w w' := by
  obtain ⟨s, hA, hb⟩ := h
  have HC := Lib.hid (fun w => ref_rnum s σ.2 wd w hA.1)
  obtain ⟨h0, h64⟩ := num_range wd σ h8
  obtain ⟨a1, a2, a3⟩ := num_alike hA (wd : Int)
  have e1 : Hid ((rN wd σ).1 = clip (rdNum σ.1 σ.2 wd).1) := rfl
  have e2 : Hid ((rN wd σ).2 = (rdNum σ.1 σ.2 wd).2) := rfl
  have hblt := block_lt hb
  have HBk := Lib.hid hb
  have c0 : w.cell? ⟨b, 0, none⟩ = some (.string s) := cell_at hb 0
  have c1 : w.cell? ⟨b, 1, none⟩ = some (.bool σ.2) := cell_at hb 1
  clear hb
  generalize rN wd σ = X at *
  generalize rdNum σ.1 σ.2 wd = Y at *
  generalize rfNum s σ.2 wd = Z at *
  obtain ⟨v, s', b'⟩ := Y
  obtain ⟨n, σ'⟩ := X
  obtain ⟨v2, s2, b2⟩ := Z
  dsimp only at *
  subst a1 a2
  have hσ' := e2.out
  subst hσ'
  have hn := e1.out
  have a3 := Lib.hid a3
  clear e1 e2 hA
  generalize σ.2 = bad at *
  by_cases hbg : 1099511627776 < v2
  · rw [clip_big hbg] at hn
    subst hn
    go_enter Tryd.func38, Tryd.ntmps38
    go_wp2_with fail
    refine (HC.out _).mono ?_
    rintro e w1 ⟨rfl, hb1⟩
    have HB1 := Lib.hid hb1
    have HK1 := Lib.hid (hBs hb1 HBk.out)
    have hl1 := block_lt HK1.out
    have d0 : w1.cell? ⟨b, 0, none⟩ = some (.string s) := cell_at HK1.out 0
    have d1 : w1.cell? ⟨b, 1, none⟩ = some (.bool bad) := cell_at HK1.out 1
    have f0 := free_at HK1.out 0
    have f1 := free_at HK1.out 1
    clear hb1 c0 c1
    go_wp2_with fail
    go_ret
    exact ⟨rfl, ⟨s2, a3.out, hO (heap_set_eq (heap_set HK1.out 0 (.string s2)) rfl)⟩, (((Keeps.of_below (· = b) HB1.out).setCell ⟨b, 0, none⟩ (.string s2) (.inl rfl)).setCell ⟨b, 1, none⟩ (.bool b2) (.inl rfl)).alloc _⟩
  · rw [clip_in (by omega)] at hn
    subst hn
    go_enter Tryd.func38, Tryd.ntmps38
    go_wp2_with fail
    refine (HC.out _).mono ?_
    rintro e w1 ⟨rfl, hb1⟩
    have HB1 := Lib.hid hb1
    have HK1 := Lib.hid (hBs hb1 HBk.out)
    have hl1 := block_lt HK1.out
    have d0 : w1.cell? ⟨b, 0, none⟩ = some (.string s) := cell_at HK1.out 0
    have d1 : w1.cell? ⟨b, 1, none⟩ = some (.bool bad) := cell_at HK1.out 1
    have f0 := free_at HK1.out 0
    have f1 := free_at HK1.out 1
    clear hb1 c0 c1
    go_wp2_with fail
    go_ret
    exact ⟨rfl, ⟨s2, a3.out, hO (heap_set_eq (heap_set HK1.out 0 (.string s2)) rfl)⟩, (((Keeps.of_below (· = b) HB1.out).setCell ⟨b, 0, none⟩ (.string s2) (.inl rfl)).setCell ⟨b, 1, none⟩ (.bool b2) (.inl rfl)).alloc _⟩
theorem rnum_any (wd : Nat) (h8 : wd ≤ 8) (σ : St) : ∃ X : Int × St, rN wd σ = X ∧ Hid (∀ (b : Nat) (w : World), Rf w b σ → Calls Tryd.prog 38 #[.pointer (some ⟨b, 0, none⟩), .int .i64 wd] w fun e w' => e = .returned (.int .i64 X.1) ∧ Rf w' b X.2 ∧ Keeps (· = b) w w') :=
  ⟨_, rfl, fun b w h => rr_num wd h8 b σ w h⟩
set_option maxHeartbeats 3200000 in
theorem rr_text (b : Nat) (σ : St) (w : World) (h : Rf w b σ) :
    Calls Tryd.prog 39 #[.pointer (some ⟨b, 0, none⟩)] w fun e w' => e = .returned (.string (rT σ).1) ∧ Rf w' b (rT σ).2 ∧ Keeps (· = b) w w' := by
  obtain ⟨s, hA, hb⟩ := h
  have HC := Lib.hid (fun w => ref_rtext s σ.2 w hA.1)
  obtain ⟨a1, a2, a3⟩ := text_alike hA
  have hblt := block_lt hb
  have HBk := Lib.hid hb
  have c0 : w.cell? ⟨b, 0, none⟩ = some (.string s) := cell_at hb 0
  have c1 : w.cell? ⟨b, 1, none⟩ = some (.bool σ.2) := cell_at hb 1
  clear hb
  generalize rT σ = X at *
  generalize rfText s σ.2 = Z at *
  obtain ⟨t, s', b'⟩ := X
  obtain ⟨t2, s2, b2⟩ := Z
  dsimp only at *
  subst a1 a2
  have a3 := Lib.hid a3
  clear hA
  generalize σ.2 = bad at *
  go_enter Tryd.func39, Tryd.ntmps39
  go_wp2_with fail
  refine (HC.out _).mono ?_
  rintro e w1 ⟨rfl, hb1⟩
  have HB1 := Lib.hid hb1
  have HK1 := Lib.hid (hBs hb1 HBk.out)
  have hl1 := block_lt HK1.out
  have d0 : w1.cell? ⟨b, 0, none⟩ = some (.string s) := cell_at HK1.out 0
  have d1 : w1.cell? ⟨b, 1, none⟩ = some (.bool bad) := cell_at HK1.out 1
  have f0 := free_at HK1.out 0
  have f1 := free_at HK1.out 1
  clear hb1 c0 c1
  go_wp2_with fail
  go_ret
  exact ⟨rfl, ⟨s2, a3.out, hO (heap_set_eq (heap_set HK1.out 0 (.string s2)) rfl)⟩, (((Keeps.of_below (· = b) HB1.out).setCell ⟨b, 0, none⟩ (.string s2) (.inl rfl)).setCell ⟨b, 1, none⟩ (.bool b2) (.inl rfl)).alloc _⟩
theorem rtx_any (σ : St) : ∃ X : ByteArray × St, rT σ = X ∧ Hid (∀ (b : Nat) (w : World), Rf w b σ → Calls Tryd.prog 39 #[.pointer (some ⟨b, 0, none⟩)] w fun e w' => e = .returned (.string X.1) ∧ Rf w' b X.2 ∧ Keeps (· = b) w w') :=
  ⟨_, rfl, fun b w h => rr_text b σ w h⟩
end Go.Proofs.YtblakognnfilaaaDoor
