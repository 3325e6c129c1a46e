import Derived.Test.YtafiojmbaickpaaWalR
import Derived.Test.YtafiojmbaickpaaWalG
set_option linter.unusedSimpArgs false
set_option linter.unusedVariables false
namespace Go.Proofs.Ytafiojmbaickpaa
open Go.RowKit

/-! ### a log on its device, in one -/
def SoftOk (D : Dev) : Prop := D.soft = [] ∨ (D.down = true ∧ D.soft.length ≤ 5000)
structure Ws (w : World) (p dp first n bb : Nat) (P : ByteArray) (rs : List ByteArray) (i0 : Nat) (S Sd : List Nat) (D : Dev) : Prop where
  log : LogAt w p dp (mkLg first n bb P rs i0) S
  dsk : DiskAt w dp D Sd
  has : DevHas D first n bb (P ++ encL rs) (P.size + lenL (rs.take i0))
  dis : ∀ k ∈ S, k ∉ Sd
  rok : RecOk rs
  le : i0 ≤ rs.length
  pre : P.size < 54
  bbs : bb ≤ 10000000000000000
  soft : SoftOk D
theorem SoftOk.len {D : Dev} (h : SoftOk D) : D.soft.length ≤ 5000 := by
  rcases h with h | h
  · rw [h]; simp
  · exact h.2
theorem Ws.later {w w' : World} {p dp first n bb : Nat} {P : ByteArray} {rs : List ByteArray} {i0 : Nat} {S Sd : List Nat} {D : Dev} (h : Ws w p dp first n bb P rs i0 S Sd D) (hb : Below w.heap.size w w') : Ws w' p dp first n bb P rs i0 S Sd D :=
  ⟨h.log.later hb, h.dsk.later hb, h.has, h.dis, h.rok, h.le, h.pre, h.bbs, h.soft⟩
theorem lenL_take_le (rs : List ByteArray) (i : Nat) : lenL (rs.take i) ≤ lenL rs := by
  have := lenL_append (rs.take i) (rs.drop i)
  rw [List.take_append_drop] at this
  omega
theorem mkLg_push {first n bb : Nat} {P : ByteArray} {rs : List ByteArray} {i0 : Nat} (h : i0 ≤ rs.length) (r : ByteArray) : (mkLg first n bb P rs i0).push r = mkLg first n bb P (rs ++ [r]) i0 := by
  have e1 : encL (rs ++ [r]) = encL rs ++ leS r.size 2 ++ r := by rw [encL_append, encL, encL, bytes_nil_right, bytes_assoc]
  have e2 : lenL (rs ++ [r]) = lenL rs + (2 + r.size) := by rw [lenL_append, lenL, lenL]; omega
  have e3 : plL ((54 * bb + P.size : Nat) : Int) (rs ++ [r]) = plL ((54 * bb + P.size : Nat) : Int) rs ++ [(((54 * bb + P.size + lenL rs : Nat) : Int), r)] := by
    rw [plL_append, plL, plL]
    push_cast
    rfl
  unfold Lg.push mkLg
  rw [e1, e2, e3, List.take_append_of_le_length h]
  simp only [bytes_assoc, Lg.mk.injEq, true_and, and_true]
  push_cast
  omega
theorem Ws.len {w : World} {p dp first n bb : Nat} {P : ByteArray} {rs : List ByteArray} {i0 : Nat} {S Sd : List Nat} {D : Dev} (h : Ws w p dp first n bb P rs i0 S Sd D) : 128 ≤ n ∧ n ≤ 4096 ∧ P.size + lenL rs ≤ 54 * n := by
  obtain ⟨a1, a2, a3, a4, a5, a6, a7, a8, -⟩ := h.log.1
  have h8 : ((54 * bb + P.size + lenL rs : Nat) : Int) - ((54 * bb : Nat) : Int) ≤ (n : Int) * 54 := a8
  have h1 : (128 : Int) ≤ n := a1
  have h2 : (n : Int) ≤ 4096 := a2
  refine ⟨by omega, by omega, ?_⟩
  push_cast at h8
  omega
theorem DevHas.grow {D : Dev} {first n bb : Nat} {P : ByteArray} {rs : List ByteArray} {i0 : Nat} (h : DevHas D first n bb (P ++ encL rs) (P.size + lenL (rs.take i0))) (hi : i0 ≤ rs.length) (r : ByteArray) : DevHas D first n bb (P ++ encL (rs ++ [r])) (P.size + lenL ((rs ++ [r]).take i0)) := by
  rw [List.take_append_of_le_length hi]
  refine ⟨h.1, h.2.1, h.2.2.mono (fun p d hp => ⟨hp.1, fun j hj he => (hp.2 j hj he).more ?_ ?_⟩)⟩
  · have := enc_cut P (rs ++ [r]) rs.length
    rw [List.take_left'] at this
    · rw [ByteArray.size_append, encL_size]; exact this
    · rfl
  · rw [ByteArray.size_append, ByteArray.size_append, encL_size, encL_size, lenL_append]; omega
theorem ws_append {w : World} {p dp first n bb : Nat} {P : ByteArray} {rs : List ByteArray} {i0 : Nat} {S Sd : List Nat} {D : Dev} (h : Ws w p dp first n bb P rs i0 S Sd D) (r : ByteArray) (hr : r.size ≤ maxLen) :
    Calls Try.prog 13 #[.pointer (some ⟨p, 0, none⟩), .string r] w fun e w' => (∃ c, c ≠ 0 ∧ e = .returned (.tuple #[.int .i64 0, .int .i64 c]) ∧ Below w.heap.size w w') ∨
      (e = .returned (.tuple #[.int .i64 ((54 * bb + P.size + lenL rs : Nat) : Int), .int .i64 0]) ∧ ∃ S', Ws w' p dp first n bb P (rs ++ [r]) i0 S' Sd D ∧ Keeps (· ∈ S) w w' ∧ ∀ k ∈ S', k ∈ S ∨ w.heap.size ≤ k) := by
  obtain ⟨n1, n2, n3⟩ := h.len
  cases hrf : (mkLg first n bb P rs i0).refuse r with
  | some c =>
    refine (wal_append_no p dp _ S r hr c hrf w h.log).mono fun e w' ⟨he, hb⟩ => .inl ⟨c, ?_, he, hb⟩
    unfold Lg.refuse at hrf
    by_cases h0 : r.size = 0
    · rw [if_pos h0] at hrf; injection hrf with hrf; omega
    · rw [if_neg h0] at hrf
      by_cases h1 : 65535 < r.size
      · rw [if_pos h1] at hrf; injection hrf with hrf; omega
      · rw [if_neg h1] at hrf
        by_cases h2 : (mkLg first n bb P rs i0).room < 2 + (r.size : Int)
        · rw [if_pos h2] at hrf; injection hrf with hrf; omega
        · rw [if_neg h2] at hrf; cases hrf
  | none =>
    obtain ⟨q1, q2, q3⟩ := refuse_none hrf
    have hb := h.bbs
    refine (wal_append_ok p dp _ S r hr hrf (by show ((54 * bb + P.size + lenL rs : Nat) : Int) ≤ _; omega) w h.log).mono fun e w' ⟨he, S', hl, hk, hs⟩ => .inr ⟨he, S', ⟨?_, h.dsk.keep hk (fun k hk h' => h.dis k h' hk), h.has.grow h.le r, fun k hk hkd => ?_, ?_, ?_, h.pre, h.bbs, h.soft⟩, hk, hs⟩
    · rw [← mkLg_push h.le]; exact hl
    · rcases hs k hk with h' | h'
      · exact h.dis k h' hkd
      · have := h.dsk.lt k hkd; omega
    · intro x hx
      rw [List.mem_append, List.mem_singleton] at hx
      rcases hx with hx | rfl
      · exact h.rok x hx
      · exact ⟨by omega, q2⟩
    · have := h.le; rw [List.length_append]; omega
theorem take_all_of {rs : List ByteArray} {i : Nat} (hr : RecOk rs) (hi : i ≤ rs.length) (h : lenL (rs.take i) = lenL rs) : i = rs.length := by
  have h2 := lenL_append (rs.take i) (rs.drop i)
  rw [List.take_append_drop] at h2
  have h3 := lenL_pos.1 (show lenL (rs.drop i) = 0 by omega)
  have := List.drop_eq_nil_iff.1 h3
  omega
theorem fl_down {G : Lg} {D : Dev} {b k : Nat} (h : D.down = true) : (G.fl D b k).1 = D := by
  induction k with
  | zero => rfl
  | succ k ih =>
    rw [Lg.fl]
    split
    · exact ih
    · rw [ih]; unfold Dev.write; rw [if_pos h]
theorem fl_up {G : Lg} {D : Dev} {b k : Nat} (h : D.up) : (G.fl D b k).1.up := by
  induction k with
  | zero => exact h
  | succ k ih =>
    rw [Lg.fl]
    split
    · exact ih
    · exact (up_write_up ih _ _).1
theorem barrier_up {D : Dev} (h : D.up) : D.barrier.1.up := by rw [up_barrier h]; exact h
theorem barrier_soft (D : Dev) : D.barrier.1.soft.length ≤ D.soft.length := by
  rcases barrier_cases D with ⟨_, h, _⟩ | ⟨_, _, _, _, h, _⟩
  · rw [h.2.2]; exact Nat.le_refl _
  · rw [h]; simp
theorem flushed_soft {G : Lg} {D : Dev} {b k : Nat} (hk : k ≤ 4097) (h : SoftOk D) (he : (G.flushed D b k).2.1.down = true ∨ (G.flushed D b k).2.1.soft = []) : SoftOk (G.flushed D b k).2.1 := by
  rcases he with he | he
  · refine .inr ⟨he, ?_⟩
    rcases h with h | ⟨hd, hl⟩
    · have h1 := fl_soft (G := G) (D := D) (i := b) k
      rw [h] at h1
      have h2 := barrier_soft (G.fl D b k).1
      simp only [List.length_nil] at h1
      unfold Lg.flushed
      repeat' split
      all_goals (dsimp only; omega)
    · have h1 := fl_down (G := G) (b := b) (k := k) hd
      have h2 := barrier_soft D
      unfold Lg.flushed
      rw [h1]
      repeat' split
      all_goals (dsimp only; omega)
  · exact .inl he
theorem flushed_up {G : Lg} {D : Dev} {b k : Nat} (h : D.up) : (G.flushed D b k).2.1.up := by
  have h1 := fl_up (G := G) (b := b) (k := k) h
  have h2 := barrier_up h1
  unfold Lg.flushed
  repeat' split
  · exact h1
  · exact h2
  · exact h2
theorem ws_flush {w : World} {p dp first n bb : Nat} {P : ByteArray} {rs : List ByteArray} {i0 : Nat} {S Sd : List Nat} {D : Dev} (h : Ws w p dp first n bb P rs i0 S Sd D) (at_ : Int) (hat : i0 = rs.length ∨ ((54 * bb + P.size + lenL (rs.take i0) : Nat) : Int) ≤ at_) :
    Calls Try.prog 15 #[.pointer (some ⟨p, 0, none⟩), .int .i64 at_] w fun e w' => ∃ c i1 Sd' D', e = .returned (.int .i64 c) ∧ Ws w' p dp first n bb P rs i1 S Sd' D' ∧ Keeps (fun k => k ∈ S ∨ k ∈ Sd) w w' ∧ (∀ k ∈ Sd', k ∈ Sd ∨ w.heap.size ≤ k) ∧
      ((c = 0 ∧ i1 = rs.length) ∨ (c = 20 ∧ i1 = i0 ∧ D'.down = true)) ∧ (D.up → D'.up) ∧ DevHas D' first n bb (P ++ encL rs) (P.size + lenL (rs.take i0)) := by
  obtain ⟨n1, n2, n3⟩ := h.len
  have hle := lenL_take_le rs i0
  by_cases heq : lenL (rs.take i0) = lenL rs
  · have hi := take_all_of h.rok h.le heq
    refine (wal_flush_not p dp _ S at_ (.inr (by show ((54 * bb + P.size + lenL (rs.take i0) : Nat) : Int) = ((54 * bb + P.size + lenL rs : Nat) : Int); rw [heq])) w h.log).mono fun e w' ⟨he, hb⟩ => ⟨0, i0, Sd, D, he, h.later hb, Keeps.of_below _ hb, fun k hk => .inl hk, .inl ⟨rfl, hi⟩, id, h.has⟩
  · have hbs : (P ++ encL rs).size = P.size + lenL rs := by rw [ByteArray.size_append, encL_size]
    have hbb := h.bbs
    have hj : bb + (P.size + lenL (rs.take i0)) / 54 = (54 * bb + P.size + lenL (rs.take i0)) / 54 := by omega
    obtain ⟨cnt, hcnt⟩ : ∃ cnt, cnt = (P.size + lenL rs + 53) / 54 - (P.size + lenL (rs.take i0)) / 54 := ⟨_, rfl⟩
    have hc1 : ∀ k, k < cnt ↔ 54 * ((P.size + lenL (rs.take i0)) / 54 + k) < (P ++ encL rs).size := fun k => by rw [hbs]; omega
    have HF := wal_flush p dp _ S Sd D at_ (bb + (P.size + lenL (rs.take i0)) / 54) cnt (hat.resolve_left (fun he => heq (by rw [he, List.take_length]))) (by show ((54 * bb + P.size + lenL (rs.take i0) : Nat) : Int) < ((54 * bb + P.size + lenL rs : Nat) : Int); omega) (by show ((54 * bb : Nat) : Int) ≤ ((54 * bb + P.size + lenL (rs.take i0) : Nat) : Int); omega) bb (by show ((54 * bb : Nat) : Int) = 54 * (bb : Int); omega) (by show _ = ((54 * bb + P.size + lenL (rs.take i0) : Nat) : Int) / 54; omega) (fun k => by
      rw [hc1 k, hbs]
      show _ ↔ 54 * ((bb + (P.size + lenL (rs.take i0)) / 54 + k : Nat) : Int) < ((54 * bb + P.size + lenL rs : Nat) : Int)
      omega) (by have := h.soft.len; omega) w h.log h.dsk h.dis
    have hl := flush_law (D := D) (G := mkLg first n bb P rs i0) (first := first) (n := n) (bb := bb) (f := P.size + lenL (rs.take i0)) (cnt := cnt) rfl rfl rfl (by omega) (by show (P ++ encL rs).size ≤ _; omega) (by show _ ≤ (P ++ encL rs).size; omega) rfl h.has hc1
    have hup := flushed_up (G := mkLg first n bb P rs i0) (D := D) (b := bb + (P.size + lenL (rs.take i0)) / 54) (k := cnt)
    have hsf := flushed_soft (G := mkLg first n bb P rs i0) (D := D) (b := bb + (P.size + lenL (rs.take i0)) / 54) (k := cnt) (by omega) h.soft
    have hdn := fl_down (G := mkLg first n bb P rs i0) (D := D) (b := bb + (P.size + lenL (rs.take i0)) / 54) (k := cnt)
    refine HF.mono fun e w' ⟨he, Sd', hlg, hdk, hkp, hsd⟩ => ?_
    generalize (mkLg first n bb P rs i0).flushed D (bb + (P.size + lenL (rs.take i0)) / 54) cnt = X at *
    obtain ⟨G', D', c⟩ := X
    dsimp only at *
    have hdis : ∀ k ∈ S, k ∉ Sd' := fun k hk h' => by
      rcases hsd k h' with h2 | h2
      · exact h.dis k hk h2
      · have := h.log.lt k hk; omega
    obtain ⟨hh, ⟨c1, c2, c3⟩ | ⟨c1, c2, c3, c4, c5⟩⟩ := hl
    · subst c1 c2
      exact ⟨20, i0, Sd', D', he, ⟨hlg, hdk, hh, hdis, h.rok, h.le, h.pre, h.bbs, hsf (.inl c3)⟩, hkp, hsd, .inr ⟨rfl, rfl, c3⟩, hup, hh⟩
    · subst c1 c2
      have hmk : { mkLg first n bb P rs i0 with firm := (mkLg first n bb P rs i0).fin } = mkLg first n bb P rs rs.length := by
        unfold mkLg
        rw [List.take_length]
      rw [hmk] at hlg
      have c5' : DevHas D' first n bb (P ++ encL rs) (P ++ encL rs).size := c5
      refine ⟨0, rs.length, Sd', D', he, ⟨hlg, hdk, ?_, hdis, h.rok, Nat.le_refl _, h.pre, h.bbs, hsf (.inr c4)⟩, hkp, hsd, .inl ⟨rfl, rfl⟩, hup, hh⟩
      rw [List.take_length, ← hbs]; exact c5'
end Go.Proofs.Ytafiojmbaickpaa
