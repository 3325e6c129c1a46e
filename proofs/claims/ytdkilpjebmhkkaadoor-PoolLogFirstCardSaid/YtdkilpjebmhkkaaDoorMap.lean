import Derived.Test.YtdkilpjebmhkkaaDoorMao
import Derived.Test.YtdkilpjebmhkkaaDoorMaa
set_option linter.unusedSimpArgs false
set_option linter.unusedVariables false
namespace Go.Proofs.YtdkilpjebmhkkaaDoor
open Go.RowKit

/-! ### a log on its device, in one -/
def SoftOk (D : Dev) : Prop := D.soft.length ≤ 4000000000000 ∨ (D.down = true ∧ D.soft.length ≤ 4000000005000)
theorem SoftOk.none {D : Dev} (h : D.soft = []) : SoftOk D := .inl (by rw [h]; simp)
structure Ws (w : World) (p dp first n bb : Nat) (P : ByteArray) (rs : List ByteArray) (i0 : Nat) (S Sd : List Nat) (D : Dev) : Prop where
  log : LogAt w p dp (mkLg first n bb P rs i0) S
  dsk : DiskAt w dp D Sd
  has : DevHas D first n bb (P ++ encL rs) (P.size + lenL (rs.take i0))
  dis : ∀ k ∈ S, k ∉ Sd
  rok : RecOk rs
  le : i0 ≤ rs.length
  pre : P.size < 54
  bbs : bb ≤ 10000000000000000
  soft : SoftOk D
theorem SoftOk.len {D : Dev} (h : SoftOk D) : D.soft.length ≤ 4000000005000 := by
  rcases h with h | h
  · omega
  · exact h.2
theorem Ws.later {w w' : World} {p dp first n bb : Nat} {P : ByteArray} {rs : List ByteArray} {i0 : Nat} {S Sd : List Nat} {D : Dev} (h : Ws w p dp first n bb P rs i0 S Sd D) (hb : Below w.heap.size w w') : Ws w' p dp first n bb P rs i0 S Sd D :=
  ⟨h.log.later hb, h.dsk.later hb, h.has, h.dis, h.rok, h.le, h.pre, h.bbs, h.soft⟩
theorem lenL_take_le (rs : List ByteArray) (i : Nat) : lenL (rs.take i) ≤ lenL rs := by
  have := lenL_append (rs.take i) (rs.drop i)
  rw [List.take_append_drop] at this
  omega
theorem mkLg_push {first n bb : Nat} {P : ByteArray} {rs : List ByteArray} {i0 : Nat} (h : i0 ≤ rs.length) (r : ByteArray) : (mkLg first n bb P rs i0).push r = mkLg first n bb P (rs ++ [r]) i0 := by
  have e1 : encL (rs ++ [r]) = encL rs ++ leS r.size 2 ++ r := by rw [encL_append, encL, encL, bytes_nil_right, bytes_assoc]
  have e2 : lenL (rs ++ [r]) = lenL rs + (2 + r.size) := by rw [lenL_append, lenL, lenL]; omega
  have e3 : plL ((54 * bb + P.size : Nat) : Int) (rs ++ [r]) = plL ((54 * bb + P.size : Nat) : Int) rs ++ [(((54 * bb + P.size + lenL rs : Nat) : Int), r)] := by
    rw [plL_append, plL, plL]
    push_cast
    rfl
  unfold Lg.push mkLg
  rw [e1, e2, e3, List.take_append_of_le_length h]
  simp only [bytes_assoc, Lg.mk.injEq, true_and, and_true]
  push_cast
  omega
theorem Ws.len {w : World} {p dp first n bb : Nat} {P : ByteArray} {rs : List ByteArray} {i0 : Nat} {S Sd : List Nat} {D : Dev} (h : Ws w p dp first n bb P rs i0 S Sd D) : 128 ≤ n ∧ n ≤ 4096 ∧ P.size + lenL rs ≤ 54 * n := by
  obtain ⟨a1, a2, a3, a4, a5, a6, a7, a8, -⟩ := h.log.1
  have h8 : ((54 * bb + P.size + lenL rs : Nat) : Int) - ((54 * bb : Nat) : Int) ≤ (n : Int) * 54 := a8
  have h1 : (128 : Int) ≤ n := a1
  have h2 : (n : Int) ≤ 4096 := a2
  refine ⟨by omega, by omega, ?_⟩
  push_cast at h8
  omega
theorem DevHas.grow {D : Dev} {first n bb : Nat} {P : ByteArray} {rs : List ByteArray} {i0 : Nat} (h : DevHas D first n bb (P ++ encL rs) (P.size + lenL (rs.take i0))) (hi : i0 ≤ rs.length) (r : ByteArray) : DevHas D first n bb (P ++ encL (rs ++ [r])) (P.size + lenL ((rs ++ [r]).take i0)) := by
  rw [List.take_append_of_le_length hi]
  refine ⟨h.1, h.2.1, h.2.2.mono (fun p d hp => ⟨hp.1, fun j hj he => (hp.2 j hj he).more ?_ ?_⟩)⟩
  · have := enc_cut P (rs ++ [r]) rs.length
    rw [List.take_left'] at this
    · rw [ByteArray.size_append, encL_size]; exact this
    · rfl
  · rw [ByteArray.size_append, ByteArray.size_append, encL_size, encL_size, lenL_append]; omega
theorem ws_append {w : World} {p dp first n bb : Nat} {P : ByteArray} {rs : List ByteArray} {i0 : Nat} {S Sd : List Nat} {D : Dev} (h : Ws w p dp first n bb P rs i0 S Sd D) (r : ByteArray) (hr : r.size ≤ maxLen) :
    Calls Tryd.prog 11 #[.pointer (some ⟨p, 0, none⟩), .string r] w fun e w' => (∃ c, c ≠ 0 ∧ e = .returned (.tuple #[.int .i64 0, .int .i64 c]) ∧ Below w.heap.size w w') ∨
      (e = .returned (.tuple #[.int .i64 ((54 * bb + P.size + lenL rs : Nat) : Int), .int .i64 0]) ∧ ∃ S', Ws w' p dp first n bb P (rs ++ [r]) i0 S' Sd D ∧ Keeps (· ∈ S) w w' ∧ ∀ k ∈ S', k ∈ S ∨ w.heap.size ≤ k) := by
  obtain ⟨n1, n2, n3⟩ := h.len
  cases hrf : (mkLg first n bb P rs i0).refuse r with
  | some c =>
    refine (wal_append_no p dp _ S r hr c hrf w h.log).mono fun e w' ⟨he, hb⟩ => .inl ⟨c, ?_, he, hb⟩
    unfold Lg.refuse at hrf
    by_cases h0 : r.size = 0
    · rw [if_pos h0] at hrf; injection hrf with hrf; omega
    · rw [if_neg h0] at hrf
      by_cases h1 : 65535 < r.size
      · rw [if_pos h1] at hrf; injection hrf with hrf; omega
      · rw [if_neg h1] at hrf
        by_cases h2 : (mkLg first n bb P rs i0).room < 2 + (r.size : Int)
        · rw [if_pos h2] at hrf; injection hrf with hrf; omega
        · rw [if_neg h2] at hrf; cases hrf
  | none =>
    obtain ⟨q1, q2, q3⟩ := refuse_none hrf
    have hb := h.bbs
    refine (wal_append_ok p dp _ S r hr hrf (by show ((54 * bb + P.size + lenL rs : Nat) : Int) ≤ _; omega) w h.log).mono fun e w' ⟨he, S', hl, hk, hs⟩ => .inr ⟨he, S', ⟨?_, h.dsk.keep hk (fun k hk h' => h.dis k h' hk), h.has.grow h.le r, fun k hk hkd => ?_, ?_, ?_, h.pre, h.bbs, h.soft⟩, hk, hs⟩
    · rw [← mkLg_push h.le]; exact hl
    · rcases hs k hk with h' | h'
      · exact h.dis k h' hkd
      · have := h.dsk.lt k hkd; omega
    · intro x hx
      rw [List.mem_append, List.mem_singleton] at hx
      rcases hx with hx | rfl
      · exact h.rok x hx
      · exact ⟨by omega, q2⟩
    · have := h.le; rw [List.length_append]; omega
theorem take_all_of {rs : List ByteArray} {i : Nat} (hr : RecOk rs) (hi : i ≤ rs.length) (h : lenL (rs.take i) = lenL rs) : i = rs.length := by
  have h2 := lenL_append (rs.take i) (rs.drop i)
  rw [List.take_append_drop] at h2
  have h3 := lenL_pos.1 (show lenL (rs.drop i) = 0 by omega)
  have := List.drop_eq_nil_iff.1 h3
  omega
theorem fl_down {G : Lg} {D : Dev} {b k : Nat} (h : D.down = true) : (G.fl D b k).1 = D := by
  induction k with
  | zero => rfl
  | succ k ih =>
    rw [Lg.fl]
    split
    · exact ih
    · rw [ih]; unfold Dev.write; rw [if_pos h]
theorem fl_up {G : Lg} {D : Dev} {b k : Nat} (h : D.up) : (G.fl D b k).1.up := by
  induction k with
  | zero => exact h
  | succ k ih =>
    rw [Lg.fl]
    split
    · exact ih
    · exact (up_write_up ih _ _).1
theorem barrier_up {D : Dev} (h : D.up) : D.barrier.1.up := by rw [up_barrier h]; exact h
theorem barrier_soft (D : Dev) : D.barrier.1.soft.length ≤ D.soft.length := by
  rcases barrier_cases D with ⟨_, h, _⟩ | ⟨_, _, _, _, h, _⟩
  · rw [h.2.2]; exact Nat.le_refl _
  · rw [h]; simp
theorem flushed_soft {G : Lg} {D : Dev} {b k : Nat} (hk : k ≤ 4097) (h : SoftOk D) (he : (G.flushed D b k).2.1.down = true ∨ (G.flushed D b k).2.1.soft = []) : SoftOk (G.flushed D b k).2.1 := by
  rcases he with he | he
  · refine .inr ⟨he, ?_⟩
    rcases h with h | ⟨hd, hl⟩
    · have h1 := fl_soft (G := G) (D := D) (i := b) k
      have h2 := barrier_soft (G.fl D b k).1
      unfold Lg.flushed
      repeat' split
      all_goals (dsimp only; omega)
    · have h1 := fl_down (G := G) (b := b) (k := k) hd
      have h2 := barrier_soft D
      unfold Lg.flushed
      rw [h1]
      repeat' split
      all_goals (dsimp only; omega)
  · exact SoftOk.none he
theorem flushed_up {G : Lg} {D : Dev} {b k : Nat} (h : D.up) : (G.flushed D b k).2.1.up := by
  have h1 := fl_up (G := G) (b := b) (k := k) h
  have h2 := barrier_up h1
  unfold Lg.flushed
  repeat' split
  · exact h1
  · exact h2
  · exact h2
theorem ws_flush {w : World} {p dp first n bb : Nat} {P : ByteArray} {rs : List ByteArray} {i0 : Nat} {S Sd : List Nat} {D : Dev} (h : Ws w p dp first n bb P rs i0 S Sd D) (at_ : Int) (hat : i0 = rs.length ∨ ((54 * bb + P.size + lenL (rs.take i0) : Nat) : Int) ≤ at_) :
    Calls Tryd.prog 56 #[.pointer (some ⟨p, 0, none⟩), .int .i64 at_] w fun e w' => ∃ c i1 Sd' D', e = .returned (.int .i64 c) ∧ Ws w' p dp first n bb P rs i1 S Sd' D' ∧ Keeps (fun k => k ∈ S ∨ k ∈ Sd) w w' ∧ (∀ k ∈ Sd', k ∈ Sd ∨ w.heap.size ≤ k) ∧
      ((c = 0 ∧ i1 = rs.length) ∨ (c = 20 ∧ i1 = i0 ∧ D'.down = true)) ∧ (D.up → D'.up) ∧ DevHas D' first n bb (P ++ encL rs) (P.size + lenL (rs.take i0)) := by
  obtain ⟨n1, n2, n3⟩ := h.len
  have hle := lenL_take_le rs i0
  by_cases heq : lenL (rs.take i0) = lenL rs
  · have hi := take_all_of h.rok h.le heq
    refine (wal_flush_not p dp _ S at_ (.inr (by show ((54 * bb + P.size + lenL (rs.take i0) : Nat) : Int) = ((54 * bb + P.size + lenL rs : Nat) : Int); rw [heq])) w h.log).mono fun e w' ⟨he, hb⟩ => ⟨0, i0, Sd, D, he, h.later hb, Keeps.of_below _ hb, fun k hk => .inl hk, .inl ⟨rfl, hi⟩, id, h.has⟩
  · have hbs : (P ++ encL rs).size = P.size + lenL rs := by rw [ByteArray.size_append, encL_size]
    have hbb := h.bbs
    have hj : bb + (P.size + lenL (rs.take i0)) / 54 = (54 * bb + P.size + lenL (rs.take i0)) / 54 := by omega
    obtain ⟨cnt, hcnt⟩ : ∃ cnt, cnt = (P.size + lenL rs + 53) / 54 - (P.size + lenL (rs.take i0)) / 54 := ⟨_, rfl⟩
    have hc1 : ∀ k, k < cnt ↔ 54 * ((P.size + lenL (rs.take i0)) / 54 + k) < (P ++ encL rs).size := fun k => by rw [hbs]; omega
    have HF := wal_flush p dp _ S Sd D at_ (bb + (P.size + lenL (rs.take i0)) / 54) cnt (hat.resolve_left (fun he => heq (by rw [he, List.take_length]))) (by show ((54 * bb + P.size + lenL (rs.take i0) : Nat) : Int) < ((54 * bb + P.size + lenL rs : Nat) : Int); omega) (by show ((54 * bb : Nat) : Int) ≤ ((54 * bb + P.size + lenL (rs.take i0) : Nat) : Int); omega) bb (by show ((54 * bb : Nat) : Int) = 54 * (bb : Int); omega) (by show _ = ((54 * bb + P.size + lenL (rs.take i0) : Nat) : Int) / 54; omega) (fun k => by
      rw [hc1 k, hbs]
      show _ ↔ 54 * ((bb + (P.size + lenL (rs.take i0)) / 54 + k : Nat) : Int) < ((54 * bb + P.size + lenL rs : Nat) : Int)
      omega) (by have := h.soft.len; omega) w h.log h.dsk h.dis
    have hl := flush_law (D := D) (G := mkLg first n bb P rs i0) (first := first) (n := n) (bb := bb) (f := P.size + lenL (rs.take i0)) (cnt := cnt) rfl rfl rfl (by omega) (by show (P ++ encL rs).size ≤ _; omega) (by show _ ≤ (P ++ encL rs).size; omega) rfl h.has hc1
    have hup := flushed_up (G := mkLg first n bb P rs i0) (D := D) (b := bb + (P.size + lenL (rs.take i0)) / 54) (k := cnt)
    have hsf := flushed_soft (G := mkLg first n bb P rs i0) (D := D) (b := bb + (P.size + lenL (rs.take i0)) / 54) (k := cnt) (by omega) h.soft
    have hdn := fl_down (G := mkLg first n bb P rs i0) (D := D) (b := bb + (P.size + lenL (rs.take i0)) / 54) (k := cnt)
    refine HF.mono fun e w' ⟨he, Sd', hlg, hdk, hkp, hsd⟩ => ?_
    generalize (mkLg first n bb P rs i0).flushed D (bb + (P.size + lenL (rs.take i0)) / 54) cnt = X at *
    obtain ⟨G', D', c⟩ := X
    dsimp only at *
    have hdis : ∀ k ∈ S, k ∉ Sd' := fun k hk h' => by
      rcases hsd k h' with h2 | h2
      · exact h.dis k hk h2
      · have := h.log.lt k hk; omega
    obtain ⟨hh, ⟨c1, c2, c3⟩ | ⟨c1, c2, c3, c4, c5⟩⟩ := hl
    · subst c1 c2
      exact ⟨20, i0, Sd', D', he, ⟨hlg, hdk, hh, hdis, h.rok, h.le, h.pre, h.bbs, hsf (.inl c3)⟩, hkp, hsd, .inr ⟨rfl, rfl, c3⟩, hup, hh⟩
    · subst c1 c2
      have hmk : { mkLg first n bb P rs i0 with firm := (mkLg first n bb P rs i0).fin } = mkLg first n bb P rs rs.length := by
        unfold mkLg
        rw [List.take_length]
      rw [hmk] at hlg
      have c5' : DevHas D' first n bb (P ++ encL rs) (P ++ encL rs).size := c5
      refine ⟨0, rs.length, Sd', D', he, ⟨hlg, hdk, ?_, hdis, h.rok, Nat.le_refl _, h.pre, h.bbs, hsf (.inr c4)⟩, hkp, hsd, .inl ⟨rfl, rfl⟩, hup, hh⟩
      rw [List.take_length, ← hbs]; exact c5'
end Go.Proofs.YtdkilpjebmhkkaaDoor

namespace Go.Proofs.YtdkilpjebmhkkaaDoor
open Go.RowKit

theorem wp_up {G : Lg} {D : Dev} {M : Int → Option ByteArray} {k : Nat} (h : D.up) : (G.wp D M k).1.up := by
  induction k with
  | zero => exact h
  | succ k ih =>
    rw [Lg.wp]
    repeat' split
    · exact ih
    · exact ih
    · exact ih
    · exact (up_write_up ih _ _).1
theorem wiped_up {G : Lg} {D : Dev} {M : Int → Option ByteArray} (h : D.up) : (G.wiped D M).1.up := by
  unfold Lg.wiped
  split
  · exact wp_up h
  · exact barrier_up (wp_up h)
theorem wiped_soft {G : Lg} {D : Dev} {M : Int → Option ByteArray} (hn : G.n.toNat ≤ 4096) (h : D.soft = []) (he : (G.wiped D M).1.down = true ∨ (G.wiped D M).1.soft = []) : SoftOk (G.wiped D M).1 := by
  rcases he with he | he
  · refine .inr ⟨he, ?_⟩
    have h1 := wp_soft (G := G) (D := D) (M := M) G.n.toNat
    rw [h] at h1
    simp only [List.length_nil] at h1
    have h2 := barrier_soft (G.wp D M G.n.toNat).1
    unfold Lg.wiped
    split
    all_goals omega
  · exact SoftOk.none he
/-- Open, over a device that holds a stream -/
theorem ws_open {w : World} {dp first n bb : Nat} {P : ByteArray} {rs : List ByteArray} {i0 : Nat} {Sd : List Nat} {D : Dev} (hn1 : 128 ≤ n) (hn2 : n ≤ 4096) (hP : P.size < 54) (hbb : 1 ≤ bb) (hst : 54 * bb + P.size ≤ 1099511627776) (hr : RecOk rs) (hi0 : i0 ≤ rs.length) (hB : P.size + lenL rs ≤ 54 * n)
    (hd : DiskAt w dp D Sd) (hh : DevHas D first n bb (P ++ encL rs) (P.size + lenL (rs.take i0))) (hdn : D.down = false) (hs : D.soft = []) :
    Calls Tryd.prog 20 #[.pointer (some ⟨dp, 0, none⟩), .int .i64 first, .int .i64 n, .int .i64 ((54 * bb + P.size : Nat) : Int)] w fun e w' => ∃ i D' Sd', i0 ≤ i ∧ i ≤ rs.length ∧ DiskAt w' dp D' Sd' ∧ Keeps (· ∈ Sd) w w' ∧ (∀ k ∈ Sd', k ∈ Sd ∨ w.heap.size ≤ k) ∧ DevHas D' first n bb (P ++ encL rs) (P.size + lenL (rs.take i0)) ∧ SoftOk D' ∧ (D.up → D'.up) ∧
      ((e = .returned (.tuple #[.pointer none, .slice none 0 0, .int .i64 20]) ∧ D'.down = true) ∨
       (D'.down = false ∧ D'.soft = [] ∧ DevHas D' first n bb (P ++ encL (rs.take i)) (P.size + lenL (rs.take i)) ∧ ∃ p S lv, e = .returned (.tuple #[.pointer (some ⟨p, 0, none⟩), lv, .int .i64 0]) ∧ Ws w' p dp first n bb P (rs.take i) i S Sd' D' ∧ (∀ k ∈ S, w.heap.size ≤ k)
         ∧ OwnS w' 70 2 lv (plL ((54 * bb + P.size : Nat) : Int) (rs.take i)).length (recV (plL ((54 * bb + P.size : Nat) : Int) (rs.take i))) ∧ ∀ k ∈ blk lv, w.heap.size ≤ k ∧ k ∉ S ∧ k ∉ Sd')) := by
  have e1 : (54 * bb + P.size) / 54 = bb := by omega
  obtain ⟨h0, i, h1, h2, h3, h4, h5⟩ := open_law (D := D) (first := first) (n := n) hP hr hi0 hh hdn (by omega) (by omega) hB
  have hup := fun h => wiped_up (G := Lg.opened first n (54 * bb + P.size) ((Lg.op0 first n (54 * bb + P.size)).ld D ((54 * bb + P.size) / 54) n).1) (D := D) (M := (Lg.opened first n (54 * bb + P.size) ((Lg.op0 first n (54 * bb + P.size)).ld D ((54 * bb + P.size) / 54) n).1).keptP ((54 * bb + P.size) / 54) (((Lg.opened first n (54 * bb + P.size) ((Lg.op0 first n (54 * bb + P.size)).ld D ((54 * bb + P.size) / 54) n).1).buf.size + 53) / 54)) h
  have hsf := wiped_soft (G := Lg.opened first n (54 * bb + P.size) ((Lg.op0 first n (54 * bb + P.size)).ld D ((54 * bb + P.size) / 54) n).1) (D := D) (M := (Lg.opened first n (54 * bb + P.size) ((Lg.op0 first n (54 * bb + P.size)).ld D ((54 * bb + P.size) / 54) n).1).keptP ((54 * bb + P.size) / 54) (((Lg.opened first n (54 * bb + P.size) ((Lg.op0 first n (54 * bb + P.size)).ld D ((54 * bb + P.size) / 54) n).1).buf.size + 53) / 54)) (by show (n : Int).toNat ≤ 4096; omega) hs
  refine (wal_open dp Sd D first n (54 * bb + P.size) hn1 hn2 hh.2.1 (by omega) hst (by rw [hs]; simp) w hd).mono fun e w' hpost => ?_
  rw [e1] at hpost hup hsf
  have hup' : D.up → (Lg.openD first n (54 * bb + P.size) D).1.up := fun h => by
    have := hup h
    unfold Lg.openD
    rw [e1]
    exact this
  have hsf' : (Lg.openD first n (54 * bb + P.size) D).1.down = true ∨ (Lg.openD first n (54 * bb + P.size) D).1.soft = [] → SoftOk (Lg.openD first n (54 * bb + P.size) D).1 := fun h => by
    unfold Lg.openD at h ⊢
    rw [e1] at h ⊢
    exact hsf h
  rw [h3] at hpost
  generalize Lg.openD first n (54 * bb + P.size) D = X at *
  obtain ⟨D', c⟩ := X
  dsimp only at *
  clear hup hsf
  rcases hpost with ⟨hne, -⟩ | ⟨-, Sd', hdk, hkp, hsd, hres⟩
  · exact absurd h0 hne
  · refine ⟨i, D', Sd', h1, h2, hdk, hkp, hsd, h4, ?_, hup', ?_⟩
    · rcases h5 with ⟨_, q⟩ | ⟨_, _, q, _⟩
      · exact hsf' (.inl q)
      · exact hsf' (.inr q)
    rcases h5 with ⟨rfl, q⟩ | ⟨rfl, q1, q2, q3⟩
    · rcases hres with ⟨_, he⟩ | ⟨hz, _⟩
      · exact .inl ⟨he, q⟩
      · exact absurd hz (by decide)
    · rcases hres with ⟨hz, _⟩ | ⟨_, p, S, lv, he, hlg, hS, hown, hblk⟩
      · exact absurd rfl hz
      · have hrt : RecOk (rs.take i) := fun x hx => hr x (List.mem_of_mem_take hx)
        refine .inr ⟨q1, q2, q3, p, S, lv, he, ⟨hlg, hdk, ?_, fun k hk => (hS k hk).2, hrt, by rw [List.length_take]; omega, hP, by omega, SoftOk.none q2⟩, fun k hk => (hS k hk).1, hown, hblk⟩
        rw [List.take_take, Nat.min_self]
        exact q3
end Go.Proofs.YtdkilpjebmhkkaaDoor

namespace Go.Proofs.YtdkilpjebmhkkaaDoor
open Go.RowKit

/-! ### a log that began at 54, and the list of what was appended -/
def P0 : ByteArray := ⟨#[]⟩
theorem lenL_len : ∀ {rs : List ByteArray}, RecOk rs → rs.length * 3 ≤ lenL rs
  | [], _ => by simp [lenL]
  | r :: rs, h => by
    have h1 := lenL_len (rs := rs) (fun x hx => h x (List.mem_cons_of_mem _ hx))
    have h2 := (h r List.mem_cons_self).1
    rw [lenL, List.length_cons]; omega
structure Wf (w0 w : World) (p dp first : Nat) (rs : List ByteArray) (i0 : Nat) (S Sd : List Nat) (D : Dev) (av : Value) (L : List (Int × ByteArray)) : Prop where
  ws : Ws w p dp first 128 1 P0 rs i0 S Sd D
  all : OwnS w 70 2 av L.length (recV L)
  fs : ∀ k ∈ S, w0.heap.size ≤ k
  fd : ∀ k ∈ Sd, w0.heap.size ≤ k
  fa : ∀ k ∈ blk av, w0.heap.size ≤ k ∧ k ∉ S ∧ k ∉ Sd
  bel : Below w0.heap.size w0 w
section
variable {w0 w w' : World} {p dp first : Nat} {rs : List ByteArray} {i0 : Nat} {S Sd : List Nat} {D : Dev} {av : Value} {L : List (Int × ByteArray)}
theorem Wf.later (h : Wf w0 w p dp first rs i0 S Sd D av L) (hb : Below w.heap.size w w') : Wf w0 w' p dp first rs i0 S Sd D av L :=
  ⟨h.ws.later hb, h.all.keep (Keeps.of_below (fun _ => False) hb) (fun _ _ h => h), h.fs, h.fd, h.fa, bT h.bel hb⟩
theorem Wf.count (h : Wf w0 w p dp first rs i0 S Sd D av L) : rs.length ≤ 2304 ∧ lenL rs ≤ 6912 := by
  have h1 := lenL_len h.ws.rok
  have h2 := h.ws.len.2.2
  have : P0.size = 0 := rfl
  omega
theorem wf_append (h : Wf w0 w p dp first rs i0 S Sd D av L) (r : ByteArray) (hr : r.size ≤ maxLen) :
    Calls Tryd.prog 11 #[.pointer (some ⟨p, 0, none⟩), .string r] w fun e w' => (∃ c, c ≠ 0 ∧ e = .returned (.tuple #[.int .i64 0, .int .i64 c]) ∧ Wf w0 w' p dp first rs i0 S Sd D av L) ∨
      (e = .returned (.tuple #[.int .i64 ((54 + lenL rs : Nat) : Int), .int .i64 0]) ∧ ∃ S', Wf w0 w' p dp first (rs ++ [r]) i0 S' Sd D av L) := by
  refine (ws_append h.ws r hr).mono fun e w' hp => ?_
  rcases hp with ⟨c, hc, he, hb⟩ | ⟨he, S', hw, hk, hs⟩
  · exact .inl ⟨c, hc, he, h.later hb⟩
  · refine .inr ⟨?_, S', hw, h.all.keep hk (fun k hk' h' => (h.fa k hk').2.1 h'), fun k hk' => ?_, h.fd, fun k hk' => ⟨(h.fa k hk').1, fun h' => ?_, (h.fa k hk').2.2⟩, h.bel.trans (hk.belowB h.bel.size h.fs)⟩
    · rw [he]
      show Ending.returned (.tuple #[.int .i64 ((54 * 1 + 0 + lenL rs : Nat) : Int), .int .i64 0]) = _
      rw [show 54 * 1 + 0 + lenL rs = 54 + lenL rs by omega]
    · rcases hs k hk' with h' | h'
      · exact h.fs k h'
      · exact Nat.le_trans h.bel.size h'
    · rcases hs k h' with h2 | h2
      · exact (h.fa k hk').2.1 h2
      · have := h.all.lt hk'; omega
theorem wf_flush (h : Wf w0 w p dp first rs i0 S Sd D av L) (at_ : Int) (hat : i0 = rs.length ∨ ((54 + lenL (rs.take i0) : Nat) : Int) ≤ at_) :
    Calls Tryd.prog 56 #[.pointer (some ⟨p, 0, none⟩), .int .i64 at_] w fun e w' => ∃ c i1 Sd' D', e = .returned (.int .i64 c) ∧ Wf w0 w' p dp first rs i1 S Sd' D' av L ∧ ((c = 0 ∧ i1 = rs.length) ∨ (c = 20 ∧ i1 = i0 ∧ D'.down = true)) ∧ (D.up → D'.up) ∧ DevHas D' first 128 1 (P0 ++ encL rs) (P0.size + lenL (rs.take i0)) := by
  refine (ws_flush h.ws at_ (hat.imp_right (fun hat => by show ((54 * 1 + 0 + lenL (rs.take i0) : Nat) : Int) ≤ at_; omega))).mono fun e w' ⟨c, i1, Sd', D', he, hw, hk, hs, hc, hup, hdh⟩ => ?_
  refine ⟨c, i1, Sd', D', he, ⟨hw, h.all.keep hk (fun k hk' h' => h'.elim (h.fa k hk').2.1 (h.fa k hk').2.2), h.fs, fun k hk' => ?_, fun k hk' => ⟨(h.fa k hk').1, (h.fa k hk').2.1, fun h' => ?_⟩, h.bel.trans (hk.belowB h.bel.size (fun k hk' => hk'.elim (h.fs k) (h.fd k)))⟩, hc, hup, hdh⟩
  · rcases hs k hk' with h' | h'
    · exact h.fd k h'
    · exact Nat.le_trans h.bel.size h'
  · rcases hs k h' with h2 | h2
    · exact (h.fa k hk').2.2 h2
    · have := h.all.lt hk'; omega
theorem Wf.push {v' : Value} {x : Int × ByteArray} (h : Wf w0 w p dp first rs i0 S Sd D av L) (ho : OwnS w' 70 2 v' (L.length + 1) (recV L ++ [.int .i64 x.1, .string x.2])) (hk : Keeps (· ∈ blk av) w w') (hb : ∀ k ∈ blk v', k ∈ blk av ∨ w.heap.size ≤ k) : Wf w0 w' p dp first rs i0 S Sd D v' (L ++ [x]) := by
  have hS : ∀ k ∈ S, k ∉ blk av := fun k hk' h' => (h.fa k h').2.1 hk'
  have hD : ∀ k ∈ Sd, k ∉ blk av := fun k hk' h' => (h.fa k h').2.2 hk'
  refine ⟨⟨h.ws.log.keep hk (fun k hk' h' => hS k hk' h'), h.ws.dsk.keep hk (fun k hk' h' => hD k hk' h'), h.ws.has, h.ws.dis, h.ws.rok, h.ws.le, h.ws.pre, h.ws.bbs, h.ws.soft⟩, ?_, h.fs, h.fd, fun k hk' => ?_, h.bel.trans (hk.belowB h.bel.size (fun k hk' => (h.fa k hk').1))⟩
  · rw [List.length_append, recV_append]; exact ho
  · rcases hb k hk' with h' | h'
    · exact h.fa k h'
    · exact ⟨Nat.le_trans h.bel.size h', fun h2 => by have := h.ws.log.lt k h2; omega, fun h2 => by have := h.ws.dsk.lt k h2; omega⟩
end
/-- the device of a log that began at 54, crashed; Open -/
theorem wf_open {w : World} {dp first : Nat} {rs : List ByteArray} {i0 : Nat} {Sd : List Nat} {D : Dev} (hr : RecOk rs) (hi0 : i0 ≤ rs.length) (hB : lenL rs ≤ 6912)
    (hd : DiskAt w dp D Sd) (hh : DevHas D first 128 1 (P0 ++ encL rs) (P0.size + lenL (rs.take i0))) (hdn : D.down = false) (hs : D.soft = []) :
    Calls Tryd.prog 20 #[.pointer (some ⟨dp, 0, none⟩), .int .i64 first, .int .i64 128, .int .i64 54] w fun e w' => ∃ i D' Sd', i0 ≤ i ∧ i ≤ rs.length ∧ DiskAt w' dp D' Sd' ∧ Keeps (· ∈ Sd) w w' ∧ (∀ k ∈ Sd', k ∈ Sd ∨ w.heap.size ≤ k) ∧ DevHas D' first 128 1 (P0 ++ encL rs) (P0.size + lenL (rs.take i0)) ∧ SoftOk D' ∧ (D.up → D'.up) ∧
      ((e = .returned (.tuple #[.pointer none, .slice none 0 0, .int .i64 20]) ∧ D'.down = true) ∨
       (D'.down = false ∧ D'.soft = [] ∧ DevHas D' first 128 1 (P0 ++ encL (rs.take i)) (P0.size + lenL (rs.take i)) ∧ ∃ p S lv, e = .returned (.tuple #[.pointer (some ⟨p, 0, none⟩), lv, .int .i64 0]) ∧ Ws w' p dp first 128 1 P0 (rs.take i) i S Sd' D' ∧ (∀ k ∈ S, w.heap.size ≤ k)
         ∧ OwnS w' 70 2 lv (plL 54 (rs.take i)).length (recV (plL 54 (rs.take i))) ∧ ∀ k ∈ blk lv, w.heap.size ≤ k ∧ k ∉ S ∧ k ∉ Sd')) :=
  ws_open (by omega) (by omega) (by decide) (Nat.le_refl _) (by decide) hr hi0 (by show 0 + lenL rs ≤ _; omega) hd hh hdn hs
theorem new_has (N first : Nat) (h0 : first + 128 ≤ N) (hN : N ≤ 16384) : DevHas (Dev.new N) first 128 1 (P0 ++ encL []) (P0.size + lenL (([] : List ByteArray).take 0)) := by
  have hz : RingP first 128 1 (P0 ++ encL []) (P0.size + lenL (([] : List ByteArray).take 0)) = fun p d => RingP first 128 1 (P0 ++ encL []) 0 p d := rfl
  have hb : ∀ p, RingP first 128 1 (P0 ++ encL []) 0 p (zeros 64) := fun p => ⟨zeros_size 64, fun j _ _ => SecOk.blank (Nat.zero_le _)⟩
  have hg : ∀ p, p < N → (List.replicate N (zeros 64)).getD p ⟨#[]⟩ = zeros 64 := fun p hp => by
    rw [List.getD_eq_getElem?_getD, List.getElem?_replicate, if_pos hp]; rfl
  refine ⟨Dev.new_ok N (by omega) hN, by show _ ≤ (List.replicate N (zeros 64)).length; rw [List.length_replicate]; exact h0, fun p hp => ?_, fun p hp => ?_, fun x hx => by simp [Dev.new] at hx⟩
  · have hp' : p < N := by have : (Dev.new N).firm.length = N := List.length_replicate; omega
    show RingP _ _ _ _ _ p ((List.replicate N (zeros 64)).getD p ⟨#[]⟩)
    rw [hg p hp']
    exact hb p
  · have hp' : p < N := by have : (Dev.new N).seen.length = N := List.length_replicate; omega
    show RingP _ _ _ _ _ p ((List.replicate N (zeros 64)).getD p ⟨#[]⟩)
    rw [hg p hp']
    exact hb p
theorem new_log (first : Nat) : Lg.new first 128 = mkLg first 128 1 P0 [] 0 := rfl
theorem DevHas.crash {D : Dev} {first n bb : Nat} {B : ByteArray} {f : Nat} (h : DevHas D first n bb B f) (ks : List Bool) : DevHas (D.after ks) first n bb B f :=
  ⟨Dev.after_ok h.1 ks, by show _ ≤ (crashTo _ _ _ _).length; rw [crashTo_length]; exact h.2.1, h.2.2.crash ks⟩
theorem DevHas.fuel {D : Dev} {first n bb : Nat} {B : ByteArray} {f : Nat} (h : DevHas D first n bb B f) (m : Int) (hm : DevOk { D with fuel := m }) : DevHas { D with fuel := m } first n bb B f := ⟨hm, h.2.1, h.2.2⟩
theorem pre_law {rs : List ByteArray} {i0 i : Nat} (h1 : i0 ≤ i) (h2 : i ≤ rs.length) : isPre (plL 54 rs) (plL 54 (rs.take i)) (i0 : Int) = true := by
  unfold isPre
  apply decide_eq_true
  rw [plL_length, plL_length, List.length_take, plL_take, Nat.min_eq_left h2]
  exact ⟨by omega, h2, rfl⟩
end Go.Proofs.YtdkilpjebmhkkaaDoor

namespace Go.Proofs.YtdkilpjebmhkkaaDoor
open Go.RowKit

/-! ### '==' between two arrays -/
def eqElems (d : Nat) (e : TypeId) (n : Nat) (xs ys : Array Value) : List Nat → Sem Bool
  | [] => pure true
  | i :: r => do
    if !(← Op.equalIn d e (← part e xs (i * n)) (← part e ys (i * n))) then pure false else eqElems d e n xs ys r
theorem run_equalIn_array {P : Program} (w : World) (d : Nat) (t e : TypeId) (len : Nat) (i : TypeInfo) (xs ys : Array Value) (ht : P.underlying t = some (.array len e)) (hi : P.info? e = some i) :
    (Op.equalIn (d + 1) t (.agg xs) (.agg ys)).run P w = (eqElems d e i.size xs ys (List.range len)).run P w := by
  simp only [Op.equalIn, Sem.run_bind, run_underlying ht, Result.andThen_ok, sizeOf, typeInfo, hi]
  simp [Std.Legacy.Range.forIn_eq_forIn_range', hi]
  rw [List.range_eq_range']
  generalize List.range' 0 len = l
  induction l generalizing w with
  | nil => simp [eqElems]
  | cons j l ih =>
    simp only [List.forIn_cons, eqElems, Sem.run_bind, Sem.run_ite]
    generalize (part e xs (j * i.size)).run P w = r1
    cases r1 with
    | ok a w1 =>
      simp only [Result.andThen_ok]
      generalize (part e ys (j * i.size)).run P w1 = r2
      cases r2 with
      | ok b w2 =>
        simp only [Result.andThen_ok]
        generalize (Op.equalIn d e a b).run P w2 = r3
        cases r3 with
        | ok r w3 =>
          cases r
          · simp
          · simp
            exact ih w3
        | halt x w3 => simp [Result.andThen]
      | halt x w2 => simp [Result.andThen]
    | halt x w1 => simp [Result.andThen]
end Go.Proofs.YtdkilpjebmhkkaaDoor
