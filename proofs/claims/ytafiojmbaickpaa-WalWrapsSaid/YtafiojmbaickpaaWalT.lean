import Derived.Test.YtafiojmbaickpaaWalS
set_option linter.unusedSimpArgs false
set_option linter.unusedVariables false
namespace Go.Proofs.Ytafiojmbaickpaa
open Go.RowKit

theorem wp_up {G : Lg} {D : Dev} {M : Int → Option ByteArray} {k : Nat} (h : D.up) : (G.wp D M k).1.up := by
  induction k with
  | zero => exact h
  | succ k ih =>
    rw [Lg.wp]
    repeat' split
    · exact ih
    · exact ih
    · exact ih
    · exact (up_write_up ih _ _).1
theorem wiped_up {G : Lg} {D : Dev} {M : Int → Option ByteArray} (h : D.up) : (G.wiped D M).1.up := by
  unfold Lg.wiped
  split
  · exact wp_up h
  · exact barrier_up (wp_up h)
theorem wiped_soft {G : Lg} {D : Dev} {M : Int → Option ByteArray} (hn : G.n.toNat ≤ 4096) (h : D.soft = []) (he : (G.wiped D M).1.down = true ∨ (G.wiped D M).1.soft = []) : SoftOk (G.wiped D M).1 := by
  rcases he with he | he
  · refine .inr ⟨he, ?_⟩
    have h1 := wp_soft (G := G) (D := D) (M := M) G.n.toNat
    rw [h] at h1
    simp only [List.length_nil] at h1
    have h2 := barrier_soft (G.wp D M G.n.toNat).1
    unfold Lg.wiped
    split
    all_goals omega
  · exact .inl he
/-- Open, over a device that holds a stream -/
theorem ws_open {w : World} {dp first n bb : Nat} {P : ByteArray} {rs : List ByteArray} {i0 : Nat} {Sd : List Nat} {D : Dev} (hn1 : 128 ≤ n) (hn2 : n ≤ 4096) (hP : P.size < 54) (hbb : 1 ≤ bb) (hst : 54 * bb + P.size ≤ 1099511627776) (hr : RecOk rs) (hi0 : i0 ≤ rs.length) (hB : P.size + lenL rs ≤ 54 * n)
    (hd : DiskAt w dp D Sd) (hh : DevHas D first n bb (P ++ encL rs) (P.size + lenL (rs.take i0))) (hdn : D.down = false) (hs : D.soft = []) :
    Calls Try.prog 17 #[.pointer (some ⟨dp, 0, none⟩), .int .i64 first, .int .i64 n, .int .i64 ((54 * bb + P.size : Nat) : Int)] w fun e w' => ∃ i D' Sd', i0 ≤ i ∧ i ≤ rs.length ∧ DiskAt w' dp D' Sd' ∧ Keeps (· ∈ Sd) w w' ∧ (∀ k ∈ Sd', k ∈ Sd ∨ w.heap.size ≤ k) ∧ DevHas D' first n bb (P ++ encL rs) (P.size + lenL (rs.take i0)) ∧ SoftOk D' ∧ (D.up → D'.up) ∧
      ((e = .returned (.tuple #[.pointer none, .slice none 0 0, .int .i64 20]) ∧ D'.down = true) ∨
       (D'.down = false ∧ D'.soft = [] ∧ DevHas D' first n bb (P ++ encL (rs.take i)) (P.size + lenL (rs.take i)) ∧ ∃ p S lv, e = .returned (.tuple #[.pointer (some ⟨p, 0, none⟩), lv, .int .i64 0]) ∧ Ws w' p dp first n bb P (rs.take i) i S Sd' D' ∧ (∀ k ∈ S, w.heap.size ≤ k)
         ∧ OwnS w' 44 2 lv (plL ((54 * bb + P.size : Nat) : Int) (rs.take i)).length (recV (plL ((54 * bb + P.size : Nat) : Int) (rs.take i))) ∧ ∀ k ∈ blk lv, w.heap.size ≤ k ∧ k ∉ S ∧ k ∉ Sd')) := by
  have e1 : (54 * bb + P.size) / 54 = bb := by omega
  obtain ⟨h0, i, h1, h2, h3, h4, h5⟩ := open_law (D := D) (first := first) (n := n) hP hr hi0 hh hdn (by omega) (by omega) hB
  have hup := fun h => wiped_up (G := Lg.opened first n (54 * bb + P.size) ((Lg.op0 first n (54 * bb + P.size)).ld D ((54 * bb + P.size) / 54) n).1) (D := D) (M := (Lg.opened first n (54 * bb + P.size) ((Lg.op0 first n (54 * bb + P.size)).ld D ((54 * bb + P.size) / 54) n).1).keptP ((54 * bb + P.size) / 54) (((Lg.opened first n (54 * bb + P.size) ((Lg.op0 first n (54 * bb + P.size)).ld D ((54 * bb + P.size) / 54) n).1).buf.size + 53) / 54)) h
  have hsf := wiped_soft (G := Lg.opened first n (54 * bb + P.size) ((Lg.op0 first n (54 * bb + P.size)).ld D ((54 * bb + P.size) / 54) n).1) (D := D) (M := (Lg.opened first n (54 * bb + P.size) ((Lg.op0 first n (54 * bb + P.size)).ld D ((54 * bb + P.size) / 54) n).1).keptP ((54 * bb + P.size) / 54) (((Lg.opened first n (54 * bb + P.size) ((Lg.op0 first n (54 * bb + P.size)).ld D ((54 * bb + P.size) / 54) n).1).buf.size + 53) / 54)) (by show (n : Int).toNat ≤ 4096; omega) hs
  refine (wal_open dp Sd D first n (54 * bb + P.size) hn1 hn2 hh.2.1 (by omega) hst (by rw [hs]; simp) w hd).mono fun e w' hpost => ?_
  rw [e1] at hpost hup hsf
  have hup' : D.up → (Lg.openD first n (54 * bb + P.size) D).1.up := fun h => by
    have := hup h
    unfold Lg.openD
    rw [e1]
    exact this
  have hsf' : (Lg.openD first n (54 * bb + P.size) D).1.down = true ∨ (Lg.openD first n (54 * bb + P.size) D).1.soft = [] → SoftOk (Lg.openD first n (54 * bb + P.size) D).1 := fun h => by
    unfold Lg.openD at h ⊢
    rw [e1] at h ⊢
    exact hsf h
  rw [h3] at hpost
  generalize Lg.openD first n (54 * bb + P.size) D = X at *
  obtain ⟨D', c⟩ := X
  dsimp only at *
  clear hup hsf
  rcases hpost with ⟨hne, -⟩ | ⟨-, Sd', hdk, hkp, hsd, hres⟩
  · exact absurd h0 hne
  · refine ⟨i, D', Sd', h1, h2, hdk, hkp, hsd, h4, ?_, hup', ?_⟩
    · rcases h5 with ⟨_, q⟩ | ⟨_, _, q, _⟩
      · exact hsf' (.inl q)
      · exact hsf' (.inr q)
    rcases h5 with ⟨rfl, q⟩ | ⟨rfl, q1, q2, q3⟩
    · rcases hres with ⟨_, he⟩ | ⟨hz, _⟩
      · exact .inl ⟨he, q⟩
      · exact absurd hz (by decide)
    · rcases hres with ⟨hz, _⟩ | ⟨_, p, S, lv, he, hlg, hS, hown, hblk⟩
      · exact absurd rfl hz
      · have hrt : RecOk (rs.take i) := fun x hx => hr x (List.mem_of_mem_take hx)
        refine .inr ⟨q1, q2, q3, p, S, lv, he, ⟨hlg, hdk, ?_, fun k hk => (hS k hk).2, hrt, by rw [List.length_take]; omega, hP, by omega, .inl q2⟩, fun k hk => (hS k hk).1, hown, hblk⟩
        rw [List.take_take, Nat.min_self]
        exact q3
end Go.Proofs.Ytafiojmbaickpaa
