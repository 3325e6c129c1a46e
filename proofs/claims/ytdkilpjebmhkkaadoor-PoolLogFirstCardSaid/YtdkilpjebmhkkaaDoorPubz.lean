import Derived.Test.YtdkilpjebmhkkaaDoorPuaz
set_option linter.unusedSimpArgs false
set_option linter.unusedVariables false
namespace Go.Proofs.YtdkilpjebmhkkaaDoor
open Go.RowKit

theorem wp_ok {G : Lg} {D : Dev} {M : Int → Option ByteArray} (h : DevOk D) : ∀ k, DevOk (G.wp D M k).1
  | 0 => h
  | k + 1 => by
    have ih := wp_ok (G := G) (M := M) h k
    rw [Lg.wp]
    repeat' split
    · exact ih
    · exact ih
    · exact ih
    · exact Dev.write_ok ih _ _
theorem wp_off {G : Lg} {D : Dev} {M : Int → Option ByteArray} {hi : Nat} (hh : G.first + G.n ≤ hi) (hok : DevOk D) : ∀ k : Nat, (k : Int) ≤ G.n → OffLaw hi k D (G.wp D M k).1
  | 0, _ => OffLaw.refl _ _ _
  | k + 1, hk => by
    have ih := wp_off (M := M) hh hok k (by omega)
    have ih' : OffLaw hi (k + 1) D (G.wp D M k).1 := ⟨ih.len, ih.seen, ih.all, by have := ih.soft; omega, ih.dead, ih.up⟩
    rw [Lg.wp]
    repeat' split
    · exact ih'
    · exact ih'
    · exact ih'
    · exact ih.trans (off_write hi _ _ _ (wp_ok hok k) (by omega))
theorem wiped_off {G : Lg} {D : Dev} {M : Int → Option ByteArray} {hi : Nat} (hh : G.first + G.n ≤ hi) (hn : 0 ≤ G.n) (hk : G.n.toNat ≤ 4097) (hok : DevOk D) : OffLaw hi 4097 D (G.wiped D M).1 := by
  have h1 := wp_off (M := M) hh hok G.n.toNat (by omega)
  have h2 := h1.trans (off_barrier hi _ (wp_ok hok G.n.toNat))
  unfold Lg.wiped
  split
  · exact ⟨h1.len, h1.seen, h1.all, by have := h1.soft; omega, h1.dead, h1.up⟩
  · exact ⟨h2.len, h2.seen, h2.all, by have := h2.soft; omega, h2.dead, h2.up⟩
/-- Open, and what it leaves as it was -/
theorem ws_open2 {w : World} {dp first n bb : Nat} {P : ByteArray} {rs : List ByteArray} {i0 : Nat} {Sd : List Nat} {D : Dev} (hn1 : 128 ≤ n) (hn2 : n ≤ 4096) (hP : P.size < 54) (hbb : 1 ≤ bb) (hst : 54 * bb + P.size ≤ 1099511627776) (hr : RecOk rs) (hi0 : i0 ≤ rs.length) (hB : P.size + lenL rs ≤ 54 * n)
    (hd : DiskAt w dp D Sd) (hh : DevHas D first n bb (P ++ encL rs) (P.size + lenL (rs.take i0))) (hdn : D.down = false) (hs : D.soft = []) :
    Calls Tryd.prog 20 #[.pointer (some ⟨dp, 0, none⟩), .int .i64 first, .int .i64 n, .int .i64 ((54 * bb + P.size : Nat) : Int)] w fun e w' => ∃ i D' Sd', i0 ≤ i ∧ i ≤ rs.length ∧ DiskAt w' dp D' Sd' ∧ Keeps (· ∈ Sd) w w' ∧ (∀ k ∈ Sd', k ∈ Sd ∨ w.heap.size ≤ k) ∧ DevHas D' first n bb (P ++ encL rs) (P.size + lenL (rs.take i0)) ∧ SoftOk D' ∧ OffLaw (first + n) 4097 D D' ∧ (D.up → D'.up) ∧
      ((e = .returned (.tuple #[.pointer none, .slice none 0 0, .int .i64 20]) ∧ D'.down = true) ∨
       (D'.down = false ∧ D'.soft = [] ∧ DevHas D' first n bb (P ++ encL (rs.take i)) (P.size + lenL (rs.take i)) ∧ ∃ p S lv, e = .returned (.tuple #[.pointer (some ⟨p, 0, none⟩), lv, .int .i64 0]) ∧ Ws w' p dp first n bb P (rs.take i) i S Sd' D' ∧ (∀ k ∈ S, w.heap.size ≤ k)
         ∧ OwnS w' 70 2 lv (plL ((54 * bb + P.size : Nat) : Int) (rs.take i)).length (recV (plL ((54 * bb + P.size : Nat) : Int) (rs.take i))) ∧ ∀ k ∈ blk lv, w.heap.size ≤ k ∧ k ∉ S ∧ k ∉ Sd')) := by
  have e1 : (54 * bb + P.size) / 54 = bb := by omega
  obtain ⟨h0, i, h1, h2, h3, h4, h5⟩ := open_law (D := D) (first := first) (n := n) hP hr hi0 hh hdn (by omega) (by omega) hB
  have hup := fun h => wiped_up (G := Lg.opened first n (54 * bb + P.size) ((Lg.op0 first n (54 * bb + P.size)).ld D ((54 * bb + P.size) / 54) n).1) (D := D) (M := (Lg.opened first n (54 * bb + P.size) ((Lg.op0 first n (54 * bb + P.size)).ld D ((54 * bb + P.size) / 54) n).1).keptP ((54 * bb + P.size) / 54) (((Lg.opened first n (54 * bb + P.size) ((Lg.op0 first n (54 * bb + P.size)).ld D ((54 * bb + P.size) / 54) n).1).buf.size + 53) / 54)) h
  have hsf := wiped_soft (G := Lg.opened first n (54 * bb + P.size) ((Lg.op0 first n (54 * bb + P.size)).ld D ((54 * bb + P.size) / 54) n).1) (D := D) (M := (Lg.opened first n (54 * bb + P.size) ((Lg.op0 first n (54 * bb + P.size)).ld D ((54 * bb + P.size) / 54) n).1).keptP ((54 * bb + P.size) / 54) (((Lg.opened first n (54 * bb + P.size) ((Lg.op0 first n (54 * bb + P.size)).ld D ((54 * bb + P.size) / 54) n).1).buf.size + 53) / 54)) (by show (n : Int).toNat ≤ 4096; omega) hs
  have hoff := wiped_off (hi := first + n) (G := Lg.opened first n (54 * bb + P.size) ((Lg.op0 first n (54 * bb + P.size)).ld D ((54 * bb + P.size) / 54) n).1) (D := D) (M := (Lg.opened first n (54 * bb + P.size) ((Lg.op0 first n (54 * bb + P.size)).ld D ((54 * bb + P.size) / 54) n).1).keptP ((54 * bb + P.size) / 54) (((Lg.opened first n (54 * bb + P.size) ((Lg.op0 first n (54 * bb + P.size)).ld D ((54 * bb + P.size) / 54) n).1).buf.size + 53) / 54)) (by show (first : Int) + (n : Int) ≤ _; omega) (by show (0 : Int) ≤ n; omega) (by show (n : Int).toNat ≤ 4097; omega) hd.1
  refine (wal_open dp Sd D first n (54 * bb + P.size) hn1 hn2 hh.2.1 (by omega) hst (by rw [hs]; simp) w hd).mono fun e w' hpost => ?_
  rw [e1] at hpost hup hsf hoff
  have hup' : D.up → (Lg.openD first n (54 * bb + P.size) D).1.up := fun h => by
    have := hup h
    unfold Lg.openD
    rw [e1]
    exact this
  have hoff' : OffLaw (first + n) 4097 D (Lg.openD first n (54 * bb + P.size) D).1 := by
    unfold Lg.openD
    rw [e1]
    exact hoff
  have hsf' : (Lg.openD first n (54 * bb + P.size) D).1.down = true ∨ (Lg.openD first n (54 * bb + P.size) D).1.soft = [] → SoftOk (Lg.openD first n (54 * bb + P.size) D).1 := fun h => by
    unfold Lg.openD at h ⊢
    rw [e1] at h ⊢
    exact hsf h
  rw [h3] at hpost
  generalize Lg.openD first n (54 * bb + P.size) D = X at *
  obtain ⟨D', c⟩ := X
  dsimp only at *
  clear hup hsf hoff
  rcases hpost with ⟨hne, -⟩ | ⟨-, Sd', hdk, hkp, hsd, hres⟩
  · exact absurd h0 hne
  · refine ⟨i, D', Sd', h1, h2, hdk, hkp, hsd, h4, ?_, hoff', hup', ?_⟩
    · rcases h5 with ⟨_, q⟩ | ⟨_, _, q, _⟩
      · exact hsf' (.inl q)
      · exact hsf' (.inr q)
    rcases h5 with ⟨rfl, q⟩ | ⟨rfl, q1, q2, q3⟩
    · rcases hres with ⟨_, he⟩ | ⟨hz, _⟩
      · exact .inl ⟨he, q⟩
      · exact absurd hz (by decide)
    · rcases hres with ⟨hz, _⟩ | ⟨_, p, S, lv, he, hlg, hS, hown, hblk⟩
      · exact absurd rfl hz
      · have hrt : RecOk (rs.take i) := fun x hx => hr x (List.mem_of_mem_take hx)
        refine .inr ⟨q1, q2, q3, p, S, lv, he, ⟨hlg, hdk, ?_, fun k hk => (hS k hk).2, hrt, by rw [List.length_take]; omega, hP, by omega, SoftOk.none q2⟩, fun k hk => (hS k hk).1, hown, hblk⟩
        rw [List.take_take, Nat.min_self]
        exact q3

end Go.Proofs.YtdkilpjebmhkkaaDoor
