import Derived.Test.YtafiojmbaickpaaWalO
set_option linter.unusedSimpArgs false
set_option linter.unusedVariables false
namespace Go.Proofs.Ytafiojmbaickpaa
open Go.RowKit

/-- the log's plain state: P: what stands ahead of the first record in its sector -/
def mkLg (first n bb : Nat) (P : ByteArray) (rs : List ByteArray) (i0 : Nat) : Lg :=
  { first := first, n := n, start := ((54 * bb + P.size : Nat) : Int), fin := ((54 * bb + P.size + lenL rs : Nat) : Int), firm := ((54 * bb + P.size + lenL (rs.take i0) : Nat) : Int), base := ((54 * bb : Nat) : Int), buf := P ++ encL rs, list := plL ((54 * bb + P.size : Nat) : Int) rs }
def DevHas (D : Dev) (first n bb : Nat) (B : ByteArray) (f : Nat) : Prop := DevOk D ∧ first + n ≤ D.firm.length ∧ AllP (RingP first n bb B f) D
theorem place_lt {first n k : Nat} (hn : 0 < n) : first + k % n < first + n := by have := Nat.mod_lt k hn; omega
theorem read_ring {D : Dev} {first n bb : Nat} {B : ByteArray} {f : Nat} (h : DevHas D first n bb B f) (hd : D.down = false) (hn : 0 < n) (j : Nat) (hj : j < n) :
    ∃ d, D.read ((first : Int) + ((bb + j : Nat) : Int) % (n : Int)) = (d, 0) ∧ d = D.seen.getD (first + (bb + j) % n) ⟨#[]⟩ ∧ d.size = 64 ∧ SecOk bb B f j d := by
  obtain ⟨hok, hl, hA⟩ := h
  have hp := place_lt (first := first) (k := bb + j) hn
  have e1 : (first : Int) + ((bb + j : Nat) : Int) % (n : Int) = ((first + (bb + j) % n : Nat) : Int) := by push_cast; omega
  have hlt : first + (bb + j) % n < D.seen.length := by have := hok.2.2.1; omega
  have hR := hA.2.1 (first + (bb + j) % n) hlt
  refine ⟨_, ?_, rfl, hR.1, hR.2 j hj rfl⟩
  rw [e1, up_read hd _ (by omega) (by have := hok.2.2.1; omega), Int.toNat_natCast]
theorem load_ring {D : Dev} {first n bb start : Nat} {B : ByteArray} {f : Nat} (h : DevHas D first n bb B f) (hd : D.down = false) (hn : 0 < n) (hk : bb + n < 72057594037927936) (j : Nat) (hj : j < n) :
    ((Lg.op0 first n start).load D ((bb + j : Nat) : Int) = (⟨#[]⟩, false, 0) ∧ f ≤ 54 * j) ∨ ∃ m, 0 < m ∧ m ≤ 54 ∧ 54 * j + m ≤ B.size ∧ (f ≤ 54 * j + m ∨ m = 54) ∧ (Lg.op0 first n start).load D ((bb + j : Nat) : Int) = (B.extract (54 * j) (54 * j + m), true, 0) := by
  obtain ⟨d, hr, -, hs, hok⟩ := read_ring h hd hn j hj
  have hr' : D.read ((Lg.op0 first n start).first + ((bb + j : Nat) : Int) % (Lg.op0 first n start).n) = (d, 0) := hr
  unfold Lg.load
  rw [hr']
  dsimp only
  rw [if_neg (fun h => h rfl)]
  rcases hok with ⟨h1, h2⟩ | ⟨m, h1, h2, h3, rfl, h5⟩
  · rw [if_pos (.inl (by omega))]
    exact .inl ⟨rfl, h2⟩
  · have hsz : (B.extract (54 * j) (54 * j + m)).size = m := by rw [ByteArray.size_extract]; omega
    obtain ⟨t1, t2, t3⟩ := secS_tell (bb + j) (B.extract (54 * j) (54 * j + m)) (by rw [show (256 : Nat) ^ 8 = 18446744073709551616 by decide]; omega) (by omega)
    rw [t1, t2, hsz, if_neg (by omega), Int.toNat_natCast]
    rw [hsz] at t3
    rw [t3]
    exact .inr ⟨m, h1, h2, h3, h5, rfl⟩
theorem ld_ring {D : Dev} {first n bb start : Nat} {B : ByteArray} {f : Nat} (h : DevHas D first n bb B f) (hd : D.down = false) (hn : 0 < n) (hk : bb + n < 72057594037927936) : ∀ i, i ≤ n →
    ((Lg.op0 first n start).ld D bb i).2.2 = 0 ∧ ((((Lg.op0 first n start).ld D bb i).2.1 = false ∧ ((Lg.op0 first n start).ld D bb i).1 = B.extract 0 (54 * i) ∧ 54 * i ≤ B.size ∨ i = 0 ∧ ((Lg.op0 first n start).ld D bb i) = (⟨#[]⟩, false, 0)) ∨ (((Lg.op0 first n start).ld D bb i).2.1 = true ∧ ∃ T, T ≤ B.size ∧ f ≤ T ∧ ((Lg.op0 first n start).ld D bb i).1 = B.extract 0 T))
  | 0, _ => ⟨rfl, .inl (.inr ⟨rfl, rfl⟩)⟩
  | i + 1, hi => by
    obtain ⟨ih0, ih⟩ := ld_ring h hd hn hk i (by omega)
    rcases ih with ih | ⟨hst, T, hT1, hT2, hT3⟩
    · have ⟨hn1, hn2, hn3⟩ : ((Lg.op0 first n start).ld D bb i).2.1 = false ∧ ((Lg.op0 first n start).ld D bb i).1 = B.extract 0 (54 * i) ∧ 54 * i ≤ B.size := by
        rcases ih with h | ⟨rfl, h⟩
        · exact h
        · rw [h]; refine ⟨rfl, ?_, by omega⟩
          apply ByteArray.ext; apply Array.toList_inj.1; simp
      have hstep : (Lg.op0 first n start).ld D bb (i + 1) = (if ((Lg.op0 first n start).load D ((bb + i : Nat) : Int)).2.2 ≠ 0 then (((Lg.op0 first n start).ld D bb i).1, true, ((Lg.op0 first n start).load D ((bb + i : Nat) : Int)).2.2)
          else if ((Lg.op0 first n start).load D ((bb + i : Nat) : Int)).2.1 = false then (((Lg.op0 first n start).ld D bb i).1, true, 0)
          else (((Lg.op0 first n start).ld D bb i).1 ++ ((Lg.op0 first n start).load D ((bb + i : Nat) : Int)).1, decide (((Lg.op0 first n start).load D ((bb + i : Nat) : Int)).1.size < 54), 0)) := by
        rw [Lg.ld, if_neg (by rw [hn1]; simp)]
      rw [hstep, hn2]
      rcases load_ring (start := start) h hd hn hk i (by omega) with ⟨hl, hf⟩ | ⟨m, h1, h2, h3, h4, hl⟩
      · rw [hl]
        dsimp only
        rw [if_neg (fun h => h rfl), if_pos rfl]
        exact ⟨rfl, .inr ⟨rfl, 54 * i, hn3, hf, rfl⟩⟩
      · rw [hl]
        dsimp only
        rw [if_neg (fun h => h rfl), if_neg (by simp), extract_append_extract _ _ _ (by omega) h3]
        have hsz : (B.extract (54 * i) (54 * i + m)).size = m := by rw [ByteArray.size_extract]; omega
        rw [hsz]
        refine ⟨rfl, ?_⟩
        by_cases hm : m < 54
        · exact .inr ⟨by simpa using hm, 54 * i + m, h3, by omega, rfl⟩
        · obtain rfl : m = 54 := by omega
          exact .inl (.inl ⟨by simp, by rw [show 54 * (i + 1) = 54 * i + 54 by omega], by omega⟩)
    · rw [ld_stop hst (i + 1) (by omega)]
      exact ⟨ih0, .inr ⟨hst, T, hT1, hT2, hT3⟩⟩
theorem ld_all {D : Dev} {first n bb start : Nat} {B : ByteArray} {f : Nat} (h : DevHas D first n bb B f) (hd : D.down = false) (hn : 0 < n) (hk : bb + n < 72057594037927936) (hB : B.size ≤ 54 * n) (hf : f ≤ B.size) :
    ((Lg.op0 first n start).ld D bb n).2.2 = 0 ∧ ∃ T, T ≤ B.size ∧ f ≤ T ∧ ((Lg.op0 first n start).ld D bb n).1 = B.extract 0 T := by
  obtain ⟨h0, h1⟩ := ld_ring (start := start) h hd hn hk n (Nat.le_refl _)
  refine ⟨h0, ?_⟩
  rcases h1 with (⟨_, h2, h3⟩ | ⟨rfl, _⟩) | ⟨_, h2⟩
  · exact ⟨54 * n, h3, by omega, h2⟩
  · omega
  · exact h2
theorem enc_cut (P : ByteArray) (rs : List ByteArray) (i : Nat) : (P ++ encL rs).extract 0 (P.size + lenL (rs.take i)) = P ++ encL (rs.take i) := by
  have h : P ++ encL rs = (P ++ encL (rs.take i)) ++ encL (rs.drop i) := by
    rw [bytes_assoc, ← encL_append, List.take_append_drop]
  rw [h]
  have := bytes_left (P ++ encL (rs.take i)) (encL (rs.drop i))
  rw [ByteArray.size_append, encL_size] at this
  exact this
/-- what Open finds in a ring that holds a stream -/
theorem open_finds {D : Dev} {first n bb : Nat} {P : ByteArray} {rs : List ByteArray} {i0 : Nat} (hP : P.size < 54) (hr : RecOk rs) (hi0 : i0 ≤ rs.length) (h : DevHas D first n bb (P ++ encL rs) (P.size + lenL (rs.take i0))) (hd : D.down = false) (hn : 0 < n) (hk : bb + n < 72057594037927936) (hB : P.size + lenL rs ≤ 54 * n) :
    ((Lg.op0 first n (54 * bb + P.size)).ld D bb n).2.2 = 0 ∧ ∃ i, i0 ≤ i ∧ i ≤ rs.length ∧ Lg.opened first n (54 * bb + P.size) ((Lg.op0 first n (54 * bb + P.size)).ld D bb n).1 = mkLg first n bb P (rs.take i) i := by
  have hsz : (P ++ encL rs).size = P.size + lenL rs := by rw [ByteArray.size_append, encL_size]
  have hle : ∀ i, lenL (rs.take i) ≤ lenL rs := fun i => by
    have := lenL_append (rs.take i) (rs.drop i)
    rw [List.take_append_drop] at this
    omega
  obtain ⟨h0, T, hT1, hT2, hT3⟩ := ld_all (start := 54 * bb + P.size) h hd hn hk (by omega) (by have := hle i0; omega)
  refine ⟨h0, fitL T P.size rs, fitL_ge T P.size rs i0 hi0 hT2, (fitL_le T P.size rs).1, ?_⟩
  have hE := (fitL_le T P.size rs).2 (by omega)
  rw [hT3]
  have e1 : (54 * bb + P.size) / 54 = bb := by omega
  have hTs : ((P ++ encL rs).extract 0 T).size = T := by rw [ByteArray.size_extract]; omega
  have hprs := prs_enc ((54 * bb : Nat) : Int) rs P T (T + 1) hr (by omega) (by omega)
  have e2 : ((54 * bb : Nat) : Int) + P.size = ((54 * bb + P.size : Nat) : Int) := by push_cast; rfl
  rw [e2] at hprs
  unfold Lg.opened Lg.op0 mkLg
  rw [e1, show 54 * bb + P.size - 54 * bb = P.size by omega, hTs, hprs]
  dsimp only
  have htt : (rs.take (fitL T P.size rs)).take (fitL T P.size rs) = rs.take (fitL T P.size rs) := by rw [List.take_take, Nat.min_self]
  rw [htt]
  have hbuf : opB ((P ++ encL rs).extract 0 T) (P.size + lenL (rs.take (fitL T P.size rs))) = P ++ encL (rs.take (fitL T P.size rs)) := by
    unfold opB
    rw [hTs]
    by_cases hlt : P.size + lenL (rs.take (fitL T P.size rs)) < T
    · rw [if_pos hlt, cut_extract _ _ _ _ (by omega) (by omega) (by omega), enc_cut]
    · have : P.size + lenL (rs.take (fitL T P.size rs)) = T := by omega
      have h5 := enc_cut P rs (fitL T P.size rs)
      rw [this] at h5
      rw [if_neg hlt, this, Nat.sub_self, show zeros 0 = ⟨#[]⟩ from rfl, bytes_nil_right, h5]
  rw [hbuf, Nat.add_assoc]
end Go.Proofs.Ytafiojmbaickpaa
