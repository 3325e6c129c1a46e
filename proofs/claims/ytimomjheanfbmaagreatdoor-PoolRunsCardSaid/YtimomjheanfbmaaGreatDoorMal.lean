import Derived.Test.YtimomjheanfbmaaGreatDoorMak
set_option linter.unusedSimpArgs false
set_option linter.unusedVariables false
namespace Go.Proofs.YtimomjheanfbmaaGreatDoor
open Go.RowKit

/-- the log's plain state: P: what stands ahead of the first record in its sector -/
def mkLg (first n bb : Nat) (P : ByteArray) (rs : List ByteArray) (i0 : Nat) : Lg :=
  { first := first, n := n, start := ((54 * bb + P.size : Nat) : Int), fin := ((54 * bb + P.size + lenL rs : Nat) : Int), firm := ((54 * bb + P.size + lenL (rs.take i0) : Nat) : Int), base := ((54 * bb : Nat) : Int), buf := P ++ encL rs, list := plL ((54 * bb + P.size : Nat) : Int) rs }
def DevHas (D : Dev) (first n bb : Nat) (B : ByteArray) (f : Nat) : Prop := DevOk D ∧ first + n ≤ D.firm.length ∧ AllP (RingP first n bb B f) D
theorem place_lt {first n k : Nat} (hn : 0 < n) : first + k % n < first + n := by have := Nat.mod_lt k hn; omega
theorem read_ring {D : Dev} {first n bb : Nat} {B : ByteArray} {f : Nat} (h : DevHas D first n bb B f) (hd : D.down = false) (hn : 0 < n) (j : Nat) (hj : j < n) :
    ∃ d, D.read ((first : Int) + ((bb + j : Nat) : Int) % (n : Int)) = (d, 0) ∧ d = D.seen.getD (first + (bb + j) % n) ⟨#[]⟩ ∧ d.size = 64 ∧ SecOk bb B f j d := by
  obtain ⟨hok, hl, hA⟩ := h
  have hp := place_lt (first := first) (k := bb + j) hn
  have e1 : (first : Int) + ((bb + j : Nat) : Int) % (n : Int) = ((first + (bb + j) % n : Nat) : Int) := by push_cast; omega
  have hlt : first + (bb + j) % n < D.seen.length := by have := hok.2.2.1; omega
  have hR := hA.2.1 (first + (bb + j) % n) hlt
  refine ⟨_, ?_, rfl, hR.1, hR.2 j hj rfl⟩
  rw [e1, up_read hd _ (by omega) (by have := hok.2.2.1; omega), Int.toNat_natCast]
theorem load_ring {D : Dev} {first n bb start : Nat} {B : ByteArray} {f : Nat} (h : DevHas D first n bb B f) (hd : D.down = false) (hn : 0 < n) (hk : bb + n < 72057594037927936) (j : Nat) (hj : j < n) :
    ((Lg.op0 first n start).load D ((bb + j : Nat) : Int) = (⟨#[]⟩, false, 0) ∧ f ≤ 54 * j) ∨ ∃ m, 0 < m ∧ m ≤ 54 ∧ 54 * j + m ≤ B.size ∧ (f ≤ 54 * j + m ∨ m = 54) ∧ (Lg.op0 first n start).load D ((bb + j : Nat) : Int) = (B.extract (54 * j) (54 * j + m), true, 0) := by
  obtain ⟨d, hr, -, hs, hok⟩ := read_ring h hd hn j hj
  have hr' : D.read ((Lg.op0 first n start).first + ((bb + j : Nat) : Int) % (Lg.op0 first n start).n) = (d, 0) := hr
  unfold Lg.load
  rw [hr']
  dsimp only
  rw [if_neg (fun h => h rfl)]
  rcases hok with ⟨h1, h2⟩ | ⟨m, h1, h2, h3, rfl, h5⟩
  · rw [if_pos (.inl (by omega))]
    exact .inl ⟨rfl, h2⟩
  · have hsz : (B.extract (54 * j) (54 * j + m)).size = m := by rw [ByteArray.size_extract]; omega
    obtain ⟨t1, t2, t3⟩ := secS_tell (bb + j) (B.extract (54 * j) (54 * j + m)) (by rw [show (256 : Nat) ^ 8 = 18446744073709551616 by decide]; omega) (by omega)
    rw [t1, t2, hsz, if_neg (by omega), Int.toNat_natCast]
    rw [hsz] at t3
    rw [t3]
    exact .inr ⟨m, h1, h2, h3, h5, rfl⟩
theorem ld_ring {D : Dev} {first n bb start : Nat} {B : ByteArray} {f : Nat} (h : DevHas D first n bb B f) (hd : D.down = false) (hn : 0 < n) (hk : bb + n < 72057594037927936) : ∀ i, i ≤ n →
    ((Lg.op0 first n start).ld D bb i).2.2 = 0 ∧ ((((Lg.op0 first n start).ld D bb i).2.1 = false ∧ ((Lg.op0 first n start).ld D bb i).1 = B.extract 0 (54 * i) ∧ 54 * i ≤ B.size ∨ i = 0 ∧ ((Lg.op0 first n start).ld D bb i) = (⟨#[]⟩, false, 0)) ∨ (((Lg.op0 first n start).ld D bb i).2.1 = true ∧ ∃ T, T ≤ B.size ∧ f ≤ T ∧ ((Lg.op0 first n start).ld D bb i).1 = B.extract 0 T))
  | 0, _ => ⟨rfl, .inl (.inr ⟨rfl, rfl⟩)⟩
  | i + 1, hi => by
    obtain ⟨ih0, ih⟩ := ld_ring h hd hn hk i (by omega)
    rcases ih with ih | ⟨hst, T, hT1, hT2, hT3⟩
    · have ⟨hn1, hn2, hn3⟩ : ((Lg.op0 first n start).ld D bb i).2.1 = false ∧ ((Lg.op0 first n start).ld D bb i).1 = B.extract 0 (54 * i) ∧ 54 * i ≤ B.size := by
        rcases ih with h | ⟨rfl, h⟩
        · exact h
        · rw [h]; refine ⟨rfl, ?_, by omega⟩
          apply ByteArray.ext; apply Array.toList_inj.1; simp
      have hstep : (Lg.op0 first n start).ld D bb (i + 1) = (if ((Lg.op0 first n start).load D ((bb + i : Nat) : Int)).2.2 ≠ 0 then (((Lg.op0 first n start).ld D bb i).1, true, ((Lg.op0 first n start).load D ((bb + i : Nat) : Int)).2.2)
          else if ((Lg.op0 first n start).load D ((bb + i : Nat) : Int)).2.1 = false then (((Lg.op0 first n start).ld D bb i).1, true, 0)
          else (((Lg.op0 first n start).ld D bb i).1 ++ ((Lg.op0 first n start).load D ((bb + i : Nat) : Int)).1, decide (((Lg.op0 first n start).load D ((bb + i : Nat) : Int)).1.size < 54), 0)) := by
        rw [Lg.ld, if_neg (by rw [hn1]; simp)]
      rw [hstep, hn2]
      rcases load_ring (start := start) h hd hn hk i (by omega) with ⟨hl, hf⟩ | ⟨m, h1, h2, h3, h4, hl⟩
      · rw [hl]
        dsimp only
        rw [if_neg (fun h => h rfl), if_pos rfl]
        exact ⟨rfl, .inr ⟨rfl, 54 * i, hn3, hf, rfl⟩⟩
      · rw [hl]
        dsimp only
        rw [if_neg (fun h => h rfl), if_neg (by simp), extract_append_extract _ _ _ (by omega) h3]
        have hsz : (B.extract (54 * i) (54 * i + m)).size = m := by rw [ByteArray.size_extract]; omega
        rw [hsz]
        refine ⟨rfl, ?_⟩
        by_cases hm : m < 54
        · exact .inr ⟨by simpa using hm, 54 * i + m, h3, by omega, rfl⟩
        · obtain rfl : m = 54 := by omega
          exact .inl (.inl ⟨by simp, by rw [show 54 * (i + 1) = 54 * i + 54 by omega], by omega⟩)
    · rw [ld_stop hst (i + 1) (by omega)]
      exact ⟨ih0, .inr ⟨hst, T, hT1, hT2, hT3⟩⟩
theorem ld_all {D : Dev} {first n bb start : Nat} {B : ByteArray} {f : Nat} (h : DevHas D first n bb B f) (hd : D.down = false) (hn : 0 < n) (hk : bb + n < 72057594037927936) (hB : B.size ≤ 54 * n) (hf : f ≤ B.size) :
    ((Lg.op0 first n start).ld D bb n).2.2 = 0 ∧ ∃ T, T ≤ B.size ∧ f ≤ T ∧ ((Lg.op0 first n start).ld D bb n).1 = B.extract 0 T := by
  obtain ⟨h0, h1⟩ := ld_ring (start := start) h hd hn hk n (Nat.le_refl _)
  refine ⟨h0, ?_⟩
  rcases h1 with (⟨_, h2, h3⟩ | ⟨rfl, _⟩) | ⟨_, h2⟩
  · exact ⟨54 * n, h3, by omega, h2⟩
  · omega
  · exact h2
theorem enc_cut (P : ByteArray) (rs : List ByteArray) (i : Nat) : (P ++ encL rs).extract 0 (P.size + lenL (rs.take i)) = P ++ encL (rs.take i) := by
  have h : P ++ encL rs = (P ++ encL (rs.take i)) ++ encL (rs.drop i) := by
    rw [bytes_assoc, ← encL_append, List.take_append_drop]
  rw [h]
  have := bytes_left (P ++ encL (rs.take i)) (encL (rs.drop i))
  rw [ByteArray.size_append, encL_size] at this
  exact this
/-- what Open finds in a ring that holds a stream -/
theorem open_finds {D : Dev} {first n bb : Nat} {P : ByteArray} {rs : List ByteArray} {i0 : Nat} (hP : P.size < 54) (hr : RecOk rs) (hi0 : i0 ≤ rs.length) (h : DevHas D first n bb (P ++ encL rs) (P.size + lenL (rs.take i0))) (hd : D.down = false) (hn : 0 < n) (hk : bb + n < 72057594037927936) (hB : P.size + lenL rs ≤ 54 * n) :
    ((Lg.op0 first n (54 * bb + P.size)).ld D bb n).2.2 = 0 ∧ ∃ i, i0 ≤ i ∧ i ≤ rs.length ∧ Lg.opened first n (54 * bb + P.size) ((Lg.op0 first n (54 * bb + P.size)).ld D bb n).1 = mkLg first n bb P (rs.take i) i := by
  have hsz : (P ++ encL rs).size = P.size + lenL rs := by rw [ByteArray.size_append, encL_size]
  have hle : ∀ i, lenL (rs.take i) ≤ lenL rs := fun i => by
    have := lenL_append (rs.take i) (rs.drop i)
    rw [List.take_append_drop] at this
    omega
  obtain ⟨h0, T, hT1, hT2, hT3⟩ := ld_all (start := 54 * bb + P.size) h hd hn hk (by omega) (by have := hle i0; omega)
  refine ⟨h0, fitL T P.size rs, fitL_ge T P.size rs i0 hi0 hT2, (fitL_le T P.size rs).1, ?_⟩
  have hE := (fitL_le T P.size rs).2 (by omega)
  rw [hT3]
  have e1 : (54 * bb + P.size) / 54 = bb := by omega
  have hTs : ((P ++ encL rs).extract 0 T).size = T := by rw [ByteArray.size_extract]; omega
  have hprs := prs_enc ((54 * bb : Nat) : Int) rs P T (T + 1) hr (by omega) (by omega)
  have e2 : ((54 * bb : Nat) : Int) + P.size = ((54 * bb + P.size : Nat) : Int) := by push_cast; rfl
  rw [e2] at hprs
  unfold Lg.opened Lg.op0 mkLg
  rw [e1, show 54 * bb + P.size - 54 * bb = P.size by omega, hTs, hprs]
  dsimp only
  have htt : (rs.take (fitL T P.size rs)).take (fitL T P.size rs) = rs.take (fitL T P.size rs) := by rw [List.take_take, Nat.min_self]
  rw [htt]
  have hbuf : opB ((P ++ encL rs).extract 0 T) (P.size + lenL (rs.take (fitL T P.size rs))) = P ++ encL (rs.take (fitL T P.size rs)) := by
    unfold opB
    rw [hTs]
    by_cases hlt : P.size + lenL (rs.take (fitL T P.size rs)) < T
    · rw [if_pos hlt, cut_extract _ _ _ _ (by omega) (by omega) (by omega), enc_cut]
    · have : P.size + lenL (rs.take (fitL T P.size rs)) = T := by omega
      have h5 := enc_cut P rs (fitL T P.size rs)
      rw [this] at h5
      rw [if_neg hlt, this, Nat.sub_self, show zeros 0 = ⟨#[]⟩ from rfl, bytes_nil_right, h5]
  rw [hbuf, Nat.add_assoc]
end Go.Proofs.YtimomjheanfbmaaGreatDoor

namespace Go.Proofs.YtimomjheanfbmaaGreatDoor
open Go.RowKit

theorem zeros_num : valS ((zeros 64).extract 0 8) = 0 := by kernel_rfl
theorem SecOk.blank {bb : Nat} {B : ByteArray} {f j : Nat} (h : f ≤ 54 * j) : SecOk bb B f j (zeros 64) := .inl ⟨by rw [zeros_num]; omega, h⟩
/-- a sector as the log has it -/
theorem secAt_eq {G : Lg} {bb j : Nat} (hb : G.base = ((54 * bb : Nat) : Int)) (hj : 54 * j < G.buf.size) : G.secAt (bb + j) = secS ((bb + j : Nat) : Int) (G.buf.extract (54 * j) (54 * j + min 54 (G.buf.size - 54 * j))) := by
  unfold Lg.secAt
  rw [hb, Int.toNat_natCast, show 54 * (bb + j) - 54 * bb = 54 * j by omega, show min (54 * j + 54) G.buf.size = 54 * j + min 54 (G.buf.size - 54 * j) by omega]
theorem SecOk.now {bb j f : Nat} {B : ByteArray} (hj : 54 * j < B.size) (hf : f ≤ B.size) : SecOk bb B f j (secS ((bb + j : Nat) : Int) (B.extract (54 * j) (54 * j + min 54 (B.size - 54 * j)))) :=
  .inr ⟨min 54 (B.size - 54 * j), by omega, by omega, by omega, rfl, by omega⟩
theorem sec_size {k : Nat} {B : ByteArray} {j : Nat} (hj : 54 * j < B.size) : (secS (k : Int) (B.extract (54 * j) (54 * j + min 54 (B.size - 54 * j)))).size = 64 := secS_size _ _ (by rw [ByteArray.size_extract]; omega)
theorem RingP.at {first n bb : Nat} {B : ByteArray} {f j : Nat} {d : ByteArray} (hj : j < n) (hs : d.size = 64) (h : SecOk bb B f j d) : RingP first n bb B f (first + (bb + j) % n) d := ⟨hs, fun i hi he => by
  have := ring_inj hi hj (show (bb + i) % n = (bb + j) % n by omega)
  subst this
  exact h⟩
/-- what Flush's writes do -/
theorem fl_law {D : Dev} {G : Lg} {first n bb f j0 cnt : Nat} (hG1 : G.first = first) (hG2 : G.n = n) (hb : G.base = ((54 * bb : Nat) : Int)) (hn : 0 < n) (hB : G.buf.size ≤ 54 * n) (hf : f ≤ G.buf.size) (h : DevHas D first n bb G.buf f) (hcnt : ∀ k, k < cnt → 54 * (j0 + k) < G.buf.size) :
    ∀ k, k ≤ cnt → DevHas (G.fl D (bb + j0) k).1 first n bb G.buf f ∧ (G.fl D (bb + j0) k).1.firm.length = D.firm.length ∧ (((G.fl D (bb + j0) k).2 = 20 ∧ (G.fl D (bb + j0) k).1.down = true) ∨ ((G.fl D (bb + j0) k).2 = 0 ∧ (D.down = false → (G.fl D (bb + j0) k).1.down = false) ∧
      ∀ j, j < n → (G.fl D (bb + j0) k).1.seen.getD (first + (bb + j) % n) ⟨#[]⟩ = if j0 ≤ j ∧ j < j0 + k then secS ((bb + j : Nat) : Int) (G.buf.extract (54 * j) (54 * j + min 54 (G.buf.size - 54 * j))) else D.seen.getD (first + (bb + j) % n) ⟨#[]⟩))
  | 0, _ => ⟨h, rfl, .inr ⟨rfl, fun h => h, fun j hj => by rw [if_neg (by omega)]; rfl⟩⟩
  | k + 1, hk => by
    obtain ⟨ih1, ih2, ih3⟩ := fl_law hG1 hG2 hb hn hB hf h hcnt k (by omega)
    rcases ih3 with ⟨he, hd⟩ | ⟨he, hd, hs⟩
    · have : G.fl D (bb + j0) (k + 1) = G.fl D (bb + j0) k := fl_stop (by rw [he]; decide) (k + 1) (by omega)
      rw [this]
      exact ⟨ih1, ih2, .inl ⟨he, hd⟩⟩
    · have hj := hcnt k (by omega)
      have hjn : j0 + k < n := by omega
      have hstep : G.fl D (bb + j0) (k + 1) = (G.fl D (bb + j0) k).1.write ((first + (bb + (j0 + k)) % n : Nat) : Int) (secS ((bb + (j0 + k) : Nat) : Int) (G.buf.extract (54 * (j0 + k)) (54 * (j0 + k) + min 54 (G.buf.size - 54 * (j0 + k))))) := by
        rw [Lg.fl, if_neg (by rw [he]; decide), show bb + j0 + k = bb + (j0 + k) by omega, secAt_eq hb hj, hG1, hG2]
        congr 1
      rw [hstep]
      generalize hE : G.fl D (bb + j0) k = E at *
      obtain ⟨hok, hl, hA⟩ := ih1
      have hp := place_lt (first := first) (k := bb + (j0 + k)) hn
      have hsz := sec_size (k := bb + (j0 + k)) hj
      have hSO := SecOk.now (bb := bb) (f := f) hj hf
      generalize hX : secS ((bb + (j0 + k) : Nat) : Int) (G.buf.extract (54 * (j0 + k)) (54 * (j0 + k) + min 54 (G.buf.size - 54 * (j0 + k)))) = X at *
      have hlen := write_len E.1 ((first + (bb + (j0 + k)) % n : Nat) : Int) X
      have hA' := hA.write ((first + (bb + (j0 + k)) % n : Nat) : Int) X (by omega) (by omega) hsz hok.2.2.1 (by rw [Int.toNat_natCast]; exact RingP.at hjn hsz hSO)
      refine ⟨⟨Dev.write_ok hok _ _, by rw [hlen.1]; exact hl, hA'⟩, by rw [hlen.1, ih2], ?_⟩
      rcases write_cases E.1 ((first + (bb + (j0 + k)) % n : Nat) : Int) X (by omega) (by omega) hsz with ⟨c1, _, c2⟩ | ⟨c0, c1, _, c3, _, c4⟩
      · exact .inl ⟨c1, c2⟩
      · refine .inr ⟨c1, fun _ => c4, fun j hj' => ?_⟩
        rw [c3, Int.toNat_natCast, getD_set _ _ _ _ _ (by have := place_lt (first := first) (k := bb + j) hn; have := hok.2.2.1; omega), hs j hj']
        by_cases hjj : j = j0 + k
        · subst hjj
          rw [if_pos rfl, if_pos (by omega)]
          exact hX.symm
        · rw [if_neg (fun he => hjj (ring_inj hj' hjn (show (bb + j) % n = (bb + (j0 + k)) % n by omega)))]
          by_cases hr : j0 ≤ j ∧ j < j0 + k
          · rw [if_pos hr, if_pos (by omega)]
          · rw [if_neg hr, if_neg (by omega)]
/-- what Flush does -/
theorem flush_law {D : Dev} {G : Lg} {first n bb f j0 cnt : Nat} (hG1 : G.first = first) (hG2 : G.n = n) (hb : G.base = ((54 * bb : Nat) : Int)) (hn : 0 < n) (hB : G.buf.size ≤ 54 * n) (hf : f ≤ G.buf.size) (hj0 : j0 = f / 54) (h : DevHas D first n bb G.buf f) (hcnt : ∀ k, k < cnt ↔ 54 * (j0 + k) < G.buf.size) :
    DevHas (G.flushed D (bb + j0) cnt).2.1 first n bb G.buf f ∧ (((G.flushed D (bb + j0) cnt).2.2 = 20 ∧ (G.flushed D (bb + j0) cnt).1 = G ∧ (G.flushed D (bb + j0) cnt).2.1.down = true) ∨ ((G.flushed D (bb + j0) cnt).2.2 = 0 ∧ (G.flushed D (bb + j0) cnt).1 = { G with firm := G.fin } ∧ (D.down = false → (G.flushed D (bb + j0) cnt).2.1.down = false) ∧ (G.flushed D (bb + j0) cnt).2.1.soft = [] ∧ DevHas (G.flushed D (bb + j0) cnt).2.1 first n bb G.buf G.buf.size)) := by
  obtain ⟨h1, h2, h3⟩ := fl_law hG1 hG2 hb hn hB hf h (fun k hk => (hcnt k).1 hk) cnt (Nat.le_refl _)
  unfold Lg.flushed
  rcases h3 with ⟨he, hd⟩ | ⟨he, hd, hs⟩
  · rw [if_pos (by rw [he]; decide)]
    exact ⟨h1, .inl ⟨he, rfl, hd⟩⟩
  · rw [if_neg (by rw [he]; decide)]
    generalize hE : G.fl D (bb + j0) cnt = E at *
    obtain ⟨hok, hl, hA⟩ := h1
    rcases barrier_cases E.1 with ⟨c1, c2, c3⟩ | ⟨c0, c1, c2, c3, c4, c5⟩
    · rw [if_pos (by rw [c1]; decide)]
      exact ⟨⟨Dev.barrier_ok hok, by rw [c2.1]; exact hl, hA.same c2⟩, .inl ⟨c1, rfl, c3⟩⟩
    · rw [if_neg (by rw [c1]; decide)]
      refine ⟨⟨Dev.barrier_ok hok, ?_, hA.barrier hok.2.2.1⟩, .inr ⟨rfl, rfl, fun _ => c5, c4, Dev.barrier_ok hok, ?_, ?_⟩⟩
      · show _ ≤ E.1.barrier.1.firm.length; rw [c2]; have := hok.2.2.1; omega
      · show _ ≤ E.1.barrier.1.firm.length; rw [c2]; have := hok.2.2.1; omega
      · have hseen : ∀ p, p < E.1.seen.length → RingP first n bb G.buf G.buf.size p (E.1.seen.getD p ⟨#[]⟩) := fun p hp => by
          have hold := hA.2.1 p hp
          refine ⟨hold.1, fun j hj hpj => ?_⟩
          subst hpj
          rw [hs j hj]
          by_cases hr : j0 ≤ j ∧ j < j0 + cnt
          · rw [if_pos hr]
            refine SecOk.now ?_ (Nat.le_refl _)
            have := (hcnt (j - j0)).1 (by omega)
            rwa [show j0 + (j - j0) = j by omega] at this
          · rw [if_neg hr]
            have hO := hold.2 j hj rfl
            rw [hs j hj, if_neg hr] at hO
            by_cases hjl : j < j0
            · rcases hO with ⟨_, h2⟩ | ⟨m, m1, m2, m3, m4, m5⟩
              · omega
              · exact .inr ⟨m, m1, m2, m3, m4, by omega⟩
            · have hge : G.buf.size ≤ 54 * j := by
                have h5 : ¬ (j - j0 < cnt) := by omega
                have := mt (hcnt (j - j0)).2 h5
                rw [show j0 + (j - j0) = j by omega] at this
                omega
              rcases hO with ⟨h1, _⟩ | ⟨m, m1, m2, m3, m4, m5⟩
              · exact .inl ⟨h1, hge⟩
              · omega
        show AllP _ E.1.barrier.1
        unfold AllP
        rw [c2, c3, c4]
        exact ⟨hseen, hseen, fun x hx => by cases hx⟩
end Go.Proofs.YtimomjheanfbmaaGreatDoor
