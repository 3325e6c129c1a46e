import Derived.Test.YtafiojmbaickpaaWalP
set_option linter.unusedSimpArgs false
set_option linter.unusedVariables false
namespace Go.Proofs.Ytafiojmbaickpaa
open Go.RowKit

theorem zeros_num : valS ((zeros 64).extract 0 8) = 0 := by kernel_rfl
theorem SecOk.blank {bb : Nat} {B : ByteArray} {f j : Nat} (h : f ≤ 54 * j) : SecOk bb B f j (zeros 64) := .inl ⟨by rw [zeros_num]; omega, h⟩
/-- a sector as the log has it -/
theorem secAt_eq {G : Lg} {bb j : Nat} (hb : G.base = ((54 * bb : Nat) : Int)) (hj : 54 * j < G.buf.size) : G.secAt (bb + j) = secS ((bb + j : Nat) : Int) (G.buf.extract (54 * j) (54 * j + min 54 (G.buf.size - 54 * j))) := by
  unfold Lg.secAt
  rw [hb, Int.toNat_natCast, show 54 * (bb + j) - 54 * bb = 54 * j by omega, show min (54 * j + 54) G.buf.size = 54 * j + min 54 (G.buf.size - 54 * j) by omega]
theorem SecOk.now {bb j f : Nat} {B : ByteArray} (hj : 54 * j < B.size) (hf : f ≤ B.size) : SecOk bb B f j (secS ((bb + j : Nat) : Int) (B.extract (54 * j) (54 * j + min 54 (B.size - 54 * j)))) :=
  .inr ⟨min 54 (B.size - 54 * j), by omega, by omega, by omega, rfl, by omega⟩
theorem sec_size {k : Nat} {B : ByteArray} {j : Nat} (hj : 54 * j < B.size) : (secS (k : Int) (B.extract (54 * j) (54 * j + min 54 (B.size - 54 * j)))).size = 64 := secS_size _ _ (by rw [ByteArray.size_extract]; omega)
theorem RingP.at {first n bb : Nat} {B : ByteArray} {f j : Nat} {d : ByteArray} (hj : j < n) (hs : d.size = 64) (h : SecOk bb B f j d) : RingP first n bb B f (first + (bb + j) % n) d := ⟨hs, fun i hi he => by
  have := ring_inj hi hj (show (bb + i) % n = (bb + j) % n by omega)
  subst this
  exact h⟩
/-- what Flush's writes do -/
theorem fl_law {D : Dev} {G : Lg} {first n bb f j0 cnt : Nat} (hG1 : G.first = first) (hG2 : G.n = n) (hb : G.base = ((54 * bb : Nat) : Int)) (hn : 0 < n) (hB : G.buf.size ≤ 54 * n) (hf : f ≤ G.buf.size) (h : DevHas D first n bb G.buf f) (hcnt : ∀ k, k < cnt → 54 * (j0 + k) < G.buf.size) :
    ∀ k, k ≤ cnt → DevHas (G.fl D (bb + j0) k).1 first n bb G.buf f ∧ (G.fl D (bb + j0) k).1.firm.length = D.firm.length ∧ (((G.fl D (bb + j0) k).2 = 20 ∧ (G.fl D (bb + j0) k).1.down = true) ∨ ((G.fl D (bb + j0) k).2 = 0 ∧ (D.down = false → (G.fl D (bb + j0) k).1.down = false) ∧
      ∀ j, j < n → (G.fl D (bb + j0) k).1.seen.getD (first + (bb + j) % n) ⟨#[]⟩ = if j0 ≤ j ∧ j < j0 + k then secS ((bb + j : Nat) : Int) (G.buf.extract (54 * j) (54 * j + min 54 (G.buf.size - 54 * j))) else D.seen.getD (first + (bb + j) % n) ⟨#[]⟩))
  | 0, _ => ⟨h, rfl, .inr ⟨rfl, fun h => h, fun j hj => by rw [if_neg (by omega)]; rfl⟩⟩
  | k + 1, hk => by
    obtain ⟨ih1, ih2, ih3⟩ := fl_law hG1 hG2 hb hn hB hf h hcnt k (by omega)
    rcases ih3 with ⟨he, hd⟩ | ⟨he, hd, hs⟩
    · have : G.fl D (bb + j0) (k + 1) = G.fl D (bb + j0) k := fl_stop (by rw [he]; decide) (k + 1) (by omega)
      rw [this]
      exact ⟨ih1, ih2, .inl ⟨he, hd⟩⟩
    · have hj := hcnt k (by omega)
      have hjn : j0 + k < n := by omega
      have hstep : G.fl D (bb + j0) (k + 1) = (G.fl D (bb + j0) k).1.write ((first + (bb + (j0 + k)) % n : Nat) : Int) (secS ((bb + (j0 + k) : Nat) : Int) (G.buf.extract (54 * (j0 + k)) (54 * (j0 + k) + min 54 (G.buf.size - 54 * (j0 + k))))) := by
        rw [Lg.fl, if_neg (by rw [he]; decide), show bb + j0 + k = bb + (j0 + k) by omega, secAt_eq hb hj, hG1, hG2]
        congr 1
      rw [hstep]
      generalize hE : G.fl D (bb + j0) k = E at *
      obtain ⟨hok, hl, hA⟩ := ih1
      have hp := place_lt (first := first) (k := bb + (j0 + k)) hn
      have hsz := sec_size (k := bb + (j0 + k)) hj
      have hSO := SecOk.now (bb := bb) (f := f) hj hf
      generalize hX : secS ((bb + (j0 + k) : Nat) : Int) (G.buf.extract (54 * (j0 + k)) (54 * (j0 + k) + min 54 (G.buf.size - 54 * (j0 + k)))) = X at *
      have hlen := write_len E.1 ((first + (bb + (j0 + k)) % n : Nat) : Int) X
      have hA' := hA.write ((first + (bb + (j0 + k)) % n : Nat) : Int) X (by omega) (by omega) hsz hok.2.2.1 (by rw [Int.toNat_natCast]; exact RingP.at hjn hsz hSO)
      refine ⟨⟨Dev.write_ok hok _ _, by rw [hlen.1]; exact hl, hA'⟩, by rw [hlen.1, ih2], ?_⟩
      rcases write_cases E.1 ((first + (bb + (j0 + k)) % n : Nat) : Int) X (by omega) (by omega) hsz with ⟨c1, _, c2⟩ | ⟨c0, c1, _, c3, _, c4⟩
      · exact .inl ⟨c1, c2⟩
      · refine .inr ⟨c1, fun _ => c4, fun j hj' => ?_⟩
        rw [c3, Int.toNat_natCast, getD_set _ _ _ _ _ (by have := place_lt (first := first) (k := bb + j) hn; have := hok.2.2.1; omega), hs j hj']
        by_cases hjj : j = j0 + k
        · subst hjj
          rw [if_pos rfl, if_pos (by omega)]
          exact hX.symm
        · rw [if_neg (fun he => hjj (ring_inj hj' hjn (show (bb + j) % n = (bb + (j0 + k)) % n by omega)))]
          by_cases hr : j0 ≤ j ∧ j < j0 + k
          · rw [if_pos hr, if_pos (by omega)]
          · rw [if_neg hr, if_neg (by omega)]
/-- what Flush does -/
theorem flush_law {D : Dev} {G : Lg} {first n bb f j0 cnt : Nat} (hG1 : G.first = first) (hG2 : G.n = n) (hb : G.base = ((54 * bb : Nat) : Int)) (hn : 0 < n) (hB : G.buf.size ≤ 54 * n) (hf : f ≤ G.buf.size) (hj0 : j0 = f / 54) (h : DevHas D first n bb G.buf f) (hcnt : ∀ k, k < cnt ↔ 54 * (j0 + k) < G.buf.size) :
    DevHas (G.flushed D (bb + j0) cnt).2.1 first n bb G.buf f ∧ (((G.flushed D (bb + j0) cnt).2.2 = 20 ∧ (G.flushed D (bb + j0) cnt).1 = G ∧ (G.flushed D (bb + j0) cnt).2.1.down = true) ∨ ((G.flushed D (bb + j0) cnt).2.2 = 0 ∧ (G.flushed D (bb + j0) cnt).1 = { G with firm := G.fin } ∧ (D.down = false → (G.flushed D (bb + j0) cnt).2.1.down = false) ∧ (G.flushed D (bb + j0) cnt).2.1.soft = [] ∧ DevHas (G.flushed D (bb + j0) cnt).2.1 first n bb G.buf G.buf.size)) := by
  obtain ⟨h1, h2, h3⟩ := fl_law hG1 hG2 hb hn hB hf h (fun k hk => (hcnt k).1 hk) cnt (Nat.le_refl _)
  unfold Lg.flushed
  rcases h3 with ⟨he, hd⟩ | ⟨he, hd, hs⟩
  · rw [if_pos (by rw [he]; decide)]
    exact ⟨h1, .inl ⟨he, rfl, hd⟩⟩
  · rw [if_neg (by rw [he]; decide)]
    generalize hE : G.fl D (bb + j0) cnt = E at *
    obtain ⟨hok, hl, hA⟩ := h1
    rcases barrier_cases E.1 with ⟨c1, c2, c3⟩ | ⟨c0, c1, c2, c3, c4, c5⟩
    · rw [if_pos (by rw [c1]; decide)]
      exact ⟨⟨Dev.barrier_ok hok, by rw [c2.1]; exact hl, hA.same c2⟩, .inl ⟨c1, rfl, c3⟩⟩
    · rw [if_neg (by rw [c1]; decide)]
      refine ⟨⟨Dev.barrier_ok hok, ?_, hA.barrier hok.2.2.1⟩, .inr ⟨rfl, rfl, fun _ => c5, c4, Dev.barrier_ok hok, ?_, ?_⟩⟩
      · show _ ≤ E.1.barrier.1.firm.length; rw [c2]; have := hok.2.2.1; omega
      · show _ ≤ E.1.barrier.1.firm.length; rw [c2]; have := hok.2.2.1; omega
      · have hseen : ∀ p, p < E.1.seen.length → RingP first n bb G.buf G.buf.size p (E.1.seen.getD p ⟨#[]⟩) := fun p hp => by
          have hold := hA.2.1 p hp
          refine ⟨hold.1, fun j hj hpj => ?_⟩
          subst hpj
          rw [hs j hj]
          by_cases hr : j0 ≤ j ∧ j < j0 + cnt
          · rw [if_pos hr]
            refine SecOk.now ?_ (Nat.le_refl _)
            have := (hcnt (j - j0)).1 (by omega)
            rwa [show j0 + (j - j0) = j by omega] at this
          · rw [if_neg hr]
            have hO := hold.2 j hj rfl
            rw [hs j hj, if_neg hr] at hO
            by_cases hjl : j < j0
            · rcases hO with ⟨_, h2⟩ | ⟨m, m1, m2, m3, m4, m5⟩
              · omega
              · exact .inr ⟨m, m1, m2, m3, m4, by omega⟩
            · have hge : G.buf.size ≤ 54 * j := by
                have h5 : ¬ (j - j0 < cnt) := by omega
                have := mt (hcnt (j - j0)).2 h5
                rw [show j0 + (j - j0) = j by omega] at this
                omega
              rcases hO with ⟨h1, _⟩ | ⟨m, m1, m2, m3, m4, m5⟩
              · exact .inl ⟨h1, hge⟩
              · omega
        show AllP _ E.1.barrier.1
        unfold AllP
        rw [c2, c3, c4]
        exact ⟨hseen, hseen, fun x hx => by cases hx⟩
end Go.Proofs.Ytafiojmbaickpaa
