import Derived.Test.YtimomjheanfbmaaGreatDoorMat
import Derived.Test.YtimomjheanfbmaaGreatDoorMas
set_option linter.unusedSimpArgs false
set_option linter.unusedVariables false
namespace Go.Proofs.YtimomjheanfbmaaGreatDoor
open Go.RowKit

theorem zeros_num : valS ((zeros 64).extract 0 8) = 0 := by kernel_rfl
theorem SecOk.blank {bb : Nat} {B : ByteArray} {f j : Nat} (h : f ≤ 54 * j) : SecOk bb B f j (zeros 64) := .inl ⟨by rw [zeros_num]; omega, h⟩
/-- a sector as the log has it -/
theorem secAt_eq {G : Lg} {bb j : Nat} (hb : G.base = ((54 * bb : Nat) : Int)) (hj : 54 * j < G.buf.size) : G.secAt (bb + j) = secS ((bb + j : Nat) : Int) (G.buf.extract (54 * j) (54 * j + min 54 (G.buf.size - 54 * j))) := by
  unfold Lg.secAt
  rw [hb, Int.toNat_natCast, show 54 * (bb + j) - 54 * bb = 54 * j by omega, show min (54 * j + 54) G.buf.size = 54 * j + min 54 (G.buf.size - 54 * j) by omega]
theorem SecOk.now {bb j f : Nat} {B : ByteArray} (hj : 54 * j < B.size) (hf : f ≤ B.size) : SecOk bb B f j (secS ((bb + j : Nat) : Int) (B.extract (54 * j) (54 * j + min 54 (B.size - 54 * j)))) :=
  .inr ⟨min 54 (B.size - 54 * j), by omega, by omega, by omega, rfl, by omega⟩
theorem sec_size {k : Nat} {B : ByteArray} {j : Nat} (hj : 54 * j < B.size) : (secS (k : Int) (B.extract (54 * j) (54 * j + min 54 (B.size - 54 * j)))).size = 64 := secS_size _ _ (by rw [ByteArray.size_extract]; omega)
theorem RingP.at {first n bb : Nat} {B : ByteArray} {f j : Nat} {d : ByteArray} (hj : j < n) (hs : d.size = 64) (h : SecOk bb B f j d) : RingP first n bb B f (first + (bb + j) % n) d := ⟨hs, fun i hi he => by
  have := ring_inj hi hj (show (bb + i) % n = (bb + j) % n by omega)
  subst this
  exact h⟩
/-- what Flush's writes do -/
theorem fl_law {D : Dev} {G : Lg} {first n bb f j0 cnt : Nat} (hG1 : G.first = first) (hG2 : G.n = n) (hb : G.base = ((54 * bb : Nat) : Int)) (hn : 0 < n) (hB : G.buf.size ≤ 54 * n) (hf : f ≤ G.buf.size) (h : DevHas D first n bb G.buf f) (hcnt : ∀ k, k < cnt → 54 * (j0 + k) < G.buf.size) :
    ∀ k, k ≤ cnt → DevHas (G.fl D (bb + j0) k).1 first n bb G.buf f ∧ (G.fl D (bb + j0) k).1.firm.length = D.firm.length ∧ (((G.fl D (bb + j0) k).2 = 20 ∧ (G.fl D (bb + j0) k).1.down = true) ∨ ((G.fl D (bb + j0) k).2 = 0 ∧ (D.down = false → (G.fl D (bb + j0) k).1.down = false) ∧
      ∀ j, j < n → (G.fl D (bb + j0) k).1.seen.getD (first + (bb + j) % n) ⟨#[]⟩ = if j0 ≤ j ∧ j < j0 + k then secS ((bb + j : Nat) : Int) (G.buf.extract (54 * j) (54 * j + min 54 (G.buf.size - 54 * j))) else D.seen.getD (first + (bb + j) % n) ⟨#[]⟩))
  | 0, _ => ⟨h, rfl, .inr ⟨rfl, fun h => h, fun j hj => by rw [if_neg (by omega)]; rfl⟩⟩
  | k + 1, hk => by
    obtain ⟨ih1, ih2, ih3⟩ := fl_law hG1 hG2 hb hn hB hf h hcnt k (by omega)
    rcases ih3 with ⟨he, hd⟩ | ⟨he, hd, hs⟩
    · have : G.fl D (bb + j0) (k + 1) = G.fl D (bb + j0) k := fl_stop (by rw [he]; decide) (k + 1) (by omega)
      rw [this]
      exact ⟨ih1, ih2, .inl ⟨he, hd⟩⟩
    · have hj := hcnt k (by omega)
      have hjn : j0 + k < n := by omega
      have hstep : G.fl D (bb + j0) (k + 1) = (G.fl D (bb + j0) k).1.write ((first + (bb + (j0 + k)) % n : Nat) : Int) (secS ((bb + (j0 + k) : Nat) : Int) (G.buf.extract (54 * (j0 + k)) (54 * (j0 + k) + min 54 (G.buf.size - 54 * (j0 + k))))) := by
        rw [Lg.fl, if_neg (by rw [he]; decide), show bb + j0 + k = bb + (j0 + k) by omega, secAt_eq hb hj, hG1, hG2]
        congr 1
      rw [hstep]
      generalize hE : G.fl D (bb + j0) k = E at *
      obtain ⟨hok, hl, hA⟩ := ih1
      have hp := place_lt (first := first) (k := bb + (j0 + k)) hn
      have hsz := sec_size (k := bb + (j0 + k)) hj
      have hSO := SecOk.now (bb := bb) (f := f) hj hf
      generalize hX : secS ((bb + (j0 + k) : Nat) : Int) (G.buf.extract (54 * (j0 + k)) (54 * (j0 + k) + min 54 (G.buf.size - 54 * (j0 + k)))) = X at *
      have hlen := write_len E.1 ((first + (bb + (j0 + k)) % n : Nat) : Int) X
      have hA' := hA.write ((first + (bb + (j0 + k)) % n : Nat) : Int) X (by omega) (by omega) hsz hok.2.2.1 (by rw [Int.toNat_natCast]; exact RingP.at hjn hsz hSO)
      refine ⟨⟨Dev.write_ok hok _ _, by rw [hlen.1]; exact hl, hA'⟩, by rw [hlen.1, ih2], ?_⟩
      rcases write_cases E.1 ((first + (bb + (j0 + k)) % n : Nat) : Int) X (by omega) (by omega) hsz with ⟨c1, _, c2⟩ | ⟨c0, c1, _, c3, _, c4⟩
      · exact .inl ⟨c1, c2⟩
      · refine .inr ⟨c1, fun _ => c4, fun j hj' => ?_⟩
        rw [c3, Int.toNat_natCast, getD_set _ _ _ _ _ (by have := place_lt (first := first) (k := bb + j) hn; have := hok.2.2.1; omega), hs j hj']
        by_cases hjj : j = j0 + k
        · subst hjj
          rw [if_pos rfl, if_pos (by omega)]
          exact hX.symm
        · rw [if_neg (fun he => hjj (ring_inj hj' hjn (show (bb + j) % n = (bb + (j0 + k)) % n by omega)))]
          by_cases hr : j0 ≤ j ∧ j < j0 + k
          · rw [if_pos hr, if_pos (by omega)]
          · rw [if_neg hr, if_neg (by omega)]
/-- what Flush does -/
theorem flush_law {D : Dev} {G : Lg} {first n bb f j0 cnt : Nat} (hG1 : G.first = first) (hG2 : G.n = n) (hb : G.base = ((54 * bb : Nat) : Int)) (hn : 0 < n) (hB : G.buf.size ≤ 54 * n) (hf : f ≤ G.buf.size) (hj0 : j0 = f / 54) (h : DevHas D first n bb G.buf f) (hcnt : ∀ k, k < cnt ↔ 54 * (j0 + k) < G.buf.size) :
    DevHas (G.flushed D (bb + j0) cnt).2.1 first n bb G.buf f ∧ (((G.flushed D (bb + j0) cnt).2.2 = 20 ∧ (G.flushed D (bb + j0) cnt).1 = G ∧ (G.flushed D (bb + j0) cnt).2.1.down = true) ∨ ((G.flushed D (bb + j0) cnt).2.2 = 0 ∧ (G.flushed D (bb + j0) cnt).1 = { G with firm := G.fin } ∧ (D.down = false → (G.flushed D (bb + j0) cnt).2.1.down = false) ∧ (G.flushed D (bb + j0) cnt).2.1.soft = [] ∧ DevHas (G.flushed D (bb + j0) cnt).2.1 first n bb G.buf G.buf.size)) := by
  obtain ⟨h1, h2, h3⟩ := fl_law hG1 hG2 hb hn hB hf h (fun k hk => (hcnt k).1 hk) cnt (Nat.le_refl _)
  unfold Lg.flushed
  rcases h3 with ⟨he, hd⟩ | ⟨he, hd, hs⟩
  · rw [if_pos (by rw [he]; decide)]
    exact ⟨h1, .inl ⟨he, rfl, hd⟩⟩
  · rw [if_neg (by rw [he]; decide)]
    generalize hE : G.fl D (bb + j0) cnt = E at *
    obtain ⟨hok, hl, hA⟩ := h1
    rcases barrier_cases E.1 with ⟨c1, c2, c3⟩ | ⟨c0, c1, c2, c3, c4, c5⟩
    · rw [if_pos (by rw [c1]; decide)]
      exact ⟨⟨Dev.barrier_ok hok, by rw [c2.1]; exact hl, hA.same c2⟩, .inl ⟨c1, rfl, c3⟩⟩
    · rw [if_neg (by rw [c1]; decide)]
      refine ⟨⟨Dev.barrier_ok hok, ?_, hA.barrier hok.2.2.1⟩, .inr ⟨rfl, rfl, fun _ => c5, c4, Dev.barrier_ok hok, ?_, ?_⟩⟩
      · show _ ≤ E.1.barrier.1.firm.length; rw [c2]; have := hok.2.2.1; omega
      · show _ ≤ E.1.barrier.1.firm.length; rw [c2]; have := hok.2.2.1; omega
      · have hseen : ∀ p, p < E.1.seen.length → RingP first n bb G.buf G.buf.size p (E.1.seen.getD p ⟨#[]⟩) := fun p hp => by
          have hold := hA.2.1 p hp
          refine ⟨hold.1, fun j hj hpj => ?_⟩
          subst hpj
          rw [hs j hj]
          by_cases hr : j0 ≤ j ∧ j < j0 + cnt
          · rw [if_pos hr]
            refine SecOk.now ?_ (Nat.le_refl _)
            have := (hcnt (j - j0)).1 (by omega)
            rwa [show j0 + (j - j0) = j by omega] at this
          · rw [if_neg hr]
            have hO := hold.2 j hj rfl
            rw [hs j hj, if_neg hr] at hO
            by_cases hjl : j < j0
            · rcases hO with ⟨_, h2⟩ | ⟨m, m1, m2, m3, m4, m5⟩
              · omega
              · exact .inr ⟨m, m1, m2, m3, m4, by omega⟩
            · have hge : G.buf.size ≤ 54 * j := by
                have h5 : ¬ (j - j0 < cnt) := by omega
                have := mt (hcnt (j - j0)).2 h5
                rw [show j0 + (j - j0) = j by omega] at this
                omega
              rcases hO with ⟨h1, _⟩ | ⟨m, m1, m2, m3, m4, m5⟩
              · exact .inl ⟨h1, hge⟩
              · omega
        show AllP _ E.1.barrier.1
        unfold AllP
        rw [c2, c3, c4]
        exact ⟨hseen, hseen, fun x hx => by cases hx⟩
end Go.Proofs.YtimomjheanfbmaaGreatDoor

namespace Go.Proofs.YtimomjheanfbmaaGreatDoor
open Go.RowKit

theorem kept_law {G : Lg} {bb n : Nat} (hG2 : G.n = n) (hn : 0 < n) : ∀ c, c ≤ n → ∀ j, j < n → G.keptP bb c (((bb + j) % n : Nat) : Int) = if j < c then some (G.secAt (bb + j)) else none
  | 0, _, j, _ => by rw [if_neg (by omega)]; rfl
  | c + 1, hc, j, hj => by
    rw [Lg.keptP, hG2]
    have ih := kept_law (bb := bb) hG2 hn c (by omega) j hj
    show (if (((bb + j) % n : Nat) : Int) = ((bb + c : Nat) : Int) % (n : Int) then _ else _) = _
    have e1 : ((bb + c : Nat) : Int) % (n : Int) = (((bb + c) % n : Nat) : Int) := by push_cast; rfl
    rw [e1]
    by_cases h : j = c
    · subst h; rw [if_pos rfl, if_pos (by omega)]
    · rw [if_neg (fun he => h (ring_inj (bb := bb) hj (show c < n by omega) (by omega))), ih]
      by_cases hlt : j < c
      · rw [if_pos hlt, if_pos (by omega)]
      · rw [if_neg hlt, if_neg (by omega)]
/-- what the ring's sector j should be -/
def wantS (G : Lg) (bb j : Nat) : ByteArray := if 54 * j < G.buf.size then secS ((bb + j : Nat) : Int) (G.buf.extract (54 * j) (54 * j + min 54 (G.buf.size - 54 * j))) else zeros 64
theorem want_law {G : Lg} {bb n : Nat} (hG2 : G.n = n) (hn : 0 < n) (hb : G.base = ((54 * bb : Nat) : Int)) (hB : G.buf.size ≤ 54 * n) (j : Nat) (hj : j < n) : (G.keptP bb ((G.buf.size + 53) / 54) (((bb + j) % n : Nat) : Int)).getD (zeros 64) = wantS G bb j := by
  rw [kept_law hG2 hn _ (by omega) j hj]
  unfold wantS
  by_cases h : 54 * j < G.buf.size
  · rw [if_pos (by omega), if_pos h, Option.getD_some, secAt_eq hb h]
  · rw [if_neg (by omega), if_neg h, Option.getD_none]
theorem want_size (G : Lg) (bb j : Nat) : (wantS G bb j).size = 64 := by
  unfold wantS
  split
  · rename_i h; exact sec_size h
  · exact zeros_size 64
theorem wp_law {D : Dev} {G : Lg} {first n bb f : Nat} {B : ByteArray} (hG1 : G.first = first) (hG2 : G.n = n) (hb : G.base = ((54 * bb : Nat) : Int)) (hn : 0 < n) (hB : G.buf.size ≤ 54 * n) (hBB : B.extract 0 G.buf.size = G.buf) (hBs : G.buf.size ≤ B.size) (hf : f ≤ G.buf.size) (h : DevHas D first n bb B f) (hd : D.down = false) (M : Int → Option ByteArray) (hM : M = G.keptP bb ((G.buf.size + 53) / 54)) :
    ∀ i, i ≤ n → DevHas (G.wp D M i).1 first n bb B f ∧ (((G.wp D M i).2 = 20 ∧ (G.wp D M i).1.down = true) ∨ ((G.wp D M i).2 = 0 ∧ (G.wp D M i).1.down = false ∧ ∀ j, j < n → (bb + j) % n < i → (G.wp D M i).1.seen.getD (first + (bb + j) % n) ⟨#[]⟩ = wantS G bb j))
  | 0, _ => ⟨h, .inr ⟨rfl, hd, fun j hj hlt => absurd hlt (Nat.not_lt_zero _)⟩⟩
  | i + 1, hi => by
    obtain ⟨ih1, ih2⟩ := wp_law hG1 hG2 hb hn hB hBB hBs hf h hd M hM i (by omega)
    rcases ih2 with ⟨he, hdn⟩ | ⟨he, hdn, hs⟩
    · have : G.wp D M (i + 1) = G.wp D M i := wp_stop (by rw [he]; decide) (i + 1) (by omega)
      rw [this]
      exact ⟨ih1, .inl ⟨he, hdn⟩⟩
    · obtain ⟨j, hj, hji⟩ := ring_surj (bb := bb) (show i < n by omega)
      have hw := want_law hG2 hn hb hB j hj
      rw [hji, ← hM] at hw
      have hws := want_size G bb j
      have hSO : SecOk bb B f j (wantS G bb j) := by
        unfold wantS
        by_cases hlt : 54 * j < G.buf.size
        · rw [if_pos hlt]
          refine .inr ⟨min 54 (G.buf.size - 54 * j), by omega, by omega, by omega, ?_, by omega⟩
          conv => lhs; rw [← hBB]
          rw [hBB, ← cut_extract B G.buf.size _ _ (by omega) (by omega) hBs, hBB]
        · rw [if_neg hlt]
          exact SecOk.blank (by omega)
      rw [Lg.wp, if_neg (by rw [he]; decide), hw, hG1]
      generalize hE : G.wp D M i = E at *
      have hrd := read_ring ih1 hdn hn j hj
      have epl : (first : Int) + ((bb + j : Nat) : Int) % (n : Int) = (first : Int) + (i : Nat) := by
        have : ((bb + j : Nat) : Int) % (n : Int) = (((bb + j) % n : Nat) : Int) := by push_cast; rfl
        rw [this, hji]
      rw [epl, hji] at hrd
      obtain ⟨d, hr, hdd, hds, -⟩ := hrd
      rw [hr]
      dsimp only
      rw [if_neg (fun h => h rfl)]
      by_cases hq : d = wantS G bb j
      · rw [if_pos hq]
        refine ⟨ih1, .inr ⟨he, hdn, fun j' hj' hlt => ?_⟩⟩
        by_cases hjj : (bb + j') % n = i
        · have := ring_inj (bb := bb) hj' hj (by omega)
          subst this
          rw [hjj, ← hdd, hq]
        · exact hs j' hj' (by omega)
      · rw [if_neg hq]
        obtain ⟨hok, hl, hA⟩ := ih1
        generalize hX : wantS G bb j = X at *
        have e2 : ((first : Int) + (i : Nat)).toNat = first + i := by omega
        have hlen := write_len E.1 ((first : Int) + (i : Nat)) X
        have hRP : RingP first n bb B f (first + i) X := by
          have := RingP.at (first := first) hj hws hSO
          rwa [hji] at this
        have hA' := hA.write ((first : Int) + (i : Nat)) X (by omega) (by omega) hws hok.2.2.1 (by rw [e2]; exact hRP)
        refine ⟨⟨Dev.write_ok hok _ _, by rw [hlen.1]; exact hl, hA'⟩, ?_⟩
        rcases write_cases E.1 ((first : Int) + (i : Nat)) X (by omega) (by omega) hws with ⟨c1, _, c2⟩ | ⟨c0, c1, _, c3, _, c4⟩
        · exact .inl ⟨c1, c2⟩
        · refine .inr ⟨c1, c4, fun j' hj' hlt => ?_⟩
          rw [c3, e2, getD_set _ _ _ _ _ (by have := place_lt (first := first) (k := bb + j') hn; have := hok.2.2.1; omega)]
          by_cases hjj : (bb + j') % n = i
          · have := ring_inj (bb := bb) hj' hj (by omega)
            subst this
            rw [if_pos (by omega), hX]
          · rw [if_neg (by omega)]
            exact hs j' hj' (by omega)
theorem wipe_law {D : Dev} {G : Lg} {first n bb f : Nat} {B : ByteArray} (hG1 : G.first = first) (hG2 : G.n = n) (hb : G.base = ((54 * bb : Nat) : Int)) (hn : 0 < n) (hB : G.buf.size ≤ 54 * n) (hBB : B.extract 0 G.buf.size = G.buf) (hBs : G.buf.size ≤ B.size) (hf : f ≤ G.buf.size) (h : DevHas D first n bb B f) (hd : D.down = false) :
    DevHas (G.wiped D (G.keptP bb ((G.buf.size + 53) / 54))).1 first n bb B f ∧ (((G.wiped D (G.keptP bb ((G.buf.size + 53) / 54))).2 = 20 ∧ (G.wiped D (G.keptP bb ((G.buf.size + 53) / 54))).1.down = true) ∨ ((G.wiped D (G.keptP bb ((G.buf.size + 53) / 54))).2 = 0 ∧ (G.wiped D (G.keptP bb ((G.buf.size + 53) / 54))).1.down = false ∧ (G.wiped D (G.keptP bb ((G.buf.size + 53) / 54))).1.soft = [] ∧ DevHas (G.wiped D (G.keptP bb ((G.buf.size + 53) / 54))).1 first n bb G.buf G.buf.size)) := by
  obtain ⟨h1, h2⟩ := wp_law hG1 hG2 hb hn hB hBB hBs hf h hd _ rfl n (Nat.le_refl _)
  unfold Lg.wiped
  rw [hG2, Int.toNat_natCast]
  generalize G.keptP bb ((G.buf.size + 53) / 54) = M at *
  rcases h2 with ⟨he, hdn⟩ | ⟨he, hdn, hs⟩
  · rw [if_pos (by rw [he]; decide)]
    exact ⟨h1, .inl ⟨he, hdn⟩⟩
  · rw [if_neg (by rw [he]; decide)]
    generalize hE : G.wp D M n = E at *
    obtain ⟨hok, hl, hA⟩ := h1
    rcases barrier_cases E.1 with ⟨c1, c2, c3⟩ | ⟨c0, c1, c2, c3, c4, c5⟩
    · exact ⟨⟨Dev.barrier_ok hok, by rw [c2.1]; exact hl, hA.same c2⟩, .inl ⟨c1, c3⟩⟩
    · refine ⟨⟨Dev.barrier_ok hok, by rw [c2]; have := hok.2.2.1; omega, hA.barrier hok.2.2.1⟩, .inr ⟨c1, c5, c4, Dev.barrier_ok hok, by rw [c2]; have := hok.2.2.1; omega, ?_⟩⟩
      have hseen : ∀ p, p < E.1.seen.length → RingP first n bb G.buf G.buf.size p (E.1.seen.getD p ⟨#[]⟩) := fun p hp => by
        have hold := hA.2.1 p hp
        refine ⟨hold.1, fun j hj hpj => ?_⟩
        subst hpj
        rw [hs j hj (Nat.mod_lt _ hn)]
        unfold wantS
        by_cases hlt : 54 * j < G.buf.size
        · rw [if_pos hlt]; exact SecOk.now hlt (Nat.le_refl _)
        · rw [if_neg hlt]; exact SecOk.blank (by omega)
      unfold AllP
      rw [c2, c3, c4]
      exact ⟨hseen, hseen, fun x hx => by cases hx⟩
/-- Open, in all -/
theorem open_law {D : Dev} {first n bb : Nat} {P : ByteArray} {rs : List ByteArray} {i0 : Nat} (hP : P.size < 54) (hr : RecOk rs) (hi0 : i0 ≤ rs.length) (h : DevHas D first n bb (P ++ encL rs) (P.size + lenL (rs.take i0))) (hd : D.down = false) (hn : 0 < n) (hk : bb + n < 72057594037927936) (hB : P.size + lenL rs ≤ 54 * n) :
    ((Lg.op0 first n (54 * bb + P.size)).ld D bb n).2.2 = 0 ∧ ∃ i, i0 ≤ i ∧ i ≤ rs.length ∧ Lg.opened first n (54 * bb + P.size) ((Lg.op0 first n (54 * bb + P.size)).ld D bb n).1 = mkLg first n bb P (rs.take i) i ∧
      DevHas (Lg.openD first n (54 * bb + P.size) D).1 first n bb (P ++ encL rs) (P.size + lenL (rs.take i0)) ∧
      (((Lg.openD first n (54 * bb + P.size) D).2 = 20 ∧ (Lg.openD first n (54 * bb + P.size) D).1.down = true) ∨ ((Lg.openD first n (54 * bb + P.size) D).2 = 0 ∧ (Lg.openD first n (54 * bb + P.size) D).1.down = false ∧ (Lg.openD first n (54 * bb + P.size) D).1.soft = [] ∧ DevHas (Lg.openD first n (54 * bb + P.size) D).1 first n bb (P ++ encL (rs.take i)) (P.size + lenL (rs.take i)))) := by
  obtain ⟨h0, i, h1, h2, h3⟩ := open_finds hP hr hi0 h hd hn hk hB
  refine ⟨h0, i, h1, h2, h3, ?_⟩
  have e1 : (54 * bb + P.size) / 54 = bb := by omega
  have hD : Lg.openD first n (54 * bb + P.size) D = (mkLg first n bb P (rs.take i) i).wiped D ((mkLg first n bb P (rs.take i) i).keptP bb (((mkLg first n bb P (rs.take i) i).buf.size + 53) / 54)) := by
    unfold Lg.openD
    rw [e1, h3]
  rw [hD]
  have hle : ∀ i, lenL (rs.take i) ≤ lenL rs := fun i => by
    have := lenL_append (rs.take i) (rs.drop i)
    rw [List.take_append_drop] at this
    omega
  have hle2 : lenL (rs.take i0) ≤ lenL (rs.take i) := by
    have := lenL_append ((rs.take i).take i0) ((rs.take i).drop i0)
    rw [List.take_append_drop, List.take_take, Nat.min_eq_left h1] at this
    omega
  have hbs : (P ++ encL (rs.take i)).size = P.size + lenL (rs.take i) := by rw [ByteArray.size_append, encL_size]
  have hbs2 : (P ++ encL rs).size = P.size + lenL rs := by rw [ByteArray.size_append, encL_size]
  have := hle i
  have hw := wipe_law (G := mkLg first n bb P (rs.take i) i) (B := P ++ encL rs) (f := P.size + lenL (rs.take i0)) (D := D) rfl rfl rfl hn (by show (P ++ encL (rs.take i)).size ≤ _; omega) (by show (P ++ encL rs).extract 0 (P ++ encL (rs.take i)).size = P ++ encL (rs.take i); rw [hbs, enc_cut]) (by show (P ++ encL (rs.take i)).size ≤ (P ++ encL rs).size; omega) (by show _ ≤ (P ++ encL (rs.take i)).size; omega) h hd
  obtain ⟨w1, w2⟩ := hw
  refine ⟨w1, w2.imp_right (fun ⟨q1, q2, q3, q4⟩ => ⟨q1, q2, q3, ?_⟩)⟩
  have q5 : DevHas _ first n bb (P ++ encL (rs.take i)) (P ++ encL (rs.take i)).size := q4
  rw [hbs] at q5
  exact q5
end Go.Proofs.YtimomjheanfbmaaGreatDoor

namespace Go.Proofs.YtimomjheanfbmaaGreatDoor
open Go.RowKit

theorem refuse_none {G : Lg} {rec : ByteArray} (h : G.refuse rec = none) : rec.size ≠ 0 ∧ rec.size ≤ 65535 ∧ 2 + (rec.size : Int) ≤ G.room := by
  unfold Lg.refuse at h
  have h0 : rec.size ≠ 0 := fun e => by rw [if_pos e] at h; cases h
  rw [if_neg h0] at h
  have h1 : ¬ 65535 < rec.size := fun e => by rw [if_pos e] at h; cases h
  rw [if_neg h1] at h
  have h2 : ¬ G.room < 2 + rec.size := fun e => by rw [if_pos e] at h; cases h
  exact ⟨h0, by omega, by omega⟩
end Go.Proofs.YtimomjheanfbmaaGreatDoor

namespace Go.Proofs.YtimomjheanfbmaaGreatDoor
open Go.RowKit

/-! ### a log on its device, in one -/
def SoftOk (D : Dev) : Prop := D.soft.length ≤ 4000000000000 ∨ (D.down = true ∧ D.soft.length ≤ 4000000005000)
theorem SoftOk.none {D : Dev} (h : D.soft = []) : SoftOk D := .inl (by rw [h]; simp)
structure Ws (w : World) (p dp first n bb : Nat) (P : ByteArray) (rs : List ByteArray) (i0 : Nat) (S Sd : List Nat) (D : Dev) : Prop where
  log : LogAt w p dp (mkLg first n bb P rs i0) S
  dsk : DiskAt w dp D Sd
  has : DevHas D first n bb (P ++ encL rs) (P.size + lenL (rs.take i0))
  dis : ∀ k ∈ S, k ∉ Sd
  rok : RecOk rs
  le : i0 ≤ rs.length
  pre : P.size < 54
  bbs : bb ≤ 10000000000000000
  soft : SoftOk D
theorem SoftOk.len {D : Dev} (h : SoftOk D) : D.soft.length ≤ 4000000005000 := by
  rcases h with h | h
  · omega
  · exact h.2
theorem Ws.later {w w' : World} {p dp first n bb : Nat} {P : ByteArray} {rs : List ByteArray} {i0 : Nat} {S Sd : List Nat} {D : Dev} (h : Ws w p dp first n bb P rs i0 S Sd D) (hb : Below w.heap.size w w') : Ws w' p dp first n bb P rs i0 S Sd D :=
  ⟨h.log.later hb, h.dsk.later hb, h.has, h.dis, h.rok, h.le, h.pre, h.bbs, h.soft⟩
theorem lenL_take_le (rs : List ByteArray) (i : Nat) : lenL (rs.take i) ≤ lenL rs := by
  have := lenL_append (rs.take i) (rs.drop i)
  rw [List.take_append_drop] at this
  omega
theorem mkLg_push {first n bb : Nat} {P : ByteArray} {rs : List ByteArray} {i0 : Nat} (h : i0 ≤ rs.length) (r : ByteArray) : (mkLg first n bb P rs i0).push r = mkLg first n bb P (rs ++ [r]) i0 := by
  have e1 : encL (rs ++ [r]) = encL rs ++ leS r.size 2 ++ r := by rw [encL_append, encL, encL, bytes_nil_right, bytes_assoc]
  have e2 : lenL (rs ++ [r]) = lenL rs + (2 + r.size) := by rw [lenL_append, lenL, lenL]; omega
  have e3 : plL ((54 * bb + P.size : Nat) : Int) (rs ++ [r]) = plL ((54 * bb + P.size : Nat) : Int) rs ++ [(((54 * bb + P.size + lenL rs : Nat) : Int), r)] := by
    rw [plL_append, plL, plL]
    push_cast
    rfl
  unfold Lg.push mkLg
  rw [e1, e2, e3, List.take_append_of_le_length h]
  simp only [bytes_assoc, Lg.mk.injEq, true_and, and_true]
  push_cast
  omega
theorem Ws.len {w : World} {p dp first n bb : Nat} {P : ByteArray} {rs : List ByteArray} {i0 : Nat} {S Sd : List Nat} {D : Dev} (h : Ws w p dp first n bb P rs i0 S Sd D) : 128 ≤ n ∧ n ≤ 4096 ∧ P.size + lenL rs ≤ 54 * n := by
  obtain ⟨a1, a2, a3, a4, a5, a6, a7, a8, -⟩ := h.log.1
  have h8 : ((54 * bb + P.size + lenL rs : Nat) : Int) - ((54 * bb : Nat) : Int) ≤ (n : Int) * 54 := a8
  have h1 : (128 : Int) ≤ n := a1
  have h2 : (n : Int) ≤ 4096 := a2
  refine ⟨by omega, by omega, ?_⟩
  push_cast at h8
  omega
theorem DevHas.grow {D : Dev} {first n bb : Nat} {P : ByteArray} {rs : List ByteArray} {i0 : Nat} (h : DevHas D first n bb (P ++ encL rs) (P.size + lenL (rs.take i0))) (hi : i0 ≤ rs.length) (r : ByteArray) : DevHas D first n bb (P ++ encL (rs ++ [r])) (P.size + lenL ((rs ++ [r]).take i0)) := by
  rw [List.take_append_of_le_length hi]
  refine ⟨h.1, h.2.1, h.2.2.mono (fun p d hp => ⟨hp.1, fun j hj he => (hp.2 j hj he).more ?_ ?_⟩)⟩
  · have := enc_cut P (rs ++ [r]) rs.length
    rw [List.take_left'] at this
    · rw [ByteArray.size_append, encL_size]; exact this
    · rfl
  · rw [ByteArray.size_append, ByteArray.size_append, encL_size, encL_size, lenL_append]; omega
theorem ws_append {w : World} {p dp first n bb : Nat} {P : ByteArray} {rs : List ByteArray} {i0 : Nat} {S Sd : List Nat} {D : Dev} (h : Ws w p dp first n bb P rs i0 S Sd D) (r : ByteArray) (hr : r.size ≤ maxLen) :
    Calls Tryz.prog 26 #[.pointer (some ⟨p, 0, none⟩), .string r] w fun e w' => (∃ c, c ≠ 0 ∧ e = .returned (.tuple #[.int .i64 0, .int .i64 c]) ∧ Below w.heap.size w w') ∨
      (e = .returned (.tuple #[.int .i64 ((54 * bb + P.size + lenL rs : Nat) : Int), .int .i64 0]) ∧ ∃ S', Ws w' p dp first n bb P (rs ++ [r]) i0 S' Sd D ∧ Keeps (· ∈ S) w w' ∧ ∀ k ∈ S', k ∈ S ∨ w.heap.size ≤ k) := by
  obtain ⟨n1, n2, n3⟩ := h.len
  cases hrf : (mkLg first n bb P rs i0).refuse r with
  | some c =>
    refine (wal_append_no p dp _ S r hr c hrf w h.log).mono fun e w' ⟨he, hb⟩ => .inl ⟨c, ?_, he, hb⟩
    unfold Lg.refuse at hrf
    by_cases h0 : r.size = 0
    · rw [if_pos h0] at hrf; injection hrf with hrf; omega
    · rw [if_neg h0] at hrf
      by_cases h1 : 65535 < r.size
      · rw [if_pos h1] at hrf; injection hrf with hrf; omega
      · rw [if_neg h1] at hrf
        by_cases h2 : (mkLg first n bb P rs i0).room < 2 + (r.size : Int)
        · rw [if_pos h2] at hrf; injection hrf with hrf; omega
        · rw [if_neg h2] at hrf; cases hrf
  | none =>
    obtain ⟨q1, q2, q3⟩ := refuse_none hrf
    have hb := h.bbs
    refine (wal_append_ok p dp _ S r hr hrf (by show ((54 * bb + P.size + lenL rs : Nat) : Int) ≤ _; omega) w h.log).mono fun e w' ⟨he, S', hl, hk, hs⟩ => .inr ⟨he, S', ⟨?_, h.dsk.keep hk (fun k hk h' => h.dis k h' hk), h.has.grow h.le r, fun k hk hkd => ?_, ?_, ?_, h.pre, h.bbs, h.soft⟩, hk, hs⟩
    · rw [← mkLg_push h.le]; exact hl
    · rcases hs k hk with h' | h'
      · exact h.dis k h' hkd
      · have := h.dsk.lt k hkd; omega
    · intro x hx
      rw [List.mem_append, List.mem_singleton] at hx
      rcases hx with hx | rfl
      · exact h.rok x hx
      · exact ⟨by omega, q2⟩
    · have := h.le; rw [List.length_append]; omega
theorem take_all_of {rs : List ByteArray} {i : Nat} (hr : RecOk rs) (hi : i ≤ rs.length) (h : lenL (rs.take i) = lenL rs) : i = rs.length := by
  have h2 := lenL_append (rs.take i) (rs.drop i)
  rw [List.take_append_drop] at h2
  have h3 := lenL_pos.1 (show lenL (rs.drop i) = 0 by omega)
  have := List.drop_eq_nil_iff.1 h3
  omega
theorem fl_down {G : Lg} {D : Dev} {b k : Nat} (h : D.down = true) : (G.fl D b k).1 = D := by
  induction k with
  | zero => rfl
  | succ k ih =>
    rw [Lg.fl]
    split
    · exact ih
    · rw [ih]; unfold Dev.write; rw [if_pos h]
theorem fl_up {G : Lg} {D : Dev} {b k : Nat} (h : D.up) : (G.fl D b k).1.up := by
  induction k with
  | zero => exact h
  | succ k ih =>
    rw [Lg.fl]
    split
    · exact ih
    · exact (up_write_up ih _ _).1
theorem barrier_up {D : Dev} (h : D.up) : D.barrier.1.up := by rw [up_barrier h]; exact h
theorem barrier_soft (D : Dev) : D.barrier.1.soft.length ≤ D.soft.length := by
  rcases barrier_cases D with ⟨_, h, _⟩ | ⟨_, _, _, _, h, _⟩
  · rw [h.2.2]; exact Nat.le_refl _
  · rw [h]; simp
theorem flushed_soft {G : Lg} {D : Dev} {b k : Nat} (hk : k ≤ 4097) (h : SoftOk D) (he : (G.flushed D b k).2.1.down = true ∨ (G.flushed D b k).2.1.soft = []) : SoftOk (G.flushed D b k).2.1 := by
  rcases he with he | he
  · refine .inr ⟨he, ?_⟩
    rcases h with h | ⟨hd, hl⟩
    · have h1 := fl_soft (G := G) (D := D) (i := b) k
      have h2 := barrier_soft (G.fl D b k).1
      unfold Lg.flushed
      repeat' split
      all_goals (dsimp only; omega)
    · have h1 := fl_down (G := G) (b := b) (k := k) hd
      have h2 := barrier_soft D
      unfold Lg.flushed
      rw [h1]
      repeat' split
      all_goals (dsimp only; omega)
  · exact SoftOk.none he
theorem flushed_up {G : Lg} {D : Dev} {b k : Nat} (h : D.up) : (G.flushed D b k).2.1.up := by
  have h1 := fl_up (G := G) (b := b) (k := k) h
  have h2 := barrier_up h1
  unfold Lg.flushed
  repeat' split
  · exact h1
  · exact h2
  · exact h2
theorem ws_flush {w : World} {p dp first n bb : Nat} {P : ByteArray} {rs : List ByteArray} {i0 : Nat} {S Sd : List Nat} {D : Dev} (h : Ws w p dp first n bb P rs i0 S Sd D) (at_ : Int) (hat : i0 = rs.length ∨ ((54 * bb + P.size + lenL (rs.take i0) : Nat) : Int) ≤ at_) :
    Calls Tryz.prog 122 #[.pointer (some ⟨p, 0, none⟩), .int .i64 at_] w fun e w' => ∃ c i1 Sd' D', e = .returned (.int .i64 c) ∧ Ws w' p dp first n bb P rs i1 S Sd' D' ∧ Keeps (fun k => k ∈ S ∨ k ∈ Sd) w w' ∧ (∀ k ∈ Sd', k ∈ Sd ∨ w.heap.size ≤ k) ∧
      ((c = 0 ∧ i1 = rs.length) ∨ (c = 20 ∧ i1 = i0 ∧ D'.down = true)) ∧ (D.up → D'.up) ∧ DevHas D' first n bb (P ++ encL rs) (P.size + lenL (rs.take i0)) := by
  obtain ⟨n1, n2, n3⟩ := h.len
  have hle := lenL_take_le rs i0
  by_cases heq : lenL (rs.take i0) = lenL rs
  · have hi := take_all_of h.rok h.le heq
    refine (wal_flush_not p dp _ S at_ (.inr (by show ((54 * bb + P.size + lenL (rs.take i0) : Nat) : Int) = ((54 * bb + P.size + lenL rs : Nat) : Int); rw [heq])) w h.log).mono fun e w' ⟨he, hb⟩ => ⟨0, i0, Sd, D, he, h.later hb, Keeps.of_below _ hb, fun k hk => .inl hk, .inl ⟨rfl, hi⟩, id, h.has⟩
  · have hbs : (P ++ encL rs).size = P.size + lenL rs := by rw [ByteArray.size_append, encL_size]
    have hbb := h.bbs
    have hj : bb + (P.size + lenL (rs.take i0)) / 54 = (54 * bb + P.size + lenL (rs.take i0)) / 54 := by omega
    obtain ⟨cnt, hcnt⟩ : ∃ cnt, cnt = (P.size + lenL rs + 53) / 54 - (P.size + lenL (rs.take i0)) / 54 := ⟨_, rfl⟩
    have hc1 : ∀ k, k < cnt ↔ 54 * ((P.size + lenL (rs.take i0)) / 54 + k) < (P ++ encL rs).size := fun k => by rw [hbs]; omega
    have HF := wal_flush p dp _ S Sd D at_ (bb + (P.size + lenL (rs.take i0)) / 54) cnt (hat.resolve_left (fun he => heq (by rw [he, List.take_length]))) (by show ((54 * bb + P.size + lenL (rs.take i0) : Nat) : Int) < ((54 * bb + P.size + lenL rs : Nat) : Int); omega) (by show ((54 * bb : Nat) : Int) ≤ ((54 * bb + P.size + lenL (rs.take i0) : Nat) : Int); omega) bb (by show ((54 * bb : Nat) : Int) = 54 * (bb : Int); omega) (by show _ = ((54 * bb + P.size + lenL (rs.take i0) : Nat) : Int) / 54; omega) (fun k => by
      rw [hc1 k, hbs]
      show _ ↔ 54 * ((bb + (P.size + lenL (rs.take i0)) / 54 + k : Nat) : Int) < ((54 * bb + P.size + lenL rs : Nat) : Int)
      omega) (by have := h.soft.len; omega) w h.log h.dsk h.dis
    have hl := flush_law (D := D) (G := mkLg first n bb P rs i0) (first := first) (n := n) (bb := bb) (f := P.size + lenL (rs.take i0)) (cnt := cnt) rfl rfl rfl (by omega) (by show (P ++ encL rs).size ≤ _; omega) (by show _ ≤ (P ++ encL rs).size; omega) rfl h.has hc1
    have hup := flushed_up (G := mkLg first n bb P rs i0) (D := D) (b := bb + (P.size + lenL (rs.take i0)) / 54) (k := cnt)
    have hsf := flushed_soft (G := mkLg first n bb P rs i0) (D := D) (b := bb + (P.size + lenL (rs.take i0)) / 54) (k := cnt) (by omega) h.soft
    have hdn := fl_down (G := mkLg first n bb P rs i0) (D := D) (b := bb + (P.size + lenL (rs.take i0)) / 54) (k := cnt)
    refine HF.mono fun e w' ⟨he, Sd', hlg, hdk, hkp, hsd⟩ => ?_
    generalize (mkLg first n bb P rs i0).flushed D (bb + (P.size + lenL (rs.take i0)) / 54) cnt = X at *
    obtain ⟨G', D', c⟩ := X
    dsimp only at *
    have hdis : ∀ k ∈ S, k ∉ Sd' := fun k hk h' => by
      rcases hsd k h' with h2 | h2
      · exact h.dis k hk h2
      · have := h.log.lt k hk; omega
    obtain ⟨hh, ⟨c1, c2, c3⟩ | ⟨c1, c2, c3, c4, c5⟩⟩ := hl
    · subst c1 c2
      exact ⟨20, i0, Sd', D', he, ⟨hlg, hdk, hh, hdis, h.rok, h.le, h.pre, h.bbs, hsf (.inl c3)⟩, hkp, hsd, .inr ⟨rfl, rfl, c3⟩, hup, hh⟩
    · subst c1 c2
      have hmk : { mkLg first n bb P rs i0 with firm := (mkLg first n bb P rs i0).fin } = mkLg first n bb P rs rs.length := by
        unfold mkLg
        rw [List.take_length]
      rw [hmk] at hlg
      have c5' : DevHas D' first n bb (P ++ encL rs) (P ++ encL rs).size := c5
      refine ⟨0, rs.length, Sd', D', he, ⟨hlg, hdk, ?_, hdis, h.rok, Nat.le_refl _, h.pre, h.bbs, hsf (.inr c4)⟩, hkp, hsd, .inl ⟨rfl, rfl⟩, hup, hh⟩
      rw [List.take_length, ← hbs]; exact c5'
end Go.Proofs.YtimomjheanfbmaaGreatDoor
