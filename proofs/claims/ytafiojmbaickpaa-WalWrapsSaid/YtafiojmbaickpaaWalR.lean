import Derived.Test.YtafiojmbaickpaaWalQ
set_option linter.unusedSimpArgs false
set_option linter.unusedVariables false
namespace Go.Proofs.Ytafiojmbaickpaa
open Go.RowKit

theorem kept_law {G : Lg} {bb n : Nat} (hG2 : G.n = n) (hn : 0 < n) : ∀ c, c ≤ n → ∀ j, j < n → G.keptP bb c (((bb + j) % n : Nat) : Int) = if j < c then some (G.secAt (bb + j)) else none
  | 0, _, j, _ => by rw [if_neg (by omega)]; rfl
  | c + 1, hc, j, hj => by
    rw [Lg.keptP, hG2]
    have ih := kept_law (bb := bb) hG2 hn c (by omega) j hj
    show (if (((bb + j) % n : Nat) : Int) = ((bb + c : Nat) : Int) % (n : Int) then _ else _) = _
    have e1 : ((bb + c : Nat) : Int) % (n : Int) = (((bb + c) % n : Nat) : Int) := by push_cast; rfl
    rw [e1]
    by_cases h : j = c
    · subst h; rw [if_pos rfl, if_pos (by omega)]
    · rw [if_neg (fun he => h (ring_inj (bb := bb) hj (show c < n by omega) (by omega))), ih]
      by_cases hlt : j < c
      · rw [if_pos hlt, if_pos (by omega)]
      · rw [if_neg hlt, if_neg (by omega)]
/-- what the ring's sector j should be -/
def wantS (G : Lg) (bb j : Nat) : ByteArray := if 54 * j < G.buf.size then secS ((bb + j : Nat) : Int) (G.buf.extract (54 * j) (54 * j + min 54 (G.buf.size - 54 * j))) else zeros 64
theorem want_law {G : Lg} {bb n : Nat} (hG2 : G.n = n) (hn : 0 < n) (hb : G.base = ((54 * bb : Nat) : Int)) (hB : G.buf.size ≤ 54 * n) (j : Nat) (hj : j < n) : (G.keptP bb ((G.buf.size + 53) / 54) (((bb + j) % n : Nat) : Int)).getD (zeros 64) = wantS G bb j := by
  rw [kept_law hG2 hn _ (by omega) j hj]
  unfold wantS
  by_cases h : 54 * j < G.buf.size
  · rw [if_pos (by omega), if_pos h, Option.getD_some, secAt_eq hb h]
  · rw [if_neg (by omega), if_neg h, Option.getD_none]
theorem want_size (G : Lg) (bb j : Nat) : (wantS G bb j).size = 64 := by
  unfold wantS
  split
  · rename_i h; exact sec_size h
  · exact zeros_size 64
theorem wp_law {D : Dev} {G : Lg} {first n bb f : Nat} {B : ByteArray} (hG1 : G.first = first) (hG2 : G.n = n) (hb : G.base = ((54 * bb : Nat) : Int)) (hn : 0 < n) (hB : G.buf.size ≤ 54 * n) (hBB : B.extract 0 G.buf.size = G.buf) (hBs : G.buf.size ≤ B.size) (hf : f ≤ G.buf.size) (h : DevHas D first n bb B f) (hd : D.down = false) (M : Int → Option ByteArray) (hM : M = G.keptP bb ((G.buf.size + 53) / 54)) :
    ∀ i, i ≤ n → DevHas (G.wp D M i).1 first n bb B f ∧ (((G.wp D M i).2 = 20 ∧ (G.wp D M i).1.down = true) ∨ ((G.wp D M i).2 = 0 ∧ (G.wp D M i).1.down = false ∧ ∀ j, j < n → (bb + j) % n < i → (G.wp D M i).1.seen.getD (first + (bb + j) % n) ⟨#[]⟩ = wantS G bb j))
  | 0, _ => ⟨h, .inr ⟨rfl, hd, fun j hj hlt => absurd hlt (Nat.not_lt_zero _)⟩⟩
  | i + 1, hi => by
    obtain ⟨ih1, ih2⟩ := wp_law hG1 hG2 hb hn hB hBB hBs hf h hd M hM i (by omega)
    rcases ih2 with ⟨he, hdn⟩ | ⟨he, hdn, hs⟩
    · have : G.wp D M (i + 1) = G.wp D M i := wp_stop (by rw [he]; decide) (i + 1) (by omega)
      rw [this]
      exact ⟨ih1, .inl ⟨he, hdn⟩⟩
    · obtain ⟨j, hj, hji⟩ := ring_surj (bb := bb) (show i < n by omega)
      have hw := want_law hG2 hn hb hB j hj
      rw [hji, ← hM] at hw
      have hws := want_size G bb j
      have hSO : SecOk bb B f j (wantS G bb j) := by
        unfold wantS
        by_cases hlt : 54 * j < G.buf.size
        · rw [if_pos hlt]
          refine .inr ⟨min 54 (G.buf.size - 54 * j), by omega, by omega, by omega, ?_, by omega⟩
          conv => lhs; rw [← hBB]
          rw [hBB, ← cut_extract B G.buf.size _ _ (by omega) (by omega) hBs, hBB]
        · rw [if_neg hlt]
          exact SecOk.blank (by omega)
      rw [Lg.wp, if_neg (by rw [he]; decide), hw, hG1]
      generalize hE : G.wp D M i = E at *
      have hrd := read_ring ih1 hdn hn j hj
      have epl : (first : Int) + ((bb + j : Nat) : Int) % (n : Int) = (first : Int) + (i : Nat) := by
        have : ((bb + j : Nat) : Int) % (n : Int) = (((bb + j) % n : Nat) : Int) := by push_cast; rfl
        rw [this, hji]
      rw [epl, hji] at hrd
      obtain ⟨d, hr, hdd, hds, -⟩ := hrd
      rw [hr]
      dsimp only
      rw [if_neg (fun h => h rfl)]
      by_cases hq : d = wantS G bb j
      · rw [if_pos hq]
        refine ⟨ih1, .inr ⟨he, hdn, fun j' hj' hlt => ?_⟩⟩
        by_cases hjj : (bb + j') % n = i
        · have := ring_inj (bb := bb) hj' hj (by omega)
          subst this
          rw [hjj, ← hdd, hq]
        · exact hs j' hj' (by omega)
      · rw [if_neg hq]
        obtain ⟨hok, hl, hA⟩ := ih1
        generalize hX : wantS G bb j = X at *
        have e2 : ((first : Int) + (i : Nat)).toNat = first + i := by omega
        have hlen := write_len E.1 ((first : Int) + (i : Nat)) X
        have hRP : RingP first n bb B f (first + i) X := by
          have := RingP.at (first := first) hj hws hSO
          rwa [hji] at this
        have hA' := hA.write ((first : Int) + (i : Nat)) X (by omega) (by omega) hws hok.2.2.1 (by rw [e2]; exact hRP)
        refine ⟨⟨Dev.write_ok hok _ _, by rw [hlen.1]; exact hl, hA'⟩, ?_⟩
        rcases write_cases E.1 ((first : Int) + (i : Nat)) X (by omega) (by omega) hws with ⟨c1, _, c2⟩ | ⟨c0, c1, _, c3, _, c4⟩
        · exact .inl ⟨c1, c2⟩
        · refine .inr ⟨c1, c4, fun j' hj' hlt => ?_⟩
          rw [c3, e2, getD_set _ _ _ _ _ (by have := place_lt (first := first) (k := bb + j') hn; have := hok.2.2.1; omega)]
          by_cases hjj : (bb + j') % n = i
          · have := ring_inj (bb := bb) hj' hj (by omega)
            subst this
            rw [if_pos (by omega), hX]
          · rw [if_neg (by omega)]
            exact hs j' hj' (by omega)
theorem wipe_law {D : Dev} {G : Lg} {first n bb f : Nat} {B : ByteArray} (hG1 : G.first = first) (hG2 : G.n = n) (hb : G.base = ((54 * bb : Nat) : Int)) (hn : 0 < n) (hB : G.buf.size ≤ 54 * n) (hBB : B.extract 0 G.buf.size = G.buf) (hBs : G.buf.size ≤ B.size) (hf : f ≤ G.buf.size) (h : DevHas D first n bb B f) (hd : D.down = false) :
    DevHas (G.wiped D (G.keptP bb ((G.buf.size + 53) / 54))).1 first n bb B f ∧ (((G.wiped D (G.keptP bb ((G.buf.size + 53) / 54))).2 = 20 ∧ (G.wiped D (G.keptP bb ((G.buf.size + 53) / 54))).1.down = true) ∨ ((G.wiped D (G.keptP bb ((G.buf.size + 53) / 54))).2 = 0 ∧ (G.wiped D (G.keptP bb ((G.buf.size + 53) / 54))).1.down = false ∧ (G.wiped D (G.keptP bb ((G.buf.size + 53) / 54))).1.soft = [] ∧ DevHas (G.wiped D (G.keptP bb ((G.buf.size + 53) / 54))).1 first n bb G.buf G.buf.size)) := by
  obtain ⟨h1, h2⟩ := wp_law hG1 hG2 hb hn hB hBB hBs hf h hd _ rfl n (Nat.le_refl _)
  unfold Lg.wiped
  rw [hG2, Int.toNat_natCast]
  generalize G.keptP bb ((G.buf.size + 53) / 54) = M at *
  rcases h2 with ⟨he, hdn⟩ | ⟨he, hdn, hs⟩
  · rw [if_pos (by rw [he]; decide)]
    exact ⟨h1, .inl ⟨he, hdn⟩⟩
  · rw [if_neg (by rw [he]; decide)]
    generalize hE : G.wp D M n = E at *
    obtain ⟨hok, hl, hA⟩ := h1
    rcases barrier_cases E.1 with ⟨c1, c2, c3⟩ | ⟨c0, c1, c2, c3, c4, c5⟩
    · exact ⟨⟨Dev.barrier_ok hok, by rw [c2.1]; exact hl, hA.same c2⟩, .inl ⟨c1, c3⟩⟩
    · refine ⟨⟨Dev.barrier_ok hok, by rw [c2]; have := hok.2.2.1; omega, hA.barrier hok.2.2.1⟩, .inr ⟨c1, c5, c4, Dev.barrier_ok hok, by rw [c2]; have := hok.2.2.1; omega, ?_⟩⟩
      have hseen : ∀ p, p < E.1.seen.length → RingP first n bb G.buf G.buf.size p (E.1.seen.getD p ⟨#[]⟩) := fun p hp => by
        have hold := hA.2.1 p hp
        refine ⟨hold.1, fun j hj hpj => ?_⟩
        subst hpj
        rw [hs j hj (Nat.mod_lt _ hn)]
        unfold wantS
        by_cases hlt : 54 * j < G.buf.size
        · rw [if_pos hlt]; exact SecOk.now hlt (Nat.le_refl _)
        · rw [if_neg hlt]; exact SecOk.blank (by omega)
      unfold AllP
      rw [c2, c3, c4]
      exact ⟨hseen, hseen, fun x hx => by cases hx⟩
/-- Open, in all -/
theorem open_law {D : Dev} {first n bb : Nat} {P : ByteArray} {rs : List ByteArray} {i0 : Nat} (hP : P.size < 54) (hr : RecOk rs) (hi0 : i0 ≤ rs.length) (h : DevHas D first n bb (P ++ encL rs) (P.size + lenL (rs.take i0))) (hd : D.down = false) (hn : 0 < n) (hk : bb + n < 72057594037927936) (hB : P.size + lenL rs ≤ 54 * n) :
    ((Lg.op0 first n (54 * bb + P.size)).ld D bb n).2.2 = 0 ∧ ∃ i, i0 ≤ i ∧ i ≤ rs.length ∧ Lg.opened first n (54 * bb + P.size) ((Lg.op0 first n (54 * bb + P.size)).ld D bb n).1 = mkLg first n bb P (rs.take i) i ∧
      DevHas (Lg.openD first n (54 * bb + P.size) D).1 first n bb (P ++ encL rs) (P.size + lenL (rs.take i0)) ∧
      (((Lg.openD first n (54 * bb + P.size) D).2 = 20 ∧ (Lg.openD first n (54 * bb + P.size) D).1.down = true) ∨ ((Lg.openD first n (54 * bb + P.size) D).2 = 0 ∧ (Lg.openD first n (54 * bb + P.size) D).1.down = false ∧ (Lg.openD first n (54 * bb + P.size) D).1.soft = [] ∧ DevHas (Lg.openD first n (54 * bb + P.size) D).1 first n bb (P ++ encL (rs.take i)) (P.size + lenL (rs.take i)))) := by
  obtain ⟨h0, i, h1, h2, h3⟩ := open_finds hP hr hi0 h hd hn hk hB
  refine ⟨h0, i, h1, h2, h3, ?_⟩
  have e1 : (54 * bb + P.size) / 54 = bb := by omega
  have hD : Lg.openD first n (54 * bb + P.size) D = (mkLg first n bb P (rs.take i) i).wiped D ((mkLg first n bb P (rs.take i) i).keptP bb (((mkLg first n bb P (rs.take i) i).buf.size + 53) / 54)) := by
    unfold Lg.openD
    rw [e1, h3]
  rw [hD]
  have hle : ∀ i, lenL (rs.take i) ≤ lenL rs := fun i => by
    have := lenL_append (rs.take i) (rs.drop i)
    rw [List.take_append_drop] at this
    omega
  have hle2 : lenL (rs.take i0) ≤ lenL (rs.take i) := by
    have := lenL_append ((rs.take i).take i0) ((rs.take i).drop i0)
    rw [List.take_append_drop, List.take_take, Nat.min_eq_left h1] at this
    omega
  have hbs : (P ++ encL (rs.take i)).size = P.size + lenL (rs.take i) := by rw [ByteArray.size_append, encL_size]
  have hbs2 : (P ++ encL rs).size = P.size + lenL rs := by rw [ByteArray.size_append, encL_size]
  have := hle i
  have hw := wipe_law (G := mkLg first n bb P (rs.take i) i) (B := P ++ encL rs) (f := P.size + lenL (rs.take i0)) (D := D) rfl rfl rfl hn (by show (P ++ encL (rs.take i)).size ≤ _; omega) (by show (P ++ encL rs).extract 0 (P ++ encL (rs.take i)).size = P ++ encL (rs.take i); rw [hbs, enc_cut]) (by show (P ++ encL (rs.take i)).size ≤ (P ++ encL rs).size; omega) (by show _ ≤ (P ++ encL (rs.take i)).size; omega) h hd
  obtain ⟨w1, w2⟩ := hw
  refine ⟨w1, w2.imp_right (fun ⟨q1, q2, q3, q4⟩ => ⟨q1, q2, q3, ?_⟩)⟩
  have q5 : DevHas _ first n bb (P ++ encL (rs.take i)) (P ++ encL (rs.take i)).size := q4
  rw [hbs] at q5
  exact q5
end Go.Proofs.Ytafiojmbaickpaa
