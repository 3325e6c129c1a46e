import Derived.Test.YtimomjheanfbmaaGreatDoorMbj
set_option linter.unusedSimpArgs false
set_option linter.unusedVariables false
namespace Go.Proofs.YtimomjheanfbmaaGreatDoor
open Go.RowKit

def CleanS (l : List Slot) : Prop := ∀ (j : Nat) (s : Slot), l[j]? = some s → s.dirty = false
theorem get_clean {first n bb : Nat} {P : ByteArray} {rs : List ByteArray} {X : Pl} {i0 : Nat} {D : Dev} {id : Int} {Q : Pg} {c : Int} {X1 : Pl} {i1 : Nat} {D1 : Dev} (h : CleanS X.slots) (hg : GetRel first n bb P rs X i0 D id Q c X1 i1 D1) : CleanS X1.slots := by
  have hcool : ∀ {l : List Slot}, l.map cool = X.slots.map cool → CleanS l := fun hc j s hs => by
    obtain ⟨t, ht, he⟩ := cool_at hc hs
    rw [← (cool_eq he).2.2.2]
    exact h j t ht
  have hpl : ∀ {X1 : Pl} {i1 : Nat} {D1 : Dev} {cd : Int} {at_ : Nat}, PlaceRel first n bb P rs X i0 D X1 i1 D1 cd at_ → CleanS X1.slots := fun hp => by
    cases hp with
    | grow _ => intro j s hs; rcases app_cases hs with ⟨_, rfl⟩ | hs; exact rfl; exact h j s hs
    | keep l _ s hd _ hc _ _ => intro j t ht; rcases set_cases ht with ⟨_, rfl⟩ | ⟨_, ht⟩; exact rfl; exact hcool hc j t ht
    | wrote l _ s hd _ _ _ hc hs hdd _ => have := hcool hc _ s hs; rw [hdd] at this; cases this
    | fail l _ s hd _ _ _ hc hs hdd _ => exact hcool hc
  cases hg with
  | wrong _ => exact h
  | hit i s _ _ hs _ =>
    intro j t ht
    rcases set_cases ht with ⟨_, rfl⟩ | ⟨_, ht⟩
    · exact h i s hs
    · exact h j t ht
  | bad _ _ _ _ _ _ _ _ => exact h
  | full _ _ _ _ _ _ _ _ _ _ _ hp _ => exact hpl hp
  | got _ _ X1 _ _ _ _ _ _ _ hp =>
    intro j t ht
    rcases set_cases ht with ⟨_, rfl⟩ | ⟨_, ht⟩
    · exact rfl
    · exact hpl hp j t ht
section
variable {w0 w : World} {L : List Nat} {p lp dp : Nat} {rs : List ByteArray} {M : Nat → Pg × Int} {N : Nat}
theorem Kp.getc {i0 : Nat} {X : Pl} {sv : Value} {S Sl Sd : List Nat} {D : Dev} (h : Kp w0 w L p lp dp rs i0 X sv S Sl Sd D M N) (hcl : CleanS X.slots) (id : Int) (hid : 0 ≤ id ∧ id < X.pages) :
    Calls Tryz.prog 24 #[.pointer (some ⟨p, 0, none⟩), .int .i64 id] w fun e w' => ∃ Q i1 X1 sv1 S1 Sd1 D1, e = .returned (.tuple #[pgV Q, .int .i64 0]) ∧ Kp w0 w' L p lp dp rs i1 X1 sv1 S1 Sl Sd1 D1 M N ∧ Keeps (Own w0 L) w w' ∧ X1.pages = X.pages ∧ CleanS X1.slots ∧ pgC Q = pgC (M id.toNat).1 := by
  have hc := h.count
  have hn := h.nN
  refine (pl_get h.pw N (by omega) h.pot.soft id).mono fun e w' ⟨Q, c, i1, X1, sv1, S1, Sd1, D1, he, hg, hp, hk, hS, hSd⟩ => ?_
  obtain ⟨g1, g2, g3, g4, g5, g6, g7⟩ := get_law h.inv h.pw.ring h.pw.fit hg
  obtain ⟨k1, k2⟩ := h.step hp hk hS hSd g1 (g5 h.up) (g6 N h.pot) hn g2
  rcases g7 with ⟨r1, r2, r3⟩ | ⟨r1, r2, ⟨r3, r4⟩ | ⟨_, r3⟩⟩
  · omega
  · subst r3
    exact ⟨Q, i1, X1, sv1, S1, Sd1, D1, he, k1, k2, g3, get_clean hcl hg, r4⟩
  · have := (g5 h.up).2; rw [r3] at this; cases this
end
def Kc (w0 w : World) (L : List Nat) (p lp dp pg : Nat) (rs : List ByteArray) (M : Nat → Pg × Int) (N : Nat) : Prop :=
  ∃ i0 X sv S Sl Sd D, Kp w0 w L p lp dp rs i0 X sv S Sl Sd D M N ∧ X.pages = pg ∧ CleanS X.slots
theorem kc_get {w0 w : World} {L : List Nat} {p lp dp pg : Nat} {rs : List ByteArray} {M : Nat → Pg × Int} {N : Nat} (h : Kc w0 w L p lp dp pg rs M N) (id : Int) (hid : 0 ≤ id ∧ id < pg) :
    Calls Tryz.prog 24 #[.pointer (some ⟨p, 0, none⟩), .int .i64 id] w fun e w' => ∃ Q, e = .returned (.tuple #[pgV Q, .int .i64 0]) ∧ Kc w0 w' L p lp dp pg rs M N ∧ Keeps (Own w0 L) w w' ∧ pgC Q = pgC (M id.toNat).1 := by
  obtain ⟨i0, X, sv, S, Sl, Sd, D, h1, h2, h3⟩ := h
  exact (h1.getc h3 id ⟨hid.1, by rw [h2]; exact hid.2⟩).mono fun e w' ⟨Q, i1, X1, sv1, S1, Sd1, D1, he, k1, k2, k3, k4, k5⟩ => ⟨Q, he, ⟨i1, X1, sv1, S1, Sl, Sd1, D1, k1, by rw [k3, h2], k4⟩, k2, k5⟩
theorem Kc.later {w0 w w' : World} {L : List Nat} {p lp dp pg : Nat} {rs : List ByteArray} {M : Nat → Pg × Int} {N : Nat} (h : Kc w0 w L p lp dp pg rs M N) (hb : Below w.heap.size w w') : Kc w0 w' L p lp dp pg rs M N :=
  let ⟨i0, X, sv, S, Sl, Sd, D, h1, h2, h3⟩ := h
  ⟨i0, X, sv, S, Sl, Sd, D, h1.later hb, h2, h3⟩
theorem Kc.bel {w0 w : World} {L : List Nat} {p lp dp pg : Nat} {rs : List ByteArray} {M : Nat → Pg × Int} {N : Nat} (h : Kc w0 w L p lp dp pg rs M N) : Below w0.heap.size w0 w :=
  let ⟨i0, X, sv, S, Sl, Sd, D, h1, h2, h3⟩ := h
  h1.bel
/-- the other pool -/
theorem kc_renew {w0 w : World} {L : List Nat} {p lp dp pg : Nat} {rs : List ByteArray} {M : Nat → Pg × Int} {N : Nat} (h : Kc w0 w L p lp dp pg rs M N) (frames : Nat) (h3 : 4 ≤ frames) (h4 : frames ≤ 256) :
    Calls Tryz.prog 22 #[.pointer (some ⟨dp, 0, none⟩), .pointer (some ⟨lp, 0, none⟩), .int .i64 128, .int .i64 pg, .int .i64 frames] w fun e w' => ∃ q, e = .returned (.tuple #[.pointer (some ⟨q, 0, none⟩), .int .i64 0]) ∧ Kc w0 w' L q lp dp pg rs M N ∧ Keeps (Own w0 L) w w' := by
  obtain ⟨i0, X, sv, S, Sl, Sd, D, h1, h2, hc⟩ := h
  subst h2
  exact (h1.renew hc frames h3 h4).mono fun e w' ⟨q, X2, he, k1, k2, k3, k4⟩ => ⟨q, he, ⟨i0, X2, _, _, Sl, Sd, D, k1, k2, by rw [k3]; intro j s hs; simp at hs⟩, k4⟩
theorem kq_flush {w0 w : World} {L : List Nat} {p lp dp pg : Nat} {rs : List ByteArray} {M : Nat → Pg × Int} {N : Nat} (h : Kq w0 w L p lp dp pg rs M N) :
    Calls Tryz.prog 29 #[.pointer (some ⟨p, 0, none⟩)] w fun e w' => e = .returned (.int .i64 0) ∧ Kc w0 w' L p lp dp pg rs M N ∧ Keeps (Own w0 L) w w' := by
  obtain ⟨i0, X, sv, S, Sl, Sd, D, h1, h2⟩ := h
  exact h1.flush.mono fun e w' ⟨i1, X1, Sd1, D1, he, k1, k2, k3, k4⟩ => ⟨he, ⟨i1, X1, sv, S, Sl, Sd1, D1, k1, by rw [k3, h2], k4⟩, k2⟩
def RgS (b15 b19 i : Nat) (R : Pg) (w : World) : Prop := w.rangeAt b15 (i * 16) (pgC R).toList ∧ w.heap[b19]? = some (.cells (pgC R) 49 (0, 0))
/-! ### a byte of a stamp is turned -/
def Kt (w0 w : World) (lp dp id : Nat) : Prop := ∃ rs i0 Sl Sd D, Ws w lp dp 0 128 1 P0 rs i0 Sl Sd D ∧ D.up ∧ SoftB 2000000 D ∧ 152 ≤ D.firm.length ∧ (frOpen (D.at (128 + 4 * id)) (D.at (128 + 4 * id + 1)) (D.at (128 + 4 * id + 2)) (D.at (128 + 4 * id + 3))).2.2 = 30 ∧ Below w0.heap.size w0 w ∧ ∀ k, k ∈ Sl ∨ k ∈ Sd → w0.heap.size ≤ k
theorem kc_sector {w0 w : World} {L : List Nat} {q lp dp : Nat} {rs : List ByteArray} {M : Nat → Pg × Int} {N : Nat} (h : Kc w0 w L q lp dp 6 rs M N) (I : Nat) (hI : I < 24) :
    ∃ S : ByteArray, S.size = 64 ∧ ∀ w', Below w.heap.size w w' → (Calls Tryz.prog 120 #[.pointer (some ⟨dp, 0, none⟩), .int .i64 (128 + (I : Int))] w' fun e w2 => e = .returned (.tuple #[.string S, .int .i64 0]) ∧ w2 = w') ∧
      ∀ x : Int, 0 ≤ x → x < 256 → x ≠ (byteL S).getD 60 0 → Calls Tryz.prog 72 #[.pointer (some ⟨dp, 0, none⟩), .int .i64 (128 + (I : Int)), .string (setB S 60 x)] w' fun e w2 => e = .returned (.int .i64 0) ∧ Kt w0 w2 lp dp (I / 4) := by
  obtain ⟨i0, X, sv, S, Sl, Sd, D, hp, hpg, hcl⟩ := h
  have hfit := hp.pw.fit
  rw [hp.b128, hpg] at hfit
  obtain ⟨m1, m2, m3⟩ := hp.inv.mok (I / 4) (by rw [hpg]; omega)
  have hdev := hp.inv.dev hp.up.2 (I / 4) (by rw [hpg]; omega) (fun j s hs _ => hcl j s hs)
  rw [hp.b128] at hdev
  obtain ⟨B, hB⟩ : ∃ B, pageS (M (I / 4)).1 = B := ⟨_, rfl⟩
  obtain ⟨st, hst⟩ : ∃ st, (M (I / 4)).2 = st := ⟨_, rfl⟩
  have hBs : B.size = 224 := by rw [← hB]; exact pageS_size m1
  have hd4 : ∀ i, i < 4 → D.at (128 + 4 * (I / 4) + i) = sec B st i := fun i hi => by rw [hdev i hi, hB, hst]
  have hz := fsec_size B st (I % 4) hBs (by omega)
  have hatI : D.at (128 + I) = sec B st (I % 4) := by
    rw [← hd4 (I % 4) (by omega), show 128 + 4 * (I / 4) + I % 4 = 128 + I by omega]
  have hcnt := hp.count
  have hnn := hp.nN
  have hsoft := hp.pot.soft
  refine ⟨sec B st (I % 4), hz, fun w' hb => ⟨?_, fun x x0 x1 hx => ?_⟩⟩
  · refine (dsk_read dp (128 + (I : Int)) D Sd w' (hp.pw.ws.dsk.later hb)).mono fun e w2 ⟨he, hw⟩ => ⟨?_, hw⟩
    rw [he, up_read hp.up.2 _ (by omega) (by omega), show (128 + (I : Int)).toNat = 128 + I by omega]
    show Ending.returned (.tuple #[.string (D.at (128 + I)), .int .i64 0]) = _
    rw [hatI]
  · have hsz : (setB (sec B st (I % 4)) 60 x).size = 64 := by rw [setB_size, hz]
    have hsl : D.soft.length ≤ 3000000000000 := by
      rcases hsoft with h1 | ⟨h1, _⟩
      · omega
      · rw [hp.up.2] at h1; cases h1
    have hw := hp.pw.ws.later hb
    obtain ⟨u1, u2, u3⟩ := up_write_up hp.up (128 + (I : Int)) (setB (sec B st (I % 4)) 60 x)
    have hwr := up_write hp.up (128 + (I : Int)) (setB (sec B st (I % 4)) 60 x)
    rw [if_pos ⟨by omega, by omega, hsz⟩] at hwr
    refine (dsk_write dp (128 + (I : Int)) _ (by rw [hsz]; unfold maxLen; omega) D Sd (by omega) w' hw.dsk).mono fun e w2 ⟨he, Sd2, hd2, hk2, hs2⟩ => ⟨?_, rs, i0, Sl, Sd2, _, hw.wrote (128 + I) (setB (sec B st (I % 4)) 60 x) (by omega) (by omega) hsz hsl (by rw [show ((128 + I : Nat) : Int) = 128 + (I : Int) by omega]; exact hd2) hk2 hs2, ?_, ?_, ?_, ?_, ?_, ?_⟩
    · rw [he, hwr]
    · rw [show ((128 + I : Nat) : Int) = 128 + (I : Int) by omega]; exact u1
    · rw [show ((128 + I : Nat) : Int) = 128 + (I : Int) by omega]
      refine .inl ?_
      rcases hsoft with h1 | ⟨h1, _⟩
      · omega
      · rw [hp.up.2] at h1; cases h1
    · rw [show ((128 + I : Nat) : Int) = 128 + (I : Int) by omega, u2]; omega
    · have hat : ∀ p, p < D.firm.length → Dev.at (D.write ((128 + I : Nat) : Int) (setB (sec B st (I % 4)) 60 x)).1 p = if 128 + I = p then setB (sec B st (I % 4)) 60 x else D.at p := fun p hpl => by
        rw [show ((128 + I : Nat) : Int) = 128 + (I : Int) by omega, hwr]
        unfold Dev.at
        show (D.seen.set (128 + (I : Int)).toNat _).getD p _ = _
        rw [show (128 + (I : Int)).toNat = 128 + I by omega, getD_set _ _ _ _ _ (by rw [hp.pw.ws.dsk.1.2.2.1]; exact hpl)]
      rw [hat _ (by omega), hat _ (by omega), hat _ (by omega), hat _ (by omega)]
      have e0 := hd4 0 (by omega)
      have e1 := hd4 1 (by omega)
      have e2 := hd4 2 (by omega)
      have e3 := hd4 3 (by omega)
      rw [Nat.add_zero] at e0
      rw [e0, e1, e2, e3]
      obtain ⟨t0, t1, t2, t3⟩ := frOpen_torn B st hBs 4 (by omega) x x0 x1
      have hr : I % 4 = 0 ∨ I % 4 = 1 ∨ I % 4 = 2 ∨ I % 4 = 3 := by omega
      rcases hr with hr | hr | hr | hr
      · rw [hr] at hx ⊢
        rw [if_pos (by omega), if_neg (by omega), if_neg (by omega), if_neg (by omega), t0 hx]
      · rw [hr] at hx ⊢
        rw [if_neg (by omega), if_pos (by omega), if_neg (by omega), if_neg (by omega), t1 hx]
      · rw [hr] at hx ⊢
        rw [if_neg (by omega), if_neg (by omega), if_pos (by omega), if_neg (by omega), t2 hx]
      · rw [hr] at hx ⊢
        rw [if_neg (by omega), if_neg (by omega), if_neg (by omega), if_pos (by omega), t3 hx]
    · exact (bT hp.bel hb).trans (hk2.belowB (Nat.le_trans hp.bel.size hb.size) (fun k hk => (hp.fr k (.inr (.inr hk))).1))
    · intro k hk
      rcases hk with hk | hk
      · exact (hp.fr k (.inr (.inl hk))).1
      · rcases hs2 k hk with hk | hk
        · exact (hp.fr k (.inr (.inr hk))).1
        · exact Nat.le_trans (Nat.le_trans hp.bel.size hb.size) hk
theorem kt_new {w0 w : World} {lp dp id : Nat} (h : Kt w0 w lp dp id) (hid : id < 6) :
    Calls Tryz.prog 22 #[.pointer (some ⟨dp, 0, none⟩), .pointer (some ⟨lp, 0, none⟩), .int .i64 128, .int .i64 6, .int .i64 5] w fun e w' => ∃ q, e = .returned (.tuple #[.pointer (some ⟨q, 0, none⟩), .int .i64 0]) ∧
      Calls Tryz.prog 24 #[.pointer (some ⟨q, 0, none⟩), .int .i64 (id : Int)] w' fun e w2 => e = .returned (.tuple #[pgV pageZ, .int .i64 30]) ∧ Below w0.heap.size w0 w2 := by
  obtain ⟨rs, i0, Sl, Sd, D, hw, hup, hsf, hln, hfr, hb0, hk0⟩ := h
  refine (pl_new hw 128 6 5 (by omega) (by omega) (by omega) (by omega) (by omega) (by omega)).mono fun e w' ⟨q, he, hp, hb, hpl⟩ => ⟨q, he, ?_⟩
  refine (pl_get hp 2000000 (by omega) hsf (id : Int)).mono fun e w2 ⟨Q, c, i1, X1, sv1, S1, Sd1, D1, he, hg, hp1, hk, hS, hSd⟩ => ?_
  have hbel : Below w0.heap.size w0 w2 := (bT hb0 hb).trans (hk.belowB (Nat.le_trans hb0.size hb.size) (fun k hk => by
    rcases hk with hk | hk | hk
    · have := List.mem_singleton.1 hk
      subst this
      exact Nat.le_trans hb0.size hpl
    · exact hk0 k (.inl hk)
    · exact hk0 k (.inr hk)))
  have hno : ∀ {Q : Pg} {t c : Int}, LdRel D (128 + 4 * (id : Int).toNat) Q t c → c = 30 := fun hl => by
    rw [Int.toNat_natCast] at hl
    rcases hl with ⟨hd, _⟩ | ⟨_, ⟨_, h2⟩ | ⟨h1, _⟩⟩
    · rw [hup.2] at hd; cases hd
    · rw [h2, hfr]
    · rw [hfr] at h1; exact absurd h1 (by decide)
  refine ⟨?_, hbel⟩
  rw [he]
  cases hg with
  | wrong h => exact absurd h (by show ¬ (_ ∨ (6 : Int) ≤ _); omega)
  | hit i s _ _ hs _ => simp at hs
  | bad Q t c _ _ _ hl _ => rw [hno hl]
  | full Q t X1 i1 D1 cd at_ _ _ _ hl _ _ => exact absurd (hno hl) (by decide)
  | got Q t X1 i1 D1 at_ _ _ _ hl _ => exact absurd (hno hl) (by decide)
theorem BytesAt.drew {w : World} {e : TypeId} {B : Nat} {l : List Int} (h : BytesAt w e B l) : BytesAt w.drew e B l := h
theorem turn_pos (x : Int) : ∃ I : Nat, (wrap64 (x.tmod 24 + 24)).tmod 24 = (I : Int) ∧ I < 24 := by
  have h1 : -24 < x.tmod 24 ∧ x.tmod 24 < 24 := by
    refine ⟨?_, ?_⟩
    · exact Int.lt_tmod_of_pos x (by omega)
    · exact Int.tmod_lt_of_pos x (by omega)
  have h2 : wrap64 (x.tmod 24 + 24) = x.tmod 24 + 24 := by unfold wrap64; omega
  rw [h2, Int.tmod_eq_emod_of_nonneg (by omega)]
  exact ⟨((x.tmod 24 + 24) % 24).toNat, by omega, by omega⟩
theorem xor_one (S : ByteArray) (hS : S.size = 64) : 0 ≤ bits .xor .u8 ((byteL S).getD 60 0) 1 ∧ bits .xor .u8 ((byteL S).getD 60 0) 1 < 256 ∧ bits .xor .u8 ((byteL S).getD 60 0) 1 ≠ (byteL S).getD 60 0 := by
  have hl : 60 < S.data.toList.length := by
    rw [Array.length_toList]
    show 60 < S.size
    omega
  have e : (byteL S).getD 60 0 = ((S.data.toList[60].toNat : Nat) : Int) := by
    unfold byteL
    rw [List.getD_eq_getElem?_getD, List.getElem?_map, List.getElem?_eq_getElem hl]; rfl
  obtain ⟨h1, h2, h3⟩ := xor_moves S.data.toList[60].toNat 0 (UInt8.toNat_lt _) (by omega) 1 (by decide)
  rw [e]
  exact ⟨h2, h3, h1⟩
end Go.Proofs.YtimomjheanfbmaaGreatDoor
