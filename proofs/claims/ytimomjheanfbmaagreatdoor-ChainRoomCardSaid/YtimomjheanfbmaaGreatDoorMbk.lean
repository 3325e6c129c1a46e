import Derived.Test.YtimomjheanfbmaaGreatDoorMbj
set_option linter.unusedSimpArgs false
set_option linter.unusedVariables false
namespace Go.Proofs.YtimomjheanfbmaaGreatDoor
open Go.RowKit

def CleanS (l : List Slot) : Prop := ∀ (j : Nat) (s : Slot), l[j]? = some s → s.dirty = false
theorem get_clean {first n bb : Nat} {P : ByteArray} {rs : List ByteArray} {X : Pl} {i0 : Nat} {D : Dev} {id : Int} {Q : Pg} {c : Int} {X1 : Pl} {i1 : Nat} {D1 : Dev} (h : CleanS X.slots) (hg : GetRel first n bb P rs X i0 D id Q c X1 i1 D1) : CleanS X1.slots := by
  have hcool : ∀ {l : List Slot}, l.map cool = X.slots.map cool → CleanS l := fun hc j s hs => by
    obtain ⟨t, ht, he⟩ := cool_at hc hs
    rw [← (cool_eq he).2.2.2]
    exact h j t ht
  have hpl : ∀ {X1 : Pl} {i1 : Nat} {D1 : Dev} {cd : Int} {at_ : Nat}, PlaceRel first n bb P rs X i0 D X1 i1 D1 cd at_ → CleanS X1.slots := fun hp => by
    cases hp with
    | grow _ => intro j s hs; rcases app_cases hs with ⟨_, rfl⟩ | hs; exact rfl; exact h j s hs
    | keep l _ s hd _ hc _ _ => intro j t ht; rcases set_cases ht with ⟨_, rfl⟩ | ⟨_, ht⟩; exact rfl; exact hcool hc j t ht
    | wrote l _ s hd _ _ _ hc hs hdd _ => have := hcool hc _ s hs; rw [hdd] at this; cases this
    | fail l _ s hd _ _ _ hc hs hdd _ => exact hcool hc
  cases hg with
  | wrong _ => exact h
  | hit i s _ _ hs _ =>
    intro j t ht
    rcases set_cases ht with ⟨_, rfl⟩ | ⟨_, ht⟩
    · exact h i s hs
    · exact h j t ht
  | bad _ _ _ _ _ _ _ _ => exact h
  | full _ _ _ _ _ _ _ _ _ _ _ hp _ => exact hpl hp
  | got _ _ X1 _ _ _ _ _ _ _ hp =>
    intro j t ht
    rcases set_cases ht with ⟨_, rfl⟩ | ⟨_, ht⟩
    · exact rfl
    · exact hpl hp j t ht
section
variable {w0 w : World} {L : List Nat} {p lp dp : Nat} {rs : List ByteArray} {M : Nat → Pg × Int} {N : Nat}
theorem Kp.getc {i0 : Nat} {X : Pl} {sv : Value} {S Sl Sd : List Nat} {D : Dev} (h : Kp w0 w L p lp dp rs i0 X sv S Sl Sd D M N) (hcl : CleanS X.slots) (id : Int) (hid : 0 ≤ id ∧ id < X.pages) :
    Calls Tryz.prog 24 #[.pointer (some ⟨p, 0, none⟩), .int .i64 id] w fun e w' => ∃ Q i1 X1 sv1 S1 Sd1 D1, e = .returned (.tuple #[pgV Q, .int .i64 0]) ∧ Kp w0 w' L p lp dp rs i1 X1 sv1 S1 Sl Sd1 D1 M N ∧ Keeps (Own w0 L) w w' ∧ X1.pages = X.pages ∧ CleanS X1.slots ∧ pgC Q = pgC (M id.toNat).1 := by
  have hc := h.count
  have hn := h.nN
  refine (pl_get h.pw N (by omega) h.pot.soft id).mono fun e w' ⟨Q, c, i1, X1, sv1, S1, Sd1, D1, he, hg, hp, hk, hS, hSd⟩ => ?_
  obtain ⟨g1, g2, g3, g4, g5, g6, g7⟩ := get_law h.inv h.pw.ring h.pw.fit hg
  obtain ⟨k1, k2⟩ := h.step hp hk hS hSd g1 (g5 h.up) (g6 N h.pot) hn g2
  rcases g7 with ⟨r1, r2, r3⟩ | ⟨r1, r2, ⟨r3, r4⟩ | ⟨_, r3⟩⟩
  · omega
  · subst r3
    exact ⟨Q, i1, X1, sv1, S1, Sd1, D1, he, k1, k2, g3, get_clean hcl hg, r4⟩
  · have := (g5 h.up).2; rw [r3] at this; cases this
end
def Kc (w0 w : World) (L : List Nat) (p lp dp pg : Nat) (rs : List ByteArray) (M : Nat → Pg × Int) (N : Nat) : Prop :=
  ∃ i0 X sv S Sl Sd D, Kp w0 w L p lp dp rs i0 X sv S Sl Sd D M N ∧ X.pages = pg ∧ CleanS X.slots
theorem kc_get {w0 w : World} {L : List Nat} {p lp dp pg : Nat} {rs : List ByteArray} {M : Nat → Pg × Int} {N : Nat} (h : Kc w0 w L p lp dp pg rs M N) (id : Int) (hid : 0 ≤ id ∧ id < pg) :
    Calls Tryz.prog 24 #[.pointer (some ⟨p, 0, none⟩), .int .i64 id] w fun e w' => ∃ Q, e = .returned (.tuple #[pgV Q, .int .i64 0]) ∧ Kc w0 w' L p lp dp pg rs M N ∧ Keeps (Own w0 L) w w' ∧ pgC Q = pgC (M id.toNat).1 := by
  obtain ⟨i0, X, sv, S, Sl, Sd, D, h1, h2, h3⟩ := h
  exact (h1.getc h3 id ⟨hid.1, by rw [h2]; exact hid.2⟩).mono fun e w' ⟨Q, i1, X1, sv1, S1, Sd1, D1, he, k1, k2, k3, k4, k5⟩ => ⟨Q, he, ⟨i1, X1, sv1, S1, Sl, Sd1, D1, k1, by rw [k3, h2], k4⟩, k2, k5⟩
theorem Kc.later {w0 w w' : World} {L : List Nat} {p lp dp pg : Nat} {rs : List ByteArray} {M : Nat → Pg × Int} {N : Nat} (h : Kc w0 w L p lp dp pg rs M N) (hb : Below w.heap.size w w') : Kc w0 w' L p lp dp pg rs M N :=
  let ⟨i0, X, sv, S, Sl, Sd, D, h1, h2, h3⟩ := h
  ⟨i0, X, sv, S, Sl, Sd, D, h1.later hb, h2, h3⟩
theorem Kc.bel {w0 w : World} {L : List Nat} {p lp dp pg : Nat} {rs : List ByteArray} {M : Nat → Pg × Int} {N : Nat} (h : Kc w0 w L p lp dp pg rs M N) : Below w0.heap.size w0 w :=
  let ⟨i0, X, sv, S, Sl, Sd, D, h1, h2, h3⟩ := h
  h1.bel
/-- the other pool -/
theorem kc_renew {w0 w : World} {L : List Nat} {p lp dp pg : Nat} {rs : List ByteArray} {M : Nat → Pg × Int} {N : Nat} (h : Kc w0 w L p lp dp pg rs M N) (frames : Nat) (h3 : 4 ≤ frames) (h4 : frames ≤ 256) :
    Calls Tryz.prog 22 #[.pointer (some ⟨dp, 0, none⟩), .pointer (some ⟨lp, 0, none⟩), .int .i64 128, .int .i64 pg, .int .i64 frames] w fun e w' => ∃ q, e = .returned (.tuple #[.pointer (some ⟨q, 0, none⟩), .int .i64 0]) ∧ Kc w0 w' L q lp dp pg rs M N ∧ Keeps (Own w0 L) w w' := by
  obtain ⟨i0, X, sv, S, Sl, Sd, D, h1, h2, hc⟩ := h
  subst h2
  exact (h1.renew hc frames h3 h4).mono fun e w' ⟨q, X2, he, k1, k2, k3, k4⟩ => ⟨q, he, ⟨i0, X2, _, _, Sl, Sd, D, k1, k2, by rw [k3]; intro j s hs; simp at hs⟩, k4⟩
theorem kq_flush {w0 w : World} {L : List Nat} {p lp dp pg : Nat} {rs : List ByteArray} {M : Nat → Pg × Int} {N : Nat} (h : Kq w0 w L p lp dp pg rs M N) :
    Calls Tryz.prog 29 #[.pointer (some ⟨p, 0, none⟩)] w fun e w' => e = .returned (.int .i64 0) ∧ Kc w0 w' L p lp dp pg rs M N ∧ Keeps (Own w0 L) w w' := by
  obtain ⟨i0, X, sv, S, Sl, Sd, D, h1, h2⟩ := h
  exact h1.flush.mono fun e w' ⟨i1, X1, Sd1, D1, he, k1, k2, k3, k4⟩ => ⟨he, ⟨i1, X1, sv, S, Sl, Sd1, D1, k1, by rw [k3, h2], k4⟩, k2⟩
def RgS (b15 b19 i : Nat) (R : Pg) (w : World) : Prop := w.rangeAt b15 (i * 16) (pgC R).toList ∧ w.heap[b19]? = some (.cells (pgC R) 49 (0, 0))
/-! ### a byte of a stamp is turned -/
def Kt (w0 w : World) (lp dp id : Nat) : Prop := ∃ rs i0 Sl Sd D, Ws w lp dp 0 128 1 P0 rs i0 Sl Sd D ∧ D.up ∧ SoftB 2000000 D ∧ 152 ≤ D.firm.length ∧ (frOpen (D.at (128 + 4 * id)) (D.at (128 + 4 * id + 1)) (D.at (128 + 4 * id + 2)) (D.at (128 + 4 * id + 3))).2.2 = 30 ∧ Below w0.heap.size w0 w ∧ ∀ k, k ∈ Sl ∨ k ∈ Sd → w0.heap.size ≤ k
theorem kc_sector {w0 w : World} {L : List Nat} {q lp dp : Nat} {rs : List ByteArray} {M : Nat → Pg × Int} {N : Nat} (h : Kc w0 w L q lp dp 6 rs M N) (I : Nat) (hI : I < 24) :
    ∃ S : ByteArray, S.size = 64 ∧ ∀ w', Below w.heap.size w w' → (Calls Tryz.prog 120 #[.pointer (some ⟨dp, 0, none⟩), .int .i64 (128 + (I : Int))] w' fun e w2 => e = .returned (.tuple #[.string S, .int .i64 0]) ∧ w2 = w') ∧
      ∀ x : Int, 0 ≤ x → x < 256 → x ≠ (byteL S).getD 60 0 → Calls Tryz.prog 72 #[.pointer (some ⟨dp, 0, none⟩), .int .i64 (128 + (I : Int)), .string (setB S 60 x)] w' fun e w2 => e = .returned (.int .i64 0) ∧ Kt w0 w2 lp dp (I / 4) := by
  obtain ⟨i0, X, sv, S, Sl, Sd, D, hp, hpg, hcl⟩ := h
  have hfit := hp.pw.fit
  rw [hp.b128, hpg] at hfit
  obtain ⟨m1, m2, m3⟩ := hp.inv.mok (I / 4) (by rw [hpg]; omega)
  have hdev := hp.inv.dev hp.up.2 (I / 4) (by rw [hpg]; omega) (fun j s hs _ => hcl j s hs)
  rw [hp.b128] at hdev
  obtain ⟨B, hB⟩ : ∃ B, pageS (M (I / 4)).1 = B := ⟨_, rfl⟩
  obtain ⟨st, hst⟩ : ∃ st, (M (I / 4)).2 = st := ⟨_, rfl⟩
  have hBs : B.size = 224 := by rw [← hB]; exact pageS_size m1
  have hd4 : ∀ i, i < 4 → D.at (128 + 4 * (I / 4) + i) = sec B st i := fun i hi => by rw [hdev i hi, hB, hst]
  have hz := fsec_size B st (I % 4) hBs (by omega)
  have hatI : D.at (128 + I) = sec B st (I % 4) := by
    rw [← hd4 (I % 4) (by omega), show 128 + 4 * (I / 4) + I % 4 = 128 + I by omega]
  have hcnt := hp.count
  have hnn := hp.nN
  have hsoft := hp.pot.soft
  refine ⟨sec B st (I % 4), hz, fun w' hb => ⟨?_, fun x x0 x1 hx => ?_⟩⟩
  · refine (dsk_read dp (128 + (I : Int)) D Sd w' (hp.pw.ws.dsk.later hb)).mono fun e w2 ⟨he, hw⟩ => ⟨?_, hw⟩
    rw [he, up_read hp.up.2 _ (by omega) (by omega), show (128 + (I : Int)).toNat = 128 + I by omega]
    show Ending.returned (.tuple #[.string (D.at (128 + I)), .int .i64 0]) = _
    rw [hatI]
  · have hsz : (setB (sec B st (I % 4)) 60 x).size = 64 := by rw [setB_size, hz]
    have hsl : D.soft.length ≤ 3000000000000 := by
      rcases hsoft with h1 | ⟨h1, _⟩
      · omega
      · rw [hp.up.2] at h1; cases h1
    have hw := hp.pw.ws.later hb
    obtain ⟨u1, u2, u3⟩ := up_write_up hp.up (128 + (I : Int)) (setB (sec B st (I % 4)) 60 x)
    have hwr := up_write hp.up (128 + (I : Int)) (setB (sec B st (I % 4)) 60 x)
    rw [if_pos ⟨by omega, by omega, hsz⟩] at hwr
    refine (dsk_write dp (128 + (I : Int)) _ (by rw [hsz]; unfold maxLen; omega) D Sd (by omega) w' hw.dsk).mono fun e w2 ⟨he, Sd2, hd2, hk2, hs2⟩ => ⟨?_, rs, i0, Sl, Sd2, _, hw.wrote (128 + I) (setB (sec B st (I % 4)) 60 x) (by omega) (by omega) hsz hsl (by rw [show ((128 + I : Nat) : Int) = 128 + (I : Int) by omega]; exact hd2) hk2 hs2, ?_, ?_, ?_, ?_, ?_, ?_⟩
    · rw [he, hwr]
    · rw [show ((128 + I : Nat) : Int) = 128 + (I : Int) by omega]; exact u1
    · rw [show ((128 + I : Nat) : Int) = 128 + (I : Int) by omega]
      refine .inl ?_
      rcases hsoft with h1 | ⟨h1, _⟩
      · omega
      · rw [hp.up.2] at h1; cases h1
    · rw [show ((128 + I : Nat) : Int) = 128 + (I : Int) by omega, u2]; omega
    · have hat : ∀ p, p < D.firm.length → Dev.at (D.write ((128 + I : Nat) : Int) (setB (sec B st (I % 4)) 60 x)).1 p = if 128 + I = p then setB (sec B st (I % 4)) 60 x else D.at p := fun p hpl => by
        rw [show ((128 + I : Nat) : Int) = 128 + (I : Int) by omega, hwr]
        unfold Dev.at
        show (D.seen.set (128 + (I : Int)).toNat _).getD p _ = _
        rw [show (128 + (I : Int)).toNat = 128 + I by omega, getD_set _ _ _ _ _ (by rw [hp.pw.ws.dsk.1.2.2.1]; exact hpl)]
      rw [hat _ (by omega), hat _ (by omega), hat _ (by omega), hat _ (by omega)]
      have e0 := hd4 0 (by omega)
      have e1 := hd4 1 (by omega)
      have e2 := hd4 2 (by omega)
      have e3 := hd4 3 (by omega)
      rw [Nat.add_zero] at e0
      rw [e0, e1, e2, e3]
      obtain ⟨t0, t1, t2, t3⟩ := frOpen_torn B st hBs 4 (by omega) x x0 x1
      have hr : I % 4 = 0 ∨ I % 4 = 1 ∨ I % 4 = 2 ∨ I % 4 = 3 := by omega
      rcases hr with hr | hr | hr | hr
      · rw [hr] at hx ⊢
        rw [if_pos (by omega), if_neg (by omega), if_neg (by omega), if_neg (by omega), t0 hx]
      · rw [hr] at hx ⊢
        rw [if_neg (by omega), if_pos (by omega), if_neg (by omega), if_neg (by omega), t1 hx]
      · rw [hr] at hx ⊢
        rw [if_neg (by omega), if_neg (by omega), if_pos (by omega), if_neg (by omega), t2 hx]
      · rw [hr] at hx ⊢
        rw [if_neg (by omega), if_neg (by omega), if_neg (by omega), if_pos (by omega), t3 hx]
    · exact (bT hp.bel hb).trans (hk2.belowB (Nat.le_trans hp.bel.size hb.size) (fun k hk => (hp.fr k (.inr (.inr hk))).1))
    · intro k hk
      rcases hk with hk | hk
      · exact (hp.fr k (.inr (.inl hk))).1
      · rcases hs2 k hk with hk | hk
        · exact (hp.fr k (.inr (.inr hk))).1
        · exact Nat.le_trans (Nat.le_trans hp.bel.size hb.size) hk
theorem kt_new {w0 w : World} {lp dp id : Nat} (h : Kt w0 w lp dp id) (hid : id < 6) :
    Calls Tryz.prog 22 #[.pointer (some ⟨dp, 0, none⟩), .pointer (some ⟨lp, 0, none⟩), .int .i64 128, .int .i64 6, .int .i64 5] w fun e w' => ∃ q, e = .returned (.tuple #[.pointer (some ⟨q, 0, none⟩), .int .i64 0]) ∧
      Calls Tryz.prog 24 #[.pointer (some ⟨q, 0, none⟩), .int .i64 (id : Int)] w' fun e w2 => e = .returned (.tuple #[pgV pageZ, .int .i64 30]) ∧ Below w0.heap.size w0 w2 := by
  obtain ⟨rs, i0, Sl, Sd, D, hw, hup, hsf, hln, hfr, hb0, hk0⟩ := h
  refine (pl_new hw 128 6 5 (by omega) (by omega) (by omega) (by omega) (by omega) (by omega)).mono fun e w' ⟨q, he, hp, hb, hpl⟩ => ⟨q, he, ?_⟩
  refine (pl_get hp 2000000 (by omega) hsf (id : Int)).mono fun e w2 ⟨Q, c, i1, X1, sv1, S1, Sd1, D1, he, hg, hp1, hk, hS, hSd⟩ => ?_
  have hbel : Below w0.heap.size w0 w2 := (bT hb0 hb).trans (hk.belowB (Nat.le_trans hb0.size hb.size) (fun k hk => by
    rcases hk with hk | hk | hk
    · have := List.mem_singleton.1 hk
      subst this
      exact Nat.le_trans hb0.size hpl
    · exact hk0 k (.inl hk)
    · exact hk0 k (.inr hk)))
  have hno : ∀ {Q : Pg} {t c : Int}, LdRel D (128 + 4 * (id : Int).toNat) Q t c → c = 30 := fun hl => by
    rw [Int.toNat_natCast] at hl
    rcases hl with ⟨hd, _⟩ | ⟨_, ⟨_, h2⟩ | ⟨h1, _⟩⟩
    · rw [hup.2] at hd; cases hd
    · rw [h2, hfr]
    · rw [hfr] at h1; exact absurd h1 (by decide)
  refine ⟨?_, hbel⟩
  rw [he]
  cases hg with
  | wrong h => exact absurd h (by show ¬ (_ ∨ (6 : Int) ≤ _); omega)
  | hit i s _ _ hs _ => simp at hs
  | bad Q t c _ _ _ hl _ => rw [hno hl]
  | full Q t X1 i1 D1 cd at_ _ _ _ hl _ _ => exact absurd (hno hl) (by decide)
  | got Q t X1 i1 D1 at_ _ _ _ hl _ => exact absurd (hno hl) (by decide)
theorem BytesAt.drew {w : World} {e : TypeId} {B : Nat} {l : List Int} (h : BytesAt w e B l) : BytesAt w.drew e B l := h
theorem turn_pos (x : Int) : ∃ I : Nat, (wrap64 (x.tmod 24 + 24)).tmod 24 = (I : Int) ∧ I < 24 := by
  have h1 : -24 < x.tmod 24 ∧ x.tmod 24 < 24 := by
    refine ⟨?_, ?_⟩
    · exact Int.lt_tmod_of_pos x (by omega)
    · exact Int.tmod_lt_of_pos x (by omega)
  have h2 : wrap64 (x.tmod 24 + 24) = x.tmod 24 + 24 := by unfold wrap64; omega
  rw [h2, Int.tmod_eq_emod_of_nonneg (by omega)]
  exact ⟨((x.tmod 24 + 24) % 24).toNat, by omega, by omega⟩
theorem xor_one (S : ByteArray) (hS : S.size = 64) : 0 ≤ bits .xor .u8 ((byteL S).getD 60 0) 1 ∧ bits .xor .u8 ((byteL S).getD 60 0) 1 < 256 ∧ bits .xor .u8 ((byteL S).getD 60 0) 1 ≠ (byteL S).getD 60 0 := by
  have hl : 60 < S.data.toList.length := by
    rw [Array.length_toList]
    show 60 < S.size
    omega
  have e : (byteL S).getD 60 0 = ((S.data.toList[60].toNat : Nat) : Int) := by
    unfold byteL
    rw [List.getD_eq_getElem?_getD, List.getElem?_map, List.getElem?_eq_getElem hl]; rfl
  obtain ⟨h1, h2, h3⟩ := xor_moves S.data.toList[60].toNat 0 (UInt8.toNat_lt _) (by omega) 1 (by decide)
  rw [e]
  exact ⟨h2, h3, h1⟩
end Go.Proofs.YtimomjheanfbmaaGreatDoor

namespace Go.Proofs.YtimomjheanfbmaaGreatDoor
open Go.RowKit
open Go.Maps (Keyed int_keyed keyOf_int_mk)

/-! ### which slots are dirty -/
theorem place_dirty {first n bb : Nat} {P : ByteArray} {rs : List ByteArray} {X : Pl} {i0 : Nat} {D : Dev} {X1 : Pl} {i1 : Nat} {D1 : Dev} {cd : Int} {at_ : Nat} (hp : PlaceRel first n bb P rs X i0 D X1 i1 D1 cd at_) :
    X1.room = X.room ∧ ∀ (j : Nat) (s : Slot), X1.slots[j]? = some s → s.dirty = true → ∃ (i : Nat) (t : Slot), X.slots[i]? = some t ∧ t.dirty = true ∧ t.id = s.id := by
  have hcool : ∀ {l : List Slot}, l.map cool = X.slots.map cool → ∀ (j : Nat) (s : Slot), l[j]? = some s → s.dirty = true → ∃ (i : Nat) (t : Slot), X.slots[i]? = some t ∧ t.dirty = true ∧ t.id = s.id := fun hc j s hs hd => by
    obtain ⟨t, ht, he⟩ := cool_at hc hs
    obtain ⟨e1, e2, e3, e4⟩ := cool_eq he
    exact ⟨j, t, ht, by rw [e4]; exact hd, e1⟩
  cases hp with
  | grow _ =>
    refine ⟨rfl, fun j s hs hd => ?_⟩
    rcases app_cases hs with ⟨_, rfl⟩ | hs
    · cases hd
    · exact ⟨j, s, hs, hd, rfl⟩
  | keep l _ s hd _ hc _ _ =>
    refine ⟨rfl, fun j t ht htd => ?_⟩
    rcases set_cases ht with ⟨_, rfl⟩ | ⟨_, ht⟩
    · cases htd
    · exact hcool hc j t ht htd
  | wrote l _ s hd _ _ _ hc hs hdd _ =>
    refine ⟨rfl, fun j t ht htd => ?_⟩
    rcases set_cases ht with ⟨_, rfl⟩ | ⟨_, ht⟩
    · cases htd
    · exact hcool hc j t ht htd
  | fail l _ s hd _ _ _ hc hs hdd _ => exact ⟨rfl, hcool hc⟩
theorem get_dirty {first n bb : Nat} {P : ByteArray} {rs : List ByteArray} {X : Pl} {i0 : Nat} {D : Dev} {id : Int} {Q : Pg} {c : Int} {X1 : Pl} {i1 : Nat} {D1 : Dev} (hg : GetRel first n bb P rs X i0 D id Q c X1 i1 D1) :
    X1.room = X.room ∧ ∀ (j : Nat) (s : Slot), X1.slots[j]? = some s → s.dirty = true → ∃ (i : Nat) (t : Slot), X.slots[i]? = some t ∧ t.dirty = true ∧ t.id = s.id := by
  cases hg with
  | wrong _ => exact ⟨rfl, fun j s hs hd => ⟨j, s, hs, hd, rfl⟩⟩
  | hit i s _ _ hs _ =>
    refine ⟨rfl, fun j t ht hd => ?_⟩
    rcases set_cases ht with ⟨_, rfl⟩ | ⟨_, ht⟩
    · exact ⟨i, s, hs, hd, rfl⟩
    · exact ⟨j, t, ht, hd, rfl⟩
  | bad _ _ _ _ _ _ _ _ => exact ⟨rfl, fun j s hs hd => ⟨j, s, hs, hd, rfl⟩⟩
  | full _ _ _ _ _ _ _ _ _ _ _ hp _ => exact place_dirty hp
  | got _ _ X1 _ _ _ _ _ _ _ hp =>
    obtain ⟨h1, h2⟩ := place_dirty hp
    refine ⟨h1, fun j t ht hd => ?_⟩
    rcases set_cases ht with ⟨_, rfl⟩ | ⟨_, ht⟩
    · cases hd
    · exact h2 j t ht hd
theorem put_dirty {first n bb : Nat} {P : ByteArray} {rs : List ByteArray} {X : Pl} {i0 : Nat} {D : Dev} {id : Int} {x : Pg} {st : Int} {c : Int} {X1 : Pl} {i1 : Nat} {D1 : Dev} (hg : PutRel first n bb P rs X i0 D id x st c X1 i1 D1) :
    X1.room = X.room ∧ ∀ (j : Nat) (s : Slot), X1.slots[j]? = some s → s.dirty = true → (c = 0 ∧ s.id = id) ∨ ∃ (i : Nat) (t : Slot), X.slots[i]? = some t ∧ t.dirty = true ∧ t.id = s.id := by
  cases hg with
  | bad _ => exact ⟨rfl, fun j s hs hd => .inr ⟨j, s, hs, hd, rfl⟩⟩
  | over i s _ _ _ _ hs _ =>
    refine ⟨rfl, fun j t ht hd => ?_⟩
    rcases set_cases ht with ⟨_, rfl⟩ | ⟨_, ht⟩
    · exact .inl ⟨rfl, rfl⟩
    · exact .inr ⟨j, t, ht, hd, rfl⟩
  | full _ _ _ _ _ _ _ _ _ _ hp _ => exact ⟨(place_dirty hp).1, fun j s hs hd => .inr ((place_dirty hp).2 j s hs hd)⟩
  | new X1 _ _ _ _ _ _ _ _ hp =>
    obtain ⟨h1, h2⟩ := place_dirty hp
    refine ⟨h1, fun j t ht hd => ?_⟩
    rcases set_cases ht with ⟨_, rfl⟩ | ⟨_, ht⟩
    · exact .inl ⟨rfl, rfl⟩
    · exact .inr (h2 j t ht hd)

/-! ### a pool of a law, and something on it -/
def Kx (w0 w : World) (L : List Nat) (p lp dp : Nat) (rs : List ByteArray) (M : Nat → Pg × Int) (N : Nat) (F : Pl → Prop) : Prop :=
  ∃ i0 X sv S Sl Sd D, Kp w0 w L p lp dp rs i0 X sv S Sl Sd D M N ∧ F X
section
variable {w0 w w' : World} {L : List Nat} {p lp dp : Nat} {rs : List ByteArray} {M : Nat → Pg × Int} {N : Nat} {F : Pl → Prop}
theorem Kx.later (h : Kx w0 w L p lp dp rs M N F) (hb : Below w.heap.size w w') : Kx w0 w' L p lp dp rs M N F :=
  let ⟨i0, X, sv, S, Sl, Sd, D, h1, h2⟩ := h
  ⟨i0, X, sv, S, Sl, Sd, D, h1.later hb, h2⟩
theorem Kx.keep (h : Kx w0 w L p lp dp rs M N F) (hk : Keeps (· ∈ L) w w') (hL : ∀ k ∈ L, w0.heap.size ≤ k) : Kx w0 w' L p lp dp rs M N F :=
  let ⟨i0, X, sv, S, Sl, Sd, D, h1, h2⟩ := h
  ⟨i0, X, sv, S, Sl, Sd, D, h1.keep hk hL, h2⟩
theorem Kx.bel (h : Kx w0 w L p lp dp rs M N F) : Below w0.heap.size w0 w :=
  let ⟨i0, X, sv, S, Sl, Sd, D, h1, h2⟩ := h
  h1.bel
theorem Kx.count (h : Kx w0 w L p lp dp rs M N F) : rs.length ≤ 2304 ∧ lenL rs ≤ 6912 ∧ N ≤ 4 * rs.length + 100 :=
  let ⟨i0, X, sv, S, Sl, Sd, D, h1, h2⟩ := h
  ⟨h1.count.1, h1.count.2, h1.nN⟩
theorem Kx.more (h : Kx w0 w L p lp dp rs M N F) (hb : Below w.heap.size w w') (L' : List Nat) (hl : ∀ k ∈ L', k < w'.heap.size) (hn : ∀ k ∈ L', k ∈ L ∨ w.heap.size ≤ k) : Kx w0 w' L' p lp dp rs M N F :=
  let ⟨i0, X, sv, S, Sl, Sd, D, h1, h2⟩ := h
  ⟨i0, X, sv, S, Sl, Sd, D, (h1.later hb).relist L' hl (fun k hk => (hn k hk).imp (fun h => h) (fun h => ⟨fun h' => by have := h1.pw.pool.lt k h'; omega, fun h' => by have := h1.pw.ws.log.lt k h'; omega, fun h' => by have := h1.pw.ws.dsk.lt k h'; omega⟩)), h2⟩
theorem Kx.less (h : Kx w0 w L p lp dp rs M N F) (L' : List Nat) (hn : ∀ k ∈ L', k ∈ L) : Kx w0 w L' p lp dp rs M N F :=
  let ⟨i0, X, sv, S, Sl, Sd, D, h1, h2⟩ := h
  ⟨i0, X, sv, S, Sl, Sd, D, h1.relist L' (fun k hk => h1.loc k (hn k hk)) (fun k hk => .inl (hn k hk)), h2⟩
theorem Kx.mono (h : Kx w0 w L p lp dp rs M N F) {N' : Nat} (h1 : N ≤ N') (h2 : N' ≤ 4 * rs.length + 100) : Kx w0 w L p lp dp rs M N' F := by
  obtain ⟨i0, X, sv, S, Sl, Sd, D, hp, hF⟩ := h
  refine ⟨i0, X, sv, S, Sl, Sd, D, ⟨hp.pw, hp.inv, hp.up, ?_, h2, hp.fr, hp.loc, hp.bel, hp.b128⟩, hF⟩
  obtain ⟨m, a, b⟩ := hp.pot
  exact ⟨m, a, by omega⟩
theorem kx_append (h : Kx w0 w L p lp dp rs M N F) (r : ByteArray) (hr : r.size ≤ maxLen) :
    Calls Tryz.prog 26 #[.pointer (some ⟨lp, 0, none⟩), .string r] w fun e w' => ((refuses rs r = true ∧ ∃ c, c ≠ 0 ∧ e = .returned (.tuple #[.int .i64 0, .int .i64 c]) ∧ Kx w0 w' L p lp dp rs M N F) ∨
      (refuses rs r = false ∧ e = .returned (.tuple #[.int .i64 ((54 + lenL rs : Nat) : Int), .int .i64 0]) ∧ Kx w0 w' L p lp dp (rs ++ [r]) M N F)) ∧ Keeps (Own w0 L) w w' := by
  obtain ⟨i0, X, sv, S, Sl, Sd, D, h1, h2⟩ := h
  refine (ws_append2 h1.pw.ws r hr).mono fun e w' hp => ?_
  rcases hp with ⟨hrf, c, hc, he, hb⟩ | ⟨hrf, he, S', hw, hk, hs⟩
  · exact ⟨.inl ⟨hrf, c, hc, he, i0, X, sv, S, Sl, Sd, D, h1.later hb, h2⟩, Keeps.of_below _ hb⟩
  · have hko : Keeps (Own w0 L) w w' := hk.mono (fun k _ hk' => h1.fr k (.inr (.inl hk')))
    refine ⟨.inr ⟨hrf, he, i0, X, sv, S, S', Sd, D, ⟨⟨h1.pw.pool.keep hk (fun k hk' h' => h1.pw.dl k hk' h'), hw, fun k hk' h' => ?_, h1.pw.dd, h1.pw.ring, h1.pw.fit⟩, h1.inv, h1.up, h1.pot, by have := h1.nN; rw [List.length_append]; omega, fun k hk' => ?_, fun k hk' => Nat.lt_of_lt_of_le (h1.loc k hk') hk.size, h1.bel.trans (hko.belowB h1.bel.size (fun k hk' => hk'.1)), h1.b128⟩, h2⟩, hko⟩
    · rcases hs k h' with h3 | h3
      · exact h1.pw.dl k hk' h3
      · have := h1.pw.pool.lt k hk'; omega
    · rcases hk' with hk' | hk' | hk'
      · exact h1.fr k (.inl hk')
      · rcases hs k hk' with h3 | h3
        · exact h1.fr k (.inr (.inl h3))
        · exact ⟨Nat.le_trans h1.bel.size h3, fun h4 => by have := h1.loc k h4; omega⟩
      · exact h1.fr k (.inr (.inr hk'))
end
/-- what is dirty stands in T -/
def DirtyIn (pg fr : Nat) (T : Int → Bool) (X : Pl) : Prop := X.pages = pg ∧ X.room = fr ∧ ∀ (j : Nat) (s : Slot), X.slots[j]? = some s → s.dirty = true → T s.id = true
section
variable {w0 w w' : World} {L : List Nat} {p lp dp : Nat} {rs : List ByteArray} {M : Nat → Pg × Int} {N pg fr : Nat} {T : Int → Bool}
theorem kd_get (h : Kx w0 w L p lp dp rs M N (DirtyIn pg fr T)) (id : Int) :
    Calls Tryz.prog 24 #[.pointer (some ⟨p, 0, none⟩), .int .i64 id] w fun e w' => ∃ Q c, e = .returned (.tuple #[pgV Q, .int .i64 c]) ∧ Kx w0 w' L p lp dp rs M N (DirtyIn pg fr T) ∧ Keeps (Own w0 L) w w' ∧
      ((0 ≤ id ∧ id < pg ∧ c = 0 ∧ pgC Q = pgC (M id.toNat).1) ∨ ((id < 0 ∨ (pg : Int) ≤ id) ∧ c = 1 ∧ Q = pageZ)) := by
  obtain ⟨i0, X, sv, S, Sl, Sd, D, h, hF1, hF2, hF3⟩ := h
  have hc := h.count
  have hn := h.nN
  refine (pl_get h.pw N (by omega) h.pot.soft id).mono fun e w' ⟨Q, c, i1, X1, sv1, S1, Sd1, D1, he, hg, hp, hk, hS, hSd⟩ => ?_
  obtain ⟨g1, g2, g3, g4, g5, g6, g7⟩ := get_law h.inv h.pw.ring h.pw.fit hg
  obtain ⟨k1, k2⟩ := h.step hp hk hS hSd g1 (g5 h.up) (g6 N h.pot) hn g2
  obtain ⟨d1, d2⟩ := get_dirty hg
  refine ⟨Q, c, he, ⟨i1, X1, sv1, S1, Sl, Sd1, D1, k1, by rw [g3, hF1], by rw [d1, hF2], fun j s hs hd => ?_⟩, k2, ?_⟩
  · obtain ⟨i, t, ht, htd, hte⟩ := d2 j s hs hd
    rw [← hte]; exact hF3 i t ht htd
  · rw [hF1] at g7
    rcases g7 with ⟨r1, r2, r3⟩ | ⟨r1, r2, ⟨r3, r4⟩ | ⟨_, r3⟩⟩
    · exact .inr ⟨r1, r2, r3⟩
    · exact .inl ⟨r1, r2, r3, r4⟩
    · have := (g5 h.up).2; rw [r3] at this; cases this
theorem kd_put (h : Kx w0 w L p lp dp rs M N (DirtyIn pg fr T)) (hN : N + 4 ≤ 4 * rs.length + 100) (id : Int) (x : Pg) (hx : ∀ i, i < 6 → (x.dt i).size ≤ maxLen) (st : Int) (hst : 0 ≤ st ∧ st ≤ 1152921504606846976) :
    Calls Tryz.prog 27 #[.pointer (some ⟨p, 0, none⟩), .int .i64 id, pgV x, .int .i64 st] w fun e w' => ∃ c M1, e = .returned (.int .i64 c) ∧ Keeps (Own w0 L) w w' ∧
      ((0 ≤ id ∧ id < pg ∧ PgOk x ∧ c = 0 ∧ M1 = upd M id.toNat (x, st) ∧ Kx w0 w' L p lp dp rs M1 (N + 4) (DirtyIn pg fr (fun i => if i = id then true else T i))) ∨ (¬ (0 ≤ id ∧ id < pg ∧ PgOk x) ∧ c = 1 ∧ M1 = M ∧ Kx w0 w' L p lp dp rs M1 (N + 4) (DirtyIn pg fr T))) := by
  obtain ⟨i0, X, sv, S, Sl, Sd, D, h, hF1, hF2, hF3⟩ := h
  have hc := h.count
  have hn := h.nN
  refine (pl_put h.pw N (by omega) h.pot.soft id x hx st hst.2).mono fun e w' ⟨c, i1, X1, sv1, S1, Sd1, D1, he, hg, hp, hk, hS, hSd⟩ => ?_
  obtain ⟨d1, d2⟩ := put_dirty hg
  obtain ⟨g2, g3, g4, g5, g6, g7⟩ := put_law h.inv h.pw.ring h.pw.fit hst.2 hg
  rw [hF1] at g7
  rcases g7 with ⟨r1, r2, r3, r4⟩ | ⟨r1, r2, r3, r4, ⟨r5, r6⟩ | ⟨_, r5, _⟩⟩
  · subst r3 r4
    obtain ⟨k1, k2⟩ := h.step hp hk hS hSd h.inv h.up (g6 N h.pot) hN g2
    refine ⟨c, M, he, k2, .inr ⟨fun ⟨q1, q2, q3⟩ => ?_, r2, rfl, i1, _, sv1, S1, Sl, Sd1, _, k1, hF1, hF2, hF3⟩⟩
    rcases r1 with h' | h' | h' | h'
    · omega
    · omega
    · omega
    · exact h' q3
  · obtain ⟨k1, k2⟩ := h.step hp hk hS hSd r6 (g5 h.up) (g6 N h.pot) hN g2
    refine ⟨c, _, he, k2, .inl ⟨r1, r2, r4, r5, rfl, i1, X1, sv1, S1, Sl, Sd1, D1, k1, by rw [g3, hF1], by rw [d1, hF2], fun j s hs hd => ?_⟩⟩
    rcases d2 j s hs hd with ⟨_, hid⟩ | ⟨i, t, ht, htd, hte⟩
    · show (if s.id = id then true else T s.id) = true
      rw [if_pos hid]
    · show (if s.id = id then true else T s.id) = true
      split
      · rfl
      · rw [← hte]; exact hF3 i t ht htd
  · have := (g5 h.up).2; rw [r5] at this; cases this
theorem kd_flush (h : Kx w0 w L p lp dp rs M N (DirtyIn pg fr T)) :
    Calls Tryz.prog 29 #[.pointer (some ⟨p, 0, none⟩)] w fun e w' => e = .returned (.int .i64 0) ∧ Kx w0 w' L p lp dp rs M N (DirtyIn pg fr (fun _ => false)) ∧ Keeps (Own w0 L) w w' := by
  obtain ⟨i0, X, sv, S, Sl, Sd, D, h, hF1, hF2, hF3⟩ := h
  have hc := h.count
  have hn := h.nN
  refine (pl_flush h.pw N (by omega) h.pot.soft).mono fun e w' ⟨c, l, i1, Sd1, D1, he, hg, hp, hk, hSd⟩ => ?_
  obtain ⟨g1, g2, g3, g4, g5⟩ := flush_law2 h.inv h.pw.ring h.pw.fit hg
  obtain ⟨k1, k2⟩ := h.step hp hk (fun k hk => .inl hk) hSd g1 (g3 h.up) (g4 N h.pot) hn rfl
  rcases g5 with ⟨rfl, r2⟩ | ⟨_, r2⟩
  · exact ⟨he, ⟨i1, _, sv, S, Sl, Sd1, D1, k1, hF1, hF2, fun j s hs hd => by rw [r2 j s hs] at hd; cases hd⟩, k2⟩
  · have := (g3 h.up).2; rw [r2] at this; cases this
theorem dirty_nodup {X : Pl} {D : Dev} {M : Nat → Pg × Int} (h : PInv X D M) : (dirtyL X.slots).Nodup := by
  unfold dirtyL
  rw [List.Nodup, List.pairwise_map, List.pairwise_filter]
  rw [List.pairwise_iff_getElem]
  intro i j hi hj hij h1 h2 he
  have := h.uniq i j _ _ (List.getElem?_eq_getElem hi) (List.getElem?_eq_getElem hj) he (h.dty i _ (List.getElem?_eq_getElem hi) h1)
  omega
theorem sortI_asc (l : List Int) (hn : l.Nodup) (i : Nat) (hi : i + 1 < (sortI l).length) : (sortI l)[i]'(by omega) < (sortI l)[i + 1] := by
  have hp : (sortI l).Pairwise (fun x y => decide (x ≤ y) = true) := List.pairwise_mergeSort (le := fun x y => decide (x ≤ y)) (fun a b c hab hbc => by simp only [decide_eq_true_eq] at *; omega) (fun a b => by simp only [Bool.or_eq_true, decide_eq_true_eq]; omega) l
  have hd : (sortI l).Nodup := (List.mergeSort_perm l _).nodup_iff.2 hn
  have h1 := List.pairwise_iff_getElem.1 hp i (i + 1) (by omega) hi (by omega)
  have h2 := List.pairwise_iff_getElem.1 hd i (i + 1) (by omega) hi (by omega)
  simp only [decide_eq_true_eq] at h1
  omega
theorem kd_dirty (h : Kx w0 w L p lp dp rs M N (DirtyIn pg fr T)) :
    Calls Tryz.prog 30 #[.pointer (some ⟨p, 0, none⟩)] w fun e w' => ∃ (v : Value) (l : List Int), e = .returned v ∧ OwnS w' 3 1 v l.length (l.map (Value.int .i64)) ∧ Below w.heap.size w w' ∧ (∀ k ∈ blk v, w.heap.size ≤ k) ∧ l.length ≤ fr ∧ (∀ x ∈ l, T x = true ∧ 0 ≤ x ∧ x < pg) ∧ ∀ (i : Nat) (hi : i + 1 < l.length), l[i]'(by omega) < l[i + 1] := by
  obtain ⟨i0, X, sv, S, Sl, Sd, D, h, hF1, hF2, hF3⟩ := h
  refine (pl_dirty h.pw.pool).mono fun e w' ⟨v, he, ho, hb, hk⟩ => ⟨v, sortI (dirtyL X.slots), he, ?_, hb, hk, ?_, fun x hx => ?_, fun i hi => sortI_asc _ (dirty_nodup h.inv) i hi⟩
  · unfold sortI at ho ⊢
    rw [List.length_mergeSort]
    exact ho
  · unfold sortI
    rw [List.length_mergeSort]
    unfold dirtyL
    rw [List.length_map, ← hF2]
    exact Nat.le_trans (List.length_filter_le _ _) h.pw.pool.1.2.2.2.2.2.1
  · have hx2 := (List.mergeSort_perm (dirtyL X.slots) _).mem_iff.1 hx
    unfold dirtyL at hx2
    rw [List.mem_map] at hx2
    obtain ⟨s, hs, rfl⟩ := hx2
    rw [List.mem_filter] at hs
    obtain ⟨i, hi⟩ := List.getElem?_of_mem hs.1
    have h2 := h.inv.hold i s hi (h.inv.dty i s hi hs.2)
    rw [hF1] at h2
    exact ⟨hF3 i s hi hs.2, h2.1, h2.2.1⟩
end
theorem Kx.imp {w0 w : World} {L : List Nat} {p lp dp : Nat} {rs : List ByteArray} {M : Nat → Pg × Int} {N : Nat} {F G : Pl → Prop} (h : Kx w0 w L p lp dp rs M N F) (hi : ∀ X, F X → G X) : Kx w0 w L p lp dp rs M N G :=
  let ⟨i0, X, sv, S, Sl, Sd, D, h1, h2⟩ := h
  ⟨i0, X, sv, S, Sl, Sd, D, h1, hi X h2⟩
theorem kx_pool {w0 w : World} {L : List Nat} {lp dp N0 : Nat} {Sl Sd : List Nat} (h : Lk w0 w L lp dp N0 Sl Sd) (pages frames : Nat) (h1 : 1 ≤ pages) (h2 : pages ≤ 1024) (h3 : 4 ≤ frames) (h4 : frames ≤ 256) (h5 : 128 + 4 * pages ≤ N0) :
    Calls Tryz.prog 22 #[.pointer (some ⟨dp, 0, none⟩), .pointer (some ⟨lp, 0, none⟩), .int .i64 128, .int .i64 pages, .int .i64 frames] w fun e w' => ∃ p, e = .returned (.tuple #[.pointer (some ⟨p, 0, none⟩), .int .i64 0]) ∧ Kx w0 w' L p lp dp [] M0 0 (fun X => X.pages = pages ∧ X.room = frames ∧ X.slots = []) ∧ Keeps (Own w0 L) w w' := by
  have hlen : (Dev.new N0).firm.length = N0 := List.length_replicate
  refine (pl_new h.ws 128 pages frames h1 h2 h3 h4 (by rw [hlen]; exact h5) (by omega)).mono fun e w' ⟨p, he, hp, hb, hpl⟩ => ⟨p, he, ⟨0, _, _, [p], Sl, Sd, Dev.new N0, ⟨hp, pinv_new N0 128 pages frames h5, ⟨rfl, rfl⟩, ⟨0, .inl (by simp [Dev.new]), by simp [nDirty]⟩, by simp, fun k hk => ?_, fun k hk => Nat.lt_of_lt_of_le (h.loc k hk) hb.size, bT h.bel hb, rfl⟩, rfl, rfl, rfl⟩, Keeps.of_below _ hb⟩
  rcases hk with hk | hk
  · have := List.mem_singleton.1 hk
    subst this
    exact ⟨Nat.le_trans h.bel.size hpl, fun h4 => by have := h.loc k h4; omega⟩
  · exact h.fr k hk
end Go.Proofs.YtimomjheanfbmaaGreatDoor
