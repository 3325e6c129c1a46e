import Derived.Test.YtimomjheanfbmaaGreatDoorMbg
set_option linter.unusedSimpArgs false
set_option linter.unusedVariables false
namespace Go.Proofs.YtimomjheanfbmaaGreatDoor
open Go.RowKit

def nDirty (l : List Slot) : Nat := l.countP (·.dirty)
/-- room for what is pending -/
def Pot (n : Nat) (D : Dev) (l : List Slot) : Prop := ∃ m, SoftB m D ∧ m + 4 * nDirty l ≤ n
theorem nDirty_cool {l m : List Slot} (h : l.map cool = m.map cool) : nDirty l = nDirty m := by
  have h1 : ∀ l : List Slot, nDirty l = (l.map cool).countP (·.dirty) := fun l => by
    unfold nDirty
    rw [List.countP_map]
    rfl
  rw [h1, h1, h]
theorem nDirty_set {l : List Slot} {i : Nat} {s s' : Slot} (hs : l[i]? = some s) : nDirty (l.set i s') + (if s.dirty = true then 1 else 0) = nDirty l + (if s'.dirty = true then 1 else 0) := by
  have hl := (List.getElem?_eq_some_iff.1 hs).1
  have hg : l[i] = s := (List.getElem?_eq_some_iff.1 hs).2
  have e1 : l = l.take i ++ (l[i] :: l.drop (i + 1)) := by rw [← List.drop_eq_getElem_cons hl, List.take_append_drop]
  have e2 : l.set i s' = l.take i ++ (s' :: l.drop (i + 1)) := by rw [List.set_eq_take_append_cons_drop, if_pos hl]
  unfold nDirty
  rw [e2]
  conv => rhs; rw [e1]
  rw [hg, List.countP_append, List.countP_append, List.countP_cons, List.countP_cons]
  omega
theorem nDirty_app (l : List Slot) : nDirty (l ++ [slBlank]) = nDirty l := by
  unfold nDirty
  rw [List.countP_append]
  rfl
theorem Pot.soft {n : Nat} {D : Dev} {l : List Slot} (h : Pot n D l) : SoftB n D := by
  obtain ⟨m, h1, h2⟩ := h
  exact h1.mono (by omega)
section
variable {first n bb : Nat} {P : ByteArray} {rs : List ByteArray} {X : Pl} {i0 : Nat} {D : Dev} {M : Nat → Pg × Int}
theorem place_law (h : PInv X D M) (hr : first + n ≤ X.base) (hf : X.base + 4 * X.pages ≤ D.firm.length) {X1 : Pl} {i1 : Nat} {D1 : Dev} {cd : Int} {at_ : Nat} (hp : PlaceRel first n bb P rs X i0 D X1 i1 D1 cd at_) :
    PInv X1 D1 M ∧ X1.base = X.base ∧ X1.pages = X.pages ∧ D1.firm.length = D.firm.length ∧ (D.up → D1.up ∧ cd = 0) ∧
    ((cd = 0 ∧ X1.slots[at_]? = some slBlank ∧ ∀ (a : Nat) (u : Slot), X1.slots[a]? = some u → u.id = -1 ∨ ∃ (b : Nat) (t : Slot), X.slots[b]? = some t ∧ t.id = u.id) ∨ (cd = 20 ∧ D1.down = true)) ∧ ∀ N, Pot N D X.slots → Pot N D1 X1.slots := by
  have keys : ∀ {l : List Slot} {a : Nat} {u : Slot}, l.map cool = X.slots.map cool → l[a]? = some u → ∃ (b : Nat) (t : Slot), X.slots[b]? = some t ∧ t.id = u.id := fun hc hu => by
    obtain ⟨t, ht, he⟩ := cool_at hc hu
    exact ⟨_, t, ht, (cool_eq he).1⟩
  cases hp with
  | grow hl =>
    refine ⟨h.more, rfl, rfl, rfl, fun hu => ⟨hu, rfl⟩, .inl ⟨rfl, ?_, fun a u hu => ?_⟩, fun N hN => ?_⟩
    · show (X.slots ++ [slBlank])[X.slots.length]? = _
      rw [List.getElem?_append_right (Nat.le_refl _), Nat.sub_self]; rfl
    · rcases app_cases hu with ⟨_, rfl⟩ | hu1
      · exact .inl rfl
      · exact .inr ⟨a, u, hu1, rfl⟩
    · obtain ⟨m, h1, h2⟩ := hN
      exact ⟨m, h1, by rw [nDirty_app]; exact h2⟩
  | keep l _ s hd hl hc hs hdd =>
    refine ⟨(h.cool (hd := hd) hc).blank hs hdd, rfl, rfl, rfl, fun hu => ⟨hu, rfl⟩, .inl ⟨rfl, set_same hs, fun a u hu => ?_⟩, fun N hN => ?_⟩
    · rcases set_cases hu with ⟨_, rfl⟩ | ⟨_, hu1⟩
      · exact .inl rfl
      · exact .inr (keys hc hu1)
    · obtain ⟨m, h1, h2⟩ := hN
      have e1 := nDirty_set (s' := slBlank) hs
      rw [hdd, nDirty_cool hc] at e1
      simp only [slBlank, Bool.false_eq_true, if_false] at e1
      exact ⟨m, h1, by show m + 4 * nDirty (l.set at_ slBlank) ≤ N; simp only [slBlank]; omega⟩
  | wrote l _ s hd _ _ hl hc hs hdd hw =>
    have hc1 : PInv { X with slots := l, hand := hd } D M := h.cool hc
    have hw1 := hc1.wrote (n := n) (first := first) hr hf hs hdd hw
    have hb := hw1.blank (i := at_) (s := { s with dirty := false }) (set_same hs) rfl
    have hss : (l.set at_ { s with dirty := false }).set at_ slBlank = l.set at_ slBlank := by rw [List.set_set]
    refine ⟨?_, rfl, rfl, hw.len, fun hu => hw.up hu, .inl ⟨rfl, set_same hs, fun a u hu => ?_⟩, fun N hN => ?_⟩
    · have hb' : PInv { X with slots := (l.set at_ { s with dirty := false }).set at_ slBlank, hand := hd } D1 M := hb
      rw [hss] at hb'
      exact hb'
    · rcases set_cases hu with ⟨_, rfl⟩ | ⟨_, hu1⟩
      · exact .inl rfl
      · exact .inr (keys hc hu1)
    · obtain ⟨m, h1, h2⟩ := hN
      have e1 := nDirty_set (s' := slBlank) hs
      rw [hdd, nDirty_cool hc] at e1
      simp only [slBlank, Bool.false_eq_true, if_false, if_true] at e1
      exact ⟨m + 4, hw.softB h1, by show m + 4 + 4 * nDirty (l.set at_ slBlank) ≤ N; simp only [slBlank]; omega⟩
  | fail l a s hd _ _ hl hc hs hdd hw =>
    have hdn : D1.down = true := by
      rcases hw.code with ⟨h0, _⟩ | ⟨_, h0⟩
      · exact absurd h0 (by decide)
      · exact h0
    have hc1 : PInv { X with slots := l, hand := hd } D M := h.cool hc
    refine ⟨⟨hc1.uniq, hc1.hold, hc1.dty, (fun h0 => by rw [hdn] at h0; cases h0), hc1.mok⟩, rfl, rfl, hw.len, fun hu => by have := hw.up hu; exact absurd this.2 (by decide), .inr ⟨rfl, hdn⟩, fun N hN => ?_⟩
    obtain ⟨m, h1, h2⟩ := hN
    have hsf : SoftB m D1 := by
      rcases hw with ⟨hw, _⟩ | ⟨D2, h3, h4⟩
      · exact hw.softB h1
      · have h5 := h3.softB h1
        rcases h5 with h5 | ⟨h5, h6⟩
        · exact .inr ⟨hdn, by have := h4.soft; omega⟩
        · rw [h4.dead h5]; exact .inr ⟨h5, h6⟩
    exact ⟨m, hsf, by show m + 4 * nDirty l ≤ N; rw [nDirty_cool hc]; exact h2⟩
theorem ld_law (h : PInv X D M) {id : Nat} (hid : id < X.pages) (hno : ∀ (a : Nat) (u : Slot), X.slots[a]? = some u → u.id ≠ (id : Int)) {Q : Pg} {t c : Int} (hl : LdRel D (X.base + 4 * id) Q t c) :
    (D.down = true ∧ c = 20) ∨ (D.down = false ∧ c = 0 ∧ pgC Q = pgC (M id).1) := by
  rcases hl with h0 | ⟨hdn, hl⟩
  · exact .inl h0
  · have hon := h.dev hdn id hid (fun a u hu he => absurd he (hno a u hu))
    obtain ⟨m1, m2, m3⟩ := h.mok id hid
    have e0 := hon 0 (by omega)
    have e1 := hon 1 (by omega)
    have e2 := hon 2 (by omega)
    have e3 := hon 3 (by omega)
    rw [Nat.add_zero] at e0
    have hopen : frOpen (D.at (X.base + 4 * id)) (D.at (X.base + 4 * id + 1)) (D.at (X.base + 4 * id + 2)) (D.at (X.base + 4 * id + 3)) = (pageS (M id).1, (M id).2, 0) := by
      rw [e0, e1, e2, e3]
      exact frOpen_sec _ _ (pageS_size m1) m2 (by rw [show (256 : Int) ^ 8 = 18446744073709551616 by decide]; omega)
    rw [hopen] at hl
    dsimp only at hl
    rcases hl with ⟨h1, _⟩ | ⟨_, _, ⟨_, hQ, hc⟩ | ⟨hno, _⟩⟩
    · exact absurd rfl h1
    · exact .inr ⟨hdn, hc, by rw [hQ]; exact dec_enc m1⟩
    · exact absurd (dec_ok m1) hno
theorem get_law (h : PInv X D M) (hr : first + n ≤ X.base) (hf : X.base + 4 * X.pages ≤ D.firm.length) {id : Int} {Q : Pg} {c : Int} {X1 : Pl} {i1 : Nat} {D1 : Dev} (hg : GetRel first n bb P rs X i0 D id Q c X1 i1 D1) :
    PInv X1 D1 M ∧ X1.base = X.base ∧ X1.pages = X.pages ∧ D1.firm.length = D.firm.length ∧ (D.up → D1.up) ∧ (∀ N, Pot N D X.slots → Pot N D1 X1.slots) ∧
    (((id < 0 ∨ (X.pages : Int) ≤ id) ∧ c = 1 ∧ Q = pageZ) ∨ (0 ≤ id ∧ id < X.pages ∧ ((c = 0 ∧ pgC Q = pgC (M id.toNat).1) ∨ (c = 20 ∧ D1.down = true)))) := by
  have hno' : (∀ s ∈ X.slots, s.id ≠ id) → ∀ (a : Nat) (u : Slot), X.slots[a]? = some u → u.id ≠ id := fun h a u hu => h u (List.mem_of_getElem? hu)
  cases hg with
  | wrong hw => exact ⟨h, rfl, rfl, rfl, fun hu => hu, fun N hN => hN, .inl ⟨hw, rfl, rfl⟩⟩
  | hit i s h0 h1 hs he =>
    have hc : (X.slots.set i { s with warm := true }).map cool = X.slots.map cool := cool_set (s' := { s with warm := true }) hs rfl
    refine ⟨h.cool (hd := X.hand) hc, rfl, rfl, rfl, fun hu => hu, fun N hN => ?_, .inr ⟨h0, h1, .inl ⟨rfl, ?_⟩⟩⟩
    · obtain ⟨m, h2, h3⟩ := hN
      exact ⟨m, h2, by show m + 4 * nDirty (X.slots.set i { s with warm := true }) ≤ N; rw [nDirty_cool hc]; exact h3⟩
    · have := (h.hold i s hs (by omega)).2.2.1
      rw [he] at this
      exact this
  | bad Q t c h0 h1 hno hl hc =>
    obtain ⟨m, rfl⟩ : ∃ m : Nat, id = m := ⟨id.toNat, by omega⟩
    rw [Int.toNat_natCast] at hl
    rcases ld_law h (by omega) (hno' hno) hl with ⟨hd, h20⟩ | ⟨_, hz, _⟩
    · exact ⟨h, rfl, rfl, rfl, fun hu => hu, fun N hN => hN, .inr ⟨h0, h1, .inr ⟨h20, hd⟩⟩⟩
    · exact absurd hz hc
  | full Q t X1 i1 D1 cd at_ h0 h1 hno hl hp hcd =>
    obtain ⟨p1, p2, p3, p4, p5, p6, p7⟩ := place_law h hr hf hp
    rcases p6 with ⟨hz, _⟩ | ⟨h20, hd⟩
    · exact absurd hz hcd
    · exact ⟨p1, p2, p3, p4, fun hu => (p5 hu).1, p7, .inr ⟨h0, h1, .inr ⟨h20, hd⟩⟩⟩
  | got Q t X1 i1 D1 at_ h0 h1 hno hl hp =>
    obtain ⟨m, rfl⟩ : ∃ m : Nat, id = m := ⟨id.toNat, by omega⟩
    rw [Int.toNat_natCast] at hl
    obtain ⟨p1, p2, p3, p4, p5, p6, p7⟩ := place_law h hr hf hp
    rcases ld_law h (by omega) (hno' hno) hl with ⟨_, h20⟩ | ⟨_, _, hQ⟩
    · exact absurd h20 (by decide)
    rcases p6 with ⟨_, hat, hids⟩ | ⟨h20, _⟩
    rotate_left
    · exact absurd h20 (by decide)
    have hfill := p1.fill (i := at_) (m := m) (s := { id := m, P := Q, st := t, dirty := false, warm := true }) hat rfl (by rw [p3]; omega) (fun a u hu he => by
      rcases hids a u hu with h2 | ⟨b, t, ht, h3⟩
      · rw [he] at h2; omega
      · exact hno' hno b t ht (by rw [h3]; exact he)) rfl rfl (by rw [hQ])
    refine ⟨hfill, p2, p3, p4, fun hu => (p5 hu).1, fun N hN => ?_, .inr ⟨h0, h1, .inl ⟨rfl, by rw [Int.toNat_natCast]; exact hQ⟩⟩⟩
    obtain ⟨k, h2, h3⟩ := p7 N hN
    have e1 := nDirty_set (s' := { id := (m : Int), P := Q, st := t, dirty := false, warm := true }) hat
    simp only [slBlank, Bool.false_eq_true, if_false] at e1
    exact ⟨k, h2, by show k + 4 * nDirty (X1.slots.set at_ { id := (m : Int), P := Q, st := t, dirty := false, warm := true }) ≤ N; omega⟩
theorem put_law (h : PInv X D M) (hr : first + n ≤ X.base) (hf : X.base + 4 * X.pages ≤ D.firm.length) {id : Int} {x : Pg} {st : Int} (hst : st ≤ 1152921504606846976) {c : Int} {X1 : Pl} {i1 : Nat} {D1 : Dev} (hg : PutRel first n bb P rs X i0 D id x st c X1 i1 D1) :
    X1.base = X.base ∧ X1.pages = X.pages ∧ D1.firm.length = D.firm.length ∧ (D.up → D1.up) ∧ (∀ N, Pot N D X.slots → Pot (N + 4) D1 X1.slots) ∧
    (((id < 0 ∨ (X.pages : Int) ≤ id ∨ st < 0 ∨ ¬ PgOk x) ∧ c = 1 ∧ X1 = X ∧ D1 = D) ∨ (0 ≤ id ∧ id < X.pages ∧ 0 ≤ st ∧ PgOk x ∧ ((c = 0 ∧ PInv X1 D1 (upd M id.toNat (x, st))) ∨ (c = 20 ∧ D1.down = true ∧ PInv X1 D1 M)))) := by
  have hno' : (∀ s ∈ X.slots, s.id ≠ id) → ∀ (a : Nat) (u : Slot), X.slots[a]? = some u → u.id ≠ id := fun h a u hu => h u (List.mem_of_getElem? hu)
  cases hg with
  | bad hb => exact ⟨rfl, rfl, rfl, fun hu => hu, fun N ⟨m, h1, h2⟩ => ⟨m, h1, by omega⟩, .inl ⟨hb, rfl, rfl, rfl⟩⟩
  | over i s h0 h1 h2 h3 hs he =>
    obtain ⟨m, rfl⟩ : ∃ m : Nat, id = m := ⟨id.toNat, by omega⟩
    have hput := h.put (i := i) (m := m) (s := { id := m, P := x, st := st, dirty := true, warm := true }) hs (by omega) (fun a u hu ha he' => ha (h.uniq a i u s hu hs (by rw [he', he]) (by omega))) (.inr he) rfl rfl ⟨h3, h2, hst⟩
    refine ⟨rfl, rfl, rfl, fun hu => hu, fun N ⟨k, h4, h5⟩ => ?_, .inr ⟨h0, h1, h2, h3, .inl ⟨rfl, by rw [Int.toNat_natCast]; exact hput⟩⟩⟩
    have e1 := nDirty_set (s' := { id := (m : Int), P := x, st := st, dirty := true, warm := true }) hs
    simp only [if_true] at e1
    exact ⟨k, h4, by show k + 4 * nDirty (X.slots.set i { id := (m : Int), P := x, st := st, dirty := true, warm := true }) ≤ N + 4; omega⟩
  | full X1 i1 D1 cd at_ h0 h1 h2 h3 hno hp hcd =>
    obtain ⟨p1, p2, p3, p4, p5, p6, p7⟩ := place_law h hr hf hp
    rcases p6 with ⟨hz, _⟩ | ⟨h20, hd⟩
    · exact absurd hz hcd
    · exact ⟨p2, p3, p4, fun hu => (p5 hu).1, fun N hN => let ⟨k, h4, h5⟩ := p7 N hN; ⟨k, h4, by omega⟩, .inr ⟨h0, h1, h2, h3, .inr ⟨h20, hd, p1⟩⟩⟩
  | new X1 i1 D1 at_ h0 h1 h2 h3 hno hp =>
    obtain ⟨m, rfl⟩ : ∃ m : Nat, id = m := ⟨id.toNat, by omega⟩
    obtain ⟨p1, p2, p3, p4, p5, p6, p7⟩ := place_law h hr hf hp
    rcases p6 with ⟨_, hat, hids⟩ | ⟨h20, _⟩
    rotate_left
    · exact absurd h20 (by decide)
    have hput := p1.put (i := at_) (m := m) (s := { id := m, P := x, st := st, dirty := true, warm := true }) hat (by rw [p3]; omega) (fun a u hu ha he => by
      rcases hids a u hu with h2 | ⟨b, t, ht, h3⟩
      · rw [he] at h2; omega
      · exact hno' hno b t ht (by rw [h3]; exact he)) (.inl rfl) rfl rfl ⟨h3, h2, hst⟩
    refine ⟨p2, p3, p4, fun hu => (p5 hu).1, fun N hN => ?_, .inr ⟨h0, h1, h2, h3, .inl ⟨rfl, by rw [Int.toNat_natCast]; exact hput⟩⟩⟩
    obtain ⟨k, h4, h5⟩ := p7 N hN
    have e1 := nDirty_set (s' := { id := (m : Int), P := x, st := st, dirty := true, warm := true }) hat
    simp only [slBlank, Bool.false_eq_true, if_false, if_true] at e1
    exact ⟨k, h4, by show k + 4 * nDirty (X1.slots.set at_ { id := (m : Int), P := x, st := st, dirty := true, warm := true }) ≤ N + 4; omega⟩
theorem fs_law (h : PInv X D M) (hr : first + n ≤ X.base) (hf : X.base + 4 * X.pages ≤ D.firm.length) {k : Nat} {l : List Slot} {i1 : Nat} {D1 : Dev} (hg : FsRel first n bb P rs X i0 D k l i1 D1) :
    PInv { X with slots := l } D1 M ∧ D1.firm.length = D.firm.length ∧ (D.up → D1.up) ∧ (∀ (j : Nat) (s : Slot), j < k → l[j]? = some s → s.dirty = false) ∧ ∀ N, Pot N D X.slots → Pot N D1 l := by
  induction hg with
  | zero => exact ⟨h, rfl, fun hu => hu, fun j s hj => by omega, fun N hN => hN⟩
  | skip k l i1 D1 s _ hs hd ih =>
    obtain ⟨q1, q2, q3, q4, q5⟩ := ih
    refine ⟨q1, q2, q3, fun j u hj hu => ?_, q5⟩
    by_cases hjk : j = k
    · subst hjk
      rw [hs] at hu
      injection hu with hu
      rw [← hu]; exact hd
    · exact q4 j u (by omega) hu
  | wrote k l i1 D1 s i2 D2 _ hs hd hw ih =>
    obtain ⟨q1, q2, q3, q4, q5⟩ := ih
    refine ⟨q1.wrote (n := n) (first := first) hr (by rw [q2]; exact hf) hs hd hw, by rw [hw.len, q2], fun hu => (hw.up (q3 hu)).1, fun j u hj hu => ?_, fun N hN => ?_⟩
    · rcases set_cases hu with ⟨_, rfl⟩ | ⟨hj', hu1⟩
      · rfl
      · exact q4 j u (by omega) hu1
    · obtain ⟨m, h1, h2⟩ := q5 N hN
      have e1 := nDirty_set (s' := { s with dirty := false }) hs
      rw [hd] at e1
      simp only [Bool.false_eq_true, if_false, if_true] at e1
      exact ⟨m + 4, hw.softB h1, by omega⟩
theorem flush_law2 (h : PInv X D M) (hr : first + n ≤ X.base) (hf : X.base + 4 * X.pages ≤ D.firm.length) {c : Int} {l : List Slot} {i1 : Nat} {D1 : Dev} (hg : FlushRel first n bb P rs X i0 D c l i1 D1) :
    PInv { X with slots := l } D1 M ∧ D1.firm.length = D.firm.length ∧ (D.up → D1.up) ∧ (∀ N, Pot N D X.slots → Pot N D1 l) ∧ ((c = 0 ∧ ∀ (j : Nat) (s : Slot), l[j]? = some s → s.dirty = false) ∨ (c = 20 ∧ D1.down = true)) := by
  cases hg with
  | fail k l i2 D2 s _ _ hfs hs hd hw =>
    obtain ⟨q1, q2, q3, q4, q5⟩ := fs_law h hr hf hfs
    have hdn : D1.down = true := by
      rcases hw.code with ⟨h0, _⟩ | ⟨_, h0⟩
      · exact absurd h0 (by decide)
      · exact h0
    refine ⟨⟨q1.uniq, q1.hold, q1.dty, (fun h0 => by rw [hdn] at h0; cases h0), q1.mok⟩, by rw [hw.len, q2], fun hu => by have := hw.up (q3 hu); exact absurd this.2 (by decide), fun N hN => ?_, .inr ⟨rfl, hdn⟩⟩
    obtain ⟨m, h1, h2⟩ := q5 N hN
    have hsf : SoftB m D1 := by
      rcases hw with ⟨hw, _⟩ | ⟨D3, h3, h4⟩
      · exact hw.softB h1
      · have h5 := h3.softB h1
        rcases h5 with h5 | ⟨h5, h6⟩
        · exact .inr ⟨hdn, by have := h4.soft; omega⟩
        · rw [h4.dead h5]; exact .inr ⟨h5, h6⟩
    exact ⟨m, hsf, h2⟩
  | done l i2 D2 hfs hok2 =>
    obtain ⟨q1, q2, q3, q4, q5⟩ := fs_law h hr hf hfs
    have hll := hfs.len
    have hof := off_barrier 0 D2 hok2
    have hseen : ∀ p, D2.barrier.1.at p = D2.at p := fun p => hof.seen p (Nat.zero_le _)
    have hdn : D2.barrier.1.down = false → D2.down = false := fun h0 => by
      cases hd : D2.down with
      | false => rfl
      | true => rw [hof.dead hd, hd] at h0; cases h0
    refine ⟨⟨q1.uniq, q1.hold, q1.dty, fun h0 id hid hcl j hj => by rw [hseen]; exact q1.dev (hdn h0) id hid hcl j hj, q1.mok⟩, by rw [hof.len, q2], fun hu => barrier_up (q3 hu), fun N hN => ?_, ?_⟩
    · obtain ⟨m, h1, h2⟩ := q5 N hN
      refine ⟨m, ?_, h2⟩
      have hb := barrier_soft D2
      rcases h1 with h1 | ⟨h1, h3⟩
      · exact .inl (by omega)
      · rw [hof.dead h1]; exact .inr ⟨h1, h3⟩
    · rcases barrier_cases D2 with ⟨hc, _, hd⟩ | ⟨_, hc, _⟩
      · exact .inr ⟨hc, hd⟩
      · exact .inl ⟨hc, fun j s hs => q4 j s (by rw [← hll]; exact (List.getElem?_eq_some_iff.1 hs).1) hs⟩
end
end Go.Proofs.YtimomjheanfbmaaGreatDoor
