import Derived.Test.YtimomjheanfbmaaGreatDoorMbe
set_option linter.unusedSimpArgs false
set_option linter.unusedVariables false
namespace Go.Proofs.YtimomjheanfbmaaGreatDoor
open Go.RowKit

/-! ### plain law of the pool: what each page is -/
def OnDev (D : Dev) (b : Nat) (x : Pg × Int) : Prop := ∀ i, i < 4 → D.at (b + i) = sec (pageS x.1) x.2 i
def MOk (x : Pg × Int) : Prop := PgOk x.1 ∧ 0 ≤ x.2 ∧ x.2 ≤ 1152921504606846976
structure PInv (X : Pl) (D : Dev) (M : Nat → Pg × Int) : Prop where
  uniq : ∀ (i j : Nat) (s t : Slot), X.slots[i]? = some s → X.slots[j]? = some t → s.id = t.id → s.id ≠ -1 → i = j
  hold : ∀ (i : Nat) (s : Slot), X.slots[i]? = some s → s.id ≠ -1 → 0 ≤ s.id ∧ s.id < X.pages ∧ pgC s.P = pgC (M s.id.toNat).1 ∧ (s.dirty = true → s.P = (M s.id.toNat).1 ∧ s.st = (M s.id.toNat).2)
  dty : ∀ (i : Nat) (s : Slot), X.slots[i]? = some s → s.dirty = true → s.id ≠ -1
  dev : D.down = false → ∀ id, id < X.pages → (∀ (i : Nat) (s : Slot), X.slots[i]? = some s → s.id = (id : Int) → s.dirty = false) → OnDev D (X.base + 4 * id) (M id)
  mok : ∀ id, id < X.pages → MOk (M id)
theorem PInv.slok {X : Pl} {D : Dev} {M : Nat → Pg × Int} (h : PInv X D M) {i : Nat} {s : Slot} (hs : X.slots[i]? = some s) (hd : s.dirty = true) : SlOk X.pages s := by
  obtain ⟨h1, h2, h3, h4⟩ := h.hold i s hs (h.dty i s hs hd)
  obtain ⟨e1, e2⟩ := h4 hd
  obtain ⟨m1, m2, m3⟩ := h.mok s.id.toNat (by omega)
  exact ⟨h1, h2, e1 ▸ m1, e2 ▸ m2, e2 ▸ m3⟩
theorem cool_eq {s t : Slot} (h : cool t = cool s) : t.id = s.id ∧ t.P = s.P ∧ t.st = s.st ∧ t.dirty = s.dirty := by
  have h1 := congrArg Slot.id h
  have h2 := congrArg Slot.P h
  have h3 := congrArg Slot.st h
  have h4 := congrArg Slot.dirty h
  exact ⟨h1, h2, h3, h4⟩
theorem PInv.cool {X : Pl} {D : Dev} {M : Nat → Pg × Int} (h : PInv X D M) {l : List Slot} {hd : Nat} (hc : l.map cool = X.slots.map cool) : PInv { X with slots := l, hand := hd } D M := by
  have key : ∀ (i : Nat) (s : Slot), l[i]? = some s → ∃ t : Slot, X.slots[i]? = some t ∧ t.id = s.id ∧ t.P = s.P ∧ t.st = s.st ∧ t.dirty = s.dirty := fun i s hs => by
    obtain ⟨t, ht, he⟩ := cool_at hc hs
    exact ⟨t, ht, cool_eq he⟩
  have key2 : ∀ (i : Nat) (s : Slot), X.slots[i]? = some s → ∃ t : Slot, l[i]? = some t ∧ t.id = s.id ∧ t.P = s.P ∧ t.st = s.st ∧ t.dirty = s.dirty := fun i s hs => by
    obtain ⟨t, ht, he⟩ := cool_at hc.symm hs
    exact ⟨t, ht, cool_eq he⟩
  refine ⟨fun i j s t hs ht he hn => ?_, fun i s hs hn => ?_, fun i s hs hd => ?_, fun hdn id hid hcl => ?_, h.mok⟩
  · obtain ⟨s', h1, h2, -⟩ := key i s hs
    obtain ⟨t', h3, h4, -⟩ := key j t ht
    exact h.uniq i j s' t' h1 h3 (by rw [h2, h4, he]) (by rw [h2]; exact hn)
  · obtain ⟨s', h1, h2, h3, h4, h5⟩ := key i s hs
    have := h.hold i s' h1 (by rw [h2]; exact hn)
    rw [h2, h3, h4, h5] at this
    exact this
  · obtain ⟨s', h1, h2, h3, h4, h5⟩ := key i s hs
    have := h.dty i s' h1 (by rw [h5]; exact hd)
    rwa [h2] at this
  · refine h.dev hdn id hid (fun i s hs he => ?_)
    obtain ⟨t, h1, h2, h3, h4, h5⟩ := key2 i s hs
    rw [← h5]
    exact hcl i t h1 (by rw [h2]; exact he)
theorem set_cases {l : List Slot} {i j : Nat} {x s : Slot} (h : (l.set i x)[j]? = some s) : (j = i ∧ s = x) ∨ (j ≠ i ∧ l[j]? = some s) := by
  rw [List.getElem?_set] at h
  split at h
  · rename_i e
    subst e
    split at h
    · injection h with h; exact .inl ⟨rfl, h.symm⟩
    · cases h
  · rename_i e
    exact .inr ⟨fun h' => e h'.symm, h⟩
theorem set_other {l : List Slot} {i j : Nat} {x s : Slot} (h : l[j]? = some s) (hj : j ≠ i) : (l.set i x)[j]? = some s := by
  rw [List.getElem?_set_ne (fun e => hj e.symm)]; exact h
theorem set_same {l : List Slot} {i : Nat} {x s : Slot} (h : l[i]? = some s) : (l.set i x)[i]? = some x := List.getElem?_set_self (List.getElem?_eq_some_iff.1 h).1
/-- a clean slot is given up -/
theorem PInv.blank {X : Pl} {D : Dev} {M : Nat → Pg × Int} (h : PInv X D M) {i : Nat} {s : Slot} (hs : X.slots[i]? = some s) (hd : s.dirty = false) : PInv { X with slots := X.slots.set i slBlank } D M := by
  refine ⟨fun a b u v hu hv he hn => ?_, fun a u hu hn => ?_, fun a u hu hdd => ?_, fun hdn id hid hcl => ?_, h.mok⟩
  · rcases set_cases hu with ⟨rfl, rfl⟩ | ⟨ha, hu1⟩
    · exact absurd rfl hn
    · rcases set_cases hv with ⟨rfl, rfl⟩ | ⟨hb, hv1⟩
      · exact absurd he hn
      · exact h.uniq a b u v hu1 hv1 he hn
  · rcases set_cases hu with ⟨rfl, rfl⟩ | ⟨ha, hu1⟩
    · exact absurd rfl hn
    · exact h.hold a u hu1 hn
  · rcases set_cases hu with ⟨rfl, rfl⟩ | ⟨ha, hu1⟩
    · cases hdd
    · exact h.dty a u hu1 hdd
  · refine h.dev hdn id hid (fun a u hu he => ?_)
    by_cases ha : a = i
    · subst ha
      rw [hs] at hu
      injection hu with hu
      rw [← hu]; exact hd
    · exact hcl a u (set_other hu ha) he
theorem app_cases {l : List Slot} {j : Nat} {x s : Slot} (h : (l ++ [x])[j]? = some s) : (j = l.length ∧ s = x) ∨ l[j]? = some s := by
  by_cases hj : j < l.length
  · rw [List.getElem?_append_left hj] at h; exact .inr h
  · rw [List.getElem?_append_right (by omega)] at h
    by_cases h0 : j - l.length = 0
    · rw [h0] at h
      simp only [List.getElem?_cons_zero, Option.some.injEq] at h
      exact .inl ⟨by omega, h.symm⟩
    · obtain ⟨q, hq⟩ : ∃ q, j - l.length = q + 1 := ⟨j - l.length - 1, by omega⟩
      rw [hq] at h
      simp at h
theorem PInv.more {X : Pl} {D : Dev} {M : Nat → Pg × Int} (h : PInv X D M) : PInv { X with slots := X.slots ++ [slBlank] } D M := by
  refine ⟨fun a b u v hu hv he hn => ?_, fun a u hu hn => ?_, fun a u hu hdd => ?_, fun hdn id hid hcl => ?_, h.mok⟩
  · rcases app_cases hu with ⟨rfl, rfl⟩ | hu
    · exact absurd rfl hn
    · rcases app_cases hv with ⟨rfl, rfl⟩ | hv
      · exact absurd he hn
      · exact h.uniq a b u v hu hv he hn
  · rcases app_cases hu with ⟨rfl, rfl⟩ | hu
    · exact absurd rfl hn
    · exact h.hold a u hu hn
  · rcases app_cases hu with ⟨rfl, rfl⟩ | hu
    · cases hdd
    · exact h.dty a u hu hdd
  · refine h.dev hdn id hid (fun a u hu he => hcl a u ?_ he)
    show (X.slots ++ [slBlank])[a]? = some u
    rw [List.getElem?_append_left (List.getElem?_eq_some_iff.1 hu).1]
    exact hu
/-- a device's pages behind a slot's write -/
theorem WrRel.at {first n bb : Nat} {P : ByteArray} {rs : List ByteArray} {base : Nat} {s : Slot} {i0 i1 : Nat} {D D' : Dev} (h : WrRel first n bb P rs base s i0 D i1 D' 0) (p : Nat) (hp : first + n ≤ p) (hl : p < D.firm.length) :
    D'.at p = if base + 4 * s.id.toNat ≤ p ∧ p < base + 4 * s.id.toNat + 4 then sec (pageS s.P) s.st (p - (base + 4 * s.id.toNat)) else D.at p := by
  rcases h with ⟨_, hc⟩ | ⟨D1, h1, h2⟩
  · exact absurd hc (by decide)
  · unfold Dev.at
    rw [h2.on rfl p (by rw [h1.off.len]; exact hl), h1.off.seen p hp]
theorem WrRel.len {first n bb : Nat} {P : ByteArray} {rs : List ByteArray} {base : Nat} {s : Slot} {i0 i1 : Nat} {D D' : Dev} {c : Int} (h : WrRel first n bb P rs base s i0 D i1 D' c) : D'.firm.length = D.firm.length := by
  rcases h with ⟨h, _⟩ | ⟨D1, h1, h2⟩
  · exact h.off.len
  · rw [h2.len, h1.off.len]
theorem WrRel.up {first n bb : Nat} {P : ByteArray} {rs : List ByteArray} {base : Nat} {s : Slot} {i0 i1 : Nat} {D D' : Dev} {c : Int} (h : WrRel first n bb P rs base s i0 D i1 D' c) (hu : D.up) : D'.up ∧ c = 0 := by
  rcases h with ⟨h, rfl⟩ | ⟨D1, h1, h2⟩
  · have h3 := h.off.up hu
    rcases h.code with ⟨h0, _⟩ | ⟨_, h0⟩
    · exact absurd h0 (by decide)
    · rw [h3.2] at h0; cases h0
  · exact h2.up (h1.off.up hu)
theorem PInv.wrote {first n bb : Nat} {P : ByteArray} {rs : List ByteArray} {X : Pl} {i0 i1 : Nat} {D D' : Dev} {M : Nat → Pg × Int} (h : PInv X D M) (hr : first + n ≤ X.base) (hf : X.base + 4 * X.pages ≤ D.firm.length)
    {i : Nat} {s : Slot} (hs : X.slots[i]? = some s) (hd : s.dirty = true) (hw : WrRel first n bb P rs X.base s i0 D i1 D' 0) : PInv { X with slots := X.slots.set i { s with dirty := false } } D' M := by
  obtain ⟨k1, k2, k3, k4⟩ := h.hold i s hs (h.dty i s hs hd)
  obtain ⟨e1, e2⟩ := k4 hd
  have hcode := hw.code
  refine ⟨fun a b u v hu hv he hn => ?_, fun a u hu hn => ?_, fun a u hu hdd => ?_, fun hdn id hid hcl => ?_, h.mok⟩
  · rcases set_cases hu with ⟨rfl, rfl⟩ | ⟨ha, hu1⟩
    · rcases set_cases hv with ⟨rfl, rfl⟩ | ⟨hb, hv1⟩
      · rfl
      · exact h.uniq _ _ s v hs hv1 he hn
    · rcases set_cases hv with ⟨rfl, rfl⟩ | ⟨hb, hv1⟩
      · exact h.uniq _ _ u s hu1 hs he hn
      · exact h.uniq a b u v hu1 hv1 he hn
  · rcases set_cases hu with ⟨rfl, rfl⟩ | ⟨ha, hu1⟩
    · exact ⟨k1, k2, k3, fun h => by cases h⟩
    · exact h.hold a u hu1 hn
  · rcases set_cases hu with ⟨rfl, rfl⟩ | ⟨ha, hu1⟩
    · cases hdd
    · exact h.dty a u hu1 hdd
  · have hid : id < X.pages := hid
    intro j hj
    show D'.at (X.base + 4 * id + j) = _
    rw [hw.at (X.base + 4 * id + j) (by omega) (by omega)]
    by_cases hii : id = s.id.toNat
    · subst hii
      rw [if_pos (by omega), show X.base + 4 * s.id.toNat + j - (X.base + 4 * s.id.toNat) = j by omega, e1, e2]
    · rw [if_neg (by omega)]
      refine h.dev ?_ id hid (fun a u hu he => ?_) j hj
      · rcases hcode with ⟨_, _, h0⟩ | ⟨h0, _⟩
        · exact h0
        · exact absurd h0 (by decide)
      · by_cases ha : a = i
        · subst ha
          rw [hs] at hu
          injection hu with hu
          rw [← hu] at he
          omega
        · exact hcl a u (set_other hu ha) he
theorem PInv.fill {X : Pl} {D : Dev} {M : Nat → Pg × Int} (h : PInv X D M) {i m : Nat} {s0 s : Slot} (hs : X.slots[i]? = some s0) (h0 : s0.id = -1) (hm : m < X.pages) (hno : ∀ (a : Nat) (u : Slot), X.slots[a]? = some u → u.id ≠ (m : Int)) (hsm : s.id = (m : Int)) (hsd : s.dirty = false) (hsp : pgC s.P = pgC (M m).1) :
    PInv { X with slots := X.slots.set i s } D M := by
  refine ⟨fun a b u v hu hv he hn => ?_, fun a u hu hn => ?_, fun a u hu hdd => ?_, fun hdn id hid hcl => ?_, h.mok⟩
  · rcases set_cases hu with ⟨rfl, rfl⟩ | ⟨ha, hu1⟩
    · rcases set_cases hv with ⟨rfl, rfl⟩ | ⟨hb, hv1⟩
      · rfl
      · exact absurd (by rw [← he, hsm]) (hno b v hv1)
    · rcases set_cases hv with ⟨rfl, rfl⟩ | ⟨hb, hv1⟩
      · exact absurd (by rw [he, hsm]) (hno a u hu1)
      · exact h.uniq a b u v hu1 hv1 he hn
  · rcases set_cases hu with ⟨rfl, rfl⟩ | ⟨ha, hu1⟩
    · rw [hsm, Int.toNat_natCast]
      exact ⟨by omega, by show (m : Int) < X.pages; omega, hsp, fun h => by rw [hsd] at h; cases h⟩
    · exact h.hold a u hu1 hn
  · rcases set_cases hu with ⟨rfl, rfl⟩ | ⟨ha, hu1⟩
    · rw [hsd] at hdd; cases hdd
    · exact h.dty a u hu1 hdd
  · refine h.dev hdn id hid (fun a u hu he => ?_)
    by_cases ha : a = i
    · subst ha
      rw [hs] at hu
      injection hu with hu
      rw [← hu, h0] at he
      omega
    · exact hcl a u (set_other hu ha) he
def upd (M : Nat → Pg × Int) (m : Nat) (x : Pg × Int) : Nat → Pg × Int := fun j => if j = m then x else M j
theorem PInv.put {X : Pl} {D : Dev} {M : Nat → Pg × Int} (h : PInv X D M) {i m : Nat} {s0 s : Slot} (hs : X.slots[i]? = some s0) (hm : m < X.pages) (hno : ∀ (a : Nat) (u : Slot), X.slots[a]? = some u → a ≠ i → u.id ≠ (m : Int)) (h0 : s0.id = -1 ∨ s0.id = (m : Int)) (hsm : s.id = (m : Int)) (hsd : s.dirty = true) (hok : MOk (s.P, s.st)) :
    PInv { X with slots := X.slots.set i s } D (upd M m (s.P, s.st)) := by
  have hupd : upd M m (s.P, s.st) m = (s.P, s.st) := by unfold upd; rw [if_pos rfl]
  have hupn : ∀ j, j ≠ m → upd M m (s.P, s.st) j = M j := fun j hj => by unfold upd; rw [if_neg hj]
  refine ⟨fun a b u v hu hv he hn => ?_, fun a u hu hn => ?_, fun a u hu hdd => ?_, fun hdn id hid hcl => ?_, fun id hid => ?_⟩
  · rcases set_cases hu with ⟨rfl, rfl⟩ | ⟨ha, hu1⟩
    · rcases set_cases hv with ⟨rfl, rfl⟩ | ⟨hb, hv1⟩
      · rfl
      · exact absurd (by rw [← he, hsm]) (hno b v hv1 hb)
    · rcases set_cases hv with ⟨rfl, rfl⟩ | ⟨hb, hv1⟩
      · exact absurd (by rw [he, hsm]) (hno a u hu1 ha)
      · exact h.uniq a b u v hu1 hv1 he hn
  · rcases set_cases hu with ⟨rfl, rfl⟩ | ⟨ha, hu1⟩
    · rw [hsm, Int.toNat_natCast, hupd]
      exact ⟨by omega, by show (m : Int) < X.pages; omega, rfl, fun _ => ⟨rfl, rfl⟩⟩
    · obtain ⟨q1, q2, q3, q4⟩ := h.hold a u hu1 hn
      have hne : u.id.toNat ≠ m := fun e => hno a u hu1 ha (by omega)
      rw [hupn _ hne]
      exact ⟨q1, q2, q3, q4⟩
  · rcases set_cases hu with ⟨rfl, rfl⟩ | ⟨ha, hu1⟩
    · omega
    · exact h.dty a u hu1 hdd
  · by_cases hii : id = m
    · subst hii
      have := hcl i s (set_same hs) hsm
      rw [hsd] at this; cases this
    · rw [hupn _ hii]
      refine h.dev hdn id hid (fun a u hu he => ?_)
      by_cases ha : a = i
      · subst ha
        rw [hs] at hu
        injection hu with hu
        rw [← hu] at he
        omega
      · exact hcl a u (set_other hu ha) he
  · by_cases hii : id = m
    · subst hii; rw [hupd]; exact hok
    · rw [hupn _ hii]; exact h.mok id hid
end Go.Proofs.YtimomjheanfbmaaGreatDoor
