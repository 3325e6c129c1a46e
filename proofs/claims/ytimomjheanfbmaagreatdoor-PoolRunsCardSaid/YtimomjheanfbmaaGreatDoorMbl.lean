import Derived.Test.YtimomjheanfbmaaGreatDoorMbk
set_option linter.unusedSimpArgs false
set_option linter.unusedVariables false
namespace Go.Proofs.YtimomjheanfbmaaGreatDoor
open Go.RowKit
open Go.Maps (Keyed int_keyed keyOf_int_mk)

/-! ### which slots are dirty -/
theorem place_dirty {first n bb : Nat} {P : ByteArray} {rs : List ByteArray} {X : Pl} {i0 : Nat} {D : Dev} {X1 : Pl} {i1 : Nat} {D1 : Dev} {cd : Int} {at_ : Nat} (hp : PlaceRel first n bb P rs X i0 D X1 i1 D1 cd at_) :
    X1.room = X.room ∧ ∀ (j : Nat) (s : Slot), X1.slots[j]? = some s → s.dirty = true → ∃ (i : Nat) (t : Slot), X.slots[i]? = some t ∧ t.dirty = true ∧ t.id = s.id := by
  have hcool : ∀ {l : List Slot}, l.map cool = X.slots.map cool → ∀ (j : Nat) (s : Slot), l[j]? = some s → s.dirty = true → ∃ (i : Nat) (t : Slot), X.slots[i]? = some t ∧ t.dirty = true ∧ t.id = s.id := fun hc j s hs hd => by
    obtain ⟨t, ht, he⟩ := cool_at hc hs
    obtain ⟨e1, e2, e3, e4⟩ := cool_eq he
    exact ⟨j, t, ht, by rw [e4]; exact hd, e1⟩
  cases hp with
  | grow _ =>
    refine ⟨rfl, fun j s hs hd => ?_⟩
    rcases app_cases hs with ⟨_, rfl⟩ | hs
    · cases hd
    · exact ⟨j, s, hs, hd, rfl⟩
  | keep l _ s hd _ hc _ _ =>
    refine ⟨rfl, fun j t ht htd => ?_⟩
    rcases set_cases ht with ⟨_, rfl⟩ | ⟨_, ht⟩
    · cases htd
    · exact hcool hc j t ht htd
  | wrote l _ s hd _ _ _ hc hs hdd _ =>
    refine ⟨rfl, fun j t ht htd => ?_⟩
    rcases set_cases ht with ⟨_, rfl⟩ | ⟨_, ht⟩
    · cases htd
    · exact hcool hc j t ht htd
  | fail l _ s hd _ _ _ hc hs hdd _ => exact ⟨rfl, hcool hc⟩
theorem get_dirty {first n bb : Nat} {P : ByteArray} {rs : List ByteArray} {X : Pl} {i0 : Nat} {D : Dev} {id : Int} {Q : Pg} {c : Int} {X1 : Pl} {i1 : Nat} {D1 : Dev} (hg : GetRel first n bb P rs X i0 D id Q c X1 i1 D1) :
    X1.room = X.room ∧ ∀ (j : Nat) (s : Slot), X1.slots[j]? = some s → s.dirty = true → ∃ (i : Nat) (t : Slot), X.slots[i]? = some t ∧ t.dirty = true ∧ t.id = s.id := by
  cases hg with
  | wrong _ => exact ⟨rfl, fun j s hs hd => ⟨j, s, hs, hd, rfl⟩⟩
  | hit i s _ _ hs _ =>
    refine ⟨rfl, fun j t ht hd => ?_⟩
    rcases set_cases ht with ⟨_, rfl⟩ | ⟨_, ht⟩
    · exact ⟨i, s, hs, hd, rfl⟩
    · exact ⟨j, t, ht, hd, rfl⟩
  | bad _ _ _ _ _ _ _ _ => exact ⟨rfl, fun j s hs hd => ⟨j, s, hs, hd, rfl⟩⟩
  | full _ _ _ _ _ _ _ _ _ _ _ hp _ => exact place_dirty hp
  | got _ _ X1 _ _ _ _ _ _ _ hp =>
    obtain ⟨h1, h2⟩ := place_dirty hp
    refine ⟨h1, fun j t ht hd => ?_⟩
    rcases set_cases ht with ⟨_, rfl⟩ | ⟨_, ht⟩
    · cases hd
    · exact h2 j t ht hd
theorem put_dirty {first n bb : Nat} {P : ByteArray} {rs : List ByteArray} {X : Pl} {i0 : Nat} {D : Dev} {id : Int} {x : Pg} {st : Int} {c : Int} {X1 : Pl} {i1 : Nat} {D1 : Dev} (hg : PutRel first n bb P rs X i0 D id x st c X1 i1 D1) :
    X1.room = X.room ∧ ∀ (j : Nat) (s : Slot), X1.slots[j]? = some s → s.dirty = true → (c = 0 ∧ s.id = id) ∨ ∃ (i : Nat) (t : Slot), X.slots[i]? = some t ∧ t.dirty = true ∧ t.id = s.id := by
  cases hg with
  | bad _ => exact ⟨rfl, fun j s hs hd => .inr ⟨j, s, hs, hd, rfl⟩⟩
  | over i s _ _ _ _ hs _ =>
    refine ⟨rfl, fun j t ht hd => ?_⟩
    rcases set_cases ht with ⟨_, rfl⟩ | ⟨_, ht⟩
    · exact .inl ⟨rfl, rfl⟩
    · exact .inr ⟨j, t, ht, hd, rfl⟩
  | full _ _ _ _ _ _ _ _ _ _ hp _ => exact ⟨(place_dirty hp).1, fun j s hs hd => .inr ((place_dirty hp).2 j s hs hd)⟩
  | new X1 _ _ _ _ _ _ _ _ hp =>
    obtain ⟨h1, h2⟩ := place_dirty hp
    refine ⟨h1, fun j t ht hd => ?_⟩
    rcases set_cases ht with ⟨_, rfl⟩ | ⟨_, ht⟩
    · exact .inl ⟨rfl, rfl⟩
    · exact .inr (h2 j t ht hd)

/-! ### a pool of a law, and something on it -/
def Kx (w0 w : World) (L : List Nat) (p lp dp : Nat) (rs : List ByteArray) (M : Nat → Pg × Int) (N : Nat) (F : Pl → Prop) : Prop :=
  ∃ i0 X sv S Sl Sd D, Kp w0 w L p lp dp rs i0 X sv S Sl Sd D M N ∧ F X
section
variable {w0 w w' : World} {L : List Nat} {p lp dp : Nat} {rs : List ByteArray} {M : Nat → Pg × Int} {N : Nat} {F : Pl → Prop}
theorem Kx.later (h : Kx w0 w L p lp dp rs M N F) (hb : Below w.heap.size w w') : Kx w0 w' L p lp dp rs M N F :=
  let ⟨i0, X, sv, S, Sl, Sd, D, h1, h2⟩ := h
  ⟨i0, X, sv, S, Sl, Sd, D, h1.later hb, h2⟩
theorem Kx.keep (h : Kx w0 w L p lp dp rs M N F) (hk : Keeps (· ∈ L) w w') (hL : ∀ k ∈ L, w0.heap.size ≤ k) : Kx w0 w' L p lp dp rs M N F :=
  let ⟨i0, X, sv, S, Sl, Sd, D, h1, h2⟩ := h
  ⟨i0, X, sv, S, Sl, Sd, D, h1.keep hk hL, h2⟩
theorem Kx.bel (h : Kx w0 w L p lp dp rs M N F) : Below w0.heap.size w0 w :=
  let ⟨i0, X, sv, S, Sl, Sd, D, h1, h2⟩ := h
  h1.bel
theorem Kx.count (h : Kx w0 w L p lp dp rs M N F) : rs.length ≤ 2304 ∧ lenL rs ≤ 6912 ∧ N ≤ 4 * rs.length + 100 :=
  let ⟨i0, X, sv, S, Sl, Sd, D, h1, h2⟩ := h
  ⟨h1.count.1, h1.count.2, h1.nN⟩
theorem Kx.more (h : Kx w0 w L p lp dp rs M N F) (hb : Below w.heap.size w w') (L' : List Nat) (hl : ∀ k ∈ L', k < w'.heap.size) (hn : ∀ k ∈ L', k ∈ L ∨ w.heap.size ≤ k) : Kx w0 w' L' p lp dp rs M N F :=
  let ⟨i0, X, sv, S, Sl, Sd, D, h1, h2⟩ := h
  ⟨i0, X, sv, S, Sl, Sd, D, (h1.later hb).relist L' hl (fun k hk => (hn k hk).imp (fun h => h) (fun h => ⟨fun h' => by have := h1.pw.pool.lt k h'; omega, fun h' => by have := h1.pw.ws.log.lt k h'; omega, fun h' => by have := h1.pw.ws.dsk.lt k h'; omega⟩)), h2⟩
theorem Kx.less (h : Kx w0 w L p lp dp rs M N F) (L' : List Nat) (hn : ∀ k ∈ L', k ∈ L) : Kx w0 w L' p lp dp rs M N F :=
  let ⟨i0, X, sv, S, Sl, Sd, D, h1, h2⟩ := h
  ⟨i0, X, sv, S, Sl, Sd, D, h1.relist L' (fun k hk => h1.loc k (hn k hk)) (fun k hk => .inl (hn k hk)), h2⟩
theorem Kx.mono (h : Kx w0 w L p lp dp rs M N F) {N' : Nat} (h1 : N ≤ N') (h2 : N' ≤ 4 * rs.length + 100) : Kx w0 w L p lp dp rs M N' F := by
  obtain ⟨i0, X, sv, S, Sl, Sd, D, hp, hF⟩ := h
  refine ⟨i0, X, sv, S, Sl, Sd, D, ⟨hp.pw, hp.inv, hp.up, ?_, h2, hp.fr, hp.loc, hp.bel, hp.b128⟩, hF⟩
  obtain ⟨m, a, b⟩ := hp.pot
  exact ⟨m, a, by omega⟩
theorem kx_append (h : Kx w0 w L p lp dp rs M N F) (r : ByteArray) (hr : r.size ≤ maxLen) :
    Calls Tryz.prog 26 #[.pointer (some ⟨lp, 0, none⟩), .string r] w fun e w' => ((refuses rs r = true ∧ ∃ c, c ≠ 0 ∧ e = .returned (.tuple #[.int .i64 0, .int .i64 c]) ∧ Kx w0 w' L p lp dp rs M N F) ∨
      (refuses rs r = false ∧ e = .returned (.tuple #[.int .i64 ((54 + lenL rs : Nat) : Int), .int .i64 0]) ∧ Kx w0 w' L p lp dp (rs ++ [r]) M N F)) ∧ Keeps (Own w0 L) w w' := by
  obtain ⟨i0, X, sv, S, Sl, Sd, D, h1, h2⟩ := h
  refine (ws_append2 h1.pw.ws r hr).mono fun e w' hp => ?_
  rcases hp with ⟨hrf, c, hc, he, hb⟩ | ⟨hrf, he, S', hw, hk, hs⟩
  · exact ⟨.inl ⟨hrf, c, hc, he, i0, X, sv, S, Sl, Sd, D, h1.later hb, h2⟩, Keeps.of_below _ hb⟩
  · have hko : Keeps (Own w0 L) w w' := hk.mono (fun k _ hk' => h1.fr k (.inr (.inl hk')))
    refine ⟨.inr ⟨hrf, he, i0, X, sv, S, S', Sd, D, ⟨⟨h1.pw.pool.keep hk (fun k hk' h' => h1.pw.dl k hk' h'), hw, fun k hk' h' => ?_, h1.pw.dd, h1.pw.ring, h1.pw.fit⟩, h1.inv, h1.up, h1.pot, by have := h1.nN; rw [List.length_append]; omega, fun k hk' => ?_, fun k hk' => Nat.lt_of_lt_of_le (h1.loc k hk') hk.size, h1.bel.trans (hko.belowB h1.bel.size (fun k hk' => hk'.1)), h1.b128⟩, h2⟩, hko⟩
    · rcases hs k h' with h3 | h3
      · exact h1.pw.dl k hk' h3
      · have := h1.pw.pool.lt k hk'; omega
    · rcases hk' with hk' | hk' | hk'
      · exact h1.fr k (.inl hk')
      · rcases hs k hk' with h3 | h3
        · exact h1.fr k (.inr (.inl h3))
        · exact ⟨Nat.le_trans h1.bel.size h3, fun h4 => by have := h1.loc k h4; omega⟩
      · exact h1.fr k (.inr (.inr hk'))
end
/-- what is dirty stands in T -/
def DirtyIn (pg fr : Nat) (T : Int → Bool) (X : Pl) : Prop := X.pages = pg ∧ X.room = fr ∧ ∀ (j : Nat) (s : Slot), X.slots[j]? = some s → s.dirty = true → T s.id = true
section
variable {w0 w w' : World} {L : List Nat} {p lp dp : Nat} {rs : List ByteArray} {M : Nat → Pg × Int} {N pg fr : Nat} {T : Int → Bool}
theorem kd_get (h : Kx w0 w L p lp dp rs M N (DirtyIn pg fr T)) (id : Int) :
    Calls Tryz.prog 24 #[.pointer (some ⟨p, 0, none⟩), .int .i64 id] w fun e w' => ∃ Q c, e = .returned (.tuple #[pgV Q, .int .i64 c]) ∧ Kx w0 w' L p lp dp rs M N (DirtyIn pg fr T) ∧ Keeps (Own w0 L) w w' ∧
      ((0 ≤ id ∧ id < pg ∧ c = 0 ∧ pgC Q = pgC (M id.toNat).1) ∨ ((id < 0 ∨ (pg : Int) ≤ id) ∧ c = 1 ∧ Q = pageZ)) := by
  obtain ⟨i0, X, sv, S, Sl, Sd, D, h, hF1, hF2, hF3⟩ := h
  have hc := h.count
  have hn := h.nN
  refine (pl_get h.pw N (by omega) h.pot.soft id).mono fun e w' ⟨Q, c, i1, X1, sv1, S1, Sd1, D1, he, hg, hp, hk, hS, hSd⟩ => ?_
  obtain ⟨g1, g2, g3, g4, g5, g6, g7⟩ := get_law h.inv h.pw.ring h.pw.fit hg
  obtain ⟨k1, k2⟩ := h.step hp hk hS hSd g1 (g5 h.up) (g6 N h.pot) hn g2
  obtain ⟨d1, d2⟩ := get_dirty hg
  refine ⟨Q, c, he, ⟨i1, X1, sv1, S1, Sl, Sd1, D1, k1, by rw [g3, hF1], by rw [d1, hF2], fun j s hs hd => ?_⟩, k2, ?_⟩
  · obtain ⟨i, t, ht, htd, hte⟩ := d2 j s hs hd
    rw [← hte]; exact hF3 i t ht htd
  · rw [hF1] at g7
    rcases g7 with ⟨r1, r2, r3⟩ | ⟨r1, r2, ⟨r3, r4⟩ | ⟨_, r3⟩⟩
    · exact .inr ⟨r1, r2, r3⟩
    · exact .inl ⟨r1, r2, r3, r4⟩
    · have := (g5 h.up).2; rw [r3] at this; cases this
theorem kd_put (h : Kx w0 w L p lp dp rs M N (DirtyIn pg fr T)) (hN : N + 4 ≤ 4 * rs.length + 100) (id : Int) (x : Pg) (hx : ∀ i, i < 6 → (x.dt i).size ≤ maxLen) (st : Int) (hst : 0 ≤ st ∧ st ≤ 1152921504606846976) :
    Calls Tryz.prog 27 #[.pointer (some ⟨p, 0, none⟩), .int .i64 id, pgV x, .int .i64 st] w fun e w' => ∃ c M1, e = .returned (.int .i64 c) ∧ Keeps (Own w0 L) w w' ∧
      ((0 ≤ id ∧ id < pg ∧ PgOk x ∧ c = 0 ∧ M1 = upd M id.toNat (x, st) ∧ Kx w0 w' L p lp dp rs M1 (N + 4) (DirtyIn pg fr (fun i => if i = id then true else T i))) ∨ (¬ (0 ≤ id ∧ id < pg ∧ PgOk x) ∧ c = 1 ∧ M1 = M ∧ Kx w0 w' L p lp dp rs M1 (N + 4) (DirtyIn pg fr T))) := by
  obtain ⟨i0, X, sv, S, Sl, Sd, D, h, hF1, hF2, hF3⟩ := h
  have hc := h.count
  have hn := h.nN
  refine (pl_put h.pw N (by omega) h.pot.soft id x hx st hst.2).mono fun e w' ⟨c, i1, X1, sv1, S1, Sd1, D1, he, hg, hp, hk, hS, hSd⟩ => ?_
  obtain ⟨d1, d2⟩ := put_dirty hg
  obtain ⟨g2, g3, g4, g5, g6, g7⟩ := put_law h.inv h.pw.ring h.pw.fit hst.2 hg
  rw [hF1] at g7
  rcases g7 with ⟨r1, r2, r3, r4⟩ | ⟨r1, r2, r3, r4, ⟨r5, r6⟩ | ⟨_, r5, _⟩⟩
  · subst r3 r4
    obtain ⟨k1, k2⟩ := h.step hp hk hS hSd h.inv h.up (g6 N h.pot) hN g2
    refine ⟨c, M, he, k2, .inr ⟨fun ⟨q1, q2, q3⟩ => ?_, r2, rfl, i1, _, sv1, S1, Sl, Sd1, _, k1, hF1, hF2, hF3⟩⟩
    rcases r1 with h' | h' | h' | h'
    · omega
    · omega
    · omega
    · exact h' q3
  · obtain ⟨k1, k2⟩ := h.step hp hk hS hSd r6 (g5 h.up) (g6 N h.pot) hN g2
    refine ⟨c, _, he, k2, .inl ⟨r1, r2, r4, r5, rfl, i1, X1, sv1, S1, Sl, Sd1, D1, k1, by rw [g3, hF1], by rw [d1, hF2], fun j s hs hd => ?_⟩⟩
    rcases d2 j s hs hd with ⟨_, hid⟩ | ⟨i, t, ht, htd, hte⟩
    · show (if s.id = id then true else T s.id) = true
      rw [if_pos hid]
    · show (if s.id = id then true else T s.id) = true
      split
      · rfl
      · rw [← hte]; exact hF3 i t ht htd
  · have := (g5 h.up).2; rw [r5] at this; cases this
theorem kd_flush (h : Kx w0 w L p lp dp rs M N (DirtyIn pg fr T)) :
    Calls Tryz.prog 29 #[.pointer (some ⟨p, 0, none⟩)] w fun e w' => e = .returned (.int .i64 0) ∧ Kx w0 w' L p lp dp rs M N (DirtyIn pg fr (fun _ => false)) ∧ Keeps (Own w0 L) w w' := by
  obtain ⟨i0, X, sv, S, Sl, Sd, D, h, hF1, hF2, hF3⟩ := h
  have hc := h.count
  have hn := h.nN
  refine (pl_flush h.pw N (by omega) h.pot.soft).mono fun e w' ⟨c, l, i1, Sd1, D1, he, hg, hp, hk, hSd⟩ => ?_
  obtain ⟨g1, g2, g3, g4, g5⟩ := flush_law2 h.inv h.pw.ring h.pw.fit hg
  obtain ⟨k1, k2⟩ := h.step hp hk (fun k hk => .inl hk) hSd g1 (g3 h.up) (g4 N h.pot) hn rfl
  rcases g5 with ⟨rfl, r2⟩ | ⟨_, r2⟩
  · exact ⟨he, ⟨i1, _, sv, S, Sl, Sd1, D1, k1, hF1, hF2, fun j s hs hd => by rw [r2 j s hs] at hd; cases hd⟩, k2⟩
  · have := (g3 h.up).2; rw [r2] at this; cases this
theorem dirty_nodup {X : Pl} {D : Dev} {M : Nat → Pg × Int} (h : PInv X D M) : (dirtyL X.slots).Nodup := by
  unfold dirtyL
  rw [List.Nodup, List.pairwise_map, List.pairwise_filter]
  rw [List.pairwise_iff_getElem]
  intro i j hi hj hij h1 h2 he
  have := h.uniq i j _ _ (List.getElem?_eq_getElem hi) (List.getElem?_eq_getElem hj) he (h.dty i _ (List.getElem?_eq_getElem hi) h1)
  omega
theorem sortI_asc (l : List Int) (hn : l.Nodup) (i : Nat) (hi : i + 1 < (sortI l).length) : (sortI l)[i]'(by omega) < (sortI l)[i + 1] := by
  have hp : (sortI l).Pairwise (fun x y => decide (x ≤ y) = true) := List.pairwise_mergeSort (le := fun x y => decide (x ≤ y)) (fun a b c hab hbc => by simp only [decide_eq_true_eq] at *; omega) (fun a b => by simp only [Bool.or_eq_true, decide_eq_true_eq]; omega) l
  have hd : (sortI l).Nodup := (List.mergeSort_perm l _).nodup_iff.2 hn
  have h1 := List.pairwise_iff_getElem.1 hp i (i + 1) (by omega) hi (by omega)
  have h2 := List.pairwise_iff_getElem.1 hd i (i + 1) (by omega) hi (by omega)
  simp only [decide_eq_true_eq] at h1
  omega
theorem kd_dirty (h : Kx w0 w L p lp dp rs M N (DirtyIn pg fr T)) :
    Calls Tryz.prog 30 #[.pointer (some ⟨p, 0, none⟩)] w fun e w' => ∃ (v : Value) (l : List Int), e = .returned v ∧ OwnS w' 3 1 v l.length (l.map (Value.int .i64)) ∧ Below w.heap.size w w' ∧ (∀ k ∈ blk v, w.heap.size ≤ k) ∧ l.length ≤ fr ∧ (∀ x ∈ l, T x = true ∧ 0 ≤ x ∧ x < pg) ∧ ∀ (i : Nat) (hi : i + 1 < l.length), l[i]'(by omega) < l[i + 1] := by
  obtain ⟨i0, X, sv, S, Sl, Sd, D, h, hF1, hF2, hF3⟩ := h
  refine (pl_dirty h.pw.pool).mono fun e w' ⟨v, he, ho, hb, hk⟩ => ⟨v, sortI (dirtyL X.slots), he, ?_, hb, hk, ?_, fun x hx => ?_, fun i hi => sortI_asc _ (dirty_nodup h.inv) i hi⟩
  · unfold sortI at ho ⊢
    rw [List.length_mergeSort]
    exact ho
  · unfold sortI
    rw [List.length_mergeSort]
    unfold dirtyL
    rw [List.length_map, ← hF2]
    exact Nat.le_trans (List.length_filter_le _ _) h.pw.pool.1.2.2.2.2.2.1
  · have hx2 := (List.mergeSort_perm (dirtyL X.slots) _).mem_iff.1 hx
    unfold dirtyL at hx2
    rw [List.mem_map] at hx2
    obtain ⟨s, hs, rfl⟩ := hx2
    rw [List.mem_filter] at hs
    obtain ⟨i, hi⟩ := List.getElem?_of_mem hs.1
    have h2 := h.inv.hold i s hi (h.inv.dty i s hi hs.2)
    rw [hF1] at h2
    exact ⟨hF3 i s hi hs.2, h2.1, h2.2.1⟩
end
theorem Kx.imp {w0 w : World} {L : List Nat} {p lp dp : Nat} {rs : List ByteArray} {M : Nat → Pg × Int} {N : Nat} {F G : Pl → Prop} (h : Kx w0 w L p lp dp rs M N F) (hi : ∀ X, F X → G X) : Kx w0 w L p lp dp rs M N G :=
  let ⟨i0, X, sv, S, Sl, Sd, D, h1, h2⟩ := h
  ⟨i0, X, sv, S, Sl, Sd, D, h1, hi X h2⟩
theorem kx_pool {w0 w : World} {L : List Nat} {lp dp N0 : Nat} {Sl Sd : List Nat} (h : Lk w0 w L lp dp N0 Sl Sd) (pages frames : Nat) (h1 : 1 ≤ pages) (h2 : pages ≤ 1024) (h3 : 4 ≤ frames) (h4 : frames ≤ 256) (h5 : 128 + 4 * pages ≤ N0) :
    Calls Tryz.prog 22 #[.pointer (some ⟨dp, 0, none⟩), .pointer (some ⟨lp, 0, none⟩), .int .i64 128, .int .i64 pages, .int .i64 frames] w fun e w' => ∃ p, e = .returned (.tuple #[.pointer (some ⟨p, 0, none⟩), .int .i64 0]) ∧ Kx w0 w' L p lp dp [] M0 0 (fun X => X.pages = pages ∧ X.room = frames ∧ X.slots = []) ∧ Keeps (Own w0 L) w w' := by
  have hlen : (Dev.new N0).firm.length = N0 := List.length_replicate
  refine (pl_new h.ws 128 pages frames h1 h2 h3 h4 (by rw [hlen]; exact h5) (by omega)).mono fun e w' ⟨p, he, hp, hb, hpl⟩ => ⟨p, he, ⟨0, _, _, [p], Sl, Sd, Dev.new N0, ⟨hp, pinv_new N0 128 pages frames h5, ⟨rfl, rfl⟩, ⟨0, .inl (by simp [Dev.new]), by simp [nDirty]⟩, by simp, fun k hk => ?_, fun k hk => Nat.lt_of_lt_of_le (h.loc k hk) hb.size, bT h.bel hb, rfl⟩, rfl, rfl, rfl⟩, Keeps.of_below _ hb⟩
  rcases hk with hk | hk
  · have := List.mem_singleton.1 hk
    subst this
    exact ⟨Nat.le_trans h.bel.size hpl, fun h4 => by have := h.loc k h4; omega⟩
  · exact h.fr k hk
end Go.Proofs.YtimomjheanfbmaaGreatDoor

namespace Go.Proofs.YtimomjheanfbmaaGreatDoor
open Go.RowKit

def opn (D : Dev) (b : Nat) : ByteArray × Int × Int := frOpen (D.at b) (D.at (b + 1)) (D.at (b + 2)) (D.at (b + 3))
set_option maxRecDepth 100000 in
set_option maxHeartbeats 400000 in
theorem law_read {w : World} {dp : Nat} {Sd : List Nat} {D : Dev} (hd : DiskAt w dp D Sd) (hdn : D.down = false) (id : Nat) (hid : id ≤ 1024) (hfit : 128 + 4 * id + 4 ≤ D.firm.length) :
    Calls Tryz.prog 84 #[.pointer (some ⟨dp, 0, none⟩), .int .i64 id] w fun e w' => e = .returned (.tuple #[.string (opn D (128 + 4 * id)).1, .int .u64 (opn D (128 + 4 * id)).2.1, .int .i64 (opn D (128 + 4 * id)).2.2]) ∧ Below w.heap.size w w' := by
  have hlen : D.seen.length = D.firm.length := hd.1.2.2.1
  obtain ⟨⟨ob, os, oc⟩, ho⟩ : ∃ o, opn D (128 + 4 * id) = o := ⟨_, rfl⟩
  rw [ho]
  dsimp only
  replace ho := Lib.hid ho
  have hsz64 : ∀ j, j < 4 → (D.at (128 + 4 * id + j)).size = 64 := fun j hj => by
    unfold Dev.at
    rw [List.getD_eq_getElem?_getD, List.getElem?_eq_getElem (by omega)]
    exact hd.1.2.2.2.2.2.2.1 _ (List.getElem_mem _)
  have HD := Lib.hid hd
  replace hlen := Lib.hid hlen
  clear hd
  have hw4 : IntKind.i64.wrap (4 * (id : Int)) = 4 * (id : Int) := by rw [IntKind.wrap_i64]; omega
  have hw5 : IntKind.i64.wrap (128 + 4 * (id : Int)) = 128 + 4 * (id : Int) := by rw [IntKind.wrap_i64]; omega
  have HB0 : Hid (Below w.heap.size w (w.alloc (.cells (arr4 (fun j => D.at (128 + 4 * id + j)) 0) 221))) := bA bR
  have HA0 : Hid ((w.alloc (.cells (arr4 (fun j => D.at (128 + 4 * id + j)) 0) 221)).heap[w.heap.size]? = some (.cells (arr4 (fun j => D.at (128 + 4 * id + j)) 0) 221 (0, 0))) := hN (by simp)
  go_enter Tryz.func84, Tryz.ntmps84
  go_wp2_with fail
  go_loopw [11] (fun x wr => ∃ k : Nat, k ≤ 4 ∧ x = .int .i64 k ∧ Hid (wr.heap[w.heap.size]? = some (.cells (arr4 (fun j => D.at (128 + 4 * id + j)) k) 221 (0, 0))) ∧ Hid (Below w.heap.size w wr)) (fun x _ => 4 - (intOf x).toNat)
  case atStart => exact ⟨0, by omega, rfl, HA0, HB0⟩
  case round =>
    obtain ⟨k, hk4, rfl, HA, HB⟩ := hrel
    clear HB0 HA0
    by_cases hk : k < 4
    · have hkI : (k : Int) < 4 := by omega
      have hw6 : IntKind.i64.wrap (128 + 4 * (id : Int) + (k : Int)) = 128 + 4 * (id : Int) + (k : Int) := by rw [IntKind.wrap_i64]; omega
      have hr : D.read (128 + 4 * (id : Int) + (k : Int)) = (D.at (128 + 4 * id + k), 0) := by
        rw [up_read hdn _ (by omega) (by have := hlen.out; omega)]
        unfold Dev.at
        rw [show (128 + 4 * (id : Int) + (k : Int)).toNat = 128 + 4 * id + k by omega]
      have HR := Lib.hid ((dsk_read dp (128 + 4 * (id : Int) + (k : Int)) D Sd wr (HD.out.later HB.out)))
      rw [hr] at HR
      replace hr := Lib.hid hr
      obtain ⟨v, hv⟩ := arr4_cell (fun j => D.at (128 + 4 * id + j)) k hk
      have A1 := (cell_at HA.out k).trans hv
      have A2 := free_at HA.out k
      have hnx := Lib.hid (arr4_next (fun j => D.at (128 + 4 * id + j)) k hk)
      replace hk4 := Lib.hid hk4
      clear hv
      go_wp2_with fail
      refine (HR.out).mono ?_
      rintro e w1 ⟨rfl, rfl⟩
      clear HR
      go_wp2_with fail
      go_roundw
      case rel => exact ⟨k + 1, by omega, rfl, heap_set_eq HA.out hnx.out, bS HB.out (by simp)⟩
      case measure => simp [intOf]; omega
    · obtain rfl : k = 4 := by omega
      have hA4 : arr4 (fun j => D.at (128 + 4 * id + j)) 4 = #[.string (D.at (128 + 4 * id)), .string (D.at (128 + 4 * id + 1)), .string (D.at (128 + 4 * id + 2)), .string (D.at (128 + 4 * id + 3))] := rfl
      rw [hA4] at HA
      clear hA4
      have z0 := hsz64 0 (by omega)
      have z1 := hsz64 1 (by omega)
      have z2 := hsz64 2 (by omega)
      have z3 := hsz64 3 (by omega)
      rw [Nat.add_zero] at z0
      have HO := Lib.hid (fun w => rfm_open (D.at (128 + 4 * id)) (D.at (128 + 4 * id + 1)) (D.at (128 + 4 * id + 2)) (D.at (128 + 4 * id + 3)) (by unfold maxLen; omega) (by unfold maxLen; omega) (by unfold maxLen; omega) (by unfold maxLen; omega) w)
      change Hid (∀ w, Calls Tryz.prog _ _ w fun e w' => e = .returned (.tuple #[.string (opn D (128 + 4 * id)).1, .int .u64 (opn D (128 + 4 * id)).2.1, .int .i64 (opn D (128 + 4 * id)).2.2]) ∧ Below w.heap.size w w') at HO
      obtain ⟨s0, e0⟩ : ∃ s, D.at (128 + 4 * id) = s := ⟨_, rfl⟩
      obtain ⟨s1, e1⟩ : ∃ s, D.at (128 + 4 * id + 1) = s := ⟨_, rfl⟩
      obtain ⟨s2, e2⟩ : ∃ s, D.at (128 + 4 * id + 2) = s := ⟨_, rfl⟩
      obtain ⟨s3, e3⟩ : ∃ s, D.at (128 + 4 * id + 3) = s := ⟨_, rfl⟩
      rw [e0, e1, e2, e3] at HO HA
      clear e0 e1 e2 e3 z0 z1 z2 z3 hsz64 hk
      rw [ho.out] at HO
      dsimp only at HO
      go_wp2_with (refine wpList_load_row rfl 221 _ rfl _ rfl 221 _ _ _ HA.out Tryz.underlying221 rfl (by kernel_rfl) ?_)
      refine (HO.out _).mono ?_
      rintro e w5 ⟨rfl, hb5⟩
      have HB5 := Lib.hid (bT HB.out hb5)
      clear hb5 HO HB HA
      go_wp2_with fail
      go_ret3
      exact ⟨rfl, HB5.out⟩
end Go.Proofs.YtimomjheanfbmaaGreatDoor
