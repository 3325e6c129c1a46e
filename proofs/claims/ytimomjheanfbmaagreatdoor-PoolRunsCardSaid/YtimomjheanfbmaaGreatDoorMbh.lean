import Derived.Test.YtimomjheanfbmaaGreatDoorMbg
set_option linter.unusedSimpArgs false
set_option linter.unusedVariables false
namespace Go.Proofs.YtimomjheanfbmaaGreatDoor
open Go.RowKit

/-! ### a pool of a law, over a device that is up -/
structure Kp (w0 w : World) (L : List Nat) (p lp dp : Nat) (rs : List ByteArray) (i0 : Nat) (X : Pl) (sv : Value) (S Sl Sd : List Nat) (D : Dev) (M : Nat → Pg × Int) (N : Nat) : Prop where
  pw : Pw w p lp dp 0 128 1 P0 rs i0 X sv S Sl Sd D
  inv : PInv X D M
  up : D.up
  pot : Pot N D X.slots
  nN : N ≤ 4 * rs.length + 100
  fr : ∀ k, k ∈ S ∨ k ∈ Sl ∨ k ∈ Sd → w0.heap.size ≤ k ∧ k ∉ L
  loc : ∀ k ∈ L, k < w.heap.size
  bel : Below w0.heap.size w0 w
  b128 : X.base = 128
/-- what the calls leave alone -/
def Own (w0 : World) (L : List Nat) : Nat → Prop := fun k => w0.heap.size ≤ k ∧ k ∉ L
section
variable {w0 w w' : World} {L : List Nat} {p lp dp : Nat} {rs : List ByteArray} {i0 : Nat} {X : Pl} {sv : Value} {S Sl Sd : List Nat} {D : Dev} {M : Nat → Pg × Int} {N : Nat}
theorem Kp.count (h : Kp w0 w L p lp dp rs i0 X sv S Sl Sd D M N) : rs.length ≤ 2304 ∧ lenL rs ≤ 6912 := by
  have h1 := lenL_len h.pw.ws.rok
  have h2 := h.pw.ws.len.2.2
  have : P0.size = 0 := rfl
  omega
theorem Kp.later (h : Kp w0 w L p lp dp rs i0 X sv S Sl Sd D M N) (hb : Below w.heap.size w w') : Kp w0 w' L p lp dp rs i0 X sv S Sl Sd D M N :=
  ⟨h.pw.later hb, h.inv, h.up, h.pot, h.nN, h.fr, fun k hk => Nat.lt_of_lt_of_le (h.loc k hk) hb.size, bT h.bel hb, h.b128⟩
/-- a block of one's own is written -/
theorem Kp.keep (h : Kp w0 w L p lp dp rs i0 X sv S Sl Sd D M N) (hk : Keeps (· ∈ L) w w') (hL : ∀ k ∈ L, w0.heap.size ≤ k) : Kp w0 w' L p lp dp rs i0 X sv S Sl Sd D M N :=
  ⟨⟨h.pw.pool.keep hk (fun k hk' h' => (h.fr k (.inl hk')).2 h'), h.pw.ws.keep hk (fun k hk' h' => (h.fr k (.inr (.inl hk'))).2 h') (fun k hk' h' => (h.fr k (.inr (.inr hk'))).2 h'), h.pw.dl, h.pw.dd, h.pw.ring, h.pw.fit⟩, h.inv, h.up, h.pot, h.nN, h.fr, fun k hk' => Nat.lt_of_lt_of_le (h.loc k hk') hk.size, h.bel.trans (hk.belowB h.bel.size hL), h.b128⟩
/-- other blocks of one's own -/
theorem Kp.relist (h : Kp w0 w L p lp dp rs i0 X sv S Sl Sd D M N) (L' : List Nat) (hl : ∀ k ∈ L', k < w.heap.size) (hn : ∀ k ∈ L', k ∈ L ∨ (k ∉ S ∧ k ∉ Sl ∧ k ∉ Sd)) : Kp w0 w L' p lp dp rs i0 X sv S Sl Sd D M N :=
  ⟨h.pw, h.inv, h.up, h.pot, h.nN, fun k hk => ⟨(h.fr k hk).1, fun hk' => by
    rcases hn k hk' with h1 | ⟨h1, h2, h3⟩
    · exact (h.fr k hk).2 h1
    · rcases hk with h4 | h4 | h4
      · exact h1 h4
      · exact h2 h4
      · exact h3 h4⟩, hl, h.bel, h.b128⟩
end
def Kq (w0 w : World) (L : List Nat) (p lp dp pg : Nat) (rs : List ByteArray) (M : Nat → Pg × Int) (N : Nat) : Prop :=
  ∃ i0 X sv S Sl Sd D, Kp w0 w L p lp dp rs i0 X sv S Sl Sd D M N ∧ X.pages = pg
theorem Kq.later {w0 w w' : World} {L : List Nat} {p lp dp pg : Nat} {rs : List ByteArray} {M : Nat → Pg × Int} {N : Nat} (h : Kq w0 w L p lp dp pg rs M N) (hb : Below w.heap.size w w') : Kq w0 w' L p lp dp pg rs M N :=
  let ⟨i0, X, sv, S, Sl, Sd, D, h1, h2⟩ := h
  ⟨i0, X, sv, S, Sl, Sd, D, h1.later hb, h2⟩
theorem Kq.keep {w0 w w' : World} {L : List Nat} {p lp dp pg : Nat} {rs : List ByteArray} {M : Nat → Pg × Int} {N : Nat} (h : Kq w0 w L p lp dp pg rs M N) (hk : Keeps (· ∈ L) w w') (hL : ∀ k ∈ L, w0.heap.size ≤ k) : Kq w0 w' L p lp dp pg rs M N :=
  let ⟨i0, X, sv, S, Sl, Sd, D, h1, h2⟩ := h
  ⟨i0, X, sv, S, Sl, Sd, D, h1.keep hk hL, h2⟩
theorem Kq.bel {w0 w : World} {L : List Nat} {p lp dp pg : Nat} {rs : List ByteArray} {M : Nat → Pg × Int} {N : Nat} (h : Kq w0 w L p lp dp pg rs M N) : Below w0.heap.size w0 w :=
  let ⟨i0, X, sv, S, Sl, Sd, D, h1, h2⟩ := h
  h1.bel
theorem Kq.count {w0 w : World} {L : List Nat} {p lp dp pg : Nat} {rs : List ByteArray} {M : Nat → Pg × Int} {N : Nat} (h : Kq w0 w L p lp dp pg rs M N) : rs.length ≤ 2304 ∧ lenL rs ≤ 6912 ∧ N ≤ 4 * rs.length + 100 :=
  let ⟨i0, X, sv, S, Sl, Sd, D, h1, h2⟩ := h
  ⟨h1.count.1, h1.count.2, h1.nN⟩
/-- fresh blocks are set aside behind an allocation -/
theorem Kq.more {w0 w w' : World} {L : List Nat} {p lp dp pg : Nat} {rs : List ByteArray} {M : Nat → Pg × Int} {N : Nat} (h : Kq w0 w L p lp dp pg rs M N) (hb : Below w.heap.size w w') (L' : List Nat) (hl : ∀ k ∈ L', k < w'.heap.size) (hn : ∀ k ∈ L', k ∈ L ∨ w.heap.size ≤ k) : Kq w0 w' L' p lp dp pg rs M N :=
  let ⟨i0, X, sv, S, Sl, Sd, D, h1, h2⟩ := h
  ⟨i0, X, sv, S, Sl, Sd, D, (h1.later hb).relist L' hl (fun k hk => (hn k hk).imp (fun h => h) (fun h => ⟨fun h' => by have := h1.pw.pool.lt k h'; omega, fun h' => by have := h1.pw.ws.log.lt k h'; omega, fun h' => by have := h1.pw.ws.dsk.lt k h'; omega⟩)), h2⟩
theorem Kq.less {w0 w : World} {L : List Nat} {p lp dp pg : Nat} {rs : List ByteArray} {M : Nat → Pg × Int} {N : Nat} (h : Kq w0 w L p lp dp pg rs M N) (L' : List Nat) (hn : ∀ k ∈ L', k ∈ L) : Kq w0 w L' p lp dp pg rs M N :=
  let ⟨i0, X, sv, S, Sl, Sd, D, h1, h2⟩ := h
  ⟨i0, X, sv, S, Sl, Sd, D, h1.relist L' (fun k hk => h1.loc k (hn k hk)) (fun k hk => .inl (hn k hk)), h2⟩
def refuses (rs : List ByteArray) (r : ByteArray) : Bool := ((mkLg 0 128 1 P0 rs 0).refuse r).isSome
theorem ws_append2 {w : World} {p dp : Nat} {rs : List ByteArray} {i0 : Nat} {S Sd : List Nat} {D : Dev} (h : Ws w p dp 0 128 1 P0 rs i0 S Sd D) (r : ByteArray) (hr : r.size ≤ maxLen) :
    Calls Tryz.prog 26 #[.pointer (some ⟨p, 0, none⟩), .string r] w fun e w' => (refuses rs r = true ∧ ∃ c, c ≠ 0 ∧ e = .returned (.tuple #[.int .i64 0, .int .i64 c]) ∧ Below w.heap.size w w') ∨
      (refuses rs r = false ∧ e = .returned (.tuple #[.int .i64 ((54 + lenL rs : Nat) : Int), .int .i64 0]) ∧ ∃ S', Ws w' p dp 0 128 1 P0 (rs ++ [r]) i0 S' Sd D ∧ Keeps (· ∈ S) w w' ∧ ∀ k ∈ S', k ∈ S ∨ w.heap.size ≤ k) := by
  have hsame : (mkLg 0 128 1 P0 rs i0).refuse r = (mkLg 0 128 1 P0 rs 0).refuse r := rfl
  cases hrf : (mkLg 0 128 1 P0 rs 0).refuse r with
  | some c =>
    refine (wal_append_no p dp _ S r hr c (by rw [hsame]; exact hrf) w h.log).mono fun e w' ⟨he, hb⟩ => .inl ⟨by unfold refuses; rw [hrf]; rfl, c, ?_, he, hb⟩
    unfold Lg.refuse at hrf
    by_cases h0 : r.size = 0
    · rw [if_pos h0] at hrf; injection hrf with hrf; omega
    · rw [if_neg h0] at hrf
      by_cases h1 : 65535 < r.size
      · rw [if_pos h1] at hrf; injection hrf with hrf; omega
      · rw [if_neg h1] at hrf
        by_cases h2 : (mkLg 0 128 1 P0 rs 0).room < 2 + (r.size : Int)
        · rw [if_pos h2] at hrf; injection hrf with hrf; omega
        · rw [if_neg h2] at hrf; cases hrf
  | none =>
    obtain ⟨q1, q2, q3⟩ := refuse_none hrf
    have hb := h.len
    refine (wal_append_ok p dp _ S r hr (by rw [hsame]; exact hrf) (by show ((54 * 1 + P0.size + lenL rs : Nat) : Int) ≤ _; omega) w h.log).mono fun e w' ⟨he, S', hl, hk, hs⟩ => .inr ⟨by unfold refuses; rw [hrf]; rfl, ?_, S', ⟨?_, h.dsk.keep hk (fun k hk h' => h.dis k h' hk), h.has.grow h.le r, fun k hk hkd => ?_, ?_, ?_, h.pre, h.bbs, h.soft⟩, hk, hs⟩
    · rw [he]
      show Ending.returned (.tuple #[.int .i64 ((54 * 1 + 0 + lenL rs : Nat) : Int), .int .i64 0]) = _
      rw [show 54 * 1 + 0 + lenL rs = 54 + lenL rs by omega]
    · rw [← mkLg_push h.le]; exact hl
    · rcases hs k hk with h' | h'
      · exact h.dis k h' hkd
      · have := h.dsk.lt k hkd; omega
    · intro x hx
      rw [List.mem_append, List.mem_singleton] at hx
      rcases hx with hx | rfl
      · exact h.rok x hx
      · exact ⟨by omega, q2⟩
    · have := h.le; rw [List.length_append]; omega
section
variable {w0 w : World} {L : List Nat} {p lp dp pg : Nat} {rs : List ByteArray} {M : Nat → Pg × Int} {N : Nat}
theorem kq_append (h : Kq w0 w L p lp dp pg rs M N) (r : ByteArray) (hr : r.size ≤ maxLen) :
    Calls Tryz.prog 26 #[.pointer (some ⟨lp, 0, none⟩), .string r] w fun e w' => ((refuses rs r = true ∧ ∃ c, c ≠ 0 ∧ e = .returned (.tuple #[.int .i64 0, .int .i64 c]) ∧ Kq w0 w' L p lp dp pg rs M N) ∨
      (refuses rs r = false ∧ e = .returned (.tuple #[.int .i64 ((54 + lenL rs : Nat) : Int), .int .i64 0]) ∧ Kq w0 w' L p lp dp pg (rs ++ [r]) M N)) ∧ Keeps (Own w0 L) w w' := by
  obtain ⟨i0, X, sv, S, Sl, Sd, D, h1, h2⟩ := h
  refine (ws_append2 h1.pw.ws r hr).mono fun e w' hp => ?_
  rcases hp with ⟨hrf, c, hc, he, hb⟩ | ⟨hrf, he, S', hw, hk, hs⟩
  · exact ⟨.inl ⟨hrf, c, hc, he, i0, X, sv, S, Sl, Sd, D, h1.later hb, h2⟩, Keeps.of_below _ hb⟩
  · have hko : Keeps (Own w0 L) w w' := hk.mono (fun k _ hk' => h1.fr k (.inr (.inl hk')))
    refine ⟨.inr ⟨hrf, he, i0, X, sv, S, S', Sd, D, ⟨⟨h1.pw.pool.keep hk (fun k hk' h' => h1.pw.dl k hk' h'), hw, fun k hk' h' => ?_, h1.pw.dd, h1.pw.ring, h1.pw.fit⟩, h1.inv, h1.up, h1.pot, by have := h1.nN; rw [List.length_append]; omega, fun k hk' => ?_, fun k hk' => Nat.lt_of_lt_of_le (h1.loc k hk') hk.size, h1.bel.trans (hko.belowB h1.bel.size (fun k hk' => hk'.1)), h1.b128⟩, h2⟩, hko⟩
    · rcases hs k h' with h3 | h3
      · exact h1.pw.dl k hk' h3
      · have := h1.pw.pool.lt k hk'; omega
    · rcases hk' with hk' | hk' | hk'
      · exact h1.fr k (.inl hk')
      · rcases hs k hk' with h3 | h3
        · exact h1.fr k (.inr (.inl h3))
        · exact ⟨Nat.le_trans h1.bel.size h3, fun h4 => by have := h1.loc k h4; omega⟩
      · exact h1.fr k (.inr (.inr hk'))
/-- the bundle behind a call -/
theorem Kp.step {i0 : Nat} {X : Pl} {sv : Value} {S Sl Sd : List Nat} {D : Dev} (h : Kp w0 w L p lp dp rs i0 X sv S Sl Sd D M N) {w' : World} {i1 : Nat} {X1 : Pl} {sv1 : Value} {S1 Sd1 : List Nat} {D1 : Dev} {M1 : Nat → Pg × Int} {N1 : Nat}
    (hp : Pw w' p lp dp 0 128 1 P0 rs i1 X1 sv1 S1 Sl Sd1 D1) (hk : Keeps (fun k => k ∈ S ∨ k ∈ Sl ∨ k ∈ Sd) w w') (hS : ∀ k ∈ S1, k ∈ S ∨ w.heap.size ≤ k) (hSd : ∀ k ∈ Sd1, k ∈ Sd ∨ w.heap.size ≤ k) (hi : PInv X1 D1 M1) (hu : D1.up) (hpt : Pot N1 D1 X1.slots) (hN : N1 ≤ 4 * rs.length + 100) (hb : X1.base = X.base) :
    Kp w0 w' L p lp dp rs i1 X1 sv1 S1 Sl Sd1 D1 M1 N1 ∧ Keeps (Own w0 L) w w' := by
  have hko : Keeps (Own w0 L) w w' := hk.mono (fun k _ hk' => h.fr k hk')
  refine ⟨⟨hp, hi, hu, hpt, hN, fun k hk' => ?_, fun k hk' => Nat.lt_of_lt_of_le (h.loc k hk') hk.size, h.bel.trans (hko.belowB h.bel.size (fun k hk' => hk'.1)), by rw [hb]; exact h.b128⟩, hko⟩
  have fresh : ∀ k, w.heap.size ≤ k → w0.heap.size ≤ k ∧ k ∉ L := fun k h3 => ⟨Nat.le_trans h.bel.size h3, fun h4 => by have := h.loc k h4; omega⟩
  rcases hk' with hk' | hk' | hk'
  · rcases hS k hk' with h3 | h3
    · exact h.fr k (.inl h3)
    · exact fresh k h3
  · exact h.fr k (.inr (.inl hk'))
  · rcases hSd k hk' with h3 | h3
    · exact h.fr k (.inr (.inr h3))
    · exact fresh k h3
theorem Kp.get {i0 : Nat} {X : Pl} {sv : Value} {S Sl Sd : List Nat} {D : Dev} (h : Kp w0 w L p lp dp rs i0 X sv S Sl Sd D M N) (id : Int) :
    Calls Tryz.prog 24 #[.pointer (some ⟨p, 0, none⟩), .int .i64 id] w fun e w' => ∃ Q c i1 X1 sv1 S1 Sd1 D1, e = .returned (.tuple #[pgV Q, .int .i64 c]) ∧ Kp w0 w' L p lp dp rs i1 X1 sv1 S1 Sl Sd1 D1 M N ∧ Keeps (Own w0 L) w w' ∧ X1.pages = X.pages ∧
      ((0 ≤ id ∧ id < X.pages ∧ c = 0 ∧ pgC Q = pgC (M id.toNat).1) ∨ ((id < 0 ∨ (X.pages : Int) ≤ id) ∧ c = 1 ∧ Q = pageZ)) := by
  have hc := h.count
  have hn := h.nN
  refine (pl_get h.pw N (by omega) h.pot.soft id).mono fun e w' ⟨Q, c, i1, X1, sv1, S1, Sd1, D1, he, hg, hp, hk, hS, hSd⟩ => ?_
  obtain ⟨g1, g2, g3, g4, g5, g6, g7⟩ := get_law h.inv h.pw.ring h.pw.fit hg
  obtain ⟨k1, k2⟩ := h.step hp hk hS hSd g1 (g5 h.up) (g6 N h.pot) hn g2
  refine ⟨Q, c, i1, X1, sv1, S1, Sd1, D1, he, k1, k2, g3, ?_⟩
  rcases g7 with ⟨r1, r2, r3⟩ | ⟨r1, r2, ⟨r3, r4⟩ | ⟨_, r3⟩⟩
  · exact .inr ⟨r1, r2, r3⟩
  · exact .inl ⟨r1, r2, r3, r4⟩
  · have := (g5 h.up).2; rw [r3] at this; cases this
theorem Kp.put {i0 : Nat} {X : Pl} {sv : Value} {S Sl Sd : List Nat} {D : Dev} (h : Kp w0 w L p lp dp rs i0 X sv S Sl Sd D M N) (hN : N + 4 ≤ 4 * rs.length + 100) (id : Int) (x : Pg) (hx : ∀ i, i < 6 → (x.dt i).size ≤ maxLen) (st : Int) (hst : 0 ≤ st ∧ st ≤ 1152921504606846976) :
    Calls Tryz.prog 27 #[.pointer (some ⟨p, 0, none⟩), .int .i64 id, pgV x, .int .i64 st] w fun e w' => ∃ c i1 X1 sv1 S1 Sd1 D1 M1, e = .returned (.int .i64 c) ∧ Kp w0 w' L p lp dp rs i1 X1 sv1 S1 Sl Sd1 D1 M1 (N + 4) ∧ Keeps (Own w0 L) w w' ∧ X1.pages = X.pages ∧
      ((0 ≤ id ∧ id < X.pages ∧ PgOk x ∧ c = 0 ∧ M1 = upd M id.toNat (x, st)) ∨ (¬ (0 ≤ id ∧ id < X.pages ∧ PgOk x) ∧ c = 1 ∧ M1 = M ∧ X1 = X)) := by
  have hc := h.count
  have hn := h.nN
  refine (pl_put h.pw N (by omega) h.pot.soft id x hx st hst.2).mono fun e w' ⟨c, i1, X1, sv1, S1, Sd1, D1, he, hg, hp, hk, hS, hSd⟩ => ?_
  obtain ⟨g2, g3, g4, g5, g6, g7⟩ := put_law h.inv h.pw.ring h.pw.fit hst.2 hg
  rcases g7 with ⟨r1, r2, r3, r4⟩ | ⟨r1, r2, r3, r4, ⟨r5, r6⟩ | ⟨_, r5, _⟩⟩
  · subst r3 r4
    obtain ⟨k1, k2⟩ := h.step hp hk hS hSd h.inv h.up (g6 N h.pot) hN g2
    refine ⟨c, i1, X1, sv1, S1, Sd1, D1, M, he, k1, k2, rfl, .inr ⟨fun ⟨q1, q2, q3⟩ => ?_, r2, rfl, rfl⟩⟩
    rcases r1 with h' | h' | h' | h'
    · omega
    · omega
    · omega
    · exact h' q3
  · obtain ⟨k1, k2⟩ := h.step hp hk hS hSd r6 (g5 h.up) (g6 N h.pot) hN g2
    exact ⟨c, i1, X1, sv1, S1, Sd1, D1, _, he, k1, k2, g3, .inl ⟨r1, r2, r4, r5, rfl⟩⟩
  · have := (g5 h.up).2; rw [r5] at this; cases this
theorem Kp.flush {i0 : Nat} {X : Pl} {sv : Value} {S Sl Sd : List Nat} {D : Dev} (h : Kp w0 w L p lp dp rs i0 X sv S Sl Sd D M N) :
    Calls Tryz.prog 29 #[.pointer (some ⟨p, 0, none⟩)] w fun e w' => ∃ i1 X1 Sd1 D1, e = .returned (.int .i64 0) ∧ Kp w0 w' L p lp dp rs i1 X1 sv S Sl Sd1 D1 M N ∧ Keeps (Own w0 L) w w' ∧ X1.pages = X.pages ∧ ∀ (j : Nat) (s : Slot), X1.slots[j]? = some s → s.dirty = false := by
  have hc := h.count
  have hn := h.nN
  refine (pl_flush h.pw N (by omega) h.pot.soft).mono fun e w' ⟨c, l, i1, Sd1, D1, he, hg, hp, hk, hSd⟩ => ?_
  obtain ⟨g1, g2, g3, g4, g5⟩ := flush_law2 h.inv h.pw.ring h.pw.fit hg
  obtain ⟨k1, k2⟩ := h.step hp hk (fun k hk => .inl hk) hSd g1 (g3 h.up) (g4 N h.pot) hn rfl
  rcases g5 with ⟨rfl, r2⟩ | ⟨_, r2⟩
  · exact ⟨i1, _, Sd1, D1, he, k1, k2, rfl, r2⟩
  · have := (g3 h.up).2; rw [r2] at this; cases this
theorem kq_get (h : Kq w0 w L p lp dp pg rs M N) (id : Int) :
    Calls Tryz.prog 24 #[.pointer (some ⟨p, 0, none⟩), .int .i64 id] w fun e w' => ∃ Q c, e = .returned (.tuple #[pgV Q, .int .i64 c]) ∧ Kq w0 w' L p lp dp pg rs M N ∧ Keeps (Own w0 L) w w' ∧
      ((0 ≤ id ∧ id < pg ∧ c = 0 ∧ pgC Q = pgC (M id.toNat).1) ∨ ((id < 0 ∨ (pg : Int) ≤ id) ∧ c = 1 ∧ Q = pageZ)) := by
  obtain ⟨i0, X, sv, S, Sl, Sd, D, h1, h2⟩ := h
  refine (h1.get id).mono fun e w' ⟨Q, c, i1, X1, sv1, S1, Sd1, D1, he, k1, k2, k3, k4⟩ => ⟨Q, c, he, ⟨i1, X1, sv1, S1, Sl, Sd1, D1, k1, by rw [k3, h2]⟩, k2, ?_⟩
  rw [h2] at k4
  exact k4
theorem kq_put (h : Kq w0 w L p lp dp pg rs M N) (hN : N + 4 ≤ 4 * rs.length + 100) (id : Int) (x : Pg) (hx : ∀ i, i < 6 → (x.dt i).size ≤ maxLen) (st : Int) (hst : 0 ≤ st ∧ st ≤ 1152921504606846976) :
    Calls Tryz.prog 27 #[.pointer (some ⟨p, 0, none⟩), .int .i64 id, pgV x, .int .i64 st] w fun e w' => ∃ c M1, e = .returned (.int .i64 c) ∧ Kq w0 w' L p lp dp pg rs M1 (N + 4) ∧ Keeps (Own w0 L) w w' ∧
      ((0 ≤ id ∧ id < pg ∧ PgOk x ∧ c = 0 ∧ M1 = upd M id.toNat (x, st)) ∨ (¬ (0 ≤ id ∧ id < pg ∧ PgOk x) ∧ c = 1 ∧ M1 = M)) := by
  obtain ⟨i0, X, sv, S, Sl, Sd, D, h1, h2⟩ := h
  refine (h1.put hN id x hx st hst).mono fun e w' ⟨c, i1, X1, sv1, S1, Sd1, D1, M1, he, k1, k2, k3, k4⟩ => ⟨c, M1, he, ⟨i1, X1, sv1, S1, Sl, Sd1, D1, k1, by rw [k3, h2]⟩, k2, ?_⟩
  rw [h2] at k4
  rcases k4 with k4 | ⟨q1, q2, q3, _⟩
  · exact .inl k4
  · exact .inr ⟨q1, q2, q3⟩
end
end Go.Proofs.YtimomjheanfbmaaGreatDoor
