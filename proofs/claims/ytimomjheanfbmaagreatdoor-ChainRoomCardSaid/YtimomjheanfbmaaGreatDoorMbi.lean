import Derived.Test.YtimomjheanfbmaaGreatDoorMbh
import Derived.Test.YtimomjheanfbmaaGreatDoorMad
import Derived.Test.YtimomjheanfbmaaGreatDoorMag
set_option linter.unusedSimpArgs false
set_option linter.unusedVariables false
namespace Go.Proofs.YtimomjheanfbmaaGreatDoor
open Go.RowKit

/-! ### a pool of a law, over a device that is up -/
structure Kp (w0 w : World) (L : List Nat) (p lp dp : Nat) (rs : List ByteArray) (i0 : Nat) (X : Pl) (sv : Value) (S Sl Sd : List Nat) (D : Dev) (M : Nat → Pg × Int) (N : Nat) : Prop where
  pw : Pw w p lp dp 0 128 1 P0 rs i0 X sv S Sl Sd D
  inv : PInv X D M
  up : D.up
  pot : Pot N D X.slots
  nN : N ≤ 4 * rs.length + 100
  fr : ∀ k, k ∈ S ∨ k ∈ Sl ∨ k ∈ Sd → w0.heap.size ≤ k ∧ k ∉ L
  loc : ∀ k ∈ L, k < w.heap.size
  bel : Below w0.heap.size w0 w
  b128 : X.base = 128
/-- what the calls leave alone -/
def Own (w0 : World) (L : List Nat) : Nat → Prop := fun k => w0.heap.size ≤ k ∧ k ∉ L
section
variable {w0 w w' : World} {L : List Nat} {p lp dp : Nat} {rs : List ByteArray} {i0 : Nat} {X : Pl} {sv : Value} {S Sl Sd : List Nat} {D : Dev} {M : Nat → Pg × Int} {N : Nat}
theorem Kp.count (h : Kp w0 w L p lp dp rs i0 X sv S Sl Sd D M N) : rs.length ≤ 2304 ∧ lenL rs ≤ 6912 := by
  have h1 := lenL_len h.pw.ws.rok
  have h2 := h.pw.ws.len.2.2
  have : P0.size = 0 := rfl
  omega
theorem Kp.later (h : Kp w0 w L p lp dp rs i0 X sv S Sl Sd D M N) (hb : Below w.heap.size w w') : Kp w0 w' L p lp dp rs i0 X sv S Sl Sd D M N :=
  ⟨h.pw.later hb, h.inv, h.up, h.pot, h.nN, h.fr, fun k hk => Nat.lt_of_lt_of_le (h.loc k hk) hb.size, bT h.bel hb, h.b128⟩
/-- a block of one's own is written -/
theorem Kp.keep (h : Kp w0 w L p lp dp rs i0 X sv S Sl Sd D M N) (hk : Keeps (· ∈ L) w w') (hL : ∀ k ∈ L, w0.heap.size ≤ k) : Kp w0 w' L p lp dp rs i0 X sv S Sl Sd D M N :=
  ⟨⟨h.pw.pool.keep hk (fun k hk' h' => (h.fr k (.inl hk')).2 h'), h.pw.ws.keep hk (fun k hk' h' => (h.fr k (.inr (.inl hk'))).2 h') (fun k hk' h' => (h.fr k (.inr (.inr hk'))).2 h'), h.pw.dl, h.pw.dd, h.pw.ring, h.pw.fit⟩, h.inv, h.up, h.pot, h.nN, h.fr, fun k hk' => Nat.lt_of_lt_of_le (h.loc k hk') hk.size, h.bel.trans (hk.belowB h.bel.size hL), h.b128⟩
/-- other blocks of one's own -/
theorem Kp.relist (h : Kp w0 w L p lp dp rs i0 X sv S Sl Sd D M N) (L' : List Nat) (hl : ∀ k ∈ L', k < w.heap.size) (hn : ∀ k ∈ L', k ∈ L ∨ (k ∉ S ∧ k ∉ Sl ∧ k ∉ Sd)) : Kp w0 w L' p lp dp rs i0 X sv S Sl Sd D M N :=
  ⟨h.pw, h.inv, h.up, h.pot, h.nN, fun k hk => ⟨(h.fr k hk).1, fun hk' => by
    rcases hn k hk' with h1 | ⟨h1, h2, h3⟩
    · exact (h.fr k hk).2 h1
    · rcases hk with h4 | h4 | h4
      · exact h1 h4
      · exact h2 h4
      · exact h3 h4⟩, hl, h.bel, h.b128⟩
end
def Kq (w0 w : World) (L : List Nat) (p lp dp pg : Nat) (rs : List ByteArray) (M : Nat → Pg × Int) (N : Nat) : Prop :=
  ∃ i0 X sv S Sl Sd D, Kp w0 w L p lp dp rs i0 X sv S Sl Sd D M N ∧ X.pages = pg
theorem Kq.later {w0 w w' : World} {L : List Nat} {p lp dp pg : Nat} {rs : List ByteArray} {M : Nat → Pg × Int} {N : Nat} (h : Kq w0 w L p lp dp pg rs M N) (hb : Below w.heap.size w w') : Kq w0 w' L p lp dp pg rs M N :=
  let ⟨i0, X, sv, S, Sl, Sd, D, h1, h2⟩ := h
  ⟨i0, X, sv, S, Sl, Sd, D, h1.later hb, h2⟩
theorem Kq.keep {w0 w w' : World} {L : List Nat} {p lp dp pg : Nat} {rs : List ByteArray} {M : Nat → Pg × Int} {N : Nat} (h : Kq w0 w L p lp dp pg rs M N) (hk : Keeps (· ∈ L) w w') (hL : ∀ k ∈ L, w0.heap.size ≤ k) : Kq w0 w' L p lp dp pg rs M N :=
  let ⟨i0, X, sv, S, Sl, Sd, D, h1, h2⟩ := h
  ⟨i0, X, sv, S, Sl, Sd, D, h1.keep hk hL, h2⟩
theorem Kq.bel {w0 w : World} {L : List Nat} {p lp dp pg : Nat} {rs : List ByteArray} {M : Nat → Pg × Int} {N : Nat} (h : Kq w0 w L p lp dp pg rs M N) : Below w0.heap.size w0 w :=
  let ⟨i0, X, sv, S, Sl, Sd, D, h1, h2⟩ := h
  h1.bel
theorem Kq.count {w0 w : World} {L : List Nat} {p lp dp pg : Nat} {rs : List ByteArray} {M : Nat → Pg × Int} {N : Nat} (h : Kq w0 w L p lp dp pg rs M N) : rs.length ≤ 2304 ∧ lenL rs ≤ 6912 ∧ N ≤ 4 * rs.length + 100 :=
  let ⟨i0, X, sv, S, Sl, Sd, D, h1, h2⟩ := h
  ⟨h1.count.1, h1.count.2, h1.nN⟩
/-- fresh blocks are set aside behind an allocation -/
theorem Kq.more {w0 w w' : World} {L : List Nat} {p lp dp pg : Nat} {rs : List ByteArray} {M : Nat → Pg × Int} {N : Nat} (h : Kq w0 w L p lp dp pg rs M N) (hb : Below w.heap.size w w') (L' : List Nat) (hl : ∀ k ∈ L', k < w'.heap.size) (hn : ∀ k ∈ L', k ∈ L ∨ w.heap.size ≤ k) : Kq w0 w' L' p lp dp pg rs M N :=
  let ⟨i0, X, sv, S, Sl, Sd, D, h1, h2⟩ := h
  ⟨i0, X, sv, S, Sl, Sd, D, (h1.later hb).relist L' hl (fun k hk => (hn k hk).imp (fun h => h) (fun h => ⟨fun h' => by have := h1.pw.pool.lt k h'; omega, fun h' => by have := h1.pw.ws.log.lt k h'; omega, fun h' => by have := h1.pw.ws.dsk.lt k h'; omega⟩)), h2⟩
theorem Kq.less {w0 w : World} {L : List Nat} {p lp dp pg : Nat} {rs : List ByteArray} {M : Nat → Pg × Int} {N : Nat} (h : Kq w0 w L p lp dp pg rs M N) (L' : List Nat) (hn : ∀ k ∈ L', k ∈ L) : Kq w0 w L' p lp dp pg rs M N :=
  let ⟨i0, X, sv, S, Sl, Sd, D, h1, h2⟩ := h
  ⟨i0, X, sv, S, Sl, Sd, D, h1.relist L' (fun k hk => h1.loc k (hn k hk)) (fun k hk => .inl (hn k hk)), h2⟩
def refuses (rs : List ByteArray) (r : ByteArray) : Bool := ((mkLg 0 128 1 P0 rs 0).refuse r).isSome
theorem ws_append2 {w : World} {p dp : Nat} {rs : List ByteArray} {i0 : Nat} {S Sd : List Nat} {D : Dev} (h : Ws w p dp 0 128 1 P0 rs i0 S Sd D) (r : ByteArray) (hr : r.size ≤ maxLen) :
    Calls Tryz.prog 26 #[.pointer (some ⟨p, 0, none⟩), .string r] w fun e w' => (refuses rs r = true ∧ ∃ c, c ≠ 0 ∧ e = .returned (.tuple #[.int .i64 0, .int .i64 c]) ∧ Below w.heap.size w w') ∨
      (refuses rs r = false ∧ e = .returned (.tuple #[.int .i64 ((54 + lenL rs : Nat) : Int), .int .i64 0]) ∧ ∃ S', Ws w' p dp 0 128 1 P0 (rs ++ [r]) i0 S' Sd D ∧ Keeps (· ∈ S) w w' ∧ ∀ k ∈ S', k ∈ S ∨ w.heap.size ≤ k) := by
  have hsame : (mkLg 0 128 1 P0 rs i0).refuse r = (mkLg 0 128 1 P0 rs 0).refuse r := rfl
  cases hrf : (mkLg 0 128 1 P0 rs 0).refuse r with
  | some c =>
    refine (wal_append_no p dp _ S r hr c (by rw [hsame]; exact hrf) w h.log).mono fun e w' ⟨he, hb⟩ => .inl ⟨by unfold refuses; rw [hrf]; rfl, c, ?_, he, hb⟩
    unfold Lg.refuse at hrf
    by_cases h0 : r.size = 0
    · rw [if_pos h0] at hrf; injection hrf with hrf; omega
    · rw [if_neg h0] at hrf
      by_cases h1 : 65535 < r.size
      · rw [if_pos h1] at hrf; injection hrf with hrf; omega
      · rw [if_neg h1] at hrf
        by_cases h2 : (mkLg 0 128 1 P0 rs 0).room < 2 + (r.size : Int)
        · rw [if_pos h2] at hrf; injection hrf with hrf; omega
        · rw [if_neg h2] at hrf; cases hrf
  | none =>
    obtain ⟨q1, q2, q3⟩ := refuse_none hrf
    have hb := h.len
    refine (wal_append_ok p dp _ S r hr (by rw [hsame]; exact hrf) (by show ((54 * 1 + P0.size + lenL rs : Nat) : Int) ≤ _; omega) w h.log).mono fun e w' ⟨he, S', hl, hk, hs⟩ => .inr ⟨by unfold refuses; rw [hrf]; rfl, ?_, S', ⟨?_, h.dsk.keep hk (fun k hk h' => h.dis k h' hk), h.has.grow h.le r, fun k hk hkd => ?_, ?_, ?_, h.pre, h.bbs, h.soft⟩, hk, hs⟩
    · rw [he]
      show Ending.returned (.tuple #[.int .i64 ((54 * 1 + 0 + lenL rs : Nat) : Int), .int .i64 0]) = _
      rw [show 54 * 1 + 0 + lenL rs = 54 + lenL rs by omega]
    · rw [← mkLg_push h.le]; exact hl
    · rcases hs k hk with h' | h'
      · exact h.dis k h' hkd
      · have := h.dsk.lt k hkd; omega
    · intro x hx
      rw [List.mem_append, List.mem_singleton] at hx
      rcases hx with hx | rfl
      · exact h.rok x hx
      · exact ⟨by omega, q2⟩
    · have := h.le; rw [List.length_append]; omega
section
variable {w0 w : World} {L : List Nat} {p lp dp pg : Nat} {rs : List ByteArray} {M : Nat → Pg × Int} {N : Nat}
theorem kq_append (h : Kq w0 w L p lp dp pg rs M N) (r : ByteArray) (hr : r.size ≤ maxLen) :
    Calls Tryz.prog 26 #[.pointer (some ⟨lp, 0, none⟩), .string r] w fun e w' => ((refuses rs r = true ∧ ∃ c, c ≠ 0 ∧ e = .returned (.tuple #[.int .i64 0, .int .i64 c]) ∧ Kq w0 w' L p lp dp pg rs M N) ∨
      (refuses rs r = false ∧ e = .returned (.tuple #[.int .i64 ((54 + lenL rs : Nat) : Int), .int .i64 0]) ∧ Kq w0 w' L p lp dp pg (rs ++ [r]) M N)) ∧ Keeps (Own w0 L) w w' := by
  obtain ⟨i0, X, sv, S, Sl, Sd, D, h1, h2⟩ := h
  refine (ws_append2 h1.pw.ws r hr).mono fun e w' hp => ?_
  rcases hp with ⟨hrf, c, hc, he, hb⟩ | ⟨hrf, he, S', hw, hk, hs⟩
  · exact ⟨.inl ⟨hrf, c, hc, he, i0, X, sv, S, Sl, Sd, D, h1.later hb, h2⟩, Keeps.of_below _ hb⟩
  · have hko : Keeps (Own w0 L) w w' := hk.mono (fun k _ hk' => h1.fr k (.inr (.inl hk')))
    refine ⟨.inr ⟨hrf, he, i0, X, sv, S, S', Sd, D, ⟨⟨h1.pw.pool.keep hk (fun k hk' h' => h1.pw.dl k hk' h'), hw, fun k hk' h' => ?_, h1.pw.dd, h1.pw.ring, h1.pw.fit⟩, h1.inv, h1.up, h1.pot, by have := h1.nN; rw [List.length_append]; omega, fun k hk' => ?_, fun k hk' => Nat.lt_of_lt_of_le (h1.loc k hk') hk.size, h1.bel.trans (hko.belowB h1.bel.size (fun k hk' => hk'.1)), h1.b128⟩, h2⟩, hko⟩
    · rcases hs k h' with h3 | h3
      · exact h1.pw.dl k hk' h3
      · have := h1.pw.pool.lt k hk'; omega
    · rcases hk' with hk' | hk' | hk'
      · exact h1.fr k (.inl hk')
      · rcases hs k hk' with h3 | h3
        · exact h1.fr k (.inr (.inl h3))
        · exact ⟨Nat.le_trans h1.bel.size h3, fun h4 => by have := h1.loc k h4; omega⟩
      · exact h1.fr k (.inr (.inr hk'))
/-- the bundle behind a call -/
theorem Kp.step {i0 : Nat} {X : Pl} {sv : Value} {S Sl Sd : List Nat} {D : Dev} (h : Kp w0 w L p lp dp rs i0 X sv S Sl Sd D M N) {w' : World} {i1 : Nat} {X1 : Pl} {sv1 : Value} {S1 Sd1 : List Nat} {D1 : Dev} {M1 : Nat → Pg × Int} {N1 : Nat}
    (hp : Pw w' p lp dp 0 128 1 P0 rs i1 X1 sv1 S1 Sl Sd1 D1) (hk : Keeps (fun k => k ∈ S ∨ k ∈ Sl ∨ k ∈ Sd) w w') (hS : ∀ k ∈ S1, k ∈ S ∨ w.heap.size ≤ k) (hSd : ∀ k ∈ Sd1, k ∈ Sd ∨ w.heap.size ≤ k) (hi : PInv X1 D1 M1) (hu : D1.up) (hpt : Pot N1 D1 X1.slots) (hN : N1 ≤ 4 * rs.length + 100) (hb : X1.base = X.base) :
    Kp w0 w' L p lp dp rs i1 X1 sv1 S1 Sl Sd1 D1 M1 N1 ∧ Keeps (Own w0 L) w w' := by
  have hko : Keeps (Own w0 L) w w' := hk.mono (fun k _ hk' => h.fr k hk')
  refine ⟨⟨hp, hi, hu, hpt, hN, fun k hk' => ?_, fun k hk' => Nat.lt_of_lt_of_le (h.loc k hk') hk.size, h.bel.trans (hko.belowB h.bel.size (fun k hk' => hk'.1)), by rw [hb]; exact h.b128⟩, hko⟩
  have fresh : ∀ k, w.heap.size ≤ k → w0.heap.size ≤ k ∧ k ∉ L := fun k h3 => ⟨Nat.le_trans h.bel.size h3, fun h4 => by have := h.loc k h4; omega⟩
  rcases hk' with hk' | hk' | hk'
  · rcases hS k hk' with h3 | h3
    · exact h.fr k (.inl h3)
    · exact fresh k h3
  · exact h.fr k (.inr (.inl hk'))
  · rcases hSd k hk' with h3 | h3
    · exact h.fr k (.inr (.inr h3))
    · exact fresh k h3
theorem Kp.get {i0 : Nat} {X : Pl} {sv : Value} {S Sl Sd : List Nat} {D : Dev} (h : Kp w0 w L p lp dp rs i0 X sv S Sl Sd D M N) (id : Int) :
    Calls Tryz.prog 24 #[.pointer (some ⟨p, 0, none⟩), .int .i64 id] w fun e w' => ∃ Q c i1 X1 sv1 S1 Sd1 D1, e = .returned (.tuple #[pgV Q, .int .i64 c]) ∧ Kp w0 w' L p lp dp rs i1 X1 sv1 S1 Sl Sd1 D1 M N ∧ Keeps (Own w0 L) w w' ∧ X1.pages = X.pages ∧
      ((0 ≤ id ∧ id < X.pages ∧ c = 0 ∧ pgC Q = pgC (M id.toNat).1) ∨ ((id < 0 ∨ (X.pages : Int) ≤ id) ∧ c = 1 ∧ Q = pageZ)) := by
  have hc := h.count
  have hn := h.nN
  refine (pl_get h.pw N (by omega) h.pot.soft id).mono fun e w' ⟨Q, c, i1, X1, sv1, S1, Sd1, D1, he, hg, hp, hk, hS, hSd⟩ => ?_
  obtain ⟨g1, g2, g3, g4, g5, g6, g7⟩ := get_law h.inv h.pw.ring h.pw.fit hg
  obtain ⟨k1, k2⟩ := h.step hp hk hS hSd g1 (g5 h.up) (g6 N h.pot) hn g2
  refine ⟨Q, c, i1, X1, sv1, S1, Sd1, D1, he, k1, k2, g3, ?_⟩
  rcases g7 with ⟨r1, r2, r3⟩ | ⟨r1, r2, ⟨r3, r4⟩ | ⟨_, r3⟩⟩
  · exact .inr ⟨r1, r2, r3⟩
  · exact .inl ⟨r1, r2, r3, r4⟩
  · have := (g5 h.up).2; rw [r3] at this; cases this
theorem Kp.put {i0 : Nat} {X : Pl} {sv : Value} {S Sl Sd : List Nat} {D : Dev} (h : Kp w0 w L p lp dp rs i0 X sv S Sl Sd D M N) (hN : N + 4 ≤ 4 * rs.length + 100) (id : Int) (x : Pg) (hx : ∀ i, i < 6 → (x.dt i).size ≤ maxLen) (st : Int) (hst : 0 ≤ st ∧ st ≤ 1152921504606846976) :
    Calls Tryz.prog 27 #[.pointer (some ⟨p, 0, none⟩), .int .i64 id, pgV x, .int .i64 st] w fun e w' => ∃ c i1 X1 sv1 S1 Sd1 D1 M1, e = .returned (.int .i64 c) ∧ Kp w0 w' L p lp dp rs i1 X1 sv1 S1 Sl Sd1 D1 M1 (N + 4) ∧ Keeps (Own w0 L) w w' ∧ X1.pages = X.pages ∧
      ((0 ≤ id ∧ id < X.pages ∧ PgOk x ∧ c = 0 ∧ M1 = upd M id.toNat (x, st)) ∨ (¬ (0 ≤ id ∧ id < X.pages ∧ PgOk x) ∧ c = 1 ∧ M1 = M ∧ X1 = X)) := by
  have hc := h.count
  have hn := h.nN
  refine (pl_put h.pw N (by omega) h.pot.soft id x hx st hst.2).mono fun e w' ⟨c, i1, X1, sv1, S1, Sd1, D1, he, hg, hp, hk, hS, hSd⟩ => ?_
  obtain ⟨g2, g3, g4, g5, g6, g7⟩ := put_law h.inv h.pw.ring h.pw.fit hst.2 hg
  rcases g7 with ⟨r1, r2, r3, r4⟩ | ⟨r1, r2, r3, r4, ⟨r5, r6⟩ | ⟨_, r5, _⟩⟩
  · subst r3 r4
    obtain ⟨k1, k2⟩ := h.step hp hk hS hSd h.inv h.up (g6 N h.pot) hN g2
    refine ⟨c, i1, X1, sv1, S1, Sd1, D1, M, he, k1, k2, rfl, .inr ⟨fun ⟨q1, q2, q3⟩ => ?_, r2, rfl, rfl⟩⟩
    rcases r1 with h' | h' | h' | h'
    · omega
    · omega
    · omega
    · exact h' q3
  · obtain ⟨k1, k2⟩ := h.step hp hk hS hSd r6 (g5 h.up) (g6 N h.pot) hN g2
    exact ⟨c, i1, X1, sv1, S1, Sd1, D1, _, he, k1, k2, g3, .inl ⟨r1, r2, r4, r5, rfl⟩⟩
  · have := (g5 h.up).2; rw [r5] at this; cases this
theorem Kp.flush {i0 : Nat} {X : Pl} {sv : Value} {S Sl Sd : List Nat} {D : Dev} (h : Kp w0 w L p lp dp rs i0 X sv S Sl Sd D M N) :
    Calls Tryz.prog 29 #[.pointer (some ⟨p, 0, none⟩)] w fun e w' => ∃ i1 X1 Sd1 D1, e = .returned (.int .i64 0) ∧ Kp w0 w' L p lp dp rs i1 X1 sv S Sl Sd1 D1 M N ∧ Keeps (Own w0 L) w w' ∧ X1.pages = X.pages ∧ ∀ (j : Nat) (s : Slot), X1.slots[j]? = some s → s.dirty = false := by
  have hc := h.count
  have hn := h.nN
  refine (pl_flush h.pw N (by omega) h.pot.soft).mono fun e w' ⟨c, l, i1, Sd1, D1, he, hg, hp, hk, hSd⟩ => ?_
  obtain ⟨g1, g2, g3, g4, g5⟩ := flush_law2 h.inv h.pw.ring h.pw.fit hg
  obtain ⟨k1, k2⟩ := h.step hp hk (fun k hk => .inl hk) hSd g1 (g3 h.up) (g4 N h.pot) hn rfl
  rcases g5 with ⟨rfl, r2⟩ | ⟨_, r2⟩
  · exact ⟨i1, _, Sd1, D1, he, k1, k2, rfl, r2⟩
  · have := (g3 h.up).2; rw [r2] at this; cases this
theorem kq_get (h : Kq w0 w L p lp dp pg rs M N) (id : Int) :
    Calls Tryz.prog 24 #[.pointer (some ⟨p, 0, none⟩), .int .i64 id] w fun e w' => ∃ Q c, e = .returned (.tuple #[pgV Q, .int .i64 c]) ∧ Kq w0 w' L p lp dp pg rs M N ∧ Keeps (Own w0 L) w w' ∧
      ((0 ≤ id ∧ id < pg ∧ c = 0 ∧ pgC Q = pgC (M id.toNat).1) ∨ ((id < 0 ∨ (pg : Int) ≤ id) ∧ c = 1 ∧ Q = pageZ)) := by
  obtain ⟨i0, X, sv, S, Sl, Sd, D, h1, h2⟩ := h
  refine (h1.get id).mono fun e w' ⟨Q, c, i1, X1, sv1, S1, Sd1, D1, he, k1, k2, k3, k4⟩ => ⟨Q, c, he, ⟨i1, X1, sv1, S1, Sl, Sd1, D1, k1, by rw [k3, h2]⟩, k2, ?_⟩
  rw [h2] at k4
  exact k4
theorem kq_put (h : Kq w0 w L p lp dp pg rs M N) (hN : N + 4 ≤ 4 * rs.length + 100) (id : Int) (x : Pg) (hx : ∀ i, i < 6 → (x.dt i).size ≤ maxLen) (st : Int) (hst : 0 ≤ st ∧ st ≤ 1152921504606846976) :
    Calls Tryz.prog 27 #[.pointer (some ⟨p, 0, none⟩), .int .i64 id, pgV x, .int .i64 st] w fun e w' => ∃ c M1, e = .returned (.int .i64 c) ∧ Kq w0 w' L p lp dp pg rs M1 (N + 4) ∧ Keeps (Own w0 L) w w' ∧
      ((0 ≤ id ∧ id < pg ∧ PgOk x ∧ c = 0 ∧ M1 = upd M id.toNat (x, st)) ∨ (¬ (0 ≤ id ∧ id < pg ∧ PgOk x) ∧ c = 1 ∧ M1 = M)) := by
  obtain ⟨i0, X, sv, S, Sl, Sd, D, h1, h2⟩ := h
  refine (h1.put hN id x hx st hst).mono fun e w' ⟨c, i1, X1, sv1, S1, Sd1, D1, M1, he, k1, k2, k3, k4⟩ => ⟨c, M1, he, ⟨i1, X1, sv1, S1, Sl, Sd1, D1, k1, by rw [k3, h2]⟩, k2, ?_⟩
  rw [h2] at k4
  rcases k4 with k4 | ⟨q1, q2, q3, _⟩
  · exact .inl k4
  · exact .inr ⟨q1, q2, q3⟩
end
end Go.Proofs.YtimomjheanfbmaaGreatDoor

namespace Go.Proofs.YtimomjheanfbmaaGreatDoor
open Go.RowKit

theorem Kq.mono {w0 w : World} {L : List Nat} {p lp dp pg : Nat} {rs : List ByteArray} {M : Nat → Pg × Int} {N N' : Nat} (h : Kq w0 w L p lp dp pg rs M N) (hN : N ≤ N') (h2 : N' ≤ 4 * rs.length + 100) : Kq w0 w L p lp dp pg rs M N' :=
  let ⟨i0, X, sv, S, Sl, Sd, D, h1, h3⟩ := h
  ⟨i0, X, sv, S, Sl, Sd, D, ⟨h1.pw, h1.inv, h1.up, let ⟨m, a, b⟩ := h1.pot; ⟨m, a, by omega⟩, h2, h1.fr, h1.loc, h1.bel, h1.b128⟩, h3⟩
theorem sec_zero : ∀ i, i < 4 → sec (pageS pageZ) 0 i = zeros 64 := by
  have h : (sec (pageS pageZ) 0 0).data = (zeros 64).data ∧ (sec (pageS pageZ) 0 1).data = (zeros 64).data ∧ (sec (pageS pageZ) 0 2).data = (zeros 64).data ∧ (sec (pageS pageZ) 0 3).data = (zeros 64).data := by decide +kernel
  intro i hi
  match i, hi with
  | 0, _ => exact ByteArray.ext h.1
  | 1, _ => exact ByteArray.ext h.2.1
  | 2, _ => exact ByteArray.ext h.2.2.1
  | 3, _ => exact ByteArray.ext h.2.2.2
theorem pageZ_ok : PgOk pageZ := ⟨⟨by decide, by decide, by decide, by decide, by decide, by decide, by decide, by decide⟩, fun i hi => ⟨Int.le_refl 0, by show (0 : Int) ≤ 2; decide, by show (ByteArray.size ⟨#[]⟩) ≤ 34; decide, fun _ => rfl⟩⟩
def M0 : Nat → Pg × Int := fun _ => (pageZ, 0)
theorem new_at (N p : Nat) (hp : p < N) : (Dev.new N).at p = zeros 64 := by
  unfold Dev.at Dev.new
  rw [List.getD_eq_getElem?_getD, List.getElem?_replicate, if_pos hp]; rfl
theorem pinv_new (N : Nat) (base pages room : Nat) (h : base + 4 * pages ≤ N) : PInv { base := base, pages := pages, room := room, slots := [], hand := 0 } (Dev.new N) M0 := by
  refine ⟨fun i j s t hs => by simp at hs, fun i s hs => by simp at hs, fun i s hs => by simp at hs, fun _ id hid _ i hi => ?_, fun id _ => ⟨pageZ_ok, Int.le_refl 0, by show (0 : Int) ≤ 1152921504606846976; decide⟩⟩
  have hid : id < pages := hid
  rw [new_at N _ (by show base + 4 * id + i < N; omega)]
  exact (sec_zero i hi).symm
/-- a log over a new device -/
structure Lk (w0 w : World) (L : List Nat) (lp dp N0 : Nat) (Sl Sd : List Nat) : Prop where
  ws : Ws w lp dp 0 128 1 P0 [] 0 Sl Sd (Dev.new N0)
  fr : ∀ k, k ∈ Sl ∨ k ∈ Sd → w0.heap.size ≤ k ∧ k ∉ L
  loc : ∀ k ∈ L, k < w.heap.size
  bel : Below w0.heap.size w0 w
theorem lk_create {w0 w : World} {L : List Nat} {dp N0 : Nat} {Sd : List Nat} (hN : N0 ≤ 16384) (h3 : 128 ≤ N0) (hd : DiskAt w dp (Dev.new N0) Sd) (fr : ∀ k ∈ Sd, w0.heap.size ≤ k ∧ k ∉ L) (loc : ∀ k ∈ L, k < w.heap.size) (bel : Below w0.heap.size w0 w) :
    Calls Tryz.prog 21 #[.pointer (some ⟨dp, 0, none⟩), .int .i64 0, .int .i64 128] w fun e w' => ∃ lp Sl Sd', e = .returned (.tuple #[.pointer (some ⟨lp, 0, none⟩), .int .i64 0]) ∧ Lk w0 w' L lp dp N0 Sl Sd' ∧ Keeps (Own w0 L) w w' := by
  refine (wal_create0 dp N0 Sd hN h3 w hd).mono fun e w' ⟨lp, Sl, Sd', he, hl, hd', hk, hS, hSd⟩ => ?_
  have hko : Keeps (Own w0 L) w w' := hk.mono (fun k _ hk' => fr k hk')
  refine ⟨lp, Sl, Sd', he, ⟨⟨hl, hd', new_has N0 0 (by omega) (by omega), fun k hk => (hS k hk).2, (fun x hx => by cases hx), Nat.le_refl _, by decide, by decide, SoftOk.none rfl⟩, fun k hk' => ?_, fun k hk' => Nat.lt_of_lt_of_le (loc k hk') hk.size, bel.trans (hko.belowB bel.size (fun k hk' => hk'.1))⟩, hko⟩
  have fresh : ∀ k, w.heap.size ≤ k → w0.heap.size ≤ k ∧ k ∉ L := fun k h3 => ⟨Nat.le_trans bel.size h3, fun h4 => by have := loc k h4; omega⟩
  rcases hk' with hk' | hk'
  · exact fresh k (hS k hk').1
  · rcases hSd k hk' with h4 | h4
    · exact fr k h4
    · exact fresh k h4
theorem lk_pool {w0 w : World} {L : List Nat} {lp dp N0 : Nat} {Sl Sd : List Nat} (h : Lk w0 w L lp dp N0 Sl Sd) (pages frames : Nat) (h1 : 1 ≤ pages) (h2 : pages ≤ 1024) (h3 : 4 ≤ frames) (h4 : frames ≤ 256) (h5 : 128 + 4 * pages ≤ N0) :
    Calls Tryz.prog 22 #[.pointer (some ⟨dp, 0, none⟩), .pointer (some ⟨lp, 0, none⟩), .int .i64 128, .int .i64 pages, .int .i64 frames] w fun e w' => ∃ p, e = .returned (.tuple #[.pointer (some ⟨p, 0, none⟩), .int .i64 0]) ∧ Kq w0 w' L p lp dp pages [] M0 0 ∧ Keeps (Own w0 L) w w' := by
  have hlen : (Dev.new N0).firm.length = N0 := List.length_replicate
  refine (pl_new h.ws 128 pages frames h1 h2 h3 h4 (by rw [hlen]; exact h5) (by omega)).mono fun e w' ⟨p, he, hp, hb, hpl⟩ => ⟨p, he, ⟨0, _, _, [p], Sl, Sd, Dev.new N0, ⟨hp, pinv_new N0 128 pages frames h5, ⟨rfl, rfl⟩, ⟨0, .inl (by simp [Dev.new]), by simp [nDirty]⟩, by simp, fun k hk => ?_, fun k hk => Nat.lt_of_lt_of_le (h.loc k hk) hb.size, bT h.bel hb, rfl⟩, rfl⟩, Keeps.of_below _ hb⟩
  rcases hk with hk | hk
  · have := List.mem_singleton.1 hk
    subst this
    exact ⟨Nat.le_trans h.bel.size hpl, fun h4 => by have := h.loc k h4; omega⟩
  · exact h.fr k hk
/-! ### awake -/
def awX : Pg := { pageZ with kind := 3, store := 1 }
theorem awX_ok : PgOk awX := ⟨⟨by decide, by decide, by decide, by decide, by decide, by decide, by decide, by decide⟩, pageZ_ok.2⟩
theorem eqPg_of {X Y : Pg} (h : pgC X = pgC Y) : eqPg X Y = true := eqPg_same h
set_option maxRecDepth 100000 in
set_option maxHeartbeats 800000 in
theorem awake12 (w : World) : Calls Tryz.prog 19 #[] w fun e w' => e = .returned (.bool true) ∧ Below w.heap.size w w' := by
  have HN := Lib.hid (dsk_new 140 (by omega) (by omega) w)
  rw [show ((140 : Nat) : Int) = 140 from rfl] at HN
  go_enter Tryz.func19, Tryz.ntmps19
  go_wp2_with fail
  refine (HN.out).mono ?_
  rintro e w1 ⟨dp, Sd, rfl, hd, hb, hS⟩
  have HC := Lib.hid (lk_create (w0 := w) (L := []) (by omega) (by omega) hd (fun k hk => ⟨hS k hk, by simp⟩) (fun k hk => by simp at hk) hb)
  clear HN hd hb hS
  go_wp2_with fail
  refine (HC.out).mono ?_
  rintro e w2 ⟨lp, Sl, Sd2, rfl, hlk, -⟩
  have HP := Lib.hid (lk_pool hlk 3 4 (by omega) (by omega) (by omega) (by omega) (by omega))
  rw [show ((3 : Nat) : Int) = 3 from rfl, show ((4 : Nat) : Int) = 4 from rfl] at HP
  clear HC hlk
  go_wp2_with fail
  refine (HP.out).mono ?_
  rintro e w3 ⟨p, rfl, hq, -⟩
  have HQ3 := Lib.hid hq
  have HN3 : Hid ((w3.alloc (.cells (pgC pageZ) 49)).heap[w3.heap.size]? = some (.cells (pgC pageZ) 49 (0, 0))) := hN rfl
  clear hq HP
  go_wp2_with (first
    | (refine wpList_store_whole rfl 49 _ _ rfl _ (pgC awX) rfl rfl _ (pgC pageZ) HN3.out rfl (by kernel_rfl) (pgC_one _) ?_; intro w4 HR4 K4; (have HQ4 : Hid (Kq w w4 [w3.heap.size] p lp dp 3 [] M0 0) := HQ3.out.more ((((Keeps.refl (fun _ => False) w3).alloc _).trans K4.out (fun j hj e => by omega)).below) [w3.heap.size] (fun k hk => by rw [List.mem_singleton.1 hk]; exact block_lt HR4.out) (fun k hk => .inr (by rw [List.mem_singleton.1 hk]; exact Nat.le_refl _))); clear HN3 HQ3 K4)
    | (refine wpList_load_row rfl 49 _ rfl _ rfl 49 _ _ _ HR4.out Tryz.underlying49 rfl (by kernel_rfl) ?_))
  have HPut := Lib.hid (kq_put HQ4.out (by simp) 1 awX (fun i hi => by show (ByteArray.size ⟨#[]⟩) ≤ maxLen; unfold maxLen; exact Nat.zero_le _) 54 (by omega))
  unfold pgV at HPut
  refine (HPut.out).mono ?_
  rintro e w5 ⟨c, M1, rfl, hq, hk, hres⟩
  obtain ⟨rfl, rfl⟩ : c = 0 ∧ M1 = upd M0 1 (awX, 54) := by
    rcases hres with ⟨_, _, _, h1, h2⟩ | ⟨h, _⟩
    · exact ⟨h1, h2⟩
    · exact absurd ⟨by omega, by decide, awX_ok⟩ h
  have HQ5 := Lib.hid hq
  have HR5 := Lib.hid (hk.keep HR4.out (fun h => h.2 (by simp)))
  clear hq hk hres HPut HQ4 HR4
  have HG1 := Lib.hid (kq_get HQ5.out 1)
  unfold pgV at HG1
  go_wp2_with fail
  refine (HG1.out).mono ?_
  rintro e w6 ⟨Q1, c, rfl, hq, hk, hres⟩
  obtain ⟨rfl, hQ1⟩ : c = 0 ∧ pgC Q1 = pgC awX := by
    rcases hres with ⟨_, _, h1, h2⟩ | ⟨h, _⟩
    · exact ⟨h1, h2⟩
    · omega
  have HQ6 := Lib.hid hq
  have HR6 := Lib.hid (hk.keep HR5.out (fun h => h.2 (by simp)))
  have hlt6 : Hid (w3.heap.size < w6.heap.size) := block_lt HR6.out
  have HN6 : Hid ((w6.alloc (.cells (pgC pageZ) 49)).heap[w6.heap.size]? = some (.cells (pgC pageZ) 49 (0, 0))) := hN rfl
  replace hQ1 := Lib.hid hQ1
  clear hq hk hres HG1 HQ5 HR5
  go_wp2_with (refine wpList_store_whole rfl 49 _ _ rfl _ (pgC Q1) rfl rfl _ (pgC pageZ) HN6.out rfl (by kernel_rfl) (pgC_one _) ?_; intro w7 HS7 K7; (have HR7 := Lib.hid (K7.keep (hO HR6.out) (by have := hlt6.out; omega))); (have HQ7 : Hid (Kq w w7 [w3.heap.size, w6.heap.size] p lp dp 3 [] (upd M0 1 (awX, 54)) (0 + 4)) := HQ6.out.more ((((Keeps.refl (fun _ => False) w6).alloc _).trans K7.out (fun j hj e => by omega)).below) [w3.heap.size, w6.heap.size] (fun k hk => by rcases List.mem_cons.1 hk with rfl | hk; exact block_lt HR7.out; rw [List.mem_singleton.1 hk]; exact block_lt HS7.out) (fun k hk => by rcases List.mem_cons.1 hk with rfl | hk; exact .inl (by simp); rw [List.mem_singleton.1 hk]; exact .inr (Nat.le_refl _))); clear HN6 HQ6 K7 HR6)
  have HG0 := Lib.hid (kq_get HQ7.out 0)
  unfold pgV at HG0
  refine (HG0.out).mono ?_
  rintro e w8 ⟨Q2, c, rfl, hq, hk, hres⟩
  obtain ⟨rfl, hQ2⟩ : c = 0 ∧ pgC Q2 = pgC pageZ := by
    rcases hres with ⟨_, _, h1, h2⟩ | ⟨h, _⟩
    · exact ⟨h1, h2⟩
    · omega
  have HB8 := Lib.hid hq.bel
  have HR8 := Lib.hid (hk.keep HR7.out (fun h => h.2 (by simp)))
  have HS8 := Lib.hid (hk.keep HS7.out (fun h => h.2 (by simp)))
  have hlt8 : Hid (w3.heap.size < w8.heap.size ∧ w6.heap.size < w8.heap.size) := ⟨block_lt HR8.out, block_lt HS8.out⟩
  have HN8 : Hid ((w8.alloc (.cells (pgC pageZ) 49)).heap[w8.heap.size]? = some (.cells (pgC pageZ) 49 (0, 0))) := hN rfl
  replace hQ2 := Lib.hid hQ2
  clear hq hk hres HG0 HQ7 HR7 HS7
  go_wp2_with (first
    | (refine wpList_store_whole rfl 49 _ _ rfl _ (pgC Q2) rfl rfl _ (pgC pageZ) HN8.out rfl (by kernel_rfl) (pgC_one _) ?_; intro w9 HT9 K9; (have HR9 := Lib.hid (K9.keep (hO HR8.out) (by have := hlt8.out; omega))); (have HS9 := Lib.hid (K9.keep (hO HS8.out) (by have := hlt8.out; omega))); (have HB9 := Lib.hid (bK (bA HB8.out) K9 (fun j hj => by have := HB8.out.size; omega))); clear HN8 K9 HR8 HS8 HB8)
    | (refine wpList_load_want (by rfl) 49 _ rfl _ rfl 49 _ _ _ HS9.out Tryz.underlying49 rfl (by kernel_rfl) ?_)
    | (refine wpList_load_want (by rfl) 49 _ rfl _ rfl 49 _ _ _ HR9.out Tryz.underlying49 rfl (by kernel_rfl) ?_)
    | (refine wpList_load_want (by rfl) 49 _ rfl _ rfl 49 _ _ _ HT9.out Tryz.underlying49 rfl (by kernel_rfl) ?_)
    | (refine wpList_eq_pg (by rfl) _ _ _ rfl Q1 awX true (eqPg_of hQ1.out) rfl rfl ?_)
    | (refine wpList_eq_pg (by rfl) _ _ _ rfl Q2 pageZ true (eqPg_of hQ2.out) rfl rfl ?_))
  go_ret
  exact ⟨rfl, HB9.out⟩
end Go.Proofs.YtimomjheanfbmaaGreatDoor

namespace Go.Proofs.YtimomjheanfbmaaGreatDoor
open Go.RowKit

/-! ### a page that is handed in -/
theorem fb1 {H : Type} {enc : TypeId × Value → H} {P : Program} {W : World} {sp : Nat → Bool} {held : Bool} {k : Kd} {ks : List Kd} {cs : List Value} (h : Fa enc P W sp held (k :: ks) cs) : ∃ c r, cs = c :: r ∧ KdOk enc P W sp held k c ∧ Fa enc P W sp held ks r := by
  match cs, h with
  | c :: r, h => exact ⟨c, r, rfl, h.1, h.2⟩
theorem fb0 {H : Type} {enc : TypeId × Value → H} {P : Program} {W : World} {sp : Nat → Bool} {held : Bool} {cs : List Value} (h : Fa enc P W sp held [] cs) : cs = [] := by
  match cs, h with
  | [], _ => rfl
def PgIs (v : Value) (P : Pg) : Prop := v = pgV P ∧ ∀ i, (P.dt i).size ≤ maxLen
theorem flatPg : flat Tryz.prog 6 49 = some [.i .i64, .i .i64, .i .i64, .i .i64, .i .i64, .s, .i .i64, .s, .i .i64, .s, .i .i64, .s, .i .i64, .s, .i .i64, .s] := by kernel_rfl
set_option maxRecDepth 100000 in
theorem page_of {H : Type} {enc : TypeId × Value → H} {W : World} {base : Nat} {v : Value} {d : DataW H} {p : List MemPlace} (hok : Value.okWide Tryz.prog W .any base 49 v)
    (h : DataW.Trod enc Tryz.prog W 0 (fun _ => true) true 49 v d p) : ∃ P, PgIs v P := by
  obtain ⟨cs, rfl, hf⟩ := agg_of 6 flatPg (by rw [Tryz.underlying49]) hok h
  obtain ⟨_, r0, e0, ⟨n0, rfl, z0⟩, f0⟩ := fb1 hf
  obtain ⟨_, r1, rfl, ⟨n1, rfl, z1⟩, f1⟩ := fb1 f0
  obtain ⟨_, r2, rfl, ⟨n2, rfl, z2⟩, f2⟩ := fb1 f1
  obtain ⟨_, r3, rfl, ⟨n3, rfl, z3⟩, f3⟩ := fb1 f2
  obtain ⟨_, r4, rfl, ⟨n4, rfl, z4⟩, f4⟩ := fb1 f3
  obtain ⟨_, r5, rfl, ⟨n5, rfl, z5⟩, f5⟩ := fb1 f4
  obtain ⟨_, r6, rfl, ⟨n6, rfl, z6⟩, f6⟩ := fb1 f5
  obtain ⟨_, r7, rfl, ⟨n7, rfl, z7⟩, f7⟩ := fb1 f6
  obtain ⟨_, r8, rfl, ⟨n8, rfl, z8⟩, f8⟩ := fb1 f7
  obtain ⟨_, r9, rfl, ⟨n9, rfl, z9⟩, f9⟩ := fb1 f8
  obtain ⟨_, r10, rfl, ⟨n10, rfl, z10⟩, f10⟩ := fb1 f9
  obtain ⟨_, r11, rfl, ⟨n11, rfl, z11⟩, f11⟩ := fb1 f10
  obtain ⟨_, r12, rfl, ⟨n12, rfl, z12⟩, f12⟩ := fb1 f11
  obtain ⟨_, r13, rfl, ⟨n13, rfl, z13⟩, f13⟩ := fb1 f12
  obtain ⟨_, r14, rfl, ⟨n14, rfl, z14⟩, f14⟩ := fb1 f13
  obtain ⟨_, r15, rfl, ⟨n15, rfl, z15⟩, f15⟩ := fb1 f14
  obtain rfl := fb0 f15
  refine ⟨⟨n0, n1, n2, n3, fun i => match i with | 0 => n4 | 1 => n6 | 2 => n8 | 3 => n10 | 4 => n12 | _ => n14, fun i => match i with | 0 => n5 | 1 => n7 | 2 => n9 | 3 => n11 | 4 => n13 | _ => n15⟩, ?_, ?_⟩
  · unfold pgV pgC
    congr 1
    rw [← Array.toList_inj, e0]
    rfl
  · intro i
    dsimp only
    split <;> assumption

def CellIs (v : Value) (c : Int × ByteArray) : Prop := v = .agg #[.int .i64 c.1, .string c.2] ∧ c.2.size ≤ maxLen
theorem flatCell : flat Tryz.prog 4 33 = some [.i .i64, .s] := by kernel_rfl
set_option maxRecDepth 100000 in
theorem cell_of {H : Type} {enc : TypeId × Value → H} {W : World} {base : Nat} {v : Value} {d : DataW H} {p : List MemPlace} (hok : Value.okWide Tryz.prog W .any base 33 v)
    (h : DataW.Trod enc Tryz.prog W 0 (fun _ => true) true 33 v d p) : ∃ c, CellIs v c := by
  obtain ⟨cs, rfl, hf⟩ := agg_of 4 flatCell (by rw [Tryz.underlying33]) hok h
  obtain ⟨c0, r0, e0, ⟨n0, rfl, z0⟩, f1⟩ := fb1 hf
  obtain ⟨c1, r1, rfl, ⟨s1, rfl, z1⟩, f2⟩ := fb1 f1
  obtain rfl := fb0 f2
  have : cs = #[.int .i64 n0, .string s1] := by rw [← Array.toList_inj, e0]
  exact ⟨(n0, s1), by rw [this], z1⟩
end Go.Proofs.YtimomjheanfbmaaGreatDoor
