import Derived.Test.YtdkilpjebmhkkaaDoorPubz
set_option linter.unusedSimpArgs false
set_option linter.unusedVariables false
namespace Go.Proofs.YtdkilpjebmhkkaaDoor
open Go.RowKit

/-! ### a pool of a law, over a device that may give out -/
structure Kf (w0 w : World) (L : List Nat) (p lp dp : Nat) (rs : List ByteArray) (i0 : Nat) (X : Pl) (sv : Value) (S Sl Sd : List Nat) (D : Dev) (M : Nat → Pg × Int) (N : Nat) (pts : List (PCall × Int)) : Prop where
  pw : Pw w p lp dp 0 128 1 P0 rs i0 X sv S Sl Sd D
  inv : PInv X D M
  li : LInv pts rs i0 D X.slots
  pot : Pot N D X.slots
  nN : N ≤ 4 * rs.length + 100
  fr : ∀ k, k ∈ S ∨ k ∈ Sl ∨ k ∈ Sd → w0.heap.size ≤ k ∧ k ∉ L
  loc : ∀ k ∈ L, k < w.heap.size
  bel : Below w0.heap.size w0 w
  b128 : X.base = 128
  p6 : X.pages = 6
def Kg (w0 w : World) (L : List Nat) (p lp dp : Nat) (rs : List ByteArray) (N : Nat) (pts : List (PCall × Int)) : Prop :=
  ∃ i0 X sv S Sl Sd D M, Kf w0 w L p lp dp rs i0 X sv S Sl Sd D M N pts
section
variable {w0 w w' : World} {L : List Nat} {p lp dp : Nat} {rs : List ByteArray} {N : Nat} {pts : List (PCall × Int)}
theorem Kg.later (h : Kg w0 w L p lp dp rs N pts) (hb : Below w.heap.size w w') : Kg w0 w' L p lp dp rs N pts :=
  let ⟨i0, X, sv, S, Sl, Sd, D, M, h⟩ := h
  ⟨i0, X, sv, S, Sl, Sd, D, M, h.pw.later hb, h.inv, h.li, h.pot, h.nN, h.fr, fun k hk => Nat.lt_of_lt_of_le (h.loc k hk) hb.size, bT h.bel hb, h.b128, h.p6⟩
theorem Kg.keep (h : Kg w0 w L p lp dp rs N pts) (hk : Keeps (· ∈ L) w w') (hL : ∀ k ∈ L, w0.heap.size ≤ k) : Kg w0 w' L p lp dp rs N pts :=
  let ⟨i0, X, sv, S, Sl, Sd, D, M, h⟩ := h
  ⟨i0, X, sv, S, Sl, Sd, D, M, ⟨h.pw.pool.keep hk (fun k hk' h' => (h.fr k (.inl hk')).2 h'), h.pw.ws.keep hk (fun k hk' h' => (h.fr k (.inr (.inl hk'))).2 h') (fun k hk' h' => (h.fr k (.inr (.inr hk'))).2 h'), h.pw.dl, h.pw.dd, h.pw.ring, h.pw.fit⟩, h.inv, h.li, h.pot, h.nN, h.fr, fun k hk' => Nat.lt_of_lt_of_le (h.loc k hk') hk.size, h.bel.trans (hk.belowB h.bel.size hL), h.b128, h.p6⟩
theorem Kg.bel (h : Kg w0 w L p lp dp rs N pts) : Below w0.heap.size w0 w :=
  let ⟨i0, X, sv, S, Sl, Sd, D, M, h⟩ := h
  h.bel
theorem Kf.count {i0 : Nat} {X : Pl} {sv : Value} {S Sl Sd : List Nat} {D : Dev} {M : Nat → Pg × Int} (h : Kf w0 w L p lp dp rs i0 X sv S Sl Sd D M N pts) : rs.length ≤ 2304 ∧ lenL rs ≤ 6912 := by
  have h1 := lenL_len h.pw.ws.rok
  have h2 := h.pw.ws.len.2.2
  have : P0.size = 0 := rfl
  omega
theorem Kg.count (h : Kg w0 w L p lp dp rs N pts) : rs.length ≤ 2304 ∧ lenL rs ≤ 6912 ∧ N ≤ 4 * rs.length + 100 :=
  let ⟨i0, X, sv, S, Sl, Sd, D, M, h⟩ := h
  ⟨h.count.1, h.count.2, h.nN⟩
/-- there are no more places than records -/
theorem Kg.many (h : Kg w0 w L p lp dp rs N pts) : pts.length ≤ rs.length := by
  obtain ⟨i0, X, sv, S, Sl, Sd, D, M, h⟩ := h
  have key : ∀ (l : List (PCall × Int)) (k : Nat), l.Pairwise (fun x y => x.2 < y.2) → (∀ x ∈ l, ∃ m, k ≤ m ∧ m < rs.length ∧ x.2 = ((54 + lenL (rs.take m) : Nat) : Int)) → l.length + k ≤ max rs.length k := by
    intro l
    induction l with
    | nil => intro k _ _; simp; omega
    | cons x l ih =>
      intro k hp hx
      obtain ⟨m, h1, h2, h3⟩ := hx x List.mem_cons_self
      rw [List.pairwise_cons] at hp
      have := ih (m + 1) hp.2 (fun y hy => by
        obtain ⟨m', q1, q2, q3⟩ := hx y (List.mem_cons_of_mem _ hy)
        refine ⟨m', ?_, q2, q3⟩
        have h4 := hp.1 y hy
        rcases Nat.lt_or_ge m m' with h5 | h5
        · exact h5
        · have := lenL_mono rs h5; omega)
      rw [List.length_cons]
      omega
  have := key pts 0 h.li.asc (fun x hx => by
    obtain ⟨_, _, _, m, q1, q2⟩ := h.li.pok x hx
    exact ⟨m, Nat.zero_le _, q1, q2⟩)
  omega
theorem Kg.more (h : Kg w0 w L p lp dp rs N pts) (hb : Below w.heap.size w w') (L' : List Nat) (hl : ∀ k ∈ L', k < w'.heap.size) (hn : ∀ k ∈ L', k ∈ L ∨ w.heap.size ≤ k) : Kg w0 w' L' p lp dp rs N pts :=
  let ⟨i0, X, sv, S, Sl, Sd, D, M, h⟩ := h
  ⟨i0, X, sv, S, Sl, Sd, D, M, h.pw.later hb, h.inv, h.li, h.pot, h.nN, fun k hk => ⟨(h.fr k hk).1, fun h' => by
    rcases hn k h' with h2 | h2
    · exact (h.fr k hk).2 h2
    · rcases hk with hk | hk | hk
      · have := h.pw.pool.lt k hk; omega
      · have := h.pw.ws.log.lt k hk; omega
      · have := h.pw.ws.dsk.lt k hk; omega⟩, hl, bT h.bel hb, h.b128, h.p6⟩
theorem Kg.less (h : Kg w0 w L p lp dp rs N pts) (L' : List Nat) (hn : ∀ k ∈ L', k ∈ L) : Kg w0 w L' p lp dp rs N pts :=
  let ⟨i0, X, sv, S, Sl, Sd, D, M, h⟩ := h
  ⟨i0, X, sv, S, Sl, Sd, D, M, h.pw, h.inv, h.li, h.pot, h.nN, fun k hk => ⟨(h.fr k hk).1, fun h' => (h.fr k hk).2 (hn k h')⟩, fun k hk => h.loc k (hn k hk), h.bel, h.b128, h.p6⟩
/-- a block of one's own is written, and others come -/
theorem Kg.turn (h : Kg w0 w L p lp dp rs N pts) (hk : Keeps (· ∈ L) w w') (hL : ∀ k ∈ L, w0.heap.size ≤ k) (L' : List Nat) (hl : ∀ k ∈ L', k < w'.heap.size) (hn : ∀ k ∈ L', k ∈ L ∨ w.heap.size ≤ k) : Kg w0 w' L' p lp dp rs N pts := by
  obtain ⟨i0, X, sv, S, Sl, Sd, D, M, h⟩ := h
  refine ⟨i0, X, sv, S, Sl, Sd, D, M, ⟨h.pw.pool.keep hk (fun k hk' h' => (h.fr k (.inl hk')).2 h'), h.pw.ws.keep hk (fun k hk' h' => (h.fr k (.inr (.inl hk'))).2 h') (fun k hk' h' => (h.fr k (.inr (.inr hk'))).2 h'), h.pw.dl, h.pw.dd, h.pw.ring, h.pw.fit⟩, h.inv, h.li, h.pot, h.nN, fun k hk' => ⟨(h.fr k hk').1, fun h' => ?_⟩, hl, h.bel.trans (hk.belowB h.bel.size hL), h.b128, h.p6⟩
  rcases hn k h' with h2 | h2
  · exact (h.fr k hk').2 h2
  · rcases hk' with hk' | hk' | hk'
    · have := h.pw.pool.lt k hk'; omega
    · have := h.pw.ws.log.lt k hk'; omega
    · have := h.pw.ws.dsk.lt k hk'; omega
theorem Kg.mono (h : Kg w0 w L p lp dp rs N pts) {N' : Nat} (h1 : N ≤ N') (h2 : N' ≤ 4 * rs.length + 100) : Kg w0 w L p lp dp rs N' pts := by
  obtain ⟨i0, X, sv, S, Sl, Sd, D, M, h⟩ := h
  refine ⟨i0, X, sv, S, Sl, Sd, D, M, h.pw, h.inv, h.li, ?_, h2, h.fr, h.loc, h.bel, h.b128, h.p6⟩
  obtain ⟨m, a, b⟩ := h.pot
  exact ⟨m, a, by omega⟩
theorem kg_append (h : Kg w0 w L p lp dp rs N pts) (r : ByteArray) (hr : r.size ≤ maxLen) :
    Calls Tryd.prog 11 #[.pointer (some ⟨lp, 0, none⟩), .string r] w fun e w' => ((∃ c, c ≠ 0 ∧ e = .returned (.tuple #[.int .i64 0, .int .i64 c]) ∧ Kg w0 w' L p lp dp rs N pts) ∨
      (e = .returned (.tuple #[.int .i64 ((54 + lenL rs : Nat) : Int), .int .i64 0]) ∧ Kg w0 w' L p lp dp (rs ++ [r]) N pts ∧ ∀ c : PCall, PgOk c.pg → 0 ≤ c.id → c.id < 6 → Kg w0 w' L p lp dp (rs ++ [r]) N (pts ++ [(c, ((54 + lenL rs : Nat) : Int))]))) ∧ Keeps (Own w0 L) w w' := by
  obtain ⟨i0, X, sv, S, Sl, Sd, D, M, h1⟩ := h
  refine (ws_append2 h1.pw.ws r hr).mono fun e w' hp => ?_
  rcases hp with ⟨hrf, c, hc, he, hb⟩ | ⟨hrf, he, S', hw, hk, hs⟩
  · exact ⟨.inl ⟨c, hc, he, Kg.later ⟨i0, X, sv, S, Sl, Sd, D, M, h1⟩ hb⟩, Keeps.of_below _ hb⟩
  · have hko : Keeps (Own w0 L) w w' := hk.mono (fun k _ hk' => h1.fr k (.inr (.inl hk')))
    have key : ∀ pts', LInv pts' (rs ++ [r]) i0 D X.slots → Kg w0 w' L p lp dp (rs ++ [r]) N pts' := fun pts' hl => by
      refine ⟨i0, X, sv, S, S', Sd, D, M, ⟨⟨h1.pw.pool.keep hk (fun k hk' h' => h1.pw.dl k hk' h'), hw, fun k hk' h' => ?_, h1.pw.dd, h1.pw.ring, h1.pw.fit⟩, h1.inv, hl, h1.pot, by have := h1.nN; rw [List.length_append]; omega, fun k hk' => ?_, fun k hk' => Nat.lt_of_lt_of_le (h1.loc k hk') hk.size, h1.bel.trans (hko.belowB h1.bel.size (fun k hk' => hk'.1)), h1.b128, h1.p6⟩⟩
      · rcases hs k h' with h3 | h3
        · exact h1.pw.dl k hk' h3
        · have := h1.pw.pool.lt k hk'; omega
      · rcases hk' with hk' | hk' | hk'
        · exact h1.fr k (.inl hk')
        · rcases hs k hk' with h3 | h3
          · exact h1.fr k (.inr (.inl h3))
          · exact ⟨Nat.le_trans h1.bel.size h3, fun h4 => by have := h1.loc k h4; omega⟩
        · exact h1.fr k (.inr (.inr hk'))
    exact ⟨.inr ⟨he, key _ (h1.li.push h1.pw.ws.le r), fun c q1 q2 q3 => key _ (h1.li.add h1.pw.ws.le c q1 q2 q3)⟩, hko⟩
theorem Kf.step {i0 : Nat} {X : Pl} {sv : Value} {S Sl Sd : List Nat} {D : Dev} {M : Nat → Pg × Int} (h : Kf w0 w L p lp dp rs i0 X sv S Sl Sd D M N pts) {i1 : Nat} {X1 : Pl} {sv1 : Value} {S1 Sd1 : List Nat} {D1 : Dev} {M1 : Nat → Pg × Int} {N1 : Nat}
    (hp : Pw w' p lp dp 0 128 1 P0 rs i1 X1 sv1 S1 Sl Sd1 D1) (hk : Keeps (fun k => k ∈ S ∨ k ∈ Sl ∨ k ∈ Sd) w w') (hS : ∀ k ∈ S1, k ∈ S ∨ w.heap.size ≤ k) (hSd : ∀ k ∈ Sd1, k ∈ Sd ∨ w.heap.size ≤ k) (hi : PInv X1 D1 M1) (hl : LInv pts rs i1 D1 X1.slots) (hpt : Pot N1 D1 X1.slots) (hN : N1 ≤ 4 * rs.length + 100) (hb : X1.base = X.base) (hpg : X1.pages = X.pages) :
    Kg w0 w' L p lp dp rs N1 pts ∧ Keeps (Own w0 L) w w' := by
  have hko : Keeps (Own w0 L) w w' := hk.mono (fun k _ hk' => h.fr k hk')
  refine ⟨⟨i1, X1, sv1, S1, Sl, Sd1, D1, M1, hp, hi, hl, hpt, hN, fun k hk' => ?_, fun k hk' => Nat.lt_of_lt_of_le (h.loc k hk') hk.size, h.bel.trans (hko.belowB h.bel.size (fun k hk' => hk'.1)), by rw [hb]; exact h.b128, by rw [hpg]; exact h.p6⟩, hko⟩
  have fresh : ∀ k, w.heap.size ≤ k → w0.heap.size ≤ k ∧ k ∉ L := fun k h3 => ⟨Nat.le_trans h.bel.size h3, fun h4 => by have := h.loc k h4; omega⟩
  rcases hk' with hk' | hk' | hk'
  · rcases hS k hk' with h3 | h3
    · exact h.fr k (.inl h3)
    · exact fresh k h3
  · exact h.fr k (.inr (.inl hk'))
  · rcases hSd k hk' with h3 | h3
    · exact h.fr k (.inr (.inr h3))
    · exact fresh k h3
theorem kg_get (h : Kg w0 w L p lp dp rs N pts) (id : Int) :
    Calls Tryd.prog 13 #[.pointer (some ⟨p, 0, none⟩), .int .i64 id] w fun e w' => ∃ Q c, e = .returned (.tuple #[pgV Q, .int .i64 c]) ∧ Kg w0 w' L p lp dp rs N pts ∧ Keeps (Own w0 L) w w' := by
  obtain ⟨i0, X, sv, S, Sl, Sd, D, M, h⟩ := h
  have hc := h.count
  have hn := h.nN
  refine (pl_get h.pw N (by omega) h.pot.soft id).mono fun e w' ⟨Q, c, i1, X1, sv1, S1, Sd1, D1, he, hg, hp, hk, hS, hSd⟩ => ?_
  obtain ⟨g1, g2, g3, g4, g5, g6, g7⟩ := get_law h.inv h.pw.ring h.pw.fit hg
  obtain ⟨k1, k2⟩ := h.step hp hk hS hSd g1 (get_li h.li h.b128 hg).1 (g6 N h.pot) hn g2 g3
  exact ⟨Q, c, he, k1, k2⟩
theorem kg_put (h : Kg w0 w L p lp dp rs N pts) (hN : N + 4 ≤ 4 * rs.length + 100) (x : PCall × Int) (hx : x ∈ pts) (hz : ∀ i, i < 6 → (x.1.pg.dt i).size ≤ maxLen) :
    Calls Tryd.prog 12 #[.pointer (some ⟨p, 0, none⟩), .int .i64 x.1.id, pgV x.1.pg, .int .i64 x.2] w fun e w' => ∃ c, e = .returned (.int .i64 c) ∧ (c = 0 ∨ c = 20) ∧ Kg w0 w' L p lp dp rs (N + 4) pts ∧ Keeps (Own w0 L) w w' := by
  obtain ⟨i0, X, sv, S, Sl, Sd, D, M, h⟩ := h
  have hc := h.count
  have hn := h.nN
  obtain ⟨q1, q2, q3, m, q4, q5⟩ := h.li.pok x hx
  have hle := lenL_take_le rs m
  refine (pl_put h.pw N (by omega) h.pot.soft x.1.id x.1.pg hz x.2 (by omega)).mono fun e w' ⟨c, i1, X1, sv1, S1, Sd1, D1, he, hg, hp, hk, hS, hSd⟩ => ?_
  obtain ⟨g2, g3, g4, g5, g6, g7⟩ := put_law h.inv h.pw.ring h.pw.fit (by omega) hg
  have hl := (put_li h.li h.b128 ⟨x, hx, rfl, rfl, rfl⟩ hg).1
  rcases g7 with ⟨r1, r2, r3, r4⟩ | ⟨r1, r2, r3, r4, ⟨r5, r6⟩ | ⟨r5, _, r6⟩⟩
  · exfalso
    rcases r1 with h' | h' | h' | h'
    · omega
    · rw [h.p6] at h'; omega
    · omega
    · exact h' q1
  · obtain ⟨k1, k2⟩ := h.step hp hk hS hSd r6 hl (g6 N h.pot) hN g2 g3
    exact ⟨c, he, .inl r5, k1, k2⟩
  · obtain ⟨k1, k2⟩ := h.step hp hk hS hSd r6 hl (g6 N h.pot) hN g2 g3
    exact ⟨c, he, .inr r5, k1, k2⟩
theorem kg_flush (h : Kg w0 w L p lp dp rs N pts) :
    Calls Tryd.prog 14 #[.pointer (some ⟨p, 0, none⟩)] w fun e w' => ∃ c, e = .returned (.int .i64 c) ∧ Kg w0 w' L p lp dp rs N pts ∧ Keeps (Own w0 L) w w' := by
  obtain ⟨i0, X, sv, S, Sl, Sd, D, M, h⟩ := h
  have hc := h.count
  have hn := h.nN
  refine (pl_flush h.pw N (by omega) h.pot.soft).mono fun e w' ⟨c, l, i1, Sd1, D1, he, hg, hp, hk, hSd⟩ => ?_
  obtain ⟨g1, g2, g3, g4, g5⟩ := flush_law2 h.inv h.pw.ring h.pw.fit hg
  obtain ⟨k1, k2⟩ := h.step hp hk (fun k hk => .inl hk) hSd g1 (flush_li h.li h.b128 hg).1 (g4 N h.pot) hn rfl rfl
  exact ⟨c, he, k1, k2⟩
theorem kg_fuel (h : Kg w0 w L p lp dp rs N pts) (m : Int) (hm : m ≤ 9223372036854775807) :
    Calls Tryd.prog 17 #[.pointer (some ⟨dp, 0, none⟩), .int .i64 m] w fun e w' => e = .returned (.tuple #[]) ∧ Kg w0 w' L p lp dp rs N pts ∧ Keeps (Own w0 L) w w' := by
  obtain ⟨i0, X, sv, S, Sl, Sd, D, M, h⟩ := h
  have hm1 := h.pw.ws.dsk.mem
  refine (dsk_fuel dp m hm D Sd w h.pw.ws.dsk).mono fun e w' ⟨he, hd, hk⟩ => ?_
  have hko : Keeps (Own w0 L) w w' := hk.mono (fun k _ e => by rw [e]; exact h.fr _ (.inr (.inr hm1)))
  refine ⟨he, ⟨i0, X, sv, S, Sl, Sd, { D with fuel := max m (-1) }, M, ⟨h.pw.pool.keep hk (fun k hk' e => h.pw.dd k hk' (by rw [e]; exact hm1)), ⟨h.pw.ws.log.keep hk (fun k hk' e => h.pw.ws.dis k hk' (by rw [e]; exact hm1)), hd, ⟨hd.1, h.pw.ws.has.2.1, h.pw.ws.has.2.2⟩, h.pw.ws.dis, h.pw.ws.rok, h.pw.ws.le, h.pw.ws.pre, h.pw.ws.bbs, h.pw.ws.soft⟩, h.pw.dl, h.pw.dd, h.pw.ring, h.pw.fit⟩, ⟨h.inv.uniq, h.inv.hold, h.inv.dty, h.inv.dev, h.inv.mok⟩, ⟨h.li.all, h.li.dty, h.li.pok, h.li.asc⟩, ?_, h.nN, h.fr, fun k hk' => Nat.lt_of_lt_of_le (h.loc k hk') hk.size, h.bel.trans (hko.belowB h.bel.size (fun k hk' => hk'.1)), h.b128, h.p6⟩, hko⟩
  obtain ⟨q, a, b⟩ := h.pot
  exact ⟨q, a, b⟩
end
/-- a new pool of six pages -/
theorem new_li (N0 : Nat) (hN : 152 ≤ N0) : LInv [] [] 0 (Dev.new N0) [] := by
  have hz : ∀ p, PgP [] ((54 + lenL (([] : List ByteArray).take 0) : Nat) : Int) p (zeros 64) := fun p id j _ hj _ => ⟨pageZ, 0, pageZ_ok, (sec_zero j hj).symm, .inl ⟨rfl, rfl⟩⟩
  have hg : ∀ p, p < N0 → (List.replicate N0 (zeros 64)).getD p ⟨#[]⟩ = zeros 64 := fun p hp => by
    rw [List.getD_eq_getElem?_getD, List.getElem?_replicate, if_pos hp]; rfl
  refine ⟨⟨fun p hp => ?_, fun p hp => ?_, fun x hx => by simp [Dev.new] at hx⟩, fun j s hs => by simp at hs, fun x hx => by simp at hx, List.Pairwise.nil⟩
  · have hp' : p < N0 := by have : (Dev.new N0).firm.length = N0 := List.length_replicate; omega
    show PgP _ _ p ((List.replicate N0 (zeros 64)).getD p ⟨#[]⟩)
    rw [hg p hp']
    exact hz p
  · have hp' : p < N0 := by have : (Dev.new N0).seen.length = N0 := List.length_replicate; omega
    show PgP _ _ p ((List.replicate N0 (zeros 64)).getD p ⟨#[]⟩)
    rw [hg p hp']
    exact hz p
theorem kg_pool {w0 w : World} {L : List Nat} {lp dp N0 : Nat} {Sl Sd : List Nat} (h : Lk w0 w L lp dp N0 Sl Sd) (h5 : 152 ≤ N0) :
    Calls Tryd.prog 10 #[.pointer (some ⟨dp, 0, none⟩), .pointer (some ⟨lp, 0, none⟩), .int .i64 128, .int .i64 6, .int .i64 4] w fun e w' => ∃ p, e = .returned (.tuple #[.pointer (some ⟨p, 0, none⟩), .int .i64 0]) ∧ Kg w0 w' L p lp dp [] 0 [] ∧ Keeps (Own w0 L) w w' := by
  have hlen : (Dev.new N0).firm.length = N0 := List.length_replicate
  refine (pl_new h.ws 128 6 4 (by omega) (by omega) (by omega) (by omega) (by rw [hlen]; omega) (by omega)).mono fun e w' ⟨p, he, hp, hb, hpl⟩ => ⟨p, he, ⟨0, _, _, [p], Sl, Sd, Dev.new N0, M0, ⟨hp, pinv_new N0 128 6 4 (by omega), new_li N0 h5, ⟨0, .inl (by simp [Dev.new]), by simp [nDirty]⟩, by simp, fun k hk => ?_, fun k hk => Nat.lt_of_lt_of_le (h.loc k hk) hb.size, bT h.bel hb, rfl, rfl⟩⟩, Keeps.of_below _ hb⟩
  rcases hk with hk | hk
  · have := List.mem_singleton.1 hk
    subst this
    exact ⟨Nat.le_trans h.bel.size hpl, fun h4 => by have := h.loc k h4; omega⟩
  · exact h.fr k hk
/-! ### the device behind a crash -/
structure Ko (w0 w : World) (L : List Nat) (c : Nat) (D : Dev) (Sc : List Nat) (rs : List ByteArray) (i0 : Nat) (pts : List (PCall × Int)) : Prop where
  dsk : DiskAt w c D Sc
  all : AllP (PgP pts ((54 + lenL (rs.take i0) : Nat) : Int)) D
  has : DevHas D 0 128 1 (P0 ++ encL rs) (P0.size + lenL (rs.take i0))
  rok : RecOk rs
  le : i0 ≤ rs.length
  cnt : lenL rs ≤ 6912
  pok : ∀ x ∈ pts, PgOk x.1.pg ∧ 0 ≤ x.1.id ∧ x.1.id < 6 ∧ ∃ m, m < rs.length ∧ x.2 = ((54 + lenL (rs.take m) : Nat) : Int)
  asc : pts.Pairwise (fun x y => x.2 < y.2)
  fd : ∀ k ∈ Sc, w0.heap.size ≤ k ∧ k ∉ L
  loc : ∀ k ∈ L, k < w.heap.size
  bel : Below w0.heap.size w0 w
  up : D.up
  soft : D.soft = []
  len : 152 ≤ D.firm.length
theorem kg_crash {w0 w : World} {L : List Nat} {p lp dp : Nat} {rs : List ByteArray} {N : Nat} {pts : List (PCall × Int)} (h : Kg w0 w L p lp dp rs N pts) {kv : Value} {keep : List Bool} (hk : BoolsAt w0 w0.heap.size kv keep) :
    Calls Tryd.prog 19 #[.pointer (some ⟨dp, 0, none⟩), kv] w fun e w' => ∃ c D Sc i0, e = .returned (.pointer (some ⟨c, 0, none⟩)) ∧ Ko w0 w' L c D Sc rs i0 pts ∧ Keeps (Own w0 L) w w' := by
  obtain ⟨i0, X, sv, S, Sl, Sd, D, M, h⟩ := h
  have hm1 := h.pw.ws.dsk.mem
  have hkw : BoolsAt w w0.heap.size kv keep := hk.keep (Keeps.of_below (fun k => w0.heap.size ≤ k) h.bel) (Nat.le_refl _) (fun k h => h)
  have hfit := h.pw.fit
  rw [h.b128, h.p6] at hfit
  refine (dsk_crash dp D Sd w0.heap.size kv keep w h.pw.ws.dsk hkw h.bel.size (fun k hk => (h.fr k (.inr (.inr hk))).1)).mono fun e w' ⟨c, Sc, he, _, hd, hkp, hs⟩ => ?_
  have hko : Keeps (Own w0 L) w w' := hkp.mono (fun k _ e => by rw [e]; exact h.fr _ (.inr (.inr hm1)))
  exact ⟨c, D.after keep, Sc, i0, he, ⟨hd, h.li.all.crash keep, h.pw.ws.has.crash keep, h.pw.ws.rok, h.pw.ws.le, h.count.2, h.li.pok, h.li.asc, fun k hk => ⟨Nat.le_trans h.bel.size (hs k hk), fun h4 => by have := h.loc k h4; have := hs k hk; omega⟩, fun k hk => Nat.lt_of_lt_of_le (h.loc k hk) hkp.size, h.bel.trans (hko.belowB h.bel.size (fun k hk' => hk'.1)), up_after D keep, rfl, by show 152 ≤ (crashTo _ _ _ _).length; rw [crashTo_length]; exact hfit⟩, hko⟩
/-- the log is opened over it; what it lists -/
theorem ko_open {w0 w : World} {L : List Nat} {c : Nat} {D : Dev} {Sc : List Nat} {rs : List ByteArray} {i0 : Nat} {pts : List (PCall × Int)} (h : Ko w0 w L c D Sc rs i0 pts) :
    Calls Tryd.prog 20 #[.pointer (some ⟨c, 0, none⟩), .int .i64 0, .int .i64 128, .int .i64 54] w fun e w' => ∃ i D' Sc' p lv, i0 ≤ i ∧ i ≤ rs.length ∧ e = .returned (.tuple #[.pointer (some ⟨p, 0, none⟩), lv, .int .i64 0]) ∧ DiskAt w' c D' Sc' ∧ D'.down = false ∧ 152 ≤ D'.firm.length ∧
      AllP (PgP pts ((54 + lenL (rs.take i0) : Nat) : Int)) D' ∧ OwnS w' 70 2 lv (plL 54 (rs.take i)).length (recV (plL 54 (rs.take i))) ∧ Keeps (Own w0 L) w w' := by
  have hfd := h.fd
  refine (ws_open2 (P := P0) (by omega) (by omega) (by decide) (Nat.le_refl _) (by decide) h.rok h.le (by have := h.cnt; show 0 + lenL rs ≤ _; omega) h.dsk h.has h.up.2 h.soft).mono fun e w' ⟨i, D', Sd', h1, h2, hd, hk, hsd, h3, h4, hoff, h5, h6⟩ => ?_
  have hko : Keeps (Own w0 L) w w' := hk.mono (fun k _ hk' => hfd k hk')
  rcases h6 with ⟨_, q⟩ | ⟨q1, q2, q3, p, S, lv, q4, q5, q6, q7, q8⟩
  · have := (h5 h.up).2
    rw [q] at this; cases this
  · exact ⟨i, D', Sd', p, lv, h1, h2, q4, hd, q1, by rw [hoff.len]; exact h.len, h.all.off hoff (by omega), q7, hko⟩
end Go.Proofs.YtdkilpjebmhkkaaDoor
