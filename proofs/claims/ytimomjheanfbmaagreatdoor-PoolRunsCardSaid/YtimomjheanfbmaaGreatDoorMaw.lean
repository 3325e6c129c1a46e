import Derived.Test.YtimomjheanfbmaaGreatDoorMav
set_option linter.unusedSimpArgs false
set_option linter.unusedVariables false
namespace Go.Proofs.YtimomjheanfbmaaGreatDoor
open Go.RowKit

/-! ### plain law: a page goes to a device -/
def Dev.wr (D : Dev) (b : Nat) (P : Pg) (st : Int) : Nat → Dev × Int
  | 0 => (D, 0)
  | i + 1 => if (D.wr b P st i).2 ≠ 0 then D.wr b P st i else (D.wr b P st i).1.write ((b + i : Nat) : Int) (sec (pageS P) st i)
theorem page_sec_size {s : ByteArray} (hs : s.size = 224) (st : Int) {i : Nat} (hi : i < 4) : (sec s st i).size = 64 := by
  unfold sec
  rw [ByteArray.size_append, ByteArray.size_extract, leS_size, hs]; omega
theorem wr_next {D : Dev} {b : Nat} {P : Pg} {st : Int} {i : Nat} (h : (D.wr b P st i).2 = 0) : D.wr b P st (i + 1) = (D.wr b P st i).1.write ((b + i : Nat) : Int) (sec (pageS P) st i) := by
  rw [Dev.wr, if_neg (by rw [h]; decide)]
theorem wr_stuck {D : Dev} {b : Nat} {P : Pg} {st : Int} {i : Nat} (h : (D.wr b P st i).2 ≠ 0) : D.wr b P st (i + 1) = D.wr b P st i := by
  rw [Dev.wr, if_pos h]
/-- what is the same behind it -/
structure WrLaw (D : Dev) (b : Nat) (P : Pg) (st : Int) (k : Nat) (D' : Dev) (c : Int) : Prop where
  ok : DevOk D'
  len : D'.firm.length = D.firm.length
  code : (c = 20 ∧ D'.down = true) ∨ (c = 0 ∧ (0 < k → D'.down = false ∧ D.down = false) ∧ (k = 0 → D' = D))
  on : c = 0 → ∀ p, p < D.firm.length → D'.seen.getD p ⟨#[]⟩ = if b ≤ p ∧ p < b + k then sec (pageS P) st (p - b) else D.seen.getD p ⟨#[]⟩
  all : ∀ Q : Nat → ByteArray → Prop, AllP Q D → (∀ j, j < k → Q (b + j) (sec (pageS P) st j)) → AllP Q D'
  soft : D'.soft.length ≤ D.soft.length + k
  up : D.up → D'.up ∧ c = 0
  dead : D.down = true → D' = D
theorem wr_law {D : Dev} {b : Nat} {P : Pg} (st : Int) (hok : DevOk D) (hP : PgOk P) : ∀ k, k ≤ 4 → b + k ≤ D.firm.length → WrLaw D b P st k (D.wr b P st k).1 (D.wr b P st k).2
  | 0, _, _ => ⟨hok, rfl, .inr ⟨rfl, fun h => absurd h (by omega), fun _ => rfl⟩, fun _ p hp => by rw [if_neg (by omega)]; rfl, fun Q h _ => h, Nat.le_refl _, fun h => ⟨h, rfl⟩, fun _ => rfl⟩
  | k + 1, hk, hb => by
    have ih := wr_law (D := D) (b := b) (P := P) st hok hP k (by omega) (by omega)
    have hsz := page_sec_size (pageS_size hP) st (show k < 4 by omega)
    generalize hE : D.wr b P st k = E at ih
    obtain ⟨E, c⟩ := E
    dsimp only at ih
    rcases ih.code with ⟨hc, hdn⟩ | ⟨hc, hdn, hz⟩
    · rw [wr_stuck (by rw [hE]; show c ≠ 0; omega), hE]
      exact ⟨ih.ok, ih.len, .inl ⟨hc, hdn⟩, fun h => absurd (show (20 : Int) = 0 from hc ▸ h) (by decide), fun Q h1 h2 => ih.all Q h1 (fun j hj => h2 j (by omega)), by have := ih.soft; show E.soft.length ≤ _; omega, fun h => absurd ((ih.up h).2) (by omega), ih.dead⟩
    · subst hc
      rw [wr_next (by rw [hE]), hE]
      have hlt : ((b + k : Nat) : Int) < E.firm.length := by rw [ih.len]; omega
      have hl := write_len E ((b + k : Nat) : Int) (sec (pageS P) st k)
      have hok' := Dev.write_ok ih.ok ((b + k : Nat) : Int) (sec (pageS P) st k)
      have hall : ∀ Q : Nat → ByteArray → Prop, AllP Q D → (∀ j, j < k + 1 → Q (b + j) (sec (pageS P) st j)) → AllP Q (E.write ((b + k : Nat) : Int) (sec (pageS P) st k)).1 := fun Q h1 h2 =>
        (ih.all Q h1 (fun j hj => h2 j (by omega))).write _ _ (by omega) hlt hsz ih.ok.2.2.1 (by rw [Int.toNat_natCast]; exact h2 k (by omega))
      have hdead : D.down = true → (E.write ((b + k : Nat) : Int) (sec (pageS P) st k)).1 = D := fun h => by
        rw [ih.dead h]; unfold Dev.write; rw [if_pos h]
      have hup : D.up → (E.write ((b + k : Nat) : Int) (sec (pageS P) st k)).1.up ∧ (E.write ((b + k : Nat) : Int) (sec (pageS P) st k)).2 = 0 := fun h => by
        have h1 := up_write_up (ih.up h).1 ((b + k : Nat) : Int) (sec (pageS P) st k)
        exact ⟨h1.1, by
          rcases write_cases E ((b + k : Nat) : Int) (sec (pageS P) st k) (by omega) hlt hsz with ⟨_, _, hd⟩ | ⟨_, hc, _⟩
          · exact absurd hd (by rw [h1.1.2]; decide)
          · exact hc⟩
      rcases write_cases E ((b + k : Nat) : Int) (sec (pageS P) st k) (by omega) hlt hsz with ⟨c1, c2, c3⟩ | ⟨c0, c1, c2, c3, c4, c5⟩
      · exact ⟨hok', by rw [hl.1, ih.len], .inl ⟨c1, c3⟩, fun h => absurd (show (20 : Int) = 0 from c1 ▸ h) (by decide), hall, by rw [c2.2.2]; have := ih.soft; omega, hup, hdead⟩
      · refine ⟨hok', by rw [hl.1, ih.len], .inr ⟨c1, fun _ => ⟨c5, ?_⟩, fun h => by omega⟩, fun _ p hp => ?_, hall, by rw [c4, List.length_append]; have := ih.soft; simp only [List.length_singleton]; omega, hup, hdead⟩
        · cases hD : D.down with
          | false => rfl
          | true => rw [← ih.dead hD, c0] at hD; cases hD
        · rw [c3, Int.toNat_natCast, getD_set _ _ _ _ _ (by rw [ih.ok.2.2.1, ih.len]; exact hp), ih.on rfl p hp]
          by_cases h1 : b + k = p
          · subst h1
            rw [if_pos rfl, if_pos (by omega), show b + k - b = k by omega]
          · rw [if_neg h1]
            by_cases h2 : b ≤ p ∧ p < b + k
            · rw [if_pos h2, if_pos (by omega)]
            · rw [if_neg h2, if_neg (by omega)]
end Go.Proofs.YtimomjheanfbmaaGreatDoor

namespace Go.Proofs.YtimomjheanfbmaaGreatDoor
open Go.RowKit

/-! ### what a log's flush leaves as it was -/
structure OffLaw (hi m : Nat) (D D' : Dev) : Prop where
  len : D'.firm.length = D.firm.length
  seen : ∀ p, hi ≤ p → D'.seen.getD p ⟨#[]⟩ = D.seen.getD p ⟨#[]⟩
  all : ∀ Q : Nat → ByteArray → Prop, (∀ p d, p < hi → d.size = 64 → Q p d) → AllP Q D → AllP Q D'
  soft : D'.soft.length ≤ D.soft.length + m
  dead : D.down = true → D' = D
  up : D.up → D'.up
theorem OffLaw.refl (hi m : Nat) (D : Dev) : OffLaw hi m D D := ⟨rfl, fun _ _ => rfl, fun _ _ h => h, by omega, fun _ => rfl, fun h => h⟩
theorem OffLaw.trans {hi m k : Nat} {D E F : Dev} (h : OffLaw hi m D E) (g : OffLaw hi k E F) : OffLaw hi (m + k) D F :=
  ⟨by rw [g.len, h.len], fun p hp => by rw [g.seen p hp, h.seen p hp], fun Q hQ hA => g.all Q hQ (h.all Q hQ hA), by have := h.soft; have := g.soft; omega, fun hd => by
    have h1 := h.dead hd
    rw [g.dead (by rw [h1]; exact hd), h1], fun hu => g.up (h.up hu)⟩
theorem off_write (hi : Nat) (D : Dev) (s : Int) (d : ByteArray) (hok : DevOk D) (hs : s < hi) : OffLaw hi 1 D (D.write s d).1 := by
  obtain ⟨e1, e2, e3⟩ := burn_same D
  have hl := write_len D s d
  by_cases hin : 0 ≤ s ∧ s < D.firm.length ∧ d.size = 64
  · obtain ⟨h0, h1, h2⟩ := hin
    refine ⟨hl.1, ?_, fun Q hQ hA => hA.write s d h0 h1 h2 hok.2.2.1 (hQ _ _ (by omega) h2), ?_, fun hd => by unfold Dev.write; rw [if_pos hd], fun hu => (up_write_up hu s d).1⟩
    · intro p hp
      rcases write_cases D s d h0 h1 h2 with ⟨_, c2, _⟩ | ⟨_, _, _, c3, _, _⟩
      · rw [c2.2.1]
      · rw [c3, List.getD_eq_getElem?_getD, List.getD_eq_getElem?_getD, List.getElem?_set_ne (by omega)]
    · rcases write_cases D s d h0 h1 h2 with ⟨_, c2, _⟩ | ⟨_, _, _, _, c4, _⟩
      · rw [c2.2.2]; omega
      · rw [c4, List.length_append]; simp
  · have : (D.write s d).1 = D := by
      unfold Dev.write
      split
      · rfl
      · rw [if_pos (by omega)]
    rw [this]
    exact OffLaw.refl _ _ _
theorem off_barrier (hi : Nat) (D : Dev) (hok : DevOk D) : OffLaw hi 0 D D.barrier.1 := by
  refine ⟨?_, fun p hp => ?_, fun Q hQ hA => hA.barrier hok.2.2.1, by have := barrier_soft D; omega, fun hd => by unfold Dev.barrier; rw [if_pos hd], barrier_up⟩
  · rcases barrier_cases D with ⟨_, c, _⟩ | ⟨_, _, c, _⟩
    · rw [c.1]
    · rw [c]; exact hok.2.2.1
  · rcases barrier_cases D with ⟨_, c, _⟩ | ⟨_, _, _, c, _⟩
    · rw [c.2.1]
    · rw [c]
theorem fl_ok {G : Lg} {D : Dev} {b : Nat} (h : DevOk D) : ∀ k, DevOk (G.fl D b k).1
  | 0 => h
  | k + 1 => by
    rw [Lg.fl]
    split
    · exact fl_ok h k
    · exact Dev.write_ok (fl_ok h k) _ _
theorem fl_off {G : Lg} {D : Dev} {b hi : Nat} (hn : 0 < G.n) (hh : G.first + G.n ≤ hi) (hok : DevOk D) : ∀ k, OffLaw hi k D (G.fl D b k).1
  | 0 => OffLaw.refl _ _ _
  | k + 1 => by
    have ih := fl_off (b := b) hn hh hok k
    rw [Lg.fl]
    split
    · exact ⟨ih.len, ih.seen, ih.all, by have := ih.soft; omega, ih.dead, ih.up⟩
    · have := Int.emod_lt_of_pos ((b + k : Nat) : Int) hn
      exact ih.trans (off_write hi _ _ _ (fl_ok hok k) (by omega))
theorem flushed_off {G : Lg} {D : Dev} {b hi k : Nat} (hn : 0 < G.n) (hh : G.first + G.n ≤ hi) (hok : DevOk D) (hk : k ≤ 4097) : OffLaw hi 4097 D (G.flushed D b k).2.1 := by
  have h1 := fl_off (b := b) hn hh hok k
  have h2 := h1.trans (off_barrier hi _ (fl_ok hok k))
  have h1' : OffLaw hi 4097 D (G.fl D b k).1 := ⟨h1.len, h1.seen, h1.all, by have := h1.soft; omega, h1.dead, h1.up⟩
  have h2' : OffLaw hi 4097 D (G.fl D b k).1.barrier.1 := ⟨h2.len, h2.seen, h2.all, by have := h2.soft; omega, h2.dead, h2.up⟩
  unfold Lg.flushed
  repeat' split
  · exact h1'
  · exact h2'
  · exact h2'
/-- what Flush does, wherever it is asked for -/
structure FlRel (first n bb : Nat) (P : ByteArray) (rs : List ByteArray) (at_ : Int) (i0 : Nat) (D : Dev) (i1 : Nat) (D' : Dev) (c : Int) : Prop where
  off : OffLaw (first + n) 4097 D D'
  le : i0 ≤ i1
  le' : i1 ≤ rs.length
  code : (c = 0 ∧ (at_ < ((54 * bb + P.size + lenL (rs.take i1) : Nat) : Int) ∨ i1 = rs.length) ∧ (D'.soft = [] ∨ D' = D)) ∨ (c = 20 ∧ D'.down = true)
theorem ws_flush2 {w : World} {p dp first n bb : Nat} {P : ByteArray} {rs : List ByteArray} {i0 : Nat} {S Sd : List Nat} {D : Dev} (h : Ws w p dp first n bb P rs i0 S Sd D) (at_ : Int) :
    Calls Tryz.prog 122 #[.pointer (some ⟨p, 0, none⟩), .int .i64 at_] w fun e w' => ∃ c i1 Sd' D', e = .returned (.int .i64 c) ∧ Ws w' p dp first n bb P rs i1 S Sd' D' ∧ Keeps (fun k => k ∈ S ∨ k ∈ Sd) w w' ∧ (∀ k ∈ Sd', k ∈ Sd ∨ w.heap.size ≤ k) ∧
      FlRel first n bb P rs at_ i0 D i1 D' c := by
  obtain ⟨n1, n2, n3⟩ := h.len
  have hle := lenL_take_le rs i0
  by_cases hlt : at_ < ((54 * bb + P.size + lenL (rs.take i0) : Nat) : Int)
  · exact (wal_flush_not p dp _ S at_ (.inl hlt) w h.log).mono fun e w' ⟨he, hb⟩ => ⟨0, i0, Sd, D, he, h.later hb, Keeps.of_below _ hb, fun k hk => .inl hk, OffLaw.refl _ _ _, Nat.le_refl _, h.le, .inl ⟨rfl, .inl hlt, .inr rfl⟩⟩
  by_cases heq : lenL (rs.take i0) = lenL rs
  · have hi := take_all_of h.rok h.le heq
    refine (wal_flush_not p dp _ S at_ (.inr (by show ((54 * bb + P.size + lenL (rs.take i0) : Nat) : Int) = ((54 * bb + P.size + lenL rs : Nat) : Int); rw [heq])) w h.log).mono fun e w' ⟨he, hb⟩ => ⟨0, i0, Sd, D, he, h.later hb, Keeps.of_below _ hb, fun k hk => .inl hk, OffLaw.refl _ _ _, Nat.le_refl _, h.le, .inl ⟨rfl, .inr hi, .inr rfl⟩⟩
  · have hbs : (P ++ encL rs).size = P.size + lenL rs := by rw [ByteArray.size_append, encL_size]
    have hbb := h.bbs
    have hj : bb + (P.size + lenL (rs.take i0)) / 54 = (54 * bb + P.size + lenL (rs.take i0)) / 54 := by omega
    obtain ⟨cnt, hcnt⟩ : ∃ cnt, cnt = (P.size + lenL rs + 53) / 54 - (P.size + lenL (rs.take i0)) / 54 := ⟨_, rfl⟩
    have hc1 : ∀ k, k < cnt ↔ 54 * ((P.size + lenL (rs.take i0)) / 54 + k) < (P ++ encL rs).size := fun k => by rw [hbs]; omega
    have HF := wal_flush p dp _ S Sd D at_ (bb + (P.size + lenL (rs.take i0)) / 54) cnt (by show ((54 * bb + P.size + lenL (rs.take i0) : Nat) : Int) ≤ at_; omega) (by show ((54 * bb + P.size + lenL (rs.take i0) : Nat) : Int) < ((54 * bb + P.size + lenL rs : Nat) : Int); omega) (by show ((54 * bb : Nat) : Int) ≤ ((54 * bb + P.size + lenL (rs.take i0) : Nat) : Int); omega) bb (by show ((54 * bb : Nat) : Int) = 54 * (bb : Int); omega) (by show _ = ((54 * bb + P.size + lenL (rs.take i0) : Nat) : Int) / 54; omega) (fun k => by
      rw [hc1 k, hbs]
      show _ ↔ 54 * ((bb + (P.size + lenL (rs.take i0)) / 54 + k : Nat) : Int) < ((54 * bb + P.size + lenL rs : Nat) : Int)
      omega) (by have := h.soft.len; omega) w h.log h.dsk h.dis
    have hl := flush_law (D := D) (G := mkLg first n bb P rs i0) (first := first) (n := n) (bb := bb) (f := P.size + lenL (rs.take i0)) (cnt := cnt) rfl rfl rfl (by omega) (by show (P ++ encL rs).size ≤ _; omega) (by show _ ≤ (P ++ encL rs).size; omega) rfl h.has hc1
    have hoff := flushed_off (G := mkLg first n bb P rs i0) (D := D) (b := bb + (P.size + lenL (rs.take i0)) / 54) (hi := first + n) (k := cnt) (by show (0 : Int) < n; omega) (by show (first : Int) + (n : Int) ≤ _; omega) h.dsk.1 (by omega)
    have hsf := flushed_soft (G := mkLg first n bb P rs i0) (D := D) (b := bb + (P.size + lenL (rs.take i0)) / 54) (k := cnt) (by omega) h.soft
    refine HF.mono fun e w' ⟨he, Sd', hlg, hdk, hkp, hsd⟩ => ?_
    generalize (mkLg first n bb P rs i0).flushed D (bb + (P.size + lenL (rs.take i0)) / 54) cnt = X at *
    obtain ⟨G', D', c⟩ := X
    dsimp only at *
    have hdis : ∀ k ∈ S, k ∉ Sd' := fun k hk h' => by
      rcases hsd k h' with h2 | h2
      · exact h.dis k hk h2
      · have := h.log.lt k hk; omega
    obtain ⟨hh, ⟨c1, c2, c3⟩ | ⟨c1, c2, c3, c4, c5⟩⟩ := hl
    · subst c1 c2
      exact ⟨20, i0, Sd', D', he, ⟨hlg, hdk, hh, hdis, h.rok, h.le, h.pre, h.bbs, hsf (.inl c3)⟩, hkp, hsd, hoff, Nat.le_refl _, h.le, .inr ⟨rfl, c3⟩⟩
    · subst c1 c2
      have hmk : { mkLg first n bb P rs i0 with firm := (mkLg first n bb P rs i0).fin } = mkLg first n bb P rs rs.length := by
        unfold mkLg
        rw [List.take_length]
      rw [hmk] at hlg
      have c5' : DevHas D' first n bb (P ++ encL rs) (P ++ encL rs).size := c5
      refine ⟨0, rs.length, Sd', D', he, ⟨hlg, hdk, ?_, hdis, h.rok, Nat.le_refl _, h.pre, h.bbs, hsf (.inr c4)⟩, hkp, hsd, hoff, h.le, Nat.le_refl _, .inl ⟨rfl, .inr rfl, .inl c4⟩⟩
      rw [List.take_length, ← hbs]; exact c5'
end Go.Proofs.YtimomjheanfbmaaGreatDoor

namespace Go.Proofs.YtimomjheanfbmaaGreatDoor
open Go.RowKit

/-! ### a pool over a log over a device -/
def SoftB (N : Nat) (D : Dev) : Prop := D.soft.length ≤ N ∨ (D.down = true ∧ D.soft.length ≤ N + 5000)
theorem SoftB.ok {N : Nat} {D : Dev} (h : SoftB N D) (hN : N ≤ 4000000000000) : SoftOk D := by
  rcases h with h | ⟨h, h'⟩
  · exact .inl (by omega)
  · exact .inr ⟨h, by omega⟩
theorem SoftB.mono {N M : Nat} {D : Dev} (h : SoftB N D) (hN : N ≤ M) : SoftB M D := by
  rcases h with h | ⟨h, h'⟩
  · exact .inl (by omega)
  · exact .inr ⟨h, by omega⟩
structure Pw (w : World) (p lp dp first n bb : Nat) (P : ByteArray) (rs : List ByteArray) (i0 : Nat) (X : Pl) (sv : Value) (S Sl Sd : List Nat) (D : Dev) : Prop where
  pool : PoolAt w p dp lp X sv S
  ws : Ws w lp dp first n bb P rs i0 Sl Sd D
  dl : ∀ k ∈ S, k ∉ Sl
  dd : ∀ k ∈ S, k ∉ Sd
  ring : first + n ≤ X.base
  fit : X.base + 4 * X.pages ≤ D.firm.length
theorem Pw.later {w w' : World} {p lp dp first n bb : Nat} {P : ByteArray} {rs : List ByteArray} {i0 : Nat} {X : Pl} {sv : Value} {S Sl Sd : List Nat} {D : Dev} (h : Pw w p lp dp first n bb P rs i0 X sv S Sl Sd D) (hb : Below w.heap.size w w') : Pw w' p lp dp first n bb P rs i0 X sv S Sl Sd D :=
  ⟨h.pool.later hb, h.ws.later hb, h.dl, h.dd, h.ring, h.fit⟩
/-- a slot's page goes to the device, the log ahead of it -/
def WrRel (first n bb : Nat) (P : ByteArray) (rs : List ByteArray) (base : Nat) (s : Slot) (i0 : Nat) (D : Dev) (i1 : Nat) (D' : Dev) (c : Int) : Prop :=
  (FlRel first n bb P rs s.st i0 D i1 D' c ∧ c = 20) ∨ (∃ D1, FlRel first n bb P rs s.st i0 D i1 D1 0 ∧ WrLaw D1 (base + 4 * s.id.toNat) s.P s.st 4 D' c)
theorem FlRel.softB {first n bb : Nat} {P : ByteArray} {rs : List ByteArray} {at_ : Int} {i0 i1 : Nat} {D D' : Dev} {c : Int} (h : FlRel first n bb P rs at_ i0 D i1 D' c) {N : Nat} (hs : SoftB N D) : SoftB N D' := by
  rcases h.code with ⟨_, _, h1 | rfl⟩ | ⟨_, h1⟩
  · exact .inl (by rw [h1]; simp)
  · exact hs
  · rcases hs with hs | ⟨hd, hs⟩
    · exact .inr ⟨h1, by have := h.off.soft; omega⟩
    · rw [h.off.dead hd]; exact .inr ⟨hd, hs⟩
theorem WrLaw.softB {D : Dev} {b : Nat} {P : Pg} {st : Int} {k : Nat} {D' : Dev} {c : Int} (h : WrLaw D b P st k D' c) {N : Nat} (hs : SoftB N D) : SoftB (N + k) D' := by
  rcases hs with hs | ⟨hd, hs⟩
  · exact .inl (by have := h.soft; omega)
  · rw [h.dead hd]; exact .inr ⟨hd, by omega⟩
theorem WrRel.softB {first n bb : Nat} {P : ByteArray} {rs : List ByteArray} {base : Nat} {s : Slot} {i0 i1 : Nat} {D D' : Dev} {c : Int} (h : WrRel first n bb P rs base s i0 D i1 D' c) {N : Nat} (hs : SoftB N D) : SoftB (N + 4) D' := by
  rcases h with ⟨h, _⟩ | ⟨D1, h1, h2⟩
  · exact (h.softB hs).mono (by omega)
  · exact h2.softB (h1.softB hs)
theorem WrRel.code {first n bb : Nat} {P : ByteArray} {rs : List ByteArray} {base : Nat} {s : Slot} {i0 i1 : Nat} {D D' : Dev} {c : Int} (h : WrRel first n bb P rs base s i0 D i1 D' c) : (c = 0 ∧ D'.down = false ∧ D.down = false) ∨ (c = 20 ∧ D'.down = true) := by
  rcases h with ⟨h, rfl⟩ | ⟨D1, h1, h2⟩
  · rcases h.code with ⟨h0, _⟩ | h0
    · exact absurd h0 (by decide)
    · exact .inr h0
  · rcases h2.code with h0 | ⟨h0, h3, _⟩
    · exact .inr h0
    · refine .inl ⟨h0, (h3 (by omega)).1, ?_⟩
      cases hd : D.down with
      | false => rfl
      | true => rw [h1.off.dead hd, hd] at h3; exact absurd (h3 (by omega)).2 (by decide)
end Go.Proofs.YtimomjheanfbmaaGreatDoor
