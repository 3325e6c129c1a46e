import Derived.Test.YtafiojmbaickpaaWalU
set_option linter.unusedSimpArgs false
set_option linter.unusedVariables false
namespace Go.Proofs.Ytafiojmbaickpaa
open Go.RowKit

section
variable {w0 w w' : World} {p dp first : Nat} {rs : List ByteArray} {i0 : Nat} {S Sd : List Nat} {D : Dev} {av : Value} {L : List (Int × ByteArray)}
theorem wf_fuel (h : Wf w0 w p dp first rs i0 S Sd D av L) (m : Int) (hm : m ≤ 9223372036854775807) :
    Calls Try.prog 14 #[.pointer (some ⟨dp, 0, none⟩), .int .i64 m] w fun e w' => e = .returned (.tuple #[]) ∧ Wf w0 w' p dp first rs i0 S Sd { D with fuel := max m (-1) } av L := by
  have hm1 := h.ws.dsk.mem
  refine (dsk_fuel dp m hm D Sd w h.ws.dsk).mono fun e w' ⟨he, hd, hk⟩ => ⟨he, ⟨h.ws.log.keep hk (fun k hk' e => h.ws.dis k hk' (by rw [e]; exact hm1)), hd, ⟨hd.1, h.ws.has.2.1, h.ws.has.2.2⟩, h.ws.dis, h.ws.rok, h.ws.le, h.ws.pre, h.ws.bbs, h.ws.soft⟩, ?_, h.fs, h.fd, h.fa, ?_⟩
  · exact h.all.keep hk (fun k hk' e => (h.fa k hk').2.2 (by rw [e]; exact hm1))
  · exact h.bel.trans (hk.belowB h.bel.size (fun k e => by rw [e]; exact h.fd _ hm1))
/-- a device by itself, and the list -/
structure Cr (w0 w : World) (c : Nat) (D : Dev) (Sc : List Nat) (av : Value) (L : List (Int × ByteArray)) : Prop where
  dsk : DiskAt w c D Sc
  all : OwnS w 44 2 av L.length (recV L)
  fd : ∀ k ∈ Sc, w0.heap.size ≤ k
  fa : ∀ k ∈ blk av, w0.heap.size ≤ k ∧ k ∉ Sc
  bel : Below w0.heap.size w0 w
theorem Wf.cr (h : Wf w0 w p dp first rs i0 S Sd D av L) : Cr w0 w dp D Sd av L := ⟨h.ws.dsk, h.all, h.fd, fun k hk => ⟨(h.fa k hk).1, (h.fa k hk).2.2⟩, h.bel⟩
theorem Cr.later (h : Cr w0 w dp D Sd av L) (hb : Below w.heap.size w w') : Cr w0 w' dp D Sd av L := ⟨h.dsk.later hb, h.all.keep (Keeps.of_below (fun _ => False) hb) (fun _ _ h => h), h.fd, h.fa, bT h.bel hb⟩
theorem cr_fuel (h : Cr w0 w dp D Sd av L) (m : Int) (hm : m ≤ 9223372036854775807) :
    Calls Try.prog 14 #[.pointer (some ⟨dp, 0, none⟩), .int .i64 m] w fun e w' => e = .returned (.tuple #[]) ∧ Cr w0 w' dp { D with fuel := max m (-1) } Sd av L := by
  have hm1 := h.dsk.mem
  refine (dsk_fuel dp m hm D Sd w h.dsk).mono fun e w' ⟨he, hd, hk⟩ => ⟨he, hd, ?_, h.fd, h.fa, ?_⟩
  · exact h.all.keep hk (fun k hk' e => (h.fa k hk').2 (by rw [e]; exact hm1))
  · exact h.bel.trans (hk.belowB h.bel.size (fun k e => by rw [e]; exact h.fd _ hm1))
theorem cr_crash (h : Cr w0 w dp D Sd av L) {kv : Value} {keep : List Bool} (hk : BoolsAt w0 w0.heap.size kv keep) :
    Calls Try.prog 16 #[.pointer (some ⟨dp, 0, none⟩), kv] w fun e w' => ∃ c Sc, e = .returned (.pointer (some ⟨c, 0, none⟩)) ∧ Cr w0 w' c (D.after keep) Sc av L ∧ Keeps (· ∈ Sd) w w' ∧ ∀ k ∈ Sc, k ∈ Sd ∨ w.heap.size ≤ k := by
  have hm1 := h.dsk.mem
  have hkw : BoolsAt w w0.heap.size kv keep := hk.keep (Keeps.of_below (fun k => w0.heap.size ≤ k) h.bel) (Nat.le_refl _) (fun k h => h)
  refine (dsk_crash dp D Sd w0.heap.size kv keep w h.dsk hkw h.bel.size h.fd).mono fun e w' ⟨c, Sc, he, _, hd, hk, hs⟩ => ⟨c, Sc, he, ⟨hd, ?_, fun k hk' => Nat.le_trans h.bel.size (hs k hk'), fun k hk' => ⟨(h.fa k hk').1, fun h' => ?_⟩, ?_⟩, hk.mono (fun k _ e => by rw [e]; exact hm1), fun k hk' => .inr (hs k hk')⟩
  · exact h.all.keep hk (fun k hk' e => (h.fa k hk').2 (by rw [e]; exact hm1))
  · have := hs k h'; have := h.all.lt hk'; omega
  · exact h.bel.trans (hk.belowB h.bel.size (fun k e => by rw [e]; exact h.fd _ hm1))
/-- what Open tells: a list -/
def Got (w0 w : World) (v : Value) (M : List (Int × ByteArray)) (Sc : List Nat) (av : Value) : Prop := OwnS w 44 2 v M.length (recV M) ∧ ∀ k ∈ blk v, w0.heap.size ≤ k ∧ k ∉ Sc
theorem cr_open (h : Cr w0 w dp D Sd av L) (hr : RecOk rs) (hi0 : i0 ≤ rs.length) (hB : lenL rs ≤ 6912) (hh : DevHas D first 128 1 (P0 ++ encL rs) (P0.size + lenL (rs.take i0))) (hdn : D.down = false) (hs : D.soft = []) :
    Calls Try.prog 17 #[.pointer (some ⟨dp, 0, none⟩), .int .i64 first, .int .i64 128, .int .i64 54] w fun e w' => ∃ i D' Sd', i0 ≤ i ∧ i ≤ rs.length ∧ Cr w0 w' dp D' Sd' av L ∧ Keeps (· ∈ Sd) w w' ∧ (∀ k ∈ Sd', k ∈ Sd ∨ w.heap.size ≤ k) ∧ DevHas D' first 128 1 (P0 ++ encL rs) (P0.size + lenL (rs.take i0)) ∧ SoftOk D' ∧ (D.up → D'.up) ∧
      ((e = .returned (.tuple #[.pointer none, .slice none 0 0, .int .i64 20]) ∧ D'.down = true) ∨
       (D'.down = false ∧ D'.soft = [] ∧ DevHas D' first 128 1 (P0 ++ encL (rs.take i)) (P0.size + lenL (rs.take i)) ∧ ∃ p S lv, e = .returned (.tuple #[.pointer (some ⟨p, 0, none⟩), lv, .int .i64 0]) ∧ Ws w' p dp first 128 1 P0 (rs.take i) i S Sd' D' ∧ (∀ k ∈ S, w.heap.size ≤ k) ∧ (∀ k ∈ blk av, k ∉ S) ∧ Got w0 w' lv (plL 54 (rs.take i)) Sd' av ∧ ∀ k ∈ blk lv, k ∉ S)) := by
  refine (wf_open hr hi0 hB h.dsk hh hdn hs).mono fun e w' ⟨i, D', Sd', h1, h2, hd, hk, hsd, h3, h4, h5, h6⟩ => ?_
  refine ⟨i, D', Sd', h1, h2, ⟨hd, ?_, fun k hk' => ?_, fun k hk' => ⟨(h.fa k hk').1, fun h' => ?_⟩, ?_⟩, hk, hsd, h3, h4, h5, ?_⟩
  · exact h.all.keep hk (fun k hk' h' => (h.fa k hk').2 h')
  · rcases hsd k hk' with h' | h'
    · exact h.fd k h'
    · exact Nat.le_trans h.bel.size h'
  · rcases hsd k h' with h2 | h2
    · exact (h.fa k hk').2 h2
    · have := h.all.lt hk'; omega
  · exact h.bel.trans (hk.belowB h.bel.size h.fd)
  · rcases h6 with h6 | ⟨q1, q2, q3, p, S, lv, q4, q5, q6, q7, q8⟩
    · exact .inl h6
    · exact .inr ⟨q1, q2, q3, p, S, lv, q4, q5, q6, fun k hk' h' => by have := q6 k h'; have := h.all.lt hk'; omega, ⟨q7, fun k hk' => ⟨Nat.le_trans h.bel.size (q8 k hk').1, (q8 k hk').2.2⟩⟩, fun k hk' => (q8 k hk').2.1⟩
theorem Got.keep {Sd' : List Nat} {v : Value} {M : List (Int × ByteArray)} (h : Got w0 w v M Sd av) (hk : Keeps (· ∈ Sd) w w') (hs : ∀ k ∈ Sd', k ∈ Sd ∨ w.heap.size ≤ k) : Got w0 w' v M Sd' av := ⟨h.1.keep hk (fun k hk' h' => (h.2 k hk').2 h'), fun k hk' => ⟨(h.2 k hk').1, fun h' => by
  rcases hs k h' with h2 | h2
  · exact (h.2 k hk').2 h2
  · have := h.1.lt hk'; omega⟩⟩
theorem Got.later {v : Value} {M : List (Int × ByteArray)} (h : Got w0 w v M Sd av) (hb : Below w.heap.size w w') : Got w0 w' v M Sd av := ⟨h.1.keep (Keeps.of_below (fun _ => False) hb) (fun _ _ h => h), h.2⟩
end
end Go.Proofs.Ytafiojmbaickpaa
