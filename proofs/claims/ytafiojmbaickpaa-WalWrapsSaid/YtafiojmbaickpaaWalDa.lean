import Derived.Test.YtafiojmbaickpaaWalCa
import Derived.Test.YtafiojmbaickpaaWalYb
set_option linter.unusedSimpArgs false
set_option linter.unusedVariables false
namespace Go.Proofs.Ytafiojmbaickpaa
open Go.RowKit

/-- Cut at the end -/
theorem ws_cut_end {w : World} {p dp first n bb : Nat} {P : ByteArray} {rs : List ByteArray} {S Sd : List Nat} {D : Dev} (h : Ws w p dp first n bb P rs rs.length S Sd D) (hbb : cutB bb P rs rs.length ≤ 10000000000000000) :
    Calls Try.prog 21 #[.pointer (some ⟨p, 0, none⟩), .int .i64 ((54 * bb + P.size + lenL rs : Nat) : Int)] w fun e w' => e = .returned (.int .i64 0) ∧ ∃ S', Ws w' p dp first n (cutB bb P rs rs.length) (cutP bb P rs rs.length) [] 0 S' Sd D ∧ Keeps (· ∈ S) w w' ∧ ∀ k ∈ S', k ∈ S ∨ w.heap.size ≤ k := by
  obtain ⟨n1, n2, n3⟩ := h.len
  have hb := h.bbs
  have hP := cutP_size bb P rs rs.length
  rw [List.take_length] at hP
  have hPl : (cutP bb P rs rs.length).size < 54 := by rw [hP]; unfold cutB; rw [List.take_length]; omega
  have hC := wal_cut_end p dp (mkLg first n bb P rs rs.length) S ((54 * bb + P.size + lenL rs : Nat) : Int) (plL_sorted h.rok (by omega)) (by omega) rs.length (by
      have := plL_found (p := 54 * bb + P.size) h.rok (k := rs.length) (Nat.le_refl _)
      rw [List.take_length, show ((54 * bb + P.size : Nat) : Int) + lenL rs = ((54 * bb + P.size + lenL rs : Nat) : Int) by omega] at this
      exact this) ⟨by show rs.length = (plL _ rs).length; rw [plL_length], rfl⟩ (by show _ ≤ ((54 * bb + P.size + lenL (rs.take rs.length) : Nat) : Int); rw [List.take_length]; omega) bb (by show ((54 * bb : Nat) : Int) = 54 * (bb : Int); omega) (by show ((54 * bb : Nat) : Int) ≤ _; omega) (by
      show (((plL _ rs).length - rs.length : Nat) : Int) * 3 ≤ ((54 * bb + P.size + lenL rs : Nat) : Int) - _
      rw [plL_length]
      omega) w h.log
  refine hC.mono fun e w' ⟨he, S', hl, hkp, hs⟩ => ⟨he, S', ?_⟩
  have hcut := mkLg_cut (first := first) (n := n) (bb := bb) (P := P) (rs := rs) (i0 := rs.length) (k := rs.length) (Nat.le_refl _) (Nat.le_refl _)
  rw [List.take_length, List.drop_length, Nat.sub_self] at hcut
  rw [hcut] at hl
  have hdv := h.has.cut (k := rs.length) (Nat.le_refl _) (Nat.le_refl _) n3 (by omega) (by omega)
  rw [List.drop_length, Nat.sub_self] at hdv
  exact ⟨⟨hl, h.dsk.keep hkp (fun j hj hj' => h.dis j hj' hj), hdv, fun j hj hjd => by
    rcases hs j hj with h' | h'
    · exact h.dis j h' hjd
    · have := h.dsk.lt j hjd; omega, (fun x hx => by cases hx), Nat.le_refl _, hPl, hbb, h.soft⟩, hkp, hs⟩
/-- the state of WalWraps -/
structure Ww (w0 w : World) (p dp bb : Nat) (P : ByteArray) (rs : List ByteArray) (i0 : Nat) (S Sd : List Nat) (D : Dev) (av : Value) (L : List (Int × ByteArray)) : Prop where
  ws : Ws w p dp 0 128 bb P rs i0 S Sd D
  all : OwnS w 44 2 av L.length (recV L)
  fs : ∀ k ∈ S, w0.heap.size ≤ k
  fd : ∀ k ∈ Sd, w0.heap.size ≤ k
  fa : ∀ k ∈ blk av, w0.heap.size ≤ k ∧ k ∉ S ∧ k ∉ Sd
  up : D.up
  bel : Below w0.heap.size w0 w
section
variable {w0 w w' : World} {p dp bb : Nat} {P : ByteArray} {rs : List ByteArray} {i0 : Nat} {S Sd : List Nat} {D : Dev} {av : Value} {L : List (Int × ByteArray)}
theorem Ww.later (h : Ww w0 w p dp bb P rs i0 S Sd D av L) (hb : Below w.heap.size w w') : Ww w0 w' p dp bb P rs i0 S Sd D av L :=
  ⟨h.ws.later hb, h.all.keep (Keeps.of_below (fun _ => False) hb) (fun _ _ h => h), h.fs, h.fd, h.fa, h.up, bT h.bel hb⟩
theorem Ww.fresh (h : Ww w0 w p dp bb P rs i0 S Sd D av L) : Ww w0 w p dp bb P rs i0 S Sd D (.slice none 0 0) [] :=
  ⟨h.ws, OwnS.nil _ _ _, h.fs, h.fd, fun k hk => by simp [blk, Value.ownBlock] at hk, h.up, h.bel⟩
theorem Ww.count (h : Ww w0 w p dp bb P rs i0 S Sd D av L) : rs.length ≤ 2304 ∧ lenL rs ≤ 6912 := by
  have h1 := lenL_len h.ws.rok
  have h2 := h.ws.len.2.2
  omega
theorem ww_append (h : Ww w0 w p dp bb P rs i0 S Sd D av L) (r : ByteArray) (hr : r.size ≤ maxLen) :
    Calls Try.prog 13 #[.pointer (some ⟨p, 0, none⟩), .string r] w fun e w' => (∃ c, c ≠ 0 ∧ e = .returned (.tuple #[.int .i64 0, .int .i64 c]) ∧ Ww w0 w' p dp bb P rs i0 S Sd D av L) ∨
      (e = .returned (.tuple #[.int .i64 ((54 * bb + P.size + lenL rs : Nat) : Int), .int .i64 0]) ∧ ∃ S', Ww w0 w' p dp bb P (rs ++ [r]) i0 S' Sd D av L) := by
  refine (ws_append h.ws r hr).mono fun e w' hp => ?_
  rcases hp with ⟨c, hc, he, hb⟩ | ⟨he, S', hw, hk, hs⟩
  · exact .inl ⟨c, hc, he, h.later hb⟩
  · refine .inr ⟨he, S', hw, h.all.keep hk (fun k hk' h' => (h.fa k hk').2.1 h'), fun k hk' => ?_, h.fd, fun k hk' => ⟨(h.fa k hk').1, fun h' => ?_, (h.fa k hk').2.2⟩, h.up, h.bel.trans (hk.belowB h.bel.size h.fs)⟩
    · rcases hs k hk' with h' | h'
      · exact h.fs k h'
      · exact Nat.le_trans h.bel.size h'
    · rcases hs k h' with h2 | h2
      · exact (h.fa k hk').2.1 h2
      · have := h.all.lt hk'; omega
theorem ww_flush (h : Ww w0 w p dp bb P rs i0 S Sd D av L) (hbb : bb ≤ 100000) :
    Calls Try.prog 15 #[.pointer (some ⟨p, 0, none⟩), .int .i64 1099511627776] w fun e w' => e = .returned (.int .i64 0) ∧ ∃ Sd' D', Ww w0 w' p dp bb P rs rs.length S Sd' D' av L := by
  have hc := h.count.2
  have hp := h.ws.pre
  have hle := lenL_take_le rs i0
  refine (ws_flush h.ws 1099511627776 (.inr (by omega))).mono fun e w' ⟨c, i1, Sd', D', he, hw, hk, hs, hc, hup, hdh⟩ => ?_
  have hD' := hup h.up
  rcases hc with ⟨rfl, rfl⟩ | ⟨-, -, hdn⟩
  · refine ⟨he, Sd', D', hw, h.all.keep hk (fun k hk' h' => h'.elim (h.fa k hk').2.1 (h.fa k hk').2.2), h.fs, fun k hk' => ?_, fun k hk' => ⟨(h.fa k hk').1, (h.fa k hk').2.1, fun h' => ?_⟩, hD', h.bel.trans (hk.belowB h.bel.size (fun k hk' => hk'.elim (h.fs k) (h.fd k)))⟩
    · rcases hs k hk' with h' | h'
      · exact h.fd k h'
      · exact Nat.le_trans h.bel.size h'
    · rcases hs k h' with h2 | h2
      · exact (h.fa k hk').2.2 h2
      · have := h.all.lt hk'; omega
  · have := hD'.2
    rw [hdn] at this
    cases this
theorem ww_cut (h : Ww w0 w p dp bb P rs rs.length S Sd D av L) (hbb : 1 ≤ bb ∧ bb ≤ 100000) :
    Calls Try.prog 21 #[.pointer (some ⟨p, 0, none⟩), .int .i64 ((54 * bb + P.size + lenL rs : Nat) : Int)] w fun e w' => e = .returned (.int .i64 0) ∧ ∃ bb' P' S', 1 ≤ bb' ∧ bb' ≤ bb + 130 ∧ 54 * bb' + P'.size = 54 * bb + P.size + lenL rs ∧ Ww w0 w' p dp bb' P' [] 0 S' Sd D av L := by
  have hc := h.count.2
  have hp := h.ws.pre
  have hP := cutP_size bb P rs rs.length
  rw [List.take_length] at hP
  have hB : cutB bb P rs rs.length = (54 * bb + P.size + lenL rs) / 54 := by unfold cutB; rw [List.take_length]
  refine (ws_cut_end h.ws (by omega)).mono fun e w' ⟨he, S', hw, hk, hs⟩ => ⟨he, cutB bb P rs rs.length, cutP bb P rs rs.length, S', by omega, by omega, by omega, hw, h.all.keep hk (fun k hk' h' => (h.fa k hk').2.1 h'), fun k hk' => ?_, h.fd, fun k hk' => ⟨(h.fa k hk').1, fun h' => ?_, (h.fa k hk').2.2⟩, h.up, h.bel.trans (hk.belowB h.bel.size h.fs)⟩
  · rcases hs k hk' with h' | h'
    · exact h.fs k h'
    · exact Nat.le_trans h.bel.size h'
  · rcases hs k h' with h2 | h2
    · exact (h.fa k hk').2.1 h2
    · have := h.all.lt hk'; omega
theorem Ww.push {v' : Value} {x : Int × ByteArray} (h : Ww w0 w p dp bb P rs i0 S Sd D av L) (ho : OwnS w' 44 2 v' (L.length + 1) (recV L ++ [.int .i64 x.1, .string x.2])) (hk : Keeps (· ∈ blk av) w w') (hb : ∀ k ∈ blk v', k ∈ blk av ∨ w.heap.size ≤ k) : Ww w0 w' p dp bb P rs i0 S Sd D v' (L ++ [x]) := by
  have hS : ∀ k ∈ S, k ∉ blk av := fun k hk' h' => (h.fa k h').2.1 hk'
  have hD : ∀ k ∈ Sd, k ∉ blk av := fun k hk' h' => (h.fa k h').2.2 hk'
  refine ⟨⟨h.ws.log.keep hk (fun k hk' h' => hS k hk' h'), h.ws.dsk.keep hk (fun k hk' h' => hD k hk' h'), h.ws.has, h.ws.dis, h.ws.rok, h.ws.le, h.ws.pre, h.ws.bbs, h.ws.soft⟩, ?_, h.fs, h.fd, fun k hk' => ?_, h.up, h.bel.trans (hk.belowB h.bel.size (fun k hk' => (h.fa k hk').1))⟩
  · rw [List.length_append, recV_append]; exact ho
  · rcases hb k hk' with h' | h'
    · exact h.fa k h'
    · exact ⟨Nat.le_trans h.bel.size h', fun h2 => by have := h.ws.log.lt k h2; omega, fun h2 => by have := h.ws.dsk.lt k h2; omega⟩
end
end Go.Proofs.Ytafiojmbaickpaa
