import Derived.Test.YtafiojmbaickpaaWalZ
set_option linter.unusedSimpArgs false
set_option linter.unusedVariables false
namespace Go.Proofs.Ytafiojmbaickpaa
open Go.RowKit

/-- Cut at a record -/
theorem ws_cut {w : World} {p dp first n bb : Nat} {P : ByteArray} {rs : List ByteArray} {i0 k : Nat} {S Sd : List Nat} {D : Dev} (h : Ws w p dp first n bb P rs i0 S Sd D) (hk : k < rs.length) (hk0 : k ≤ i0) (hbb : cutB bb P rs k ≤ 10000000000000000) :
    Calls Try.prog 21 #[.pointer (some ⟨p, 0, none⟩), .int .i64 ((54 * bb + P.size + lenL (rs.take k) : Nat) : Int)] w fun e w' => e = .returned (.int .i64 0) ∧ ∃ S', Ws w' p dp first n (cutB bb P rs k) (cutP bb P rs k) (rs.drop k) (i0 - k) S' Sd D ∧ Keeps (· ∈ S) w w' ∧ ∀ k ∈ S', k ∈ S ∨ w.heap.size ≤ k := by
  obtain ⟨n1, n2, n3⟩ := h.len
  have hb := h.bbs
  have hle := lenL_take_le rs k
  have hlt := lenL_take_mono h.rok hk (Nat.le_refl _)
  rw [List.take_length] at hlt
  have hP := cutP_size bb P rs k
  have hPl : (cutP bb P rs k).size < 54 := by rw [hP]; unfold cutB; omega
  have e2 : lenL rs = lenL (rs.take k) + lenL (rs.drop k) := by
    have := lenL_append (rs.take k) (rs.drop k)
    rwa [List.take_append_drop] at this
  have hdr : RecOk (rs.drop k) := fun x hx => h.rok x (List.mem_of_mem_drop hx)
  have hl3 := lenL_len hdr
  rw [List.length_drop] at hl3
  have hfi : lenL (rs.take k) ≤ lenL (rs.take i0) := by
    have := lenL_take_le (rs.take i0) k
    rwa [List.take_take, Nat.min_eq_left hk0] at this
  have hC := wal_cut_rec p dp (mkLg first n bb P rs i0) S ((54 * bb + P.size + lenL (rs.take k) : Nat) : Int) (plL_sorted h.rok (by omega)) (by omega) k (by
      have := plL_found (p := 54 * bb + P.size) h.rok (k := k) (by omega)
      rw [show ((54 * bb + P.size : Nat) : Int) + lenL (rs.take k) = ((54 * bb + P.size + lenL (rs.take k) : Nat) : Int) by omega] at this
      exact this) ⟨by show k < (plL _ rs).length; rw [plL_length]; exact hk, by
      show ((plL _ rs).getD k (0, ⟨#[]⟩)).1 = _
      rw [plL_get _ _ _ hk]
      show ((54 * bb + P.size : Nat) : Int) + lenL (rs.take k) = _
      omega, by show _ < ((54 * bb + P.size + lenL rs : Nat) : Int); omega⟩ (by show _ ≤ ((54 * bb + P.size + lenL (rs.take i0) : Nat) : Int); omega) bb (by show ((54 * bb : Nat) : Int) = 54 * (bb : Int); omega) (by show ((54 * bb : Nat) : Int) ≤ _; omega) (by
      show (((plL _ rs).length - k : Nat) : Int) * 3 ≤ ((54 * bb + P.size + lenL rs : Nat) : Int) - _
      rw [plL_length]
      omega) w h.log
  refine hC.mono fun e w' ⟨he, S', hl, hkp, hs⟩ => ⟨he, S', ⟨?_, h.dsk.keep hkp (fun j hj hj' => h.dis j hj' hj), h.has.cut hk0 h.le n3 (by omega) (by omega), fun j hj hjd => ?_, hdr, by rw [List.length_drop]; have := h.le; omega, hPl, hbb, h.soft⟩, hkp, hs⟩
  · rw [mkLg_cut hk0 h.le] at hl
    exact hl
  · rcases hs j hj with h' | h'
    · exact h.dis j h' hjd
    · have := h.dsk.lt j hjd; omega
/-- the state of WalCuts: the log, the places and the texts -/
structure Wc (w0 w : World) (p dp : Nat) (rs : List ByteArray) (i0 : Nat) (S Sd : List Nat) (D : Dev) (av sv : Value) (A : List Int) (T : List ByteArray) : Prop where
  ws : Ws w p dp 0 128 1 P0 rs i0 S Sd D
  at_ : OwnS w 3 1 av A.length (A.map fun x => Value.int .i64 x)
  all : OwnS w 9 1 sv T.length (strV T)
  fs : ∀ k ∈ S, w0.heap.size ≤ k
  fd : ∀ k ∈ Sd, w0.heap.size ≤ k
  fa : ∀ k ∈ blk av, w0.heap.size ≤ k ∧ k ∉ S ∧ k ∉ Sd ∧ k ∉ blk sv
  ft : ∀ k ∈ blk sv, w0.heap.size ≤ k ∧ k ∉ S ∧ k ∉ Sd
  bel : Below w0.heap.size w0 w
section
variable {w0 w w' : World} {p dp : Nat} {rs : List ByteArray} {i0 : Nat} {S Sd : List Nat} {D : Dev} {av sv : Value} {A : List Int} {T : List ByteArray}
theorem Wc.later (h : Wc w0 w p dp rs i0 S Sd D av sv A T) (hb : Below w.heap.size w w') : Wc w0 w' p dp rs i0 S Sd D av sv A T :=
  ⟨h.ws.later hb, h.at_.keep (Keeps.of_below (fun _ => False) hb) (fun _ _ h => h), h.all.keep (Keeps.of_below (fun _ => False) hb) (fun _ _ h => h), h.fs, h.fd, h.fa, h.ft, bT h.bel hb⟩
theorem wc_append (h : Wc w0 w p dp rs i0 S Sd D av sv A T) (r : ByteArray) (hr : r.size ≤ maxLen) :
    Calls Try.prog 13 #[.pointer (some ⟨p, 0, none⟩), .string r] w fun e w' => (∃ c, c ≠ 0 ∧ e = .returned (.tuple #[.int .i64 0, .int .i64 c]) ∧ Wc w0 w' p dp rs i0 S Sd D av sv A T) ∨
      (e = .returned (.tuple #[.int .i64 ((54 + lenL rs : Nat) : Int), .int .i64 0]) ∧ ∃ S', Wc w0 w' p dp (rs ++ [r]) i0 S' Sd D av sv A T) := by
  refine (ws_append h.ws r hr).mono fun e w' hp => ?_
  rcases hp with ⟨c, hc, he, hb⟩ | ⟨he, S', hw, hk, hs⟩
  · exact .inl ⟨c, hc, he, h.later hb⟩
  · refine .inr ⟨?_, S', hw, h.at_.keep hk (fun k hk' h' => (h.fa k hk').2.1 h'), h.all.keep hk (fun k hk' h' => (h.ft k hk').2.1 h'), fun k hk' => ?_, h.fd, fun k hk' => ⟨(h.fa k hk').1, fun h' => ?_, (h.fa k hk').2.2⟩, fun k hk' => ⟨(h.ft k hk').1, fun h' => ?_, (h.ft k hk').2.2⟩, h.bel.trans (hk.belowB h.bel.size h.fs)⟩
    · rw [he]
      show Ending.returned (.tuple #[.int .i64 ((54 * 1 + 0 + lenL rs : Nat) : Int), .int .i64 0]) = _
      rw [show 54 * 1 + 0 + lenL rs = 54 + lenL rs by omega]
    · rcases hs k hk' with h' | h'
      · exact h.fs k h'
      · exact Nat.le_trans h.bel.size h'
    · rcases hs k h' with h2 | h2
      · exact (h.fa k hk').2.1 h2
      · have := h.at_.lt hk'; omega
    · rcases hs k h' with h2 | h2
      · exact (h.ft k hk').2.1 h2
      · have := h.all.lt hk'; omega
theorem Wc.pushA {v' : Value} {x : Int} (h : Wc w0 w p dp rs i0 S Sd D av sv A T) (ho : OwnS w' 3 1 v' (A.length + 1) ((A.map fun x => Value.int .i64 x) ++ [.int .i64 x])) (hk : Keeps (· ∈ blk av) w w') (hb : ∀ k ∈ blk v', k ∈ blk av ∨ w.heap.size ≤ k) : Wc w0 w' p dp rs i0 S Sd D v' sv (A ++ [x]) T := by
  refine ⟨⟨h.ws.log.keep hk (fun k hk' h' => (h.fa k h').2.1 hk'), h.ws.dsk.keep hk (fun k hk' h' => (h.fa k h').2.2.1 hk'), h.ws.has, h.ws.dis, h.ws.rok, h.ws.le, h.ws.pre, h.ws.bbs, h.ws.soft⟩, ?_, h.all.keep hk (fun k hk' h' => (h.fa k h').2.2.2 hk'), h.fs, h.fd, fun k hk' => ?_, h.ft, h.bel.trans (hk.belowB h.bel.size (fun k hk' => (h.fa k hk').1))⟩
  · rw [List.length_append, List.map_append]; exact ho
  · rcases hb k hk' with h' | h'
    · exact h.fa k h'
    · exact ⟨Nat.le_trans h.bel.size h', fun h2 => by have := h.ws.log.lt k h2; omega, fun h2 => by have := h.ws.dsk.lt k h2; omega, fun h2 => by have := h.all.lt h2; omega⟩
theorem Wc.pushT {v' : Value} {x : ByteArray} (h : Wc w0 w p dp rs i0 S Sd D av sv A T) (ho : OwnS w' 9 1 v' (T.length + 1) (strV T ++ [.string x])) (hk : Keeps (· ∈ blk sv) w w') (hb : ∀ k ∈ blk v', k ∈ blk sv ∨ w.heap.size ≤ k) : Wc w0 w' p dp rs i0 S Sd D av v' A (T ++ [x]) := by
  refine ⟨⟨h.ws.log.keep hk (fun k hk' h' => (h.ft k h').2.1 hk'), h.ws.dsk.keep hk (fun k hk' h' => (h.ft k h').2.2 hk'), h.ws.has, h.ws.dis, h.ws.rok, h.ws.le, h.ws.pre, h.ws.bbs, h.ws.soft⟩, h.at_.keep hk (fun k hk' h' => (h.fa k hk').2.2.2 h'), ?_, h.fs, h.fd, fun k hk' => ⟨(h.fa k hk').1, (h.fa k hk').2.1, (h.fa k hk').2.2.1, fun h' => ?_⟩, fun k hk' => ?_, h.bel.trans (hk.belowB h.bel.size (fun k hk' => (h.ft k hk').1))⟩
  · rw [List.length_append]; unfold strV at ho ⊢; rw [List.map_append]; exact ho
  · rcases hb k h' with h2 | h2
    · exact (h.fa k hk').2.2.2 h2
    · have := h.at_.lt hk'; omega
  · rcases hb k hk' with h' | h'
    · exact h.ft k h'
    · exact ⟨Nat.le_trans h.bel.size h', fun h2 => by have := h.ws.log.lt k h2; omega, fun h2 => by have := h.ws.dsk.lt k h2; omega⟩
end
end Go.Proofs.Ytafiojmbaickpaa
