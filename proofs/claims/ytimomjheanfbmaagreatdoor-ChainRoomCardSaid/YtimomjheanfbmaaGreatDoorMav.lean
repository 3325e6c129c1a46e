import Derived.Test.YtimomjheanfbmaaGreatDoorMau
import Derived.Test.YtimomjheanfbmaaGreatDoorMad
set_option linter.unusedSimpArgs false
set_option linter.unusedVariables false
namespace Go.Proofs.YtimomjheanfbmaaGreatDoor
open Go.RowKit

theorem wp_up {G : Lg} {D : Dev} {M : Int → Option ByteArray} {k : Nat} (h : D.up) : (G.wp D M k).1.up := by
  induction k with
  | zero => exact h
  | succ k ih =>
    rw [Lg.wp]
    repeat' split
    · exact ih
    · exact ih
    · exact ih
    · exact (up_write_up ih _ _).1
theorem wiped_up {G : Lg} {D : Dev} {M : Int → Option ByteArray} (h : D.up) : (G.wiped D M).1.up := by
  unfold Lg.wiped
  split
  · exact wp_up h
  · exact barrier_up (wp_up h)
theorem wiped_soft {G : Lg} {D : Dev} {M : Int → Option ByteArray} (hn : G.n.toNat ≤ 4096) (h : D.soft = []) (he : (G.wiped D M).1.down = true ∨ (G.wiped D M).1.soft = []) : SoftOk (G.wiped D M).1 := by
  rcases he with he | he
  · refine .inr ⟨he, ?_⟩
    have h1 := wp_soft (G := G) (D := D) (M := M) G.n.toNat
    rw [h] at h1
    simp only [List.length_nil] at h1
    have h2 := barrier_soft (G.wp D M G.n.toNat).1
    unfold Lg.wiped
    split
    all_goals omega
  · exact SoftOk.none he
end Go.Proofs.YtimomjheanfbmaaGreatDoor

namespace Go.Proofs.YtimomjheanfbmaaGreatDoor
open Go.RowKit

/-! ### a log that began at 54, and the list of what was appended -/
def P0 : ByteArray := ⟨#[]⟩
theorem lenL_len : ∀ {rs : List ByteArray}, RecOk rs → rs.length * 3 ≤ lenL rs
  | [], _ => by simp [lenL]
  | r :: rs, h => by
    have h1 := lenL_len (rs := rs) (fun x hx => h x (List.mem_cons_of_mem _ hx))
    have h2 := (h r List.mem_cons_self).1
    rw [lenL, List.length_cons]; omega
structure Wf (w0 w : World) (p dp first : Nat) (rs : List ByteArray) (i0 : Nat) (S Sd : List Nat) (D : Dev) (av : Value) (L : List (Int × ByteArray)) : Prop where
  ws : Ws w p dp first 128 1 P0 rs i0 S Sd D
  all : OwnS w 140 2 av L.length (recV L)
  fs : ∀ k ∈ S, w0.heap.size ≤ k
  fd : ∀ k ∈ Sd, w0.heap.size ≤ k
  fa : ∀ k ∈ blk av, w0.heap.size ≤ k ∧ k ∉ S ∧ k ∉ Sd
  bel : Below w0.heap.size w0 w
section
variable {w0 w w' : World} {p dp first : Nat} {rs : List ByteArray} {i0 : Nat} {S Sd : List Nat} {D : Dev} {av : Value} {L : List (Int × ByteArray)}
theorem Wf.later (h : Wf w0 w p dp first rs i0 S Sd D av L) (hb : Below w.heap.size w w') : Wf w0 w' p dp first rs i0 S Sd D av L :=
  ⟨h.ws.later hb, h.all.keep (Keeps.of_below (fun _ => False) hb) (fun _ _ h => h), h.fs, h.fd, h.fa, bT h.bel hb⟩
theorem Wf.count (h : Wf w0 w p dp first rs i0 S Sd D av L) : rs.length ≤ 2304 ∧ lenL rs ≤ 6912 := by
  have h1 := lenL_len h.ws.rok
  have h2 := h.ws.len.2.2
  have : P0.size = 0 := rfl
  omega
theorem wf_append (h : Wf w0 w p dp first rs i0 S Sd D av L) (r : ByteArray) (hr : r.size ≤ maxLen) :
    Calls Tryz.prog 26 #[.pointer (some ⟨p, 0, none⟩), .string r] w fun e w' => (∃ c, c ≠ 0 ∧ e = .returned (.tuple #[.int .i64 0, .int .i64 c]) ∧ Wf w0 w' p dp first rs i0 S Sd D av L) ∨
      (e = .returned (.tuple #[.int .i64 ((54 + lenL rs : Nat) : Int), .int .i64 0]) ∧ ∃ S', Wf w0 w' p dp first (rs ++ [r]) i0 S' Sd D av L) := by
  refine (ws_append h.ws r hr).mono fun e w' hp => ?_
  rcases hp with ⟨c, hc, he, hb⟩ | ⟨he, S', hw, hk, hs⟩
  · exact .inl ⟨c, hc, he, h.later hb⟩
  · refine .inr ⟨?_, S', hw, h.all.keep hk (fun k hk' h' => (h.fa k hk').2.1 h'), fun k hk' => ?_, h.fd, fun k hk' => ⟨(h.fa k hk').1, fun h' => ?_, (h.fa k hk').2.2⟩, h.bel.trans (hk.belowB h.bel.size h.fs)⟩
    · rw [he]
      show Ending.returned (.tuple #[.int .i64 ((54 * 1 + 0 + lenL rs : Nat) : Int), .int .i64 0]) = _
      rw [show 54 * 1 + 0 + lenL rs = 54 + lenL rs by omega]
    · rcases hs k hk' with h' | h'
      · exact h.fs k h'
      · exact Nat.le_trans h.bel.size h'
    · rcases hs k h' with h2 | h2
      · exact (h.fa k hk').2.1 h2
      · have := h.all.lt hk'; omega
theorem wf_flush (h : Wf w0 w p dp first rs i0 S Sd D av L) (at_ : Int) (hat : i0 = rs.length ∨ ((54 + lenL (rs.take i0) : Nat) : Int) ≤ at_) :
    Calls Tryz.prog 122 #[.pointer (some ⟨p, 0, none⟩), .int .i64 at_] w fun e w' => ∃ c i1 Sd' D', e = .returned (.int .i64 c) ∧ Wf w0 w' p dp first rs i1 S Sd' D' av L ∧ ((c = 0 ∧ i1 = rs.length) ∨ (c = 20 ∧ i1 = i0 ∧ D'.down = true)) ∧ (D.up → D'.up) ∧ DevHas D' first 128 1 (P0 ++ encL rs) (P0.size + lenL (rs.take i0)) := by
  refine (ws_flush h.ws at_ (hat.imp_right (fun hat => by show ((54 * 1 + 0 + lenL (rs.take i0) : Nat) : Int) ≤ at_; omega))).mono fun e w' ⟨c, i1, Sd', D', he, hw, hk, hs, hc, hup, hdh⟩ => ?_
  refine ⟨c, i1, Sd', D', he, ⟨hw, h.all.keep hk (fun k hk' h' => h'.elim (h.fa k hk').2.1 (h.fa k hk').2.2), h.fs, fun k hk' => ?_, fun k hk' => ⟨(h.fa k hk').1, (h.fa k hk').2.1, fun h' => ?_⟩, h.bel.trans (hk.belowB h.bel.size (fun k hk' => hk'.elim (h.fs k) (h.fd k)))⟩, hc, hup, hdh⟩
  · rcases hs k hk' with h' | h'
    · exact h.fd k h'
    · exact Nat.le_trans h.bel.size h'
  · rcases hs k h' with h2 | h2
    · exact (h.fa k hk').2.2 h2
    · have := h.all.lt hk'; omega
theorem Wf.push {v' : Value} {x : Int × ByteArray} (h : Wf w0 w p dp first rs i0 S Sd D av L) (ho : OwnS w' 140 2 v' (L.length + 1) (recV L ++ [.int .i64 x.1, .string x.2])) (hk : Keeps (· ∈ blk av) w w') (hb : ∀ k ∈ blk v', k ∈ blk av ∨ w.heap.size ≤ k) : Wf w0 w' p dp first rs i0 S Sd D v' (L ++ [x]) := by
  have hS : ∀ k ∈ S, k ∉ blk av := fun k hk' h' => (h.fa k h').2.1 hk'
  have hD : ∀ k ∈ Sd, k ∉ blk av := fun k hk' h' => (h.fa k h').2.2 hk'
  refine ⟨⟨h.ws.log.keep hk (fun k hk' h' => hS k hk' h'), h.ws.dsk.keep hk (fun k hk' h' => hD k hk' h'), h.ws.has, h.ws.dis, h.ws.rok, h.ws.le, h.ws.pre, h.ws.bbs, h.ws.soft⟩, ?_, h.fs, h.fd, fun k hk' => ?_, h.bel.trans (hk.belowB h.bel.size (fun k hk' => (h.fa k hk').1))⟩
  · rw [List.length_append, recV_append]; exact ho
  · rcases hb k hk' with h' | h'
    · exact h.fa k h'
    · exact ⟨Nat.le_trans h.bel.size h', fun h2 => by have := h.ws.log.lt k h2; omega, fun h2 => by have := h.ws.dsk.lt k h2; omega⟩
end
theorem new_has (N first : Nat) (h0 : first + 128 ≤ N) (hN : N ≤ 16384) : DevHas (Dev.new N) first 128 1 (P0 ++ encL []) (P0.size + lenL (([] : List ByteArray).take 0)) := by
  have hz : RingP first 128 1 (P0 ++ encL []) (P0.size + lenL (([] : List ByteArray).take 0)) = fun p d => RingP first 128 1 (P0 ++ encL []) 0 p d := rfl
  have hb : ∀ p, RingP first 128 1 (P0 ++ encL []) 0 p (zeros 64) := fun p => ⟨zeros_size 64, fun j _ _ => SecOk.blank (Nat.zero_le _)⟩
  have hg : ∀ p, p < N → (List.replicate N (zeros 64)).getD p ⟨#[]⟩ = zeros 64 := fun p hp => by
    rw [List.getD_eq_getElem?_getD, List.getElem?_replicate, if_pos hp]; rfl
  refine ⟨Dev.new_ok N (by omega) hN, by show _ ≤ (List.replicate N (zeros 64)).length; rw [List.length_replicate]; exact h0, fun p hp => ?_, fun p hp => ?_, fun x hx => by simp [Dev.new] at hx⟩
  · have hp' : p < N := by have : (Dev.new N).firm.length = N := List.length_replicate; omega
    show RingP _ _ _ _ _ p ((List.replicate N (zeros 64)).getD p ⟨#[]⟩)
    rw [hg p hp']
    exact hb p
  · have hp' : p < N := by have : (Dev.new N).seen.length = N := List.length_replicate; omega
    show RingP _ _ _ _ _ p ((List.replicate N (zeros 64)).getD p ⟨#[]⟩)
    rw [hg p hp']
    exact hb p
theorem new_log (first : Nat) : Lg.new first 128 = mkLg first 128 1 P0 [] 0 := rfl
theorem DevHas.crash {D : Dev} {first n bb : Nat} {B : ByteArray} {f : Nat} (h : DevHas D first n bb B f) (ks : List Bool) : DevHas (D.after ks) first n bb B f :=
  ⟨Dev.after_ok h.1 ks, by show _ ≤ (crashTo _ _ _ _).length; rw [crashTo_length]; exact h.2.1, h.2.2.crash ks⟩
theorem DevHas.fuel {D : Dev} {first n bb : Nat} {B : ByteArray} {f : Nat} (h : DevHas D first n bb B f) (m : Int) (hm : DevOk { D with fuel := m }) : DevHas { D with fuel := m } first n bb B f := ⟨hm, h.2.1, h.2.2⟩
theorem pre_law {rs : List ByteArray} {i0 i : Nat} (h1 : i0 ≤ i) (h2 : i ≤ rs.length) : isPre (plL 54 rs) (plL 54 (rs.take i)) (i0 : Int) = true := by
  unfold isPre
  apply decide_eq_true
  rw [plL_length, plL_length, List.length_take, plL_take, Nat.min_eq_left h2]
  exact ⟨by omega, h2, rfl⟩
end Go.Proofs.YtimomjheanfbmaaGreatDoor

namespace Go.Proofs.YtimomjheanfbmaaGreatDoor
open Go.RowKit

set_option maxRecDepth 100000 in
set_option maxHeartbeats 16000000 in
theorem rf_right (P : Pg) (hd : ∀ i, i < 6 → (P.dt i).size ≤ maxLen) (w : World) : Calls Tryz.prog 81 #[pgV P] w fun e w' => (e = .returned (.bool true) ∧ PgOk P ∨ e = .returned (.bool false) ∧ ¬ PgOk P) ∧ Below w.heap.size w w' := by
  have hpc : pgC P = #[.int .i64 P.kind, .int .i64 P.level, .int .i64 P.store, .int .i64 P.next, .int .i64 (P.st 0), .string (P.dt 0), .int .i64 (P.st 1), .string (P.dt 1), .int .i64 (P.st 2), .string (P.dt 2),
  .int .i64 (P.st 3), .string (P.dt 3), .int .i64 (P.st 4), .string (P.dt 4), .int .i64 (P.st 5), .string (P.dt 5)] := rfl
  replace hpc := Lib.hid hpc
  have hpa : Hid (pgA P = #[.int .i64 (P.st 0), .string (P.dt 0), .int .i64 (P.st 1), .string (P.dt 1), .int .i64 (P.st 2), .string (P.dt 2), .int .i64 (P.st 3), .string (P.dt 3), .int .i64 (P.st 4), .string (P.dt 4), .int .i64 (P.st 5), .string (P.dt 5)]) := rfl
  have HQ : Hid ((w.alloc (.cells (pgC P) 49)).heap[w.heap.size]? = some (.cells (pgC P) 49 (0, 0))) := hN rfl
  unfold pgV
  rw [hpc.out]
  by_cases hh : HdOk P
  rotate_left
  · have hbad := Lib.hid (not_hd hh)
    rcases hd_cases hh with h | ⟨h1, h⟩ | ⟨h1, h2, h⟩ | ⟨h1, h2, h3, h⟩ | ⟨h1, h2, h3, h4, h⟩ | ⟨h1, h2, h3, h4, h5, h⟩ | ⟨h1, h2, h3, h4, h5, h6, h⟩ | ⟨h1, h2, h3, h4, h5, h6, h7, h⟩
    all_goals
      clear hh HQ hpa hpc
      go_enter Tryz.func81, Tryz.ntmps81
      go_wp2_with fail
      go_ret
      exact ⟨.inr ⟨rfl, hbad.out⟩, bA bR⟩
  obtain ⟨h1, h2, h3, h4, h5, h6, h7, h8⟩ := hh
  have hH : Hid (HdOk P) := ⟨h1, h2, h3, h4, h5, h6, h7, h8⟩
  go_enter Tryz.func81, Tryz.ntmps81
  go_wp2_with fail
  clear h1 h2 h3 h4 h5 h6 h7 h8
  rw [← hpc.out]
  try rw [← hpa.out]
  clear hpc hpa
  go_loopw [3] (fun i wr => ∃ (k : Nat), k ≤ 6 ∧ i = .int .i64 k ∧ Hid (∀ j, j < k → ClOk (P.st j) (P.dt j)) ∧ Hid (wr.heap[w.heap.size]? = some (.cells (pgC P) 49 (0, 0))) ∧ Hid (Below w.heap.size w wr)) (fun i _ => 6 - (intOf i).toNat)
  case atStart => exact ⟨0, by omega, rfl, fun j h => by omega, HQ, bA bR⟩
  case round =>
    obtain ⟨k, hk, rfl, hstep, HQ, HBr⟩ := hrel
    by_cases hk6 : k < 6
    rotate_left
    · obtain rfl : k = 6 := by omega
      go_wp2_with fail
      go_ret
      exact ⟨.inl ⟨rfl, hH.out, hstep.out⟩, HBr.out⟩
    have hix := run_index_pg P k hk6
    obtain ⟨c0, c1⟩ := pg_at HQ.out k hk6
    have hqr := block_lt HQ.out
    obtain ⟨s, es⟩ : ∃ s, P.st k = s := ⟨_, rfl⟩
    obtain ⟨d, ed⟩ : ∃ d, P.dt k = d := ⟨_, rfl⟩
    have hdz : d.size ≤ maxLen := ed ▸ hd k hk6
    unfold maxLen at hdz
    have hiff := Lib.hid (cl_more hstep.out (k := k))
    have hno := Lib.hid (not_cl (P := P) hk6)
    rw [es, ed] at hix hiff hno
    rw [es] at c0
    rw [ed] at c1
    replace es := Lib.hid es
    replace ed := Lib.hid ed
    have hk6' : (k : Int) < 6 := by omega
    by_cases hc : ClOk s d
    · have hcl := Lib.hid (hiff.out hc)
      obtain ⟨h1, h2, h3, h4⟩ := hc
      by_cases e : s = 0
      · subst e
        obtain rfl := str_none (h4 rfl)
        clear hiff hno h1 h2 h3 h4 hdz
        go_wp2_with fail
        go_roundw
        case rel => exact ⟨k + 1, by omega, rfl, hcl.out, hO HQ.out, bA HBr.out⟩
        case measure => simp [intOf]; omega
      · have e' : (s == 0) = false := by simpa using e
        clear hiff hno h4
        go_wp2_with fail
        go_roundw
        case rel => exact ⟨k + 1, by omega, rfl, hcl.out, hO HQ.out, bA HBr.out⟩
        case measure => simp [intOf]; omega
    · have hbad := Lib.hid (hno.out hc)
      rcases cl_cases hc with h | ⟨h1, h⟩ | ⟨h1, h2, h⟩ | ⟨h1, h2, h⟩
      · clear hc hiff hno hstep
        go_wp2_with fail
        go_ret
        exact ⟨.inr ⟨rfl, hbad.out⟩, bA HBr.out⟩
      · clear hc hiff hno hstep
        go_wp2_with fail
        go_ret
        exact ⟨.inr ⟨rfl, hbad.out⟩, bA HBr.out⟩
      · clear hc hiff hno hstep
        go_wp2_with fail
        go_ret
        exact ⟨.inr ⟨rfl, hbad.out⟩, bA HBr.out⟩
      · subst h1
        obtain ⟨n1, n2⟩ := str_some h
        clear hc hiff hno hstep
        go_wp2_with fail
        go_ret
        exact ⟨.inr ⟨rfl, hbad.out⟩, bA HBr.out⟩
end Go.Proofs.YtimomjheanfbmaaGreatDoor
