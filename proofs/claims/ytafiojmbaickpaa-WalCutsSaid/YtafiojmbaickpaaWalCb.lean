import Derived.Test.YtafiojmbaickpaaWalCa
set_option linter.unusedSimpArgs false
set_option linter.unusedVariables false
namespace Go.Proofs.Ytafiojmbaickpaa
open Go.RowKit

section
variable {w0 w w' : World} {p dp : Nat} {rs : List ByteArray} {i0 : Nat} {S Sd : List Nat} {D : Dev} {av sv : Value} {A : List Int} {T : List ByteArray}
theorem wc_flush (h : Wc w0 w p dp rs i0 S Sd D av sv A T) (hD : D.up) (at_ : Int) (hat : i0 = rs.length ∨ ((54 + lenL (rs.take i0) : Nat) : Int) ≤ at_) :
    Calls Try.prog 15 #[.pointer (some ⟨p, 0, none⟩), .int .i64 at_] w fun e w' => ∃ Sd' D', e = .returned (.int .i64 0) ∧ Wc w0 w' p dp rs rs.length S Sd' D' av sv A T ∧ D'.up := by
  refine (ws_flush h.ws at_ (hat.imp_right (fun hat => by show ((54 * 1 + 0 + lenL (rs.take i0) : Nat) : Int) ≤ at_; omega))).mono fun e w' ⟨c, i1, Sd', D', he, hw, hk, hs, hc, hup, hdh⟩ => ?_
  have hD' := hup hD
  rcases hc with ⟨rfl, rfl⟩ | ⟨-, -, hdn⟩
  · refine ⟨Sd', D', he, ⟨hw, h.at_.keep hk (fun k hk' h' => h'.elim (h.fa k hk').2.1 (h.fa k hk').2.2.1), h.all.keep hk (fun k hk' h' => h'.elim (h.ft k hk').2.1 (h.ft k hk').2.2), h.fs, fun k hk' => ?_, fun k hk' => ⟨(h.fa k hk').1, (h.fa k hk').2.1, fun h' => ?_, (h.fa k hk').2.2.2⟩, fun k hk' => ⟨(h.ft k hk').1, (h.ft k hk').2.1, fun h' => ?_⟩, h.bel.trans (hk.belowB h.bel.size (fun k hk' => hk'.elim (h.fs k) (h.fd k)))⟩, hD'⟩
    · rcases hs k hk' with h' | h'
      · exact h.fd k h'
      · exact Nat.le_trans h.bel.size h'
    · rcases hs k h' with h2 | h2
      · exact (h.fa k hk').2.2.1 h2
      · have := h.at_.lt hk'; omega
    · rcases hs k h' with h2 | h2
      · exact (h.ft k hk').2.2 h2
      · have := h.all.lt hk'; omega
  · have := hD'.2
    rw [hdn] at this
    cases this
theorem Wc.atc {aa : Option Addr} {N ac : Nat} (h : Wc w0 w p dp rs i0 S Sd D (.slice aa N ac) sv A T) (hA : A = (plL 54 rs).map Prod.fst) (j : Nat) (hj : j < rs.length) : ∃ g, aa = some ⟨g, 0, none⟩ ∧ w.cell? ⟨g, j, none⟩ = some (.int .i64 ((54 + lenL (rs.take j) : Nat) : Int)) := by
  have hl : A.length = rs.length := by rw [hA, List.length_map, plL_length]
  obtain ⟨g, c, he⟩ := h.at_.has (by omega)
  obtain ⟨rfl, -, rfl⟩ : aa = some ⟨g, 0, none⟩ ∧ N = A.length ∧ ac = c := by simpa using he
  refine ⟨g, rfl, ?_⟩
  have hx : (A.map fun x => Value.int .i64 x)[j]? = some (.int .i64 ((54 + lenL (rs.take j) : Nat) : Int)) := by
    rw [hA, List.getElem?_map, List.getElem?_map, List.getElem?_eq_getElem (by rw [plL_length]; exact hj)]
    have := plL_get 54 rs j hj
    rw [List.getD_eq_getElem?_getD, List.getElem?_eq_getElem (by rw [plL_length]; exact hj), Option.getD_some] at this
    rw [this]
    simp
  have := World.ownsRow.cells h.at_ (g := g) rfl j _ hx
  rwa [Addr.add_mid, Nat.zero_add] at this
theorem Wc.allc {sa : Option Addr} {N sc : Nat} (h : Wc w0 w p dp rs i0 S Sd D av (.slice sa N sc) A T) (j : Nat) (hj : j < T.length) : ∃ g, sa = some ⟨g, 0, none⟩ ∧ w.cell? ⟨g, j, none⟩ = some (.string (T.getD j ⟨#[]⟩)) := by
  obtain ⟨g, c, he⟩ := h.all.has (by omega)
  obtain ⟨rfl, -, rfl⟩ : sa = some ⟨g, 0, none⟩ ∧ N = T.length ∧ sc = c := by simpa using he
  refine ⟨g, rfl, ?_⟩
  have hx : (strV T)[j]? = some (.string (T.getD j ⟨#[]⟩)) := by
    unfold strV
    rw [List.getElem?_map, List.getElem?_eq_getElem hj, List.getD_eq_getElem?_getD, List.getElem?_eq_getElem hj]
    rfl
  have := World.ownsRow.cells h.all (g := g) rfl j _ hx
  rwa [Addr.add_mid, Nat.zero_add] at this
end
theorem own_cell {w : World} {e : TypeId} {g N c n : Nat} {xs : List Value} (h : OwnS w e 1 (.slice (some ⟨g, 0, none⟩) N c) n xs) {j : Nat} {u : Value} (hx : xs[j]? = some u) : w.cell? ⟨g, j, none⟩ = some u := by
  have := World.ownsRow.cells h (g := g) rfl j u hx
  rwa [Addr.add_mid, Nat.zero_add] at this
theorem pos_mod (x : Int) (N : Nat) (hN : 0 < N) (hb : N ≤ 100000) : ∃ a : Nat, (wrap64 (x.tmod N + N)).tmod N = (a : Int) ∧ a < N := by
  have h1 : -(N : Int) < x.tmod N ∧ x.tmod N < N := ⟨Int.lt_tmod_of_pos x (by omega), Int.tmod_lt_of_pos x (by omega)⟩
  have h2 : wrap64 (x.tmod N + N) = x.tmod N + N := by unfold wrap64; omega
  rw [h2, Int.tmod_eq_emod_of_nonneg (by omega)]
  have h3 := Int.emod_nonneg (x.tmod N + N) (show (N : Int) ≠ 0 by omega)
  have h4 := Int.emod_lt_of_pos (x.tmod N + N) (show (0 : Int) < N by omega)
  exact ⟨((x.tmod N + N) % N).toNat, by omega, by omega⟩
/-- behind the cut -/
structure Wd (w0 w : World) (p dp bb : Nat) (P : ByteArray) (rs : List ByteArray) (i0 : Nat) (S Sd : List Nat) (D : Dev) (av sv : Value) (A : List Int) (T : List ByteArray) : Prop where
  ws : Ws w p dp 0 128 bb P rs i0 S Sd D
  at_ : OwnS w 3 1 av A.length (A.map fun x => Value.int .i64 x)
  all : OwnS w 9 1 sv T.length (strV T)
  fd : ∀ k ∈ Sd, w0.heap.size ≤ k
  fa : ∀ k ∈ blk av, k ∉ Sd
  bel : Below w0.heap.size w0 w
section
variable {w0 w w' : World} {p dp : Nat} {rs : List ByteArray} {i0 : Nat} {S Sd : List Nat} {D : Dev} {av sv : Value} {A : List Int} {T : List ByteArray}
theorem Wd.later {bb : Nat} {P : ByteArray} (h : Wd w0 w p dp bb P rs i0 S Sd D av sv A T) (hb : Below w.heap.size w w') : Wd w0 w' p dp bb P rs i0 S Sd D av sv A T :=
  ⟨h.ws.later hb, h.at_.keep (Keeps.of_below (fun _ => False) hb) (fun _ _ h => h), h.all.keep (Keeps.of_below (fun _ => False) hb) (fun _ _ h => h), h.fd, h.fa, bT h.bel hb⟩
theorem wc_cut (h : Wc w0 w p dp rs rs.length S Sd D av sv A T) (k : Nat) (hk : k < rs.length) :
    Calls Try.prog 21 #[.pointer (some ⟨p, 0, none⟩), .int .i64 ((54 + lenL (rs.take k) : Nat) : Int)] w fun e w' => e = .returned (.int .i64 0) ∧ ∃ S', Wd w0 w' p dp (cutB 1 P0 rs k) (cutP 1 P0 rs k) (rs.drop k) (rs.length - k) S' Sd D av sv A T := by
  have hl : lenL rs ≤ 6912 := by have h2 := h.ws.len.2.2; have : P0.size = 0 := rfl; omega
  have hle := lenL_take_le rs k
  refine (ws_cut h.ws hk (by omega) (by unfold cutB; have : P0.size = 0 := rfl; omega)).mono fun e w' ⟨he, S', hw, hkp, hs⟩ => ⟨he, S', hw, h.at_.keep hkp (fun j hj h' => (h.fa j hj).2.1 h'), h.all.keep hkp (fun j hj h' => (h.ft j hj).2.1 h'), h.fd, fun j hj => (h.fa j hj).2.2.1, h.bel.trans (hkp.belowB h.bel.size h.fs)⟩
theorem wd_read {bb : Nat} {P : ByteArray} {R : List ByteArray} {k : Nat} (h : Wd w0 w p dp bb P (R.drop k) i0 S Sd D av sv A T) (hR : RecOk R) (hst : 54 * bb + P.size = 54 + lenL (R.take k)) (hlen : lenL R ≤ 6912) (j : Nat) (hj : j < R.length) (hk : k < R.length) :
    Calls Try.prog 22 #[.pointer (some ⟨p, 0, none⟩), .int .i64 ((54 + lenL (R.take j) : Nat) : Int)] w fun e w' => Wd w0 w' p dp bb P (R.drop k) i0 S Sd D av sv A T ∧ ((j < k ∧ e = .returned (.tuple #[.string ⟨#[]⟩, .int .i64 150])) ∨ (k ≤ j ∧ e = .returned (.tuple #[.string (R.getD j ⟨#[]⟩), .int .i64 0]))) := by
  have hle := lenL_take_le R j
  have hle2 := lenL_take_le R k
  have hdr := h.ws.rok
  have hdl : lenL (R.drop k) ≤ 6912 := by
    have := lenL_append (R.take k) (R.drop k)
    rw [List.take_append_drop] at this
    omega
  have hs := plL_sorted (p := 54 * bb + P.size) hdr (by omega)
  refine (wal_read p dp _ S _ hs (by omega) w h.ws.log).mono fun e w' ⟨i, hf, hb, hr⟩ => ⟨h.later hb, ?_⟩
  have hlist : (mkLg 0 128 bb P (R.drop k) i0).list = plL ((54 * bb + P.size : Nat) : Int) (R.drop k) := rfl
  rw [hlist] at hf hr
  by_cases hjk : j < k
  · refine .inl ⟨hjk, ?_⟩
    have hlt := lenL_take_mono hR hjk (by omega)
    rcases hr with ⟨h1, h2, -⟩ | ⟨-, h3⟩
    · rw [plL_length] at h1
      rw [plL_get _ _ _ h1] at h2
      dsimp only at h2
      omega
    · exact h3
  · refine .inr ⟨by omega, ?_⟩
    have hsum : lenL (R.take j) = lenL (R.take k) + lenL ((R.drop k).take (j - k)) := by
      have := lenL_append (R.take k) ((R.drop k).take (j - k))
      rw [← this, ← List.take_add, show k + (j - k) = j by omega]
    have hf2 := plL_found (p := 54 * bb + P.size) hdr (k := j - k) (by rw [List.length_drop]; omega)
    rw [show ((54 * bb + P.size : Nat) : Int) + lenL ((R.drop k).take (j - k)) = ((54 + lenL (R.take j) : Nat) : Int) by omega] at hf2
    obtain rfl := hf.uniq hf2
    have hjl : j - k < (R.drop k).length := by rw [List.length_drop]; omega
    rcases hr with ⟨h1, h2, h3⟩ | ⟨h3, -⟩
    · rw [plL_get _ _ _ hjl] at h3
      rw [h3]
      dsimp only
      rw [List.getD_eq_getElem?_getD, List.getElem?_drop, show k + (j - k) = j by omega, ← List.getD_eq_getElem?_getD]
    · exact absurd ⟨by rw [plL_length]; exact hjl, by rw [plL_get _ _ _ hjl]; dsimp only; omega⟩ h3
end
theorem Try.info_in : (Try.prog.info? 3).map (fun i => (i.zero, i.size, i.bytes)) = some (some (.int .i64 0), 1, 8) := by kernel_rfl
set_option maxRecDepth 100000 in
set_option maxHeartbeats 3200000 in
theorem walCuts_walk (v0 : Value) (ss : List ByteArray) (nn : Int) (hnn : -9223372036854775808 ≤ nn ∧ nn ≤ 9223372036854775807) (w : World) (h : StrSl w v0 ss) :
    Calls Try.prog 7 #[v0, .int .i64 nn] w fun e w' => e = .returned (.bool true) ∧ Below w.heap.size w w' := by
  obtain ⟨ad, cc, rfl, hml⟩ := h.form
  have HX := Lib.hid h
  have HA := Lib.hid (awake07 w)
  obtain ⟨m, hm⟩ : ∃ m, ss.length = m := ⟨_, rfl⟩
  rw [hm] at hml HX ⊢
  replace hm := Lib.hid hm
  unfold maxLen at hml
  clear h
  have HN := Lib.hid (fun w1 => dsk_new 128 (by omega) (by omega) w1)
  rw [show ((128 : Nat) : Int) = 128 from rfl] at HN
  go_enter Try.func7, Try.ntmps7
  go_wp2_with fail
  refine (HA.out).mono ?_
  rintro e w0 ⟨rfl, hb⟩
  have HB0 := Lib.hid hb
  clear hb HA
  go_wp2_with fail
  refine (HN.out w0).mono ?_
  rintro e w1 ⟨dp, Sd, rfl, hd, hb, hS⟩
  have HC := Lib.hid (wal_create0 dp 128 Sd (by omega) (by omega) w1 hd)
  have HB1 := Lib.hid (bT HB0.out hb)
  have hS : Hid (∀ k ∈ Sd, w.heap.size ≤ k) := fun k hk => Nat.le_trans HB0.out.size (hS k hk)
  clear hb hd HN HB0
  go_wp2_with fail
  refine (HC.out).mono ?_
  rintro e w2 ⟨p, S, Sd2, rfl, hl, hd, hk, hS2, hSd2⟩
  have HW2 : Hid (Wc w w2 p dp [] 0 S Sd2 (Dev.new 128) (.slice none 0 0) (.slice none 0 0) [] []) :=
    ⟨⟨hl, hd, new_has 128 0 (by omega) (by omega), fun k hk => (hS2 k hk).2, (fun x hx => by cases hx), Nat.le_refl _, by decide, by decide, .inl rfl⟩, OwnS.nil _ _ _, OwnS.nil _ _ _, fun k hk => Nat.le_trans HB1.out.size (hS2 k hk).1, fun k hk => (hSd2 k hk).elim (hS.out k) (fun h => Nat.le_trans HB1.out.size h), fun k hk => by simp [blk, Value.ownBlock] at hk, fun k hk => by simp [blk, Value.ownBlock] at hk, HB1.out.trans (hk.belowB HB1.out.size hS.out)⟩
  clear hl hd hk hS2 hSd2 HC HB1 hS
  go_wp2_with fail
  obtain ⟨i0, hi, hi0, hi1, hi2⟩ := info_parts Try.info_in
  obtain ⟨j0, hj, hj0, hj1, hj2⟩ := info_parts Try.info_st
  go_loopw [9, 10, 37] (fun av sv s wr => ∃ (i : Nat) (rs : List ByteArray) (S' : List Nat) (A : List Int), i ≤ m ∧ s = .int .i64 i ∧ Hid (A = (plL 54 rs).map Prod.fst) ∧ Hid (Wc w wr p dp rs 0 S' Sd2 (Dev.new 128) av sv A rs)) (fun _ _ s _ => m - (intOf s).toNat)
  case atStart => exact ⟨0, [], S, [], by omega, rfl, rfl, HW2⟩
  case round =>
    clear HW2
    obtain ⟨i, rs, S', A, him, rfl, hAe, HW⟩ := hrel
    by_cases hil : i < m
    · have hi' : (i : Int) < m := by omega
      have hi0' : (0 : Int) ≤ i := by omega
      have wri : IntKind.i64.wrap ((i : Int) + 1) = (i : Int) + 1 := by rw [IntKind.wrap_i64]; omega
      obtain ⟨b, off, rfl, hbl, c0, hrs⟩ := HX.out.at HW.out.bel i (by rw [hm.out]; exact hil)
      generalize ss.getD i ⟨#[]⟩ = rec at c0 hrs
      have HAp := Lib.hid (wc_append HW.out rec hrs)
      have hcnt : Hid (rs.length ≤ 2304) := by
        have h1 := lenL_len HW.out.ws.rok
        have h2 := HW.out.ws.len.2.2
        have : P0.size = 0 := rfl
        show _ ≤ _
        omega
      have hAl : Hid (A.length = rs.length) := by show _ = _; rw [hAe.out, List.length_map, plL_length]
      obtain ⟨X, hX⟩ : ∃ X : Nat, 54 + lenL rs = X := ⟨_, rfl⟩
      rw [hX] at HAp
      replace hX := Lib.hid hX
      go_wp2_with fail
      refine (HAp.out).mono ?_
      rintro e w5 (⟨c, hc, rfl, hw⟩ | ⟨rfl, S5, hw⟩)
      · have HW5 := Lib.hid hw
        have b1 : (c == 0) = false := by simpa using hc
        clear hw HAp HW c0
        replace hc := Lib.hid hc
        go_wp2_with fail
        go_roundw
        case rel => exact ⟨i + 1, rs, S', A, hil, rfl, hAe, HW5⟩
        case measure => simp [intOf]; omega
      · have HW5 := Lib.hid (hw.later (bA (o := .cells #[.int .i64 (X : Int)] 3) bR))
        clear hw HAp HW c0
        go_wp2_with (first
          | (at_builtin; refine wpList_append_frame _ rfl _ _ 37 rfl 3 i0 (.int .i64 0) 1 8 Try.underlying37 hi hi0 hi1 hi2 rfl (by decide) _ _ _ rfl HW5.out.at_ ⟨w5.heap.size, 0, none⟩ 1 1 [.int .i64 (X : Int)] rfl rfl (cell_one_at _ _ _ _ _ (by simp)) (by simp [Value.oneCell']) (by unfold maxLen; have := hcnt.out; have := hAl.out; omega) (by have := hcnt.out; have := hAl.out; omega) ?_; intro v9 w9 ho9 hk9 hb9 hn9; (have HW6 := Lib.hid ((HW5.out.pushA (x := (X : Int)) ho9 hk9 hb9).later (bA (o := .cells #[.string rec] 9) bR))); clear ho9 hk9 hb9 hn9)
          | (at_builtin; refine wpList_append_frame _ rfl _ _ 22 rfl 9 j0 (.string .empty) 1 16 Try.underlying22 hj hj0 hj1 hj2 rfl (by decide) _ _ _ rfl HW6.out.all ⟨w9.heap.size, 0, none⟩ 1 1 [.string rec] rfl rfl (cell_one_at _ _ _ _ _ (by simp)) (by simp [Value.oneCell']) (by unfold maxLen; have := hcnt.out; omega) (by have := hcnt.out; omega) ?_; intro va wa hoa hka hba hna; (have HW7 := Lib.hid (HW6.out.pushT (x := rec) hoa hka hba)); clear hoa hka hba hna))
        go_roundw
        case rel => exact ⟨i + 1, rs ++ [rec], S5, A ++ [(X : Int)], hil, rfl, (show _ = _ from by rw [plL_append, List.map_append, ← hAe.out, ← hX.out, plL, plL]; simp), HW7⟩
        case measure => simp [intOf]; omega
    · obtain rfl : i = m := by omega
      have hi' : ¬ (i : Int) < i := by omega
      obtain ⟨aa, ac, he1, hac⟩ := HW.out.at_.cap
      obtain ⟨sa, sc, he2, hsc⟩ := HW.out.all.cap
      subst he1 he2
      have hAl : A.length = rs.length := by rw [hAe.out, List.length_map, plL_length]
      rw [hAl] at hac ⊢
      have hcnt : rs.length ≤ 2304 := by
        have h1 := lenL_len HW.out.ws.rok
        have h2 := HW.out.ws.len.2.2
        have : P0.size = 0 := rfl
        omega
      obtain ⟨N, hN⟩ : ∃ N, rs.length = N := ⟨_, rfl⟩
      rw [hN] at hcnt hac hsc ⊢
      rw [hAl, hN] at HW
      replace hN := Lib.hid hN
      replace hAl := Lib.hid hAl
      by_cases hN0 : N = 0
      · subst hN0
        go_wp2_with fail
        go_ret
        exact ⟨rfl, HW.out.bel⟩
      · have hNI : ¬ (N : Int) = 0 := by omega
        have hNb : ((N : Int) == 0) = false := by simpa using hN0
        obtain ⟨g, rfl, cL⟩ := HW.out.atc hAe.out (N - 1) (by rw [hN.out]; omega)
        have hN1 : IntKind.i64.wrap ((N : Int) - 1) = ((N - 1 : Nat) : Int) := by rw [IntKind.wrap_i64]; omega
        obtain ⟨M, hM⟩ : ∃ M, N - 1 = M := ⟨_, rfl⟩
        rw [hM] at cL hN1
        have hMI : (M : Int) < N := by omega
        have hM0 : (0 : Int) ≤ M := by omega
        have HFx := Lib.hid (wc_flush HW.out (up_new 128) ((54 + lenL (rs.take M) : Nat) : Int) (.inr (by rw [List.take_zero]; simp [lenL]; omega)))
        generalize ((54 + lenL (rs.take M) : Nat) : Int) = LA at cL HFx
        obtain ⟨nm, hnm, hnl⟩ := pos_mod nn N (by omega) (by omega)
        have hnz : ¬ (N : Int) = 0 := by omega
        replace hN0 := Lib.hid hN0
        replace hM := Lib.hid hM
        replace hnm := Lib.hid hnm
        clear HW
        go_wp2_with fail
        refine (HFx.out).mono ?_
        rintro e w3 ⟨Sd3, D3, rfl, hw, hD3⟩
        have HW3 := Lib.hid hw
        have HRm := Lib.hid (wal_room p dp _ S' w3 hw.ws.log)
        clear hw HFx cL
        go_wp2_with fail
        rw [hnm.out]
        refine (HRm.out).mono ?_
        rintro e w4 ⟨rfl, hb⟩
        have HW4 := Lib.hid (HW3.out.later hb)
        obtain ⟨R0, hR0⟩ : ∃ R0, (mkLg 0 128 1 P0 rs rs.length).room = R0 := ⟨_, rfl⟩
        rw [hR0]
        obtain ⟨g', hg', cK⟩ := HW4.out.atc hAe.out nm (by rw [hN.out]; exact hnl)
        obtain rfl : g = g' := by simpa using hg'
        have HCt := Lib.hid (wc_cut HW4.out nm (by rw [hN.out]; exact hnl))
        have hnI : (nm : Int) < N := by omega
        have hnI0 : (0 : Int) ≤ nm := by omega
        have hrok := Lib.hid HW4.out.ws.rok
        have hlen : Hid (lenL rs ≤ 6912) := by have h2 := HW4.out.ws.len.2.2; have : P0.size = 0 := rfl; show _ ≤ _; omega
        obtain ⟨LK, hLK⟩ : ∃ LK, ((54 + lenL (rs.take nm) : Nat) : Int) = LK := ⟨_, rfl⟩
        rw [hLK] at HCt cK
        replace hR0 := Lib.hid hR0
        replace hLK := Lib.hid hLK
        replace hnl := Lib.hid hnl
        clear hb HRm HW3
        go_wp2_with fail
        refine (HCt.out).mono ?_
        rintro e w5 ⟨rfl, S5, hw⟩
        have HW5 := Lib.hid hw
        have HRm := Lib.hid (wal_room p dp _ S5 w5 hw.ws.log)
        clear hw HCt HW4 cK
        have hroom : ¬ (mkLg 0 128 (cutB 1 P0 rs nm) (cutP 1 P0 rs nm) (rs.drop nm) (rs.length - nm)).room < R0 := by
          rw [← hR0.out]
          unfold Lg.room mkLg
          dsimp only
          have h1 := cutP_size 1 P0 rs nm
          have h2 : P0.size = 0 := rfl
          have h3 := lenL_append (rs.take nm) (rs.drop nm)
          rw [List.take_append_drop] at h3
          unfold cutB at h1 ⊢
          omega
        generalize (mkLg 0 128 (cutB 1 P0 rs nm) (cutP 1 P0 rs nm) (rs.drop nm) (rs.length - nm)).room = R1 at *
        go_wp2_with fail
        refine (HRm.out).mono ?_
        rintro e w6 ⟨rfl, hb⟩
        have HW6 := Lib.hid (HW5.out.later hb)
        clear hb HRm HW5
        go_wp2_with fail
        obtain ⟨g2, rfl, -⟩ : ∃ g2, sa = some ⟨g2, 0, none⟩ ∧ True := by
          obtain ⟨g2, c2, he⟩ := HW6.out.all.has (by rw [hN.out]; have := hN0.out; omega)
          simp only [Value.slice.injEq] at he
          exact ⟨g2, he.1, trivial⟩
        have hAg : Hid (∀ j, j < N → (A.map fun x => Value.int .i64 x)[j]? = some (.int .i64 ((54 + lenL (rs.take j) : Nat) : Int))) := fun j hj => by
          rw [hAe.out, List.getElem?_map, List.getElem?_map, List.getElem?_eq_getElem (by rw [plL_length, hN.out]; exact hj)]
          have := plL_get 54 rs j (by rw [hN.out]; exact hj)
          rw [List.getD_eq_getElem?_getD, List.getElem?_eq_getElem (by rw [plL_length, hN.out]; exact hj), Option.getD_some] at this
          rw [this]
          simp
        have hTg : Hid (∀ j, j < N → (strV rs)[j]? = some (.string (rs.getD j ⟨#[]⟩))) := fun j hj => by
          unfold strV
          rw [List.getElem?_map, List.getElem?_eq_getElem (by rw [hN.out]; exact hj), List.getD_eq_getElem?_getD, List.getElem?_eq_getElem (by rw [hN.out]; exact hj)]
          rfl
        have hst : Hid (54 * cutB 1 P0 rs nm + (cutP 1 P0 rs nm).size = 54 + lenL (rs.take nm)) := by
          have h1 := cutP_size 1 P0 rs nm
          have h2 : P0.size = 0 := rfl
          show _ = _
          unfold cutB at h1 ⊢
          omega
        clear hroom
        go_loopw [102] (fun s wr => ∃ i : Nat, i ≤ N ∧ s = .int .i64 (i : Int) ∧ Hid (Wd w wr p dp (cutB 1 P0 rs nm) (cutP 1 P0 rs nm) (rs.drop nm) (rs.length - nm) S5 Sd3 D3 (.slice (some ⟨g, 0, none⟩) N ac) (.slice (some ⟨g2, 0, none⟩) N sc) A rs)) (fun s _ => N - (intOf s).toNat)
        case atStart => exact ⟨0, by omega, rfl, HW6⟩
        case round =>
          clear HW6
          obtain ⟨q, hq, rfl, HW⟩ := hrel
          by_cases hqN : q < N
          · have hqI : (q : Int) < N := by omega
            have hq0 : (0 : Int) ≤ q := by omega
            have wrq : IntKind.i64.wrap ((q : Int) + 1) = (q : Int) + 1 := by rw [IntKind.wrap_i64]; omega
            have c1 := own_cell HW.out.at_ (hAg.out q hqN)
            have HRd := Lib.hid (wd_read HW.out hrok.out hst.out hlen.out q (by rw [hN.out]; exact hqN) (by rw [hN.out]; exact hnl.out))
            generalize ((54 + lenL (rs.take q) : Nat) : Int) = LQ at c1 HRd
            have hTq := Lib.hid (hTg.out q hqN)
            generalize rs.getD q ⟨#[]⟩ = X at HRd hTq
            replace hqN := Lib.hid hqN
            go_wp2_with fail
            refine (HRd.out).mono ?_
            rintro e w7 ⟨hw, ⟨hlt, rfl⟩ | ⟨hge, rfl⟩⟩
            · have HW7 := Lib.hid hw
              have hI : (q : Int) < nm := by omega
              clear hw HRd HW c1
              go_wp2_with fail
              go_roundw
              case rel => exact ⟨q + 1, hqN.out, rfl, HW7⟩
              case measure => have := hqN.out; simp [intOf]; omega
            · have HW7 := Lib.hid hw
              have hI : ¬ (q : Int) < nm := by omega
              have c2 := own_cell HW7.out.all hTq.out
              have hX : (X.toList == X.toList) = true := by simp
              clear hw HRd HW c1
              go_wp2_with fail
              go_roundw
              case rel => exact ⟨q + 1, hqN.out, rfl, HW7⟩
              case measure => have := hqN.out; simp [intOf]; omega
          · obtain rfl : q = N := by omega
            have hqI : ¬ (q : Int) < q := by omega
            have HWd : Hid (Wd w wr.drew p dp (cutB 1 P0 rs nm) (cutP 1 P0 rs nm) (rs.drop nm) (rs.length - nm) S5 Sd3 D3 (.slice (some ⟨g, 0, none⟩) q ac) (.slice (some ⟨g2, 0, none⟩) q sc) A rs) := HW.out.later (bD bR)
            have HCx := Lib.hid (dsk_crash dp D3 Sd3 w.heap.size (.slice none 0 0) [] wr.drew HWd.out.ws.dsk (BoolsAt.nil _ _) HWd.out.bel.size HWd.out.fd)
            have hh1 := Lib.hid (HW.out.ws.has.crash [])
            have hrk := Lib.hid HW.out.ws.rok
            have hle := Lib.hid HW.out.ws.le
            have hpre := Lib.hid HW.out.ws.pre
            have hl3 := Lib.hid HW.out.ws.len.2.2
            have hcell := hAg.out nm hnl.out
            rw [hLK.out] at hcell
            have hcell := Lib.hid hcell
            have hmem := Lib.hid HW.out.ws.dsk.mem
            clear HW
            go_wp2_with fail
            refine wp_region_held_drew (S := fun w' => w'.cell? ⟨g, nm, none⟩ = some (.int .i64 LK)) (by kernel_rfl) (own_cell HWd.out.at_ hcell.out) (fun hHeld => ?_)
            refine wpAnyH_take (i := 0) (oi := ⟨some 139, _, _, _, _, _⟩) (v := ?_) rfl (by kernel_rfl) (by kernel_rfl) (by kernel_rfl) (fun _ _ _ h => h) (Or.inl ⟨by rfl, ?_⟩) hHeld ?_
            rotate_left
            · intro w' hSw
              go_simp
              try with_reducible rfl
              try omega
            simp only [Act.put, List.setIfInBounds_toArray, List.set_cons_zero, List.set_cons_succ]
            refine wpAnyH_take (i := 2) (oi := ⟨some 141, _, _, _, _, _⟩) (v := ?_) rfl (by kernel_rfl) (by kernel_rfl) (by kernel_rfl) (fun _ _ _ h => h) (Or.inl ⟨by rfl, ?_⟩) hHeld ?_
            rotate_left
            · intro w' hSw
              go_simp
              try with_reducible rfl
              try omega
            simp only [Act.put, List.setIfInBounds_toArray, List.set_cons_zero, List.set_cons_succ]
            refine wpAnyH_take (i := 3) (oi := ⟨some 142, _, _, _, _, _⟩) (v := ?_) rfl (by kernel_rfl) (by kernel_rfl) (by kernel_rfl) (fun _ _ _ h => h) (Or.inl ⟨by rfl, ?_⟩) hHeld ?_
            rotate_left
            · intro w' hSw
              go_simp
              try with_reducible rfl
              try omega
            simp only [Act.put, List.setIfInBounds_toArray, List.set_cons_zero, List.set_cons_succ]
            refine wpAnyH_take (i := 4) (oi := ⟨some 143, _, _, _, _, _⟩) (v := ?_) rfl (by kernel_rfl) (by kernel_rfl) (by kernel_rfl) (fun _ _ _ h => h) (Or.inl ⟨by rfl, ?_⟩) hHeld ?_
            rotate_left
            · intro w' hSw
              go_simp
              try with_reducible rfl
              try omega
            simp only [Act.put, List.setIfInBounds_toArray, List.set_cons_zero, List.set_cons_succ]
            refine wpAnyH_take (i := 5) (oi := ⟨some 144, _, _, _, _, _⟩) (v := .int .i64 LK) rfl (by kernel_rfl) (by kernel_rfl) (by kernel_rfl) (fun _ _ _ h => h) (Or.inl ⟨by rfl, ?_⟩) hHeld ?_
            · intro w' hSw
              go_simp
              try with_reducible rfl
              try omega
            simp only [Act.put, List.setIfInBounds_toArray, List.set_cons_zero, List.set_cons_succ]
            refine wpAnyH_ready (rs := [1]) (by kernel_rfl) (by simp) ?_
            refine AllReadyH.cons (o := ⟨some 140, _, _, _, _, _⟩) rfl (fun K hK => ?_) AllReadyH.nil
            go_simp
            go_at_call 16
            refine (HCx.out).mono ?_
            rintro e w8 ⟨c8, S8, rfl, -, hd8, hk8, hs8⟩
            have ha8 := Lib.hid (HWd.out.at_.keep hk8 (fun k hk h => HWd.out.fa k hk (by rw [h]; exact hmem.out)))
            have hB8 : Hid (Below w.heap.size w w8) := HWd.out.bel.trans (hk8.belowB HWd.out.bel.size (fun k h => by rw [h]; exact HWd.out.fd _ hmem.out))
            have hD8 := Lib.hid hd8
            have hfr : Hid (∀ k ∈ blk (.slice (some ⟨g, 0, none⟩) q ac), k ∉ S8) := fun k hk h => by have := hs8 k h; have := HWd.out.at_.lt hk; omega
            have hS8 : Hid (∀ k ∈ S8, w.heap.size ≤ k) := fun k hk => Nat.le_trans HWd.out.bel.size (hs8 k hk)
            clear hd8 hk8 hs8 HCx HWd hHeld
            go_wp2_with fail
            refine hK.out _ _ (own_cell ha8.out hcell.out) (fun hHeld => ?_)
            clear hK K
            try simp only [Act.put, List.setIfInBounds_toArray, List.set_cons_zero, List.set_cons_succ]
            have HOx := ws_open (first := 0) (n := 128) (bb := cutB 1 P0 rs nm) (P := cutP 1 P0 rs nm) (rs := rs.drop nm) (i0 := rs.length - nm) (by omega) (by omega) hpre.out (by unfold cutB; have : P0.size = 0 := rfl; omega) (by rw [hst.out]; have := lenL_take_le rs nm; have := hlen.out; omega) hrk.out hle.out hl3.out hD8.out hh1.out rfl rfl
            rw [hst.out, hLK.out] at HOx
            replace HOx := Lib.hid HOx
            refine wpAnyH_ready (rs := [6]) (by kernel_rfl) (by simp) ?_
            refine AllReadyH.cons (o := ⟨some 145, _, _, _, _, _⟩) rfl (fun K hK => ?_) AllReadyH.nil
            go_simp
            go_at_call 17
            refine (HOx.out).mono ?_
            rintro e w9 ⟨i9, D9, Sd9, hi3, hi4, hd9, hk9, hs9, -, -, hup, hres⟩
            have ha9 := Lib.hid (ha8.out.keep hk9 hfr.out)
            have hB9 : Hid (Below w.heap.size w w9) := hB8.out.trans (hk9.belowB hB8.out.size hS8.out)
            clear HOx hd9 hk9 hs9 hHeld
            rcases hres with ⟨-, hdn⟩ | ⟨-, -, -, p9, S9, l9, rfl, -, -, hown, -⟩
            · have := (hup (up_after _ _)).2
              rw [hdn] at this
              cases this
            obtain ⟨la, lc, rfl⟩ := hown.form
            have hL9 : Hid (((plL LK ((rs.drop nm).take i9)).length : Int) = (q : Int) - nm) := by
              have h1 : (rs.drop nm).length = rs.length - nm := List.length_drop
              have h2 := hN.out
              have h3 := hnl.out
              show _ = _
              rw [plL_length, List.length_take]
              omega
            generalize (plL LK ((rs.drop nm).take i9)).length = L9 at *
            clear hown hup
            go_wp2_with fail
            refine hK.out _ _ (own_cell ha9.out hcell.out) (fun hHeld => ?_)
            clear hK K
            try simp only [Act.put, List.setIfInBounds_toArray, List.set_cons_zero, List.set_cons_succ]
            refine wpAnyH_take (i := 7) (oi := ⟨some 138, _, _, _, _, _⟩) (v := ?_) rfl (by kernel_rfl) (by kernel_rfl) (by kernel_rfl) (fun _ _ _ h => h) (Or.inl ⟨by rfl, ?_⟩) hHeld ?_
            rotate_left
            · intro w' hSw
              go_simp
              try with_reducible rfl
              try omega
            simp only [Act.put, List.setIfInBounds_toArray, List.set_cons_zero, List.set_cons_succ]
            refine wpAnyH_take (i := 8) (oi := ⟨some 146, _, _, _, _, _⟩) (v := ?_) rfl (by kernel_rfl) (by kernel_rfl) (by kernel_rfl) (fun _ _ _ h => h) (Or.inl ⟨by rfl, ?_⟩) hHeld ?_
            rotate_left
            · intro w' hSw
              go_simp
              try with_reducible rfl
              try omega
            simp only [Act.put, List.setIfInBounds_toArray, List.set_cons_zero, List.set_cons_succ]
            refine wpAnyH_take (i := 9) (oi := ⟨some 147, _, _, _, _, _⟩) (v := ?_) rfl (by kernel_rfl) (by kernel_rfl) (by kernel_rfl) (fun _ _ _ h => h) (Or.inl ⟨by rfl, ?_⟩) hHeld ?_
            rotate_left
            · intro w' hSw
              go_simp
              try with_reducible rfl
              try omega
            simp only [Act.put, List.setIfInBounds_toArray, List.set_cons_zero, List.set_cons_succ]
            refine wpAnyH_take (i := 10) (oi := ⟨some 148, _, _, _, _, _⟩) (v := ?_) rfl (by kernel_rfl) (by kernel_rfl) (by kernel_rfl) (fun _ _ _ h => h) (Or.inl ⟨by rfl, ?_⟩) hHeld ?_
            rotate_left
            · intro w' hSw
              go_simp
              try with_reducible rfl
              try omega
            simp only [Act.put, List.setIfInBounds_toArray, List.set_cons_zero, List.set_cons_succ]
            refine wpAnyH_take (i := 11) (oi := ⟨some 20, _, _, _, _, _⟩) (v := ?_) rfl (by kernel_rfl) (by kernel_rfl) (by kernel_rfl) (fun _ _ _ h => h) (Or.inl ⟨by rfl, ?_⟩) hHeld ?_
            rotate_left
            · intro w' hSw
              go_simp
              try with_reducible rfl
              try omega
            simp only [Act.put, List.setIfInBounds_toArray, List.set_cons_zero, List.set_cons_succ]
            refine wpAnyH_take (i := 12) (oi := ⟨some 21, _, _, _, _, _⟩) (v := ?_) rfl (by kernel_rfl) (by kernel_rfl) (by kernel_rfl) (fun _ _ _ h => h) (Or.inl ⟨by rfl, ?_⟩) hHeld ?_
            rotate_left
            · intro w' hSw
              go_simp
              try with_reducible rfl
              try omega
            simp only [Act.put, List.setIfInBounds_toArray, List.set_cons_zero, List.set_cons_succ]
            refine wpAnyH_take (i := 13) (oi := ⟨some 8, _, _, _, _, _⟩) (v := ?_) rfl (by kernel_rfl) (by kernel_rfl) (by kernel_rfl) (fun _ _ _ h => h) (Or.inl ⟨by rfl, ?_⟩) hHeld ?_
            rotate_left
            · intro w' hSw
              go_simp
              try with_reducible rfl
              try omega
            simp only [Act.put, List.setIfInBounds_toArray, List.set_cons_zero, List.set_cons_succ]
            clear hHeld
            refine wpAnyH_done (by kernel_rfl) ?_ _
            have wq : IntKind.i64.wrap ((q : Int) - nm) = (q : Int) - nm := by rw [IntKind.wrap_i64]; omega
            have bL : ((L9 : Int) == (q : Int) - nm) = true := by rw [hL9.out]; simp
            go_wp2_with fail
            go_ret
            exact ⟨rfl, hB9.out⟩
end Go.Proofs.Ytafiojmbaickpaa
