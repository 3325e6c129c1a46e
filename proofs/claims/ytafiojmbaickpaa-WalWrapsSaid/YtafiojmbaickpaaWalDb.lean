import Derived.Test.YtafiojmbaickpaaWalDa
set_option linter.unusedSimpArgs false
set_option linter.unusedVariables false
namespace Go.Proofs.Ytafiojmbaickpaa
open Go.RowKit

set_option maxRecDepth 100000 in
set_option maxHeartbeats 1600000 in
theorem round_walk (v0 : Value) (ss : List ByteArray) (rd : Nat) (hrd : rd ≤ 60) (vk : Value) (keep : List Bool) (w : World) (h : StrSl w v0 ss) (hk : BoolsAt w w.heap.size vk keep) :
    Calls Try.prog 20 #[v0, .int .i64 (rd : Int), vk] w fun e w' => e = .returned (.bool true) ∧ Below w.heap.size w w' := by
  obtain ⟨ad, cc, rfl, hml⟩ := h.form
  have HX := Lib.hid h
  have HKp := Lib.hid hk
  obtain ⟨m, hm⟩ : ∃ m, ss.length = m := ⟨_, rfl⟩
  rw [hm] at hml HX ⊢
  replace hm := Lib.hid hm
  unfold maxLen at hml
  clear h hk
  have HN := Lib.hid (fun w1 => dsk_new 128 (by omega) (by omega) w1)
  rw [show ((128 : Nat) : Int) = 128 from rfl] at HN
  obtain ⟨i0, hi, hi0, hi1, hi2⟩ := info_parts Try.info_ent
  go_enter Try.func20, Try.ntmps20
  go_wp2_with fail
  refine (HN.out w).mono ?_
  rintro e w1 ⟨dp, Sd, rfl, hd, hb, hS⟩
  have HC := Lib.hid (wal_create0 dp 128 Sd (by omega) (by omega) w1 hd)
  have HB1 := Lib.hid hb
  have hS := Lib.hid hS
  clear hb hd HN
  go_wp2_with fail
  refine (HC.out).mono ?_
  rintro e w2 ⟨p, S, Sd2, rfl, hl, hd, hk, hS2, hSd2⟩
  have HW2 : Hid (Ww w w2 p dp 1 P0 [] 0 S Sd2 (Dev.new 128) (.slice none 0 0) []) :=
    ⟨⟨hl, hd, new_has 128 0 (by omega) (by omega), fun k hk => (hS2 k hk).2, (fun x hx => by cases hx), Nat.le_refl _, by decide, by decide, .inl rfl⟩, OwnS.nil _ _ _, fun k hk => Nat.le_trans HB1.out.size (hS2 k hk).1, fun k hk => (hSd2 k hk).elim (hS.out k) (fun h => Nat.le_trans HB1.out.size h), fun k hk => by simp [blk, Value.ownBlock] at hk, up_new 128, HB1.out.trans (hk.belowB HB1.out.size hS.out)⟩
  clear hl hd hk hS2 hSd2 HC HB1 hS
  go_wp2_with fail
  go_loopw [11, 12, 13] (fun av st s wr => ∃ (k bb Q : Nat) (P : ByteArray) (rs : List ByteArray) (j0 : Nat) (S' Sd' : List Nat) (D' : Dev), k ≤ rd ∧ st = .int .i64 (Q : Int) ∧ s = .int .i64 (k : Int) ∧ Hid (54 * bb + P.size = Q) ∧ Hid (1 ≤ bb ∧ bb ≤ 1 + 130 * k) ∧ Hid (Ww w wr p dp bb P rs j0 S' Sd' D' av (plL (Q : Int) rs))) (fun _ _ s _ => rd - (intOf s).toNat)
  case atStart => exact ⟨0, 1, 54, P0, [], 0, S, Sd2, Dev.new 128, by omega, rfl, rfl, rfl, ⟨by omega, by omega⟩, HW2⟩
  case round =>
    clear HW2
    obtain ⟨k, bb, Q, P, rs, j0, S', Sd', D', hk, rfl, rfl, hQ, hbb, HW⟩ := hrel
    by_cases hkl : k < rd
    · have hk' : (k : Int) < rd := by omega
      have wrk : IntKind.i64.wrap ((k : Int) + 1) = (k : Int) + 1 := by rw [IntKind.wrap_i64]; omega
      have HSp := wal_span p dp _ S' wr HW.out.ws.log
      obtain ⟨F, hF⟩ : ∃ F : Nat, 54 * bb + P.size + lenL rs = F := ⟨_, rfl⟩
      have hfin : (mkLg 0 128 bb P rs j0).fin = (F : Int) := by rw [← hF]; rfl
      rw [hfin] at HSp
      replace HSp := Lib.hid HSp
      replace hF := Lib.hid hF
      clear hfin
      generalize (mkLg 0 128 bb P rs j0).start = X1 at HSp
      generalize (mkLg 0 128 bb P rs j0).firm = X2 at HSp
      go_wp2_with fail
      refine (HSp.out).mono ?_
      rintro e w3 ⟨rfl, hb⟩
      have HFx := Lib.hid (ww_flush (HW.out.later hb) (by have := hbb.out; omega))
      clear hb HSp HW
      go_wp2_with fail
      refine (HFx.out).mono ?_
      rintro e w4 ⟨rfl, Sd4, D4, hw⟩
      have HCt := ww_cut hw (by have := hbb.out; omega)
      rw [hF.out] at HCt
      replace HCt := Lib.hid HCt
      clear hw HFx
      go_wp2_with fail
      refine (HCt.out).mono ?_
      rintro e w5 ⟨rfl, bb2, P2, S5, hb1, hb2, hb3, hw⟩
      have HW5 := Lib.hid hw.fresh
      have hbb2 : Hid (1 ≤ bb2 ∧ bb2 ≤ 1 + 130 * (k + 1)) := ⟨hb1, by have := hbb.out; omega⟩
      have hQ2 := Lib.hid hb3
      clear hw HCt hb1 hb2 hb3
      go_wp2_with fail
      go_loopw [11, 56] (fun av s wr => ∃ (i : Nat) (rs1 : List ByteArray) (S1 : List Nat), i ≤ m ∧ s = .int .i64 (i : Int) ∧ Hid (Ww w wr p dp bb2 P2 rs1 0 S1 Sd4 D4 av (plL (F : Int) rs1))) (fun _ s _ => m - (intOf s).toNat)
      case atStart => exact ⟨0, [], S5, Nat.zero_le _, rfl, HW5⟩
      case round =>
        clear HW5
        obtain ⟨i, rs1, S1, him, rfl, HW⟩ := hrel
        by_cases hil : i < m
        · have hi' : (i : Int) < m := by omega
          have hi0' : (0 : Int) ≤ i := by omega
          have wri : IntKind.i64.wrap ((i : Int) + 1) = (i : Int) + 1 := by rw [IntKind.wrap_i64]; omega
          obtain ⟨b, off, rfl, hbl, c0, hrs⟩ := HX.out.at HW.out.bel i (by rw [hm.out]; exact hil)
          generalize ss.getD i ⟨#[]⟩ = rec at c0 hrs
          have HAp := ww_append HW.out rec hrs
          obtain ⟨ncnt, nlen⟩ := HW.out.count
          obtain ⟨A, hA⟩ : ∃ A : Nat, 54 * bb2 + P2.size + lenL rs1 = A := ⟨_, rfl⟩
          rw [hA] at HAp
          replace HAp := Lib.hid HAp
          have hA2 : Hid (A = F + lenL rs1) := by show _ = _; rw [← hA, hQ2.out]
          obtain ⟨aa, ac, rfl⟩ := HW.out.all.form
          obtain ⟨N, hN⟩ : ∃ N, (plL (F : Int) rs1).length = N := ⟨_, rfl⟩
          have hNr : N = rs1.length := by rw [← hN, plL_length]
          rw [hN] at HW HAp ⊢
          have hNb : N ≤ 2304 := by omega
          replace hN := Lib.hid hN
          replace hNr := Lib.hid hNr
          replace ncnt := Lib.hid ncnt
          replace nlen := Lib.hid nlen
          replace hA := Lib.hid hA
          go_wp2_with fail
          refine (HAp.out).mono ?_
          rintro e w6 (⟨c, hc, rfl, hw⟩ | ⟨rfl, S6, hw⟩)
          · have HW6 := Lib.hid hw
            have b1 : (c == 0) = false := by simpa using hc
            clear hw HAp HW c0
            replace hc := Lib.hid hc
            go_wp2_with fail
            go_roundw
            case rel => exact ⟨i + 1, rs1, S1, hil, rfl, (show Ww _ _ _ _ _ _ _ _ _ _ _ _ _ from by have := HW6.out; rw [← hN.out] at this ⊢; exact this)⟩
            case measure => simp [intOf]; omega
          · have HW6 := Lib.hid (hw.later (bA (o := .cells #[.int .i64 (A : Int), .string rec] 44) bR))
            clear hw HAp HW c0
            go_wp2_with (at_builtin; refine wpList_append_frame _ rfl _ _ 42 rfl 44 i0 (.agg #[.int .i64 0, .string .empty]) 2 24 Try.underlying42 hi hi0 hi1 hi2 rfl (by decide) _ _ _ rfl HW6.out.all ⟨w6.heap.size, 0, none⟩ 1 1 [.int .i64 (A : Int), .string rec] rfl rfl (cell_two_new _ _ _ _ _ _ (by simp)) (by simp [Value.oneCell']) (by unfold maxLen; rw [hN.out]; omega) (by rw [hN.out]; omega) ?_; intro v9 w9 ho9 hk9 hb9 hn9; (have HW7 := Lib.hid (HW6.out.push (x := ((A : Int), rec)) ho9 hk9 hb9)); clear ho9 hk9 hb9 hn9)
            have hL2 : plL (F : Int) rs1 ++ [((A : Int), rec)] = plL (F : Int) (rs1 ++ [rec]) := by rw [plL_append, hA2.out, plL, plL]; push_cast; rfl
            rw [hL2] at HW7
            go_roundw
            case rel => exact ⟨i + 1, rs1 ++ [rec], S6, hil, rfl, HW7⟩
            case measure => simp [intOf]; omega
        · have hi' : ¬ (i : Int) < m := by omega
          replace hkl := Lib.hid hkl
          go_wp2_with fail
          go_roundw
          case rel => exact ⟨k + 1, bb2, F, P2, rs1, 0, S1, Sd4, D4, hkl.out, rfl, rfl, hQ2, hbb2, HW⟩
          case measure => have := hkl.out; simp [intOf]; omega
    · obtain rfl : k = rd := by omega
      have hk' : ¬ (k : Int) < k := by omega
      have HFx := Lib.hid (ww_flush HW.out (by have := hbb.out; omega))
      clear HW
      go_wp2_with fail
      refine (HFx.out).mono ?_
      rintro e w4 ⟨rfl, Sd4, D4, hw⟩
      have HW4 := Lib.hid hw
      clear hw HFx
      go_wp2_with fail
      have HCx := Lib.hid (cr_crash (⟨HW4.out.ws.dsk, HW4.out.all, HW4.out.fd, fun k hk => ⟨(HW4.out.fa k hk).1, (HW4.out.fa k hk).2.2⟩, HW4.out.bel⟩ : Cr w w4 dp D4 Sd4 _ _) HKp.out)
      have hh := Lib.hid (HW4.out.ws.has.crash keep)
      have hrok := Lib.hid HW4.out.ws.rok
      have hpre := Lib.hid HW4.out.ws.pre
      have hl3 := Lib.hid HW4.out.ws.len.2.2
      have hcnt := Lib.hid HW4.out.count.1
      clear HW4
      refine (HCx.out).mono ?_
      rintro e w5 ⟨c5, S5, rfl, hc5, -, -⟩
      have HOx := ws_open (first := 0) (n := 128) (bb := bb) (P := P) (rs := rs) (i0 := rs.length) (by omega) (by omega) hpre.out hbb.out.1 (by have := hbb.out; have := hpre.out; omega) hrok.out (Nat.le_refl _) hl3.out hc5.dsk hh.out rfl rfl
      rw [hQ.out] at HOx
      replace HOx := Lib.hid HOx
      have HC5 := Lib.hid hc5
      clear hc5 HCx hh
      go_wp2_with fail
      refine (HOx.out).mono ?_
      rintro e w9 ⟨i9, D9, Sd9, hi3, hi4, hd9, hk9, hs9, -, -, hup, hres⟩
      clear HOx
      rcases hres with ⟨-, hdn⟩ | ⟨-, -, -, p9, S9, l9, rfl, -, -, hown, -⟩
      · have := (hup (up_after _ _)).2
        rw [hdn] at this
        cases this
      · obtain rfl : i9 = rs.length := by omega
        rw [List.take_length] at hown
        have hall := HC5.out.all.keep hk9 (fun k hk h => (HC5.out.fa k hk).2 h)
        have HB9 : Hid (Below w.heap.size w w9) := HC5.out.bel.trans (hk9.belowB HC5.out.bel.size HC5.out.fd)
        have HS := ref_same l9 u11 (plL (Q : Int) rs) (plL (Q : Int) rs) (by rw [plL_length]; have := hcnt.out; omega) (by rw [plL_length]; have := hcnt.out; omega) w9 hown.ent hall.ent
        rw [decide_eq_true rfl] at HS
        replace HS := Lib.hid HS
        clear hown hall hd9 hk9 hs9 hup HC5
        go_wp2_with fail
        refine (HS.out).mono ?_
        rintro e wa ⟨rfl, hb⟩
        have HBa := Lib.hid (bT HB9.out hb)
        clear hb HS
        go_wp2_with fail
        go_ret
        exact ⟨rfl, HBa.out⟩
end Go.Proofs.Ytafiojmbaickpaa
