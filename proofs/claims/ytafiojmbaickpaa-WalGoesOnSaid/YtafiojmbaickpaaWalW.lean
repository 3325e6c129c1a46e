import Derived.Test.YtafiojmbaickpaaWalArg
set_option linter.unusedSimpArgs false
set_option linter.unusedVariables false
namespace Go.Proofs.Ytafiojmbaickpaa
open Go.RowKit

structure GoArg where
  vr : Value
  recs : List ByteArray
  vn : Value
  next : List ByteArray
  flush : Int
  vk : Value
  keep : List Bool
  va : Value
  again : List Bool
def GoAt (W : World) (v : Value) (x : GoArg) : Prop := v = .agg #[x.vr, x.vn, .int .i64 x.flush, x.vk, x.va] ∧ StrSl W x.vr x.recs ∧ StrSl W x.vn x.next ∧ BoolsAt W W.heap.size x.vk x.keep ∧ BoolsAt W W.heap.size x.va x.again ∧
  (-9223372036854775808 ≤ x.flush ∧ x.flush ≤ 9223372036854775807)
theorem wal_create2 (dp : Nat) (Sd : List Nat) (w : World) (h : DiskAt w dp (Dev.new 130) Sd) :
    Calls Try.prog 10 #[.pointer (some ⟨dp, 0, none⟩), .int .i64 2, .int .i64 128] w fun e w' => ∃ p S Sd', e = .returned (.tuple #[.pointer (some ⟨p, 0, none⟩), .int .i64 0]) ∧ LogAt w' p dp (mkLg 2 128 1 P0 [] 0) S ∧ DiskAt w' dp (Dev.new 130) Sd' ∧ Keeps (· ∈ Sd) w w' ∧ (∀ k ∈ S, w.heap.size ≤ k ∧ k ∉ Sd') ∧ ∀ k ∈ Sd', k ∈ Sd ∨ w.heap.size ≤ k :=
  wal_create dp 130 Sd 2 128 (by omega) (by omega) (by omega) (by omega) w h
theorem take_pre {rs : List ByteArray} {r : ByteArray} {j A : Nat} (h : j ≤ rs.length) (hA : 54 + lenL rs ≤ A) : ((54 + lenL ((rs ++ [r]).take j) : Nat) : Int) ≤ (A : Int) := by
  rw [List.take_append_of_le_length h]
  have := lenL_take_le rs j
  omega
set_option maxRecDepth 100000 in
set_option maxHeartbeats 3200000 in
theorem walGoesOn_walk (v0 : Value) (x : GoArg) (w : World) (h : GoAt w v0 x) :
    Calls Try.prog 5 #[v0] w fun e w' => e = .returned (.bool true) ∧ Below w.heap.size w w' := by
  obtain ⟨rfl, hR, hF, hK, hA, hfu⟩ := h
  obtain ⟨vr, ss, vn, tt, fl, vk, keep, va, again⟩ := x
  dsimp only at *
  obtain ⟨ad, cc, rfl, hml⟩ := hR.form
  obtain ⟨bd, dc, rfl, hnl⟩ := hF.form
  have HX := Lib.hid hR
  have HY := Lib.hid hF
  have HKp := Lib.hid hK
  have HAg := Lib.hid hA
  have HA := Lib.hid (fun w' => awake07 w')
  obtain ⟨m, hm⟩ : ∃ m, ss.length = m := ⟨_, rfl⟩
  obtain ⟨q, hq⟩ : ∃ q, tt.length = q := ⟨_, rfl⟩
  rw [hm] at hml HX ⊢
  rw [hq] at hnl HY ⊢
  replace hm := Lib.hid hm
  replace hq := Lib.hid hq
  unfold maxLen at hml hnl
  clear hR hF hK hA
  have HN := Lib.hid (fun w1 => dsk_new 130 (by omega) (by omega) w1)
  rw [show ((130 : Nat) : Int) = 130 from rfl] at HN
  obtain ⟨i0, hi, hi0, hi1, hi2⟩ := info_parts Try.info_ent
  go_enter Try.func5, Try.ntmps5
  go_wp2_with fail
  go_quiet (fail)
  go_wp2_with fail
  refine (HA.out _).mono ?_
  rintro e w0 ⟨rfl, hb⟩
  have HB0 : Hid (Below w.heap.size w w0) := bT (bN (bA bR) nq) hb
  clear hb HA
  go_wp2_with fail
  refine (HN.out w0).mono ?_
  rintro e w1 ⟨dp, Sd, rfl, hd, hb, hS⟩
  have HC := Lib.hid (wal_create2 dp Sd w1 hd)
  have HB1 := Lib.hid (bT HB0.out hb)
  have hS : Hid (∀ k ∈ Sd, w.heap.size ≤ k) := fun k hk => Nat.le_trans HB0.out.size (hS k hk)
  clear hb hd HN HB0
  go_wp2_with fail
  refine (HC.out).mono ?_
  rintro e w2 ⟨p, S, Sd2, rfl, hl, hd, hk, hS2, hSd2⟩
  have HW2 : Hid (Wf w w2 p dp 2 [] 0 S Sd2 (Dev.new 130) (.slice none 0 0) []) :=
    ⟨⟨hl, hd, new_has 130 2 (by omega) (by omega), fun k hk => (hS2 k hk).2, (fun x hx => by cases hx), Nat.le_refl _, by decide, by decide, .inl rfl⟩, OwnS.nil _ _ _, fun k hk => Nat.le_trans HB1.out.size (hS2 k hk).1, fun k hk => (hSd2 k hk).elim (hS.out k) (fun h => Nat.le_trans HB1.out.size h), fun k hk => by simp [blk, Value.ownBlock] at hk, HB1.out.trans (hk.belowB HB1.out.size hS.out)⟩
  clear hl hd hk hS2 hSd2 HC HB1 hS
  go_wp2_with fail
  go_loopw [54] (fun s wr => ∃ (i : Nat) (rs : List ByteArray) (j0 : Nat) (S' Sd' : List Nat) (D' : Dev), i ≤ m ∧ s = .int .i64 i ∧ Hid (Wf w wr p dp 2 rs j0 S' Sd' D' (.slice none 0 0) [])) (fun s _ => m - (intOf s).toNat)
  case atStart => exact ⟨0, [], 0, S, Sd2, _, by omega, rfl, HW2⟩
  case round =>
    clear HW2
    obtain ⟨i, rs, j0, S', Sd', D', him, rfl, HW⟩ := hrel
    by_cases hil : i < m
    · have hi' : (i : Int) < m := by omega
      have hi0' : (0 : Int) ≤ i := by omega
      have wri : IntKind.i64.wrap ((i : Int) + 1) = (i : Int) + 1 := by rw [IntKind.wrap_i64]; omega
      obtain ⟨b, off, rfl, hbl, c0, hrs⟩ := HX.out.at HW.out.bel i (by rw [hm.out]; exact hil)
      generalize ss.getD i ⟨#[]⟩ = rec at c0 hrs
      have HAp := Lib.hid (wf_append HW.out rec hrs)
      obtain ⟨ncnt, nlen⟩ := HW.out.count
      obtain ⟨A, hA⟩ : ∃ A : Nat, 54 + lenL rs = A := ⟨_, rfl⟩
      rw [hA] at HAp
      have hle := Lib.hid HW.out.ws.le
      replace hA := Lib.hid hA
      replace ncnt := Lib.hid ncnt
      replace nlen := Lib.hid nlen
      go_wp2_with fail
      refine (HAp.out).mono ?_
      rintro e w5 (⟨c, hc, rfl, hw⟩ | ⟨rfl, S5, hw⟩)
      · have HW5 := Lib.hid hw
        have b1 : (c == 0) = false := by simpa using hc
        clear hw HAp HW c0
        replace hc := Lib.hid hc
        go_wp2_with fail
        go_roundw
        case rel => exact ⟨i + 1, rs, j0, S', Sd', D', hil, rfl, HW5⟩
        case measure => simp [intOf]; omega
      · have HW5 := Lib.hid hw
        clear hw HAp HW c0
        by_cases hif : (i : Int) = fl
        · have HFx := Lib.hid (wf_flush HW5.out (A : Int) (.inr (take_pre hle.out (by rw [hA.out]; exact Nat.le_refl _))))
          have b2 : ((i : Int) == fl) = true := by simpa using hif
          replace hif := Lib.hid hif
          go_wp2_with fail
          refine (HFx.out).mono ?_
          rintro e w7 ⟨c, i1, Sd7, D7, rfl, hw, -, -, -⟩
          have HW7 := Lib.hid hw
          clear hw HFx HW5
          go_wp2_with fail
          go_roundw
          case rel => exact ⟨i + 1, _, i1, S5, Sd7, D7, hil, rfl, HW7⟩
          case measure => simp [intOf]; omega
        · have b2 : ((i : Int) == fl) = false := by simpa using hif
          replace hif := Lib.hid hif
          go_wp2_with fail
          go_roundw
          case rel => exact ⟨i + 1, _, j0, S5, Sd', D', hil, rfl, HW5⟩
          case measure => simp [intOf]; omega
    · obtain rfl : i = m := by omega
      have hi' : ¬ (i : Int) < i := by omega
      have HFx := Lib.hid (wf_flush HW.out 1099511627776 (.inr (by have := HW.out.count; have := lenL_take_le rs j0; omega)))
      go_wp2_with fail
      refine (HFx.out).mono ?_
      rintro e w3 ⟨c3, j3, Sd3, D3, rfl, hw, -, -, -⟩
      have HW3 := Lib.hid hw
      have HAp := Lib.hid (fun r hr => wf_append HW3.out r hr)
      have hle := Lib.hid HW3.out.ws.le
      clear hw HFx HW
      obtain ⟨A, hA⟩ : ∃ A : Nat, 54 + lenL rs = A := ⟨_, rfl⟩
      rw [hA] at HAp
      replace hA := Lib.hid hA
      go_wp2_with fail
      refine (HAp.out _ ?_).mono ?_
      · unfold maxLen; decide
      rintro e w4 hres
      clear HAp
      have hCr : Hid (∃ lit, (∃ c, c ≠ 0 ∧ e = .returned (.tuple #[.int .i64 0, .int .i64 c]) ∧ Wf w w4 p dp 2 rs j3 S' Sd3 D3 (.slice none 0 0) []) ∨ (e = .returned (.tuple #[.int .i64 (A : Int), .int .i64 0]) ∧ ∃ S'', Wf w w4 p dp 2 (rs ++ [lit]) j3 S'' Sd3 D3 (.slice none 0 0) [])) := ⟨_, hres⟩
      clear hres HW3
      obtain ⟨lit, ⟨c, hc, rfl, hw⟩ | ⟨rfl, S4, hw⟩⟩ := hCr.out
      · have HW4 := Lib.hid hw
        have b1 : (c == 0) = false := by simpa using hc
        clear hw hCr
        replace hc := Lib.hid hc
        go_wp2_with fail
        obtain ⟨RS, J, SS, SX, DX, HWX⟩ : ∃ RS J SS SX DX, Hid (Wf w w4 p dp 2 RS J SS SX DX (.slice none 0 0) []) := ⟨_, _, _, _, _, HW4⟩
        clear HW4 hle hA
        have HCx := Lib.hid (cr_crash HWX.out.cr HKp.out)
        have hh1 := Lib.hid (HWX.out.ws.has.crash keep)
        have hrok := Lib.hid HWX.out.ws.rok
        have hleX := Lib.hid HWX.out.ws.le
        have nlen := Lib.hid HWX.out.count.2
        clear HWX
        go_wp2_with fail
        refine (HCx.out).mono ?_
        rintro e wa ⟨cp, Sc, rfl, hca, -, -⟩
        have HBa := Lib.hid hca.bel.size
        have HOx := Lib.hid (cr_open hca hrok.out hleX.out nlen.out hh1.out rfl rfl)
        clear hca HCx hh1
        go_wp2_with fail
        refine (HOx.out).mono ?_
        rintro e wb ⟨i1, Db, Sdb, hi1', hi2', hcb, -, -, -, -, hup, hres⟩
        clear HOx
        rcases hres with ⟨-, hdn⟩ | ⟨hdn, hsf, -, pb, Sb, lb, rfl, hwsb, hSb, -, hgb, hlS⟩
        · have := (hup (up_after _ _)).2
          rw [hdn] at this
          cases this
        · have hDup := hup (up_after _ _)
          have HWb : Hid (Wf w wb pb cp 2 (RS.take i1) i1 Sb Sdb Db lb (plL 54 (RS.take i1))) := ⟨hwsb, hgb.1, fun k hk => Nat.le_trans HBa.out (hSb k hk), hcb.fd, fun k hk => ⟨(hgb.2 k hk).1, hlS k hk, (hgb.2 k hk).2⟩, hcb.bel⟩
          clear hcb hwsb hSb hgb hlS
          go_wp2_with fail
          go_loopw [21, 104] (fun av s wr => ∃ (k : Nat) (rs1 : List ByteArray) (S1 : List Nat), k ≤ q ∧ s = .int .i64 (k : Int) ∧ Hid (Wf w wr pb cp 2 rs1 i1 S1 Sdb Db av (plL 54 rs1))) (fun _ s _ => q - (intOf s).toNat)
          case atStart => exact ⟨0, RS.take i1, Sb, Nat.zero_le _, rfl, HWb⟩
          case round =>
            clear HWb
            obtain ⟨k, rs1, S1, hk, rfl, HW⟩ := hrel
            by_cases hkl : k < q
            · have hk' : (k : Int) < q := by omega
              have hk0' : (0 : Int) ≤ k := by omega
              have wrk : IntKind.i64.wrap ((k : Int) + 1) = (k : Int) + 1 := by rw [IntKind.wrap_i64]; omega
              obtain ⟨b2, off2, rfl, hbl2, c0, hrs⟩ := HY.out.at HW.out.bel k (by rw [hq.out]; exact hkl)
              generalize tt.getD k ⟨#[]⟩ = rec at c0 hrs
              have HAp := Lib.hid (wf_append HW.out rec hrs)
              obtain ⟨ncnt, nlen2⟩ := HW.out.count
              obtain ⟨A2, hA2⟩ : ∃ A : Nat, 54 + lenL rs1 = A := ⟨_, rfl⟩
              rw [hA2] at HAp
              have hAb : A2 ≤ 6966 := by omega
              replace hA2 := Lib.hid hA2
              obtain ⟨aa, ac, rfl⟩ := HW.out.all.form
              obtain ⟨N, hN⟩ : ∃ N, (plL 54 rs1).length = N := ⟨_, rfl⟩
              have hNr : N = rs1.length := by rw [← hN, plL_length]
              rw [hN] at HW HAp ⊢
              have hNb : N ≤ 2304 := by omega
              replace hN := Lib.hid hN
              replace hNr := Lib.hid hNr
              replace ncnt := Lib.hid ncnt
              replace nlen2 := Lib.hid nlen2
              go_wp2_with fail
              refine (HAp.out).mono ?_
              rintro e w5 (⟨c, hc, rfl, hw⟩ | ⟨rfl, S5, hw⟩)
              · have HW5 := Lib.hid hw
                have b1 : (c == 0) = false := by simpa using hc
                clear hw HAp HW c0
                replace hc := Lib.hid hc
                go_wp2_with fail
                go_roundw
                case rel => exact ⟨k + 1, rs1, S1, hkl, rfl, (show Wf _ _ _ _ _ _ _ _ _ _ _ _ from by have := HW5.out; rw [← hN.out] at this ⊢; exact this)⟩
                case measure => simp [intOf]; omega
              · have HW5 := Lib.hid (hw.later (bA (o := .cells #[.int .i64 (A2 : Int), .string rec] 44) bR))
                clear hw HAp HW c0
                go_wp2_with (at_builtin; refine wpList_append_frame _ rfl _ _ 42 rfl 44 i0 (.agg #[.int .i64 0, .string .empty]) 2 24 Try.underlying42 hi hi0 hi1 hi2 rfl (by decide) _ _ _ rfl HW5.out.all ⟨w5.heap.size, 0, none⟩ 1 1 [.int .i64 (A2 : Int), .string rec] rfl rfl (cell_two_new _ _ _ _ _ _ (by simp)) (by simp [Value.oneCell']) (by unfold maxLen; rw [hN.out]; omega) (by rw [hN.out]; omega) ?_; intro v9 w9 ho9 hk9 hb9 hn9; (have HW6 := Lib.hid (HW5.out.push (x := ((A2 : Int), rec)) ho9 hk9 hb9)); clear ho9 hk9 hb9 hn9)
                have hL2 : plL 54 rs1 ++ [((A2 : Int), rec)] = plL 54 (rs1 ++ [rec]) := by rw [plL_append, ← hA2.out, plL, plL]; push_cast; rfl
                rw [hL2] at HW6
                go_roundw
                case rel => exact ⟨k + 1, rs1 ++ [rec], S5, hkl, rfl, HW6⟩
                case measure => simp [intOf]; omega
            · obtain rfl : k = q := by omega
              have hk' : ¬ (k : Int) < k := by omega
              obtain ⟨aa, ac, rfl⟩ := HW.out.all.form
              obtain ⟨N, hN⟩ : ∃ N, (plL 54 rs1).length = N := ⟨_, rfl⟩
              have hNr : N = rs1.length := by rw [← hN, plL_length]
              have HFx := Lib.hid (wf_flush HW.out 1099511627776 (.inr (by have := HW.out.count; have := lenL_take_le rs1 i1; omega)))
              rw [hN] at HFx HW ⊢
              have hNb : N ≤ 2304 := by have := HW.out.count.1; omega
              replace hN := Lib.hid hN
              replace hNr := Lib.hid hNr
              clear HW
              go_wp2_with fail
              refine (HFx.out).mono ?_
              rintro e w3 ⟨c3, j3, Sd3, D3, rfl, hw, hcc, hupp, -⟩
              have hD3 := hupp hDup
              rcases hcc with ⟨rfl, rfl⟩ | ⟨-, -, hdd⟩
              rotate_left
              · have := hD3.2
                rw [hdd] at this
                cases this
              have HW3 := Lib.hid hw
              have HAp := Lib.hid (fun r hr => wf_append HW3.out r hr)
              clear hw HFx hupp
              obtain ⟨A2, hA2⟩ : ∃ A : Nat, 54 + lenL rs1 = A := ⟨_, rfl⟩
              rw [hA2] at HAp
              replace hA2 := Lib.hid hA2
              go_wp2_with fail
              refine (HAp.out _ ?_).mono ?_
              · unfold maxLen; decide
              rintro e w4 (⟨c, hc, rfl, hw⟩ | ⟨rfl, S4, hw⟩)
              · have HW4 := Lib.hid hw
                have b1 : (c == 0) = false := by simpa using hc
                clear hw HAp HW3
                replace hc := Lib.hid hc
                have hac : Hid (∀ a c, Value.slice aa N ac = .slice a (plL 54 rs1).length c → (plL 54 rs1).length ≤ c) := fun a c he => by
                  obtain ⟨a', c', he', hle⟩ := HW4.out.all.cap
                  injection he with e1 e2 e3
                  injection he' with e4 e5 e6
                  omega
                have HCx := Lib.hid (cr_crash HW4.out.cr HAg.out)
                have hh2 := Lib.hid (HW4.out.ws.has.crash again)
                have hrok2 := Lib.hid HW4.out.ws.rok
                have hle2 := Lib.hid HW4.out.ws.le
                have nl2 := Lib.hid HW4.out.count
                clear HW4
                go_wp2_with fail
                refine (HCx.out).mono ?_
                rintro e wd ⟨c8, Sc8, rfl, hcd, -, -⟩
                have HOx := Lib.hid (cr_open hcd hrok2.out hle2.out nl2.out.2 hh2.out rfl rfl)
                clear hcd HCx hh2
                go_wp2_with fail
                refine (HOx.out).mono ?_
                rintro e we ⟨i2, De, Sde, hi3, hi4, hce, -, -, -, -, hupe, hres⟩
                clear HOx
                rcases hres with ⟨-, hdne⟩ | ⟨-, -, -, pe, Se, le, rfl, -, -, -, hge, -⟩
                · have := (hupe (up_after _ _)).2
                  rw [hdne] at this
                  cases this
                · have hpl : isPre (plL 54 rs1) (plL 54 ((rs1).take i2)) (N : Int) = true := by rw [hNr.out]; exact pre_law hi3 hi4
                  have HPx := law_prefix (.slice aa N ac) le (plL 54 rs1) (plL 54 ((rs1).take i2)) (N : Int) (by rw [plL_length]; have := nl2.out.1; omega) (by rw [plL_length, List.length_take]; have := nl2.out.1; omega) we hce.all.ent hac.out hge.1.ent
                  rw [hpl] at HPx
                  replace HPx := Lib.hid HPx
                  have HBe := Lib.hid hce.bel
                  clear hce hge hpl
                  go_wp2_with fail
                  refine (HPx.out).mono ?_
                  rintro e wf ⟨rfl, hb⟩
                  have HBf := Lib.hid (bT HBe.out hb)
                  clear hb HPx
                  go_wp2_with fail
                  go_ret
                  exact ⟨rfl, HBf.out⟩
              · have HW5 := Lib.hid (hw.later (bA (o := .cells #[.int .i64 (A2 : Int), .string (⟨#[111, 110, 101, 32, 109, 111, 114, 101]⟩ : ByteArray)] 44) bR))
                clear hw HAp HW3
                go_wp2_with (at_builtin; refine wpList_append_frame _ rfl _ _ 42 rfl 44 i0 (.agg #[.int .i64 0, .string .empty]) 2 24 Try.underlying42 hi hi0 hi1 hi2 rfl (by decide) _ _ _ rfl HW5.out.all ⟨w4.heap.size, 0, none⟩ 1 1 [.int .i64 (A2 : Int), .string (⟨#[111, 110, 101, 32, 109, 111, 114, 101]⟩ : ByteArray)] rfl rfl (cell_two_new _ _ _ _ _ _ (by simp)) (by simp [Value.oneCell']) (by unfold maxLen; rw [hN.out]; omega) (by rw [hN.out]; omega) ?_; intro v9 w9 ho9 hk9 hb9 hn9; (have HW6 := Lib.hid (HW5.out.push (x := ((A2 : Int), (⟨#[111, 110, 101, 32, 109, 111, 114, 101]⟩ : ByteArray))) ho9 hk9 hb9)); (have hL2 : plL 54 rs1 ++ [((A2 : Int), (⟨#[111, 110, 101, 32, 109, 111, 114, 101]⟩ : ByteArray))] = plL 54 (rs1 ++ [(⟨#[111, 110, 101, 32, 109, 111, 114, 101]⟩ : ByteArray)]) := by rw [plL_append, ← hA2.out, plL, plL]; push_cast; rfl); rw [hL2] at HW6; (obtain ⟨a9, c9, rfl⟩ := HW6.out.all.form); clear ho9 hk9 hb9 hn9 HW5 hL2)
                have hac : Hid (∀ a c, Value.slice a9 (plL 54 (rs1 ++ [(⟨#[111, 110, 101, 32, 109, 111, 114, 101]⟩ : ByteArray)])).length c9 = .slice a (plL 54 (rs1 ++ [(⟨#[111, 110, 101, 32, 109, 111, 114, 101]⟩ : ByteArray)])).length c → (plL 54 (rs1 ++ [(⟨#[111, 110, 101, 32, 109, 111, 114, 101]⟩ : ByteArray)])).length ≤ c) := fun a c he => by
                  obtain ⟨a', c', he', hle⟩ := HW6.out.all.cap
                  injection he with e1 e2 e3
                  injection he' with e4 e5 e6
                  omega
                have HCx := Lib.hid (cr_crash HW6.out.cr HAg.out)
                have hh2 := Lib.hid (HW6.out.ws.has.crash again)
                have hrok2 := Lib.hid HW6.out.ws.rok
                have hle2 := Lib.hid HW6.out.ws.le
                have nl2 := Lib.hid HW6.out.count
                clear HW6
                refine (HCx.out).mono ?_
                rintro e wd ⟨c8, Sc8, rfl, hcd, -, -⟩
                have HOx := Lib.hid (cr_open hcd hrok2.out hle2.out nl2.out.2 hh2.out rfl rfl)
                clear hcd HCx hh2
                go_wp2_with fail
                refine (HOx.out).mono ?_
                rintro e we ⟨i2, De, Sde, hi3, hi4, hce, -, -, -, -, hupe, hres⟩
                clear HOx
                rcases hres with ⟨-, hdne⟩ | ⟨-, -, -, pe, Se, le, rfl, -, -, -, hge, -⟩
                · have := (hupe (up_after _ _)).2
                  rw [hdne] at this
                  cases this
                · have hpl : isPre (plL 54 (rs1 ++ [(⟨#[111, 110, 101, 32, 109, 111, 114, 101]⟩ : ByteArray)])) (plL 54 (((rs1 ++ [(⟨#[111, 110, 101, 32, 109, 111, 114, 101]⟩ : ByteArray)])).take i2)) (N : Int) = true := by rw [hNr.out]; exact pre_law hi3 hi4
                  have HPx := law_prefix (.slice a9 (plL 54 (rs1 ++ [(⟨#[111, 110, 101, 32, 109, 111, 114, 101]⟩ : ByteArray)])).length c9) le (plL 54 (rs1 ++ [(⟨#[111, 110, 101, 32, 109, 111, 114, 101]⟩ : ByteArray)])) (plL 54 (((rs1 ++ [(⟨#[111, 110, 101, 32, 109, 111, 114, 101]⟩ : ByteArray)])).take i2)) (N : Int) (by rw [plL_length]; have := nl2.out.1; omega) (by rw [plL_length, List.length_take]; have := nl2.out.1; omega) we hce.all.ent hac.out hge.1.ent
                  rw [hpl] at HPx
                  replace HPx := Lib.hid HPx
                  have HBe := Lib.hid hce.bel
                  clear hce hge hpl
                  go_wp2_with fail
                  refine (HPx.out).mono ?_
                  rintro e wf ⟨rfl, hb⟩
                  have HBf := Lib.hid (bT HBe.out hb)
                  clear hb HPx
                  go_wp2_with fail
                  go_ret
                  exact ⟨rfl, HBf.out⟩
      · have HFu := Lib.hid (wf_fuel hw 2 (by omega))
        clear hw hCr
        go_wp2_with fail
        refine (HFu.out).mono ?_
        rintro e w5 ⟨rfl, hw⟩
        have HFx := Lib.hid (wf_flush hw (A : Int) (.inr (take_pre hle.out (by rw [hA.out]; exact Nat.le_refl _))))
        clear hw HFu
        go_wp2_with fail
        refine (HFx.out).mono ?_
        rintro e w6 ⟨c6, j6, Sd6, D6, rfl, hw, -, -, -⟩
        have HW6 := Lib.hid hw
        clear hw HFx
        go_wp2_with fail
        obtain ⟨RS, J, SS, SX, DX, HWX⟩ : ∃ RS J SS SX DX, Hid (Wf w w6 p dp 2 RS J SS SX DX (.slice none 0 0) []) := ⟨_, _, _, _, _, HW6⟩
        clear HW6 hle hA
        have HCx := Lib.hid (cr_crash HWX.out.cr HKp.out)
        have hh1 := Lib.hid (HWX.out.ws.has.crash keep)
        have hrok := Lib.hid HWX.out.ws.rok
        have hleX := Lib.hid HWX.out.ws.le
        have nlen := Lib.hid HWX.out.count.2
        clear HWX
        go_wp2_with fail
        refine (HCx.out).mono ?_
        rintro e wa ⟨cp, Sc, rfl, hca, -, -⟩
        have HBa := Lib.hid hca.bel.size
        have HOx := Lib.hid (cr_open hca hrok.out hleX.out nlen.out hh1.out rfl rfl)
        clear hca HCx hh1
        go_wp2_with fail
        refine (HOx.out).mono ?_
        rintro e wb ⟨i1, Db, Sdb, hi1', hi2', hcb, -, -, -, -, hup, hres⟩
        clear HOx
        rcases hres with ⟨-, hdn⟩ | ⟨hdn, hsf, -, pb, Sb, lb, rfl, hwsb, hSb, -, hgb, hlS⟩
        · have := (hup (up_after _ _)).2
          rw [hdn] at this
          cases this
        · have hDup := hup (up_after _ _)
          have HWb : Hid (Wf w wb pb cp 2 (RS.take i1) i1 Sb Sdb Db lb (plL 54 (RS.take i1))) := ⟨hwsb, hgb.1, fun k hk => Nat.le_trans HBa.out (hSb k hk), hcb.fd, fun k hk => ⟨(hgb.2 k hk).1, hlS k hk, (hgb.2 k hk).2⟩, hcb.bel⟩
          clear hcb hwsb hSb hgb hlS
          go_wp2_with fail
          go_loopw [21, 104] (fun av s wr => ∃ (k : Nat) (rs1 : List ByteArray) (S1 : List Nat), k ≤ q ∧ s = .int .i64 (k : Int) ∧ Hid (Wf w wr pb cp 2 rs1 i1 S1 Sdb Db av (plL 54 rs1))) (fun _ s _ => q - (intOf s).toNat)
          case atStart => exact ⟨0, RS.take i1, Sb, Nat.zero_le _, rfl, HWb⟩
          case round =>
            clear HWb
            obtain ⟨k, rs1, S1, hk, rfl, HW⟩ := hrel
            by_cases hkl : k < q
            · have hk' : (k : Int) < q := by omega
              have hk0' : (0 : Int) ≤ k := by omega
              have wrk : IntKind.i64.wrap ((k : Int) + 1) = (k : Int) + 1 := by rw [IntKind.wrap_i64]; omega
              obtain ⟨b2, off2, rfl, hbl2, c0, hrs⟩ := HY.out.at HW.out.bel k (by rw [hq.out]; exact hkl)
              generalize tt.getD k ⟨#[]⟩ = rec at c0 hrs
              have HAp := Lib.hid (wf_append HW.out rec hrs)
              obtain ⟨ncnt, nlen2⟩ := HW.out.count
              obtain ⟨A2, hA2⟩ : ∃ A : Nat, 54 + lenL rs1 = A := ⟨_, rfl⟩
              rw [hA2] at HAp
              have hAb : A2 ≤ 6966 := by omega
              replace hA2 := Lib.hid hA2
              obtain ⟨aa, ac, rfl⟩ := HW.out.all.form
              obtain ⟨N, hN⟩ : ∃ N, (plL 54 rs1).length = N := ⟨_, rfl⟩
              have hNr : N = rs1.length := by rw [← hN, plL_length]
              rw [hN] at HW HAp ⊢
              have hNb : N ≤ 2304 := by omega
              replace hN := Lib.hid hN
              replace hNr := Lib.hid hNr
              replace ncnt := Lib.hid ncnt
              replace nlen2 := Lib.hid nlen2
              go_wp2_with fail
              refine (HAp.out).mono ?_
              rintro e w5 (⟨c, hc, rfl, hw⟩ | ⟨rfl, S5, hw⟩)
              · have HW5 := Lib.hid hw
                have b1 : (c == 0) = false := by simpa using hc
                clear hw HAp HW c0
                replace hc := Lib.hid hc
                go_wp2_with fail
                go_roundw
                case rel => exact ⟨k + 1, rs1, S1, hkl, rfl, (show Wf _ _ _ _ _ _ _ _ _ _ _ _ from by have := HW5.out; rw [← hN.out] at this ⊢; exact this)⟩
                case measure => simp [intOf]; omega
              · have HW5 := Lib.hid (hw.later (bA (o := .cells #[.int .i64 (A2 : Int), .string rec] 44) bR))
                clear hw HAp HW c0
                go_wp2_with (at_builtin; refine wpList_append_frame _ rfl _ _ 42 rfl 44 i0 (.agg #[.int .i64 0, .string .empty]) 2 24 Try.underlying42 hi hi0 hi1 hi2 rfl (by decide) _ _ _ rfl HW5.out.all ⟨w5.heap.size, 0, none⟩ 1 1 [.int .i64 (A2 : Int), .string rec] rfl rfl (cell_two_new _ _ _ _ _ _ (by simp)) (by simp [Value.oneCell']) (by unfold maxLen; rw [hN.out]; omega) (by rw [hN.out]; omega) ?_; intro v9 w9 ho9 hk9 hb9 hn9; (have HW6 := Lib.hid (HW5.out.push (x := ((A2 : Int), rec)) ho9 hk9 hb9)); clear ho9 hk9 hb9 hn9)
                have hL2 : plL 54 rs1 ++ [((A2 : Int), rec)] = plL 54 (rs1 ++ [rec]) := by rw [plL_append, ← hA2.out, plL, plL]; push_cast; rfl
                rw [hL2] at HW6
                go_roundw
                case rel => exact ⟨k + 1, rs1 ++ [rec], S5, hkl, rfl, HW6⟩
                case measure => simp [intOf]; omega
            · obtain rfl : k = q := by omega
              have hk' : ¬ (k : Int) < k := by omega
              obtain ⟨aa, ac, rfl⟩ := HW.out.all.form
              obtain ⟨N, hN⟩ : ∃ N, (plL 54 rs1).length = N := ⟨_, rfl⟩
              have hNr : N = rs1.length := by rw [← hN, plL_length]
              have HFx := Lib.hid (wf_flush HW.out 1099511627776 (.inr (by have := HW.out.count; have := lenL_take_le rs1 i1; omega)))
              rw [hN] at HFx HW ⊢
              have hNb : N ≤ 2304 := by have := HW.out.count.1; omega
              replace hN := Lib.hid hN
              replace hNr := Lib.hid hNr
              clear HW
              go_wp2_with fail
              refine (HFx.out).mono ?_
              rintro e w3 ⟨c3, j3, Sd3, D3, rfl, hw, hcc, hupp, -⟩
              have hD3 := hupp hDup
              rcases hcc with ⟨rfl, rfl⟩ | ⟨-, -, hdd⟩
              rotate_left
              · have := hD3.2
                rw [hdd] at this
                cases this
              have HW3 := Lib.hid hw
              have HAp := Lib.hid (fun r hr => wf_append HW3.out r hr)
              clear hw HFx hupp
              obtain ⟨A2, hA2⟩ : ∃ A : Nat, 54 + lenL rs1 = A := ⟨_, rfl⟩
              rw [hA2] at HAp
              replace hA2 := Lib.hid hA2
              go_wp2_with fail
              refine (HAp.out _ ?_).mono ?_
              · unfold maxLen; decide
              rintro e w4 (⟨c, hc, rfl, hw⟩ | ⟨rfl, S4, hw⟩)
              · have HW4 := Lib.hid hw
                have b1 : (c == 0) = false := by simpa using hc
                clear hw HAp HW3
                replace hc := Lib.hid hc
                have hac : Hid (∀ a c, Value.slice aa N ac = .slice a (plL 54 rs1).length c → (plL 54 rs1).length ≤ c) := fun a c he => by
                  obtain ⟨a', c', he', hle⟩ := HW4.out.all.cap
                  injection he with e1 e2 e3
                  injection he' with e4 e5 e6
                  omega
                have HCx := Lib.hid (cr_crash HW4.out.cr HAg.out)
                have hh2 := Lib.hid (HW4.out.ws.has.crash again)
                have hrok2 := Lib.hid HW4.out.ws.rok
                have hle2 := Lib.hid HW4.out.ws.le
                have nl2 := Lib.hid HW4.out.count
                clear HW4
                go_wp2_with fail
                refine (HCx.out).mono ?_
                rintro e wd ⟨c8, Sc8, rfl, hcd, -, -⟩
                have HOx := Lib.hid (cr_open hcd hrok2.out hle2.out nl2.out.2 hh2.out rfl rfl)
                clear hcd HCx hh2
                go_wp2_with fail
                refine (HOx.out).mono ?_
                rintro e we ⟨i2, De, Sde, hi3, hi4, hce, -, -, -, -, hupe, hres⟩
                clear HOx
                rcases hres with ⟨-, hdne⟩ | ⟨-, -, -, pe, Se, le, rfl, -, -, -, hge, -⟩
                · have := (hupe (up_after _ _)).2
                  rw [hdne] at this
                  cases this
                · have hpl : isPre (plL 54 rs1) (plL 54 ((rs1).take i2)) (N : Int) = true := by rw [hNr.out]; exact pre_law hi3 hi4
                  have HPx := law_prefix (.slice aa N ac) le (plL 54 rs1) (plL 54 ((rs1).take i2)) (N : Int) (by rw [plL_length]; have := nl2.out.1; omega) (by rw [plL_length, List.length_take]; have := nl2.out.1; omega) we hce.all.ent hac.out hge.1.ent
                  rw [hpl] at HPx
                  replace HPx := Lib.hid HPx
                  have HBe := Lib.hid hce.bel
                  clear hce hge hpl
                  go_wp2_with fail
                  refine (HPx.out).mono ?_
                  rintro e wf ⟨rfl, hb⟩
                  have HBf := Lib.hid (bT HBe.out hb)
                  clear hb HPx
                  go_wp2_with fail
                  go_ret
                  exact ⟨rfl, HBf.out⟩
              · have HW5 := Lib.hid (hw.later (bA (o := .cells #[.int .i64 (A2 : Int), .string (⟨#[111, 110, 101, 32, 109, 111, 114, 101]⟩ : ByteArray)] 44) bR))
                clear hw HAp HW3
                go_wp2_with (at_builtin; refine wpList_append_frame _ rfl _ _ 42 rfl 44 i0 (.agg #[.int .i64 0, .string .empty]) 2 24 Try.underlying42 hi hi0 hi1 hi2 rfl (by decide) _ _ _ rfl HW5.out.all ⟨w4.heap.size, 0, none⟩ 1 1 [.int .i64 (A2 : Int), .string (⟨#[111, 110, 101, 32, 109, 111, 114, 101]⟩ : ByteArray)] rfl rfl (cell_two_new _ _ _ _ _ _ (by simp)) (by simp [Value.oneCell']) (by unfold maxLen; rw [hN.out]; omega) (by rw [hN.out]; omega) ?_; intro v9 w9 ho9 hk9 hb9 hn9; (have HW6 := Lib.hid (HW5.out.push (x := ((A2 : Int), (⟨#[111, 110, 101, 32, 109, 111, 114, 101]⟩ : ByteArray))) ho9 hk9 hb9)); (have hL2 : plL 54 rs1 ++ [((A2 : Int), (⟨#[111, 110, 101, 32, 109, 111, 114, 101]⟩ : ByteArray))] = plL 54 (rs1 ++ [(⟨#[111, 110, 101, 32, 109, 111, 114, 101]⟩ : ByteArray)]) := by rw [plL_append, ← hA2.out, plL, plL]; push_cast; rfl); rw [hL2] at HW6; (obtain ⟨a9, c9, rfl⟩ := HW6.out.all.form); clear ho9 hk9 hb9 hn9 HW5 hL2)
                have hac : Hid (∀ a c, Value.slice a9 (plL 54 (rs1 ++ [(⟨#[111, 110, 101, 32, 109, 111, 114, 101]⟩ : ByteArray)])).length c9 = .slice a (plL 54 (rs1 ++ [(⟨#[111, 110, 101, 32, 109, 111, 114, 101]⟩ : ByteArray)])).length c → (plL 54 (rs1 ++ [(⟨#[111, 110, 101, 32, 109, 111, 114, 101]⟩ : ByteArray)])).length ≤ c) := fun a c he => by
                  obtain ⟨a', c', he', hle⟩ := HW6.out.all.cap
                  injection he with e1 e2 e3
                  injection he' with e4 e5 e6
                  omega
                have HCx := Lib.hid (cr_crash HW6.out.cr HAg.out)
                have hh2 := Lib.hid (HW6.out.ws.has.crash again)
                have hrok2 := Lib.hid HW6.out.ws.rok
                have hle2 := Lib.hid HW6.out.ws.le
                have nl2 := Lib.hid HW6.out.count
                clear HW6
                refine (HCx.out).mono ?_
                rintro e wd ⟨c8, Sc8, rfl, hcd, -, -⟩
                have HOx := Lib.hid (cr_open hcd hrok2.out hle2.out nl2.out.2 hh2.out rfl rfl)
                clear hcd HCx hh2
                go_wp2_with fail
                refine (HOx.out).mono ?_
                rintro e we ⟨i2, De, Sde, hi3, hi4, hce, -, -, -, -, hupe, hres⟩
                clear HOx
                rcases hres with ⟨-, hdne⟩ | ⟨-, -, -, pe, Se, le, rfl, -, -, -, hge, -⟩
                · have := (hupe (up_after _ _)).2
                  rw [hdne] at this
                  cases this
                · have hpl : isPre (plL 54 (rs1 ++ [(⟨#[111, 110, 101, 32, 109, 111, 114, 101]⟩ : ByteArray)])) (plL 54 (((rs1 ++ [(⟨#[111, 110, 101, 32, 109, 111, 114, 101]⟩ : ByteArray)])).take i2)) (N : Int) = true := by rw [hNr.out]; exact pre_law hi3 hi4
                  have HPx := law_prefix (.slice a9 (plL 54 (rs1 ++ [(⟨#[111, 110, 101, 32, 109, 111, 114, 101]⟩ : ByteArray)])).length c9) le (plL 54 (rs1 ++ [(⟨#[111, 110, 101, 32, 109, 111, 114, 101]⟩ : ByteArray)])) (plL 54 (((rs1 ++ [(⟨#[111, 110, 101, 32, 109, 111, 114, 101]⟩ : ByteArray)])).take i2)) (N : Int) (by rw [plL_length]; have := nl2.out.1; omega) (by rw [plL_length, List.length_take]; have := nl2.out.1; omega) we hce.all.ent hac.out hge.1.ent
                  rw [hpl] at HPx
                  replace HPx := Lib.hid HPx
                  have HBe := Lib.hid hce.bel
                  clear hce hge hpl
                  go_wp2_with fail
                  refine (HPx.out).mono ?_
                  rintro e wf ⟨rfl, hb⟩
                  have HBf := Lib.hid (bT HBe.out hb)
                  clear hb HPx
                  go_wp2_with fail
                  go_ret
                  exact ⟨rfl, HBf.out⟩
end Go.Proofs.Ytafiojmbaickpaa
