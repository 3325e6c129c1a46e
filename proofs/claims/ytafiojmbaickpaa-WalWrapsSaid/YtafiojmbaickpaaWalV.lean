import Derived.Test.YtafiojmbaickpaaWalUb
set_option linter.unusedSimpArgs false
set_option linter.unusedVariables false
namespace Go.Proofs.Ytafiojmbaickpaa
open Go.RowKit

structure CrArg where
  vr : Value
  recs : List ByteArray
  vf : Value
  flush : List Int
  fuel : Int
  vk : Value
  keep : List Bool
  more : Int
  va : Value
  again : List Bool
def CrAt (W : World) (v : Value) (x : CrArg) : Prop := v = .agg #[x.vr, x.vf, .int .i64 x.fuel, x.vk, .int .i64 x.more, x.va] ∧ StrSl W x.vr x.recs ∧ IntSl W x.vf .i64 x.flush ∧ BoolsAt W W.heap.size x.vk x.keep ∧ BoolsAt W W.heap.size x.va x.again ∧
  (-9223372036854775808 ≤ x.fuel ∧ x.fuel ≤ 9223372036854775807) ∧ (-9223372036854775808 ≤ x.more ∧ x.more ≤ 9223372036854775807)
theorem IntSl.form {w : World} {v : Value} {k : IntKind} {ns : List Int} (h : IntSl w v k ns) : ∃ a c, v = .slice a ns.length c ∧ ns.length ≤ maxLen := by
  obtain ⟨⟨a', c', hv, hl, hx⟩, hs⟩ := h
  rw [List.length_map] at hv hl
  exact ⟨_, _, hv, hl⟩
theorem IntSl.at {w wr : World} {a : Option Addr} {n c : Nat} {k : IntKind} {ns : List Int} (h : IntSl w (.slice a n c) k ns) (hb : Below w.heap.size w wr) (i : Nat) (hi : i < ns.length) :
    ∃ b off, a = some ⟨b, off, none⟩ ∧ b < w.heap.size ∧ wr.cell? ⟨b, off + i, none⟩ = some (.int k (ns.getD i 0)) ∧ (Lit.int k (ns.getD i 0)).wf = true := by
  obtain ⟨⟨a', c', hv, hl, hx⟩, hs⟩ := h
  simp only [Value.slice.injEq] at hv
  obtain ⟨rfl, rfl, rfl⟩ := hv
  obtain ⟨b, off, rfl, hbl, hc⟩ := hx (by intro e; rw [List.map_eq_nil_iff] at e; subst e; simp at hi)
  have := hc i (by simpa using hi) 0 (by omega)
  rw [show off + i * 1 + 0 = off + i from by omega] at this
  refine ⟨b, off, rfl, hbl, ?_, ?_⟩
  · rw [hb.cell (p := ⟨b, off + i, none⟩) hbl, this]
    simp [List.getD_eq_getElem?_getD, List.getElem?_eq_getElem hi]
  · rw [List.getD_eq_getElem?_getD, List.getElem?_eq_getElem hi]
    exact hs _ (List.getElem_mem _)
set_option maxRecDepth 100000 in
set_option maxHeartbeats 3200000 in
theorem walPrefix_walk (v0 : Value) (x : CrArg) (w : World) (h : CrAt w v0 x) :
    Calls Try.prog 4 #[v0] w fun e w' => e = .returned (.bool true) ∧ Below w.heap.size w w' := by
  obtain ⟨rfl, hR, hF, hK, hA, hfu, hmo⟩ := h
  obtain ⟨vr, ss, vf, fl, fuel, vk, keep, more, va, again⟩ := x
  dsimp only at *
  obtain ⟨ad, cc, rfl, hml⟩ := hR.form
  obtain ⟨fa, fc, rfl, hfl⟩ := hF.form
  have HX := Lib.hid hR
  have HFl := Lib.hid hF
  obtain ⟨fn, hfn⟩ : ∃ fn, fl.length = fn := ⟨_, rfl⟩
  rw [hfn] at hfl HFl ⊢
  replace hfn := Lib.hid hfn
  have HKp := Lib.hid hK
  have HAg := Lib.hid hA
  have HA := Lib.hid (fun w' => awake07 w')
  obtain ⟨m, hm⟩ : ∃ m, ss.length = m := ⟨_, rfl⟩
  rw [hm] at hml HX ⊢
  replace hm := Lib.hid hm
  unfold maxLen at hml hfl
  clear hR hF hK hA
  have HN := Lib.hid (fun w1 => dsk_new 128 (by omega) (by omega) w1)
  rw [show ((128 : Nat) : Int) = 128 from rfl] at HN
  go_enter Try.func4, Try.ntmps4
  go_wp2_with fail
  go_quiet (fail)
  go_wp2_with fail
  refine (HA.out _).mono ?_
  rintro e w0 ⟨rfl, hb⟩
  have HB0 : Hid (Below w.heap.size w w0) := bT (bN (bA bR) nq) hb
  clear hb HA
  go_wp2_with fail
  refine (HN.out w0).mono ?_
  rintro e w1 ⟨dp, Sd, rfl, hd, hb, hS⟩
  have HC := Lib.hid (wal_create0 dp 128 Sd (by omega) (by omega) w1 hd)
  have HB1 := Lib.hid (bT HB0.out hb)
  have hS : Hid (∀ k ∈ Sd, w.heap.size ≤ k) := fun k hk => Nat.le_trans HB0.out.size (hS k hk)
  clear hb hd HN HB0
  go_wp2_with fail
  refine (HC.out).mono ?_
  rintro e w2 ⟨p, S, Sd2, rfl, hl, hd, hk, hS2, hSd2⟩
  have HW2 : Hid (Wf w w2 p dp 0 [] 0 S Sd2 (Dev.new 128) (.slice none 0 0) []) :=
    ⟨⟨hl, hd, new_has 128 0 (by omega) (by omega), fun k hk => (hS2 k hk).2, (fun x hx => by cases hx), Nat.le_refl _, by decide, by decide, .inl rfl⟩, OwnS.nil _ _ _, fun k hk => Nat.le_trans HB1.out.size (hS2 k hk).1, fun k hk => (hSd2 k hk).elim (hS.out k) (fun h => Nat.le_trans HB1.out.size h), fun k hk => by simp [blk, Value.ownBlock] at hk, HB1.out.trans (hk.belowB HB1.out.size hS.out)⟩
  clear hl hd hk hS2 hSd2 HC HB1 hS
  have HFu := Lib.hid (wf_fuel HW2.out (max fuel 0) (by omega))
  go_wp2_with fail
  refine (HFu.out).mono ?_
  rintro e w3 ⟨rfl, hw3⟩
  have HW3 := Lib.hid hw3
  clear hw3 HFu HW2
  generalize hDD : { Dev.new 128 with fuel := max (max fuel 0) (-1) } = D3 at *
  replace hDD := Lib.hid hDD
  go_wp2_with fail
  obtain ⟨i0, hi, hi0, hi1, hi2⟩ := info_parts Try.info_ent
  go_loopw [13, 14, 58] (fun av fv s wr => ∃ (i : Nat) (rs : List ByteArray) (j0 : Nat) (S' Sd' : List Nat) (D' : Dev), i ≤ m ∧ fv = .int .i64 (j0 : Int) ∧ s = .int .i64 i ∧ Hid (Wf w wr p dp 0 rs j0 S' Sd' D' av (plL 54 rs))) (fun _ _ s _ => m - (intOf s).toNat)
  case atStart => exact ⟨0, [], 0, S, Sd2, D3, by omega, rfl, rfl, HW3⟩
  case round =>
    clear HW3
    obtain ⟨i, rs, j0, S', Sd', D', him, rfl, rfl, HW⟩ := hrel
    by_cases hil : i < m
    · have hi' : (i : Int) < m := by omega
      have hi0' : (0 : Int) ≤ i := by omega
      have wri : IntKind.i64.wrap ((i : Int) + 1) = (i : Int) + 1 := by rw [IntKind.wrap_i64]; omega
      obtain ⟨b, off, rfl, hbl, c0, hrs⟩ := HX.out.at HW.out.bel i (by rw [hm.out]; exact hil)
      generalize ss.getD i ⟨#[]⟩ = rec at c0 hrs
      have HAp := Lib.hid (wf_append HW.out rec hrs)
      obtain ⟨ncnt, nlen⟩ := HW.out.count
      have hj0r := Lib.hid HW.out.ws.le
      obtain ⟨A, hA⟩ : ∃ A : Nat, 54 + lenL rs = A := ⟨_, rfl⟩
      rw [hA] at HAp
      have hAb : A ≤ 6966 := by omega
      replace hA := Lib.hid hA
      obtain ⟨aa, ac, rfl⟩ := HW.out.all.form
      obtain ⟨N, hN⟩ : ∃ N, (plL 54 rs).length = N := ⟨_, rfl⟩
      have hNr : N = rs.length := by rw [← hN, plL_length]
      rw [hN] at HW HAp ⊢
      have hNb : N ≤ 2304 := by omega
      replace hN := Lib.hid hN
      replace hNr := Lib.hid hNr
      replace ncnt := Lib.hid ncnt
      replace nlen := Lib.hid nlen
      go_wp2_with fail
      refine (HAp.out).mono ?_
      rintro e w5 (⟨c, hc, rfl, hw⟩ | ⟨rfl, S5, hw⟩)
      · have HW5 := Lib.hid hw
        have b1 : (c != 0) = true := by simpa using hc
        clear hw HAp HW c0
        replace hc := Lib.hid hc
        go_wp2_with fail
        go_roundw
        case rel => exact ⟨i + 1, rs, j0, S', Sd', D', hil, rfl, rfl, HW5⟩
        case measure => simp [intOf]; omega
      · have HW5 := Lib.hid (hw.later (bA (o := .cells #[.int .i64 (A : Int), .string rec] 44) bR))
        clear hw HAp HW c0
        go_upto_block 2 with (at_builtin; refine wpList_append_frame _ rfl _ _ 42 rfl 44 i0 (.agg #[.int .i64 0, .string .empty]) 2 24 Try.underlying42 hi hi0 hi1 hi2 rfl (by decide) _ _ _ rfl HW5.out.all ⟨w5.heap.size, 0, none⟩ 1 1 [.int .i64 (A : Int), .string rec] rfl rfl (cell_two_new _ _ _ _ _ _ (by simp)) (by simp [Value.oneCell']) (by unfold maxLen; rw [hN.out]; omega) (by rw [hN.out]; omega) ?_; intro v9 w9 ho9 hk9 hb9 hn9; (have HW6 := Lib.hid (HW5.out.push (x := ((A : Int), rec)) ho9 hk9 hb9)); clear ho9 hk9 hb9 hn9)
        have hj0 : Hid (j0 ≤ rs.length) := by
          show _ ≤ _
          have := HW5.out.ws.le
          exact hj0r.out
        obtain ⟨rs2, hrs2⟩ : ∃ rs2, rs ++ [rec] = rs2 := ⟨_, rfl⟩
        have hL2 : plL 54 rs ++ [((A : Int), rec)] = plL 54 rs2 := by rw [← hrs2, plL_append, ← hA.out, plL, plL]; push_cast; rfl
        rw [hrs2, hL2] at HW6
        obtain ⟨a9, c9, rfl⟩ := HW6.out.all.form
        obtain ⟨N9, hN9⟩ : ∃ N9, (plL 54 rs2).length = N9 := ⟨_, rfl⟩
        rw [hN9] at HW6 ⊢
        have hN9r : Hid (N9 = rs2.length) := by show _ = _; rw [← hN9, plL_length]
        replace hrs2 := Lib.hid hrs2
        replace hN9 := Lib.hid hN9
        clear HW5 hL2
        go_wp2_with fail
        go_loopw [14, 79] (fun fv s wr => ∃ (k j1 : Nat) (Sd1 : List Nat) (D1 : Dev), k ≤ fn ∧ fv = .int .i64 (j1 : Int) ∧ s = .int .i64 (k : Int) ∧ Hid (j1 ≤ rs.length ∨ j1 = rs2.length) ∧ Hid (Wf w wr p dp 0 rs2 j1 S5 Sd1 D1 (.slice a9 N9 c9) (plL 54 rs2))) (fun _ s _ => fn - (intOf s).toNat)
        case atStart => exact ⟨0, j0, Sd', D', Nat.zero_le _, rfl, rfl, .inl hj0.out, HW6⟩
        case round =>
          clear HW6
          obtain ⟨k, j1, Sd1, D1, hk, rfl, rfl, hj1, HW⟩ := hrel
          by_cases hkl : k < fn
          · have hk' : (k : Int) < fn := by omega
            have hk0' : (0 : Int) ≤ k := by omega
            have wrk : IntKind.i64.wrap ((k : Int) + 1) = (k : Int) + 1 := by rw [IntKind.wrap_i64]; omega
            obtain ⟨b2, off2, rfl, hbl2, c0, -⟩ := HFl.out.at HW.out.bel k (by rw [hfn.out]; exact hkl)
            generalize fl.getD k 0 = K at c0
            by_cases hKi : K = (i : Int)
            · subst hKi
              have HFx := Lib.hid (wf_flush HW.out (A : Int) (hj1.out.symm.imp_right (fun h => by
                rw [← hrs2.out, List.take_append_of_le_length h]
                have := lenL_take_le rs j1
                have := hA.out
                omega)))
              go_wp2_with fail
              refine (HFx.out).mono ?_
              rintro e w7 ⟨c, i1, Sd7, D7, rfl, hw, hc, -, -⟩
              have HW7 := Lib.hid hw
              clear hw HFx HW c0
              rcases hc with ⟨rfl, rfl⟩ | ⟨rfl, rfl, -⟩
              · go_wp2_with fail
                go_roundw
                case rel => exact ⟨k + 1, rs2.length, Sd7, D7, hkl, by rw [hN9r.out], rfl, .inr rfl, HW7⟩
                case measure => simp [intOf]; omega
              · go_wp2_with fail
                go_roundw
                case rel => exact ⟨k + 1, i1, Sd7, D7, hkl, rfl, rfl, hj1, HW7⟩
                case measure => simp [intOf]; omega
            · have hKi' : (K == (i : Int)) = false := by simpa using hKi
              replace hKi := Lib.hid hKi
              go_wp2_with fail
              go_roundw
              case rel => exact ⟨k + 1, j1, Sd1, D1, hkl, rfl, rfl, hj1, HW⟩
              case measure => simp [intOf]; omega
          · have hk' : ¬ (k : Int) < fn := by omega
            go_wp2_with fail
            go_roundw
            case rel => exact ⟨i + 1, rs2, j1, S5, Sd1, D1, hil, rfl, rfl, HW⟩
            case measure => simp [intOf]; omega
    · obtain rfl : i = m := by omega
      have hi' : ¬ (i : Int) < i := by omega
      obtain ⟨aa, ac, rfl⟩ := HW.out.all.form
      have hac : Hid (∀ a c, Value.slice aa (plL 54 rs).length ac = .slice a (plL 54 rs).length c → (plL 54 rs).length ≤ c) := fun a c he => by
        obtain ⟨a', c', he', hle⟩ := HW.out.all.cap
        obtain ⟨rfl, rfl⟩ : aa = a' ∧ ac = c' := by simpa using he'
        obtain ⟨rfl, rfl⟩ : aa = a ∧ ac = c := by simpa using he
        exact hle
      obtain ⟨ncnt, nlen⟩ := HW.out.count
      have hrok := Lib.hid HW.out.ws.rok
      have hle0 := Lib.hid HW.out.ws.le
      have hNl : (plL 54 rs).length ≤ 2304 := by rw [plL_length]; exact ncnt
      obtain ⟨N, hN⟩ : ∃ N, (plL 54 rs).length = N := ⟨_, rfl⟩
      rw [hN] at hNl ⊢
      have hCr := HW.out.cr
      have hh1 := HW.out.ws.has.crash keep
      have HCx := Lib.hid (cr_crash hCr HKp.out)
      clear hCr HW
      generalize hD1 : D'.after keep = E1 at *
      have hE1 : Hid (E1.down = false ∧ E1.soft = []) := by rw [← hD1]; exact ⟨rfl, rfl⟩
      replace hh1 := Lib.hid hh1
      replace hN := Lib.hid hN
      replace nlen := Lib.hid nlen
      clear hD1 ncnt
      go_wp2_with fail
      refine (HCx.out).mono ?_
      rintro e w4 ⟨c, Sc, rfl, hc4, -, -⟩
      have HFx := Lib.hid (cr_fuel hc4 (max more 0) (by omega))
      clear hc4 HCx
      go_wp2_with fail
      refine (HFx.out).mono ?_
      rintro e w5 ⟨rfl, hc5⟩
      have hh2 : Hid (DevHas { E1 with fuel := max (max more 0) (-1) } 0 128 1 (P0 ++ encL rs) (P0.size + lenL (rs.take j0))) := ⟨hc5.dsk.1, hh1.out.2.1, hh1.out.2.2⟩
      have HOx := Lib.hid (cr_open hc5 hrok.out hle0.out nlen.out hh2.out hE1.out.1 hE1.out.2)
      clear hc5 HFx hh1 hE1
      go_wp2_with fail
      refine (HOx.out).mono ?_
      rintro e w6 ⟨i1, D6, Sd6, hi1, hi2, hc6, hk6, hs6, hh6, -, -, hres⟩
      clear HOx hh2
      rcases hres with ⟨rfl, hdn⟩ | ⟨hdn, hsf, hh6', p6, S6, l6, rfl, -, -, -, hg6, -⟩
      · have HCx := Lib.hid (cr_crash hc6 HAg.out)
        have hh7 := Lib.hid (hh6.crash again)
        clear hc6 hk6 hs6 hh6
        go_wp2_with fail
        refine (HCx.out).mono ?_
        rintro e w7 ⟨c7, Sc7, rfl, hc7, -, -⟩
        have HOx := Lib.hid (cr_open hc7 hrok.out hle0.out nlen.out hh7.out rfl rfl)
        clear hc7 HCx hh7
        go_wp2_with fail
        refine (HOx.out).mono ?_
        rintro e w8 ⟨i2, D8, Sd8, hi3, hi4, hc8, -, -, -, -, hup8, hres⟩
        clear HOx
        rcases hres with ⟨-, hdn8⟩ | ⟨-, -, -, p8, S8, l8, rfl, -, -, -, hg8, -⟩
        · have := (hup8 (up_after _ _)).2
          rw [hdn8] at this
          cases this
        · have HPx := law_prefix (.slice aa (plL 54 rs).length ac) l8 (plL 54 rs) (plL 54 (rs.take i2)) (j0 : Int) (by rw [hN.out]; omega) (by rw [plL_length, List.length_take]; have := hN.out; rw [plL_length] at this; omega) w8 hc8.all.ent hac.out hg8.1.ent
          rw [pre_law hi3 hi4, hN.out] at HPx
          replace HPx := Lib.hid HPx
          have HB8 := Lib.hid hc8.bel
          clear hc8 hg8
          go_wp2_with fail
          refine (HPx.out).mono ?_
          rintro e w9 ⟨rfl, hb⟩
          go_wp2_with fail
          go_ret
          exact ⟨rfl, bT HB8.out hb⟩
      · have hlt : (plL 54 (rs.take i1)).length ≤ 2304 := by rw [plL_length, List.length_take]; have := hN.out; rw [plL_length] at this; omega
        have HPx := law_prefix (.slice aa (plL 54 rs).length ac) l6 (plL 54 rs) (plL 54 (rs.take i1)) (j0 : Int) (by rw [hN.out]; omega) (by omega) w6 hc6.all.ent hac.out hg6.1.ent
        rw [pre_law hi1 hi2, hN.out] at HPx
        replace HPx := Lib.hid HPx
        have HC6 := Lib.hid hc6
        have HG6 := Lib.hid hg6
        have hh7 := Lib.hid (hh6'.crash again)
        clear hc6 hg6 hk6 hs6 hh6 hh6'
        go_wp2_with fail
        refine (HPx.out).mono ?_
        rintro e w7 ⟨rfl, hb⟩
        have HC7 := Lib.hid (HC6.out.later hb)
        have HG7 := Lib.hid (HG6.out.later hb)
        have HCx := Lib.hid (cr_crash HC7.out HAg.out)
        clear hb HPx HC6 HG6
        go_wp2_with fail
        refine (HCx.out).mono ?_
        rintro e w8 ⟨c8, Sc8, rfl, hc8, hk8, hs8⟩
        have HG8 := Lib.hid (HG7.out.keep hk8 hs8)
        have hl1 : (rs.take i1).length = i1 := by rw [List.length_take]; omega
        have htt : (rs.take i1).take i1 = rs.take i1 := by rw [List.take_take, Nat.min_self]
        have HOx := Lib.hid (cr_open (rs := rs.take i1) (i0 := i1) hc8 (fun x hx => hrok.out x (List.mem_of_mem_take hx)) (by omega) (by have := lenL_take_le rs i1; have := nlen.out; omega) (by rw [htt]; exact hh7.out) rfl rfl)
        clear hc8 hk8 hs8 HCx HC7 HG7 hh7
        go_wp2_with fail
        refine (HOx.out).mono ?_
        rintro e w9 ⟨i2, D9, Sd9, hi3, hi4, hc9, hk9, hs9, -, -, hup9, hres⟩
        clear HOx
        rcases hres with ⟨-, hdn9⟩ | ⟨-, -, -, p9, S9, l9, rfl, -, -, -, hg9, -⟩
        · have := (hup9 (up_after _ _)).2
          rw [hdn9] at this
          cases this
        · obtain rfl : i2 = i1 := by omega
          rw [htt] at hg9
          have HG9 := Lib.hid (HG8.out.keep hk9 hs9)
          have HPx := law_prefix (.slice aa (plL 54 rs).length ac) l9 (plL 54 rs) (plL 54 (rs.take i2)) (j0 : Int) (by rw [hN.out]; omega) (by omega) w9 hc9.all.ent hac.out hg9.1.ent
          rw [pre_law hi1 hi2, hN.out] at HPx
          replace HPx := Lib.hid HPx
          have HB9 := Lib.hid hc9.bel
          have HH9 := Lib.hid hg9
          replace hlt := Lib.hid hlt
          clear hc9 hg9 hk9 hs9 HG8
          go_wp2_with fail
          refine (HPx.out).mono ?_
          rintro e wa ⟨rfl, hb⟩
          have HS := ref_same l6 l9 (plL 54 (rs.take i2)) (plL 54 (rs.take i2)) (by have := hlt.out; omega) (by have := hlt.out; omega) wa (HG9.out.later hb).1.ent (HH9.out.later hb).1.ent
          rw [decide_eq_true rfl] at HS
          replace HS := Lib.hid HS
          have HBa := Lib.hid (bT HB9.out hb)
          clear hb HPx
          go_wp2_with fail
          refine (HS.out).mono ?_
          rintro e wb ⟨rfl, hb⟩
          have HBb := Lib.hid (bT HBa.out hb)
          clear hb HS
          go_wp2_with fail
          go_ret
          exact ⟨rfl, HBb.out⟩
end Go.Proofs.Ytafiojmbaickpaa
