import Derived.Test.YtbfifakacneacaaDkWhole
set_option linter.unusedSimpArgs false
set_option linter.unusedVariables false
namespace Go.Proofs.Ytbfifakacneacaa
open Go.RowKit

/-- append onto an owned slice, at a step of a region that draws -/
theorem step_append_frame {P : Program} {w : World} {ops : Array Oper} {o : Oper} {a : Act} {K : Act → World → Prop} {Q : Exit → Act → World → Prop} {E : Prop} (hgd : o.guard = none) (s x : Operand) (t : TypeId)
    (ho : o.op = .call { callee := .builtin .append, args := #[s, x], argTypes := #[t, t] })
    (e : TypeId) (i : TypeInfo) (z : Value) (size bytes : Nat) (ht : P.underlying t = some (.slice e)) (hi : P.info? e = some i) (hz : i.zero = some z)
    (hsize : i.size = size) (hby : i.bytes = bytes) (hzs : z.cells.size = size) (hsz : 0 < size)
    (v : Value) (n : Nat) (xs : List Value) (hs : a.eval s = v) (hown : OwnS w e size v n xs)
    (ad : Addr) (m c : Nat) (news : List Value) (hx : a.eval x = .slice (some ad) m c) (hl : news.length = m * size) (hnews : ∀ j u, news[j]? = some u → w.cell? (ad.add j) = some u) (h1 : ∀ u ∈ news, u.oneCell' = true)
    (h63 : n + m ≤ maxLen) (hbytes : ((n + m) + (n + m) / 4 + 192) * bytes ≤ 281474976710656) (hpos : 0 < n + m)
    (h : ∀ g cap w', OwnS w' e size (.slice (some ⟨g, 0, none⟩) (n + m) cap) (n + m) (xs ++ news) → Keeps (· ∈ blk v) w w' → (∀ k ∈ blk (.slice (some ⟨g, 0, none⟩) (n + m) cap), k ∈ blk v ∨ w.heap.size ≤ k) → K (a.put o.dst (.slice (some ⟨g, 0, none⟩) (n + m) cap)) w') :
    if Region.wanted o (yielded ops a.tmps) = true then Oper.wp P o a w K Q else E := by
  have hw : Region.wanted o (yielded ops a.tmps) = true := by simp [Region.wanted, hgd]
  rw [if_pos hw]
  obtain ⟨v', w', hr, h2, h3, h4, h5⟩ := run_append_frame (P := P) w t o.type e i z size bytes ht hi hz hsize hby hzs hsz v n xs hown ad m c news hl hnews h1 h63 hbytes
  obtain ⟨g, cap, rfl⟩ := h2.has hpos
  unfold Oper.wp execOp
  simp only [ho, resolve, invoke, builtin, Sem.run_bind, Sem.run_pure, Result.andThen_ok, List.map_toArray, List.map_cons, List.map_nil, hs, hx, hr]
  exact h g cap w' h2 h3 h4

theorem str_ne {a b : ByteArray} (h : a ≠ b) : (a.toList == b.toList) = false := by
  refine beq_eq_false_iff_ne.2 fun he => h ?_
  rw [ByteArray.toList_eq, ByteArray.toList_eq] at he
  have := Array.toList_inj.1 he
  cases a; cases b; simp_all
set_option maxRecDepth 100000 in
set_option maxHeartbeats 6400000 in
theorem diskWhole_walk (v0 : Value) (ss : List ByteArray) (v1 : Value) (ts : List ByteArray) (v2 : Value) (ks : List Bool) (L0 : ss.length * 16 ≤ 140737488351232) (L1 : ts.length * 16 ≤ 140737488351232)
    (w : World) (S0 : StrSl w v0 ss) (S1 : StrSl w v1 ts) (S2 : BoolsAt w w.heap.size v2 ks) :
    Calls Try.prog 6 #[v0, v1, v2] w fun e w' => e = .returned (.bool true) ∧ Below w.heap.size w w' := by
  have HN := Lib.hid (dsk_new 4 (by omega) (by omega))
  have HBl := Lib.hid ref_blank
  have hN4 : Inv1 (zeros 64) 0 (Dev.new 4) (fun _ => []) := by
    refine ⟨up_new 4, rfl, rfl, Nat.le_refl _, fun j hj => .inl ⟨rfl, ?_⟩⟩
    match j, hj with
    | 0, _ => rfl
    | 1, _ => rfl
    | 2, _ => rfl
    | 3, _ => rfl
  have hN4 := Lib.hid hN4
  generalize zeros 64 = Z at *
  obtain ⟨sa, sc, rfl, hsl⟩ := S0.form
  obtain ⟨ta, tc, rfl, htl⟩ := S1.form
  have S0 := Lib.hid S0
  have S1 := Lib.hid S1
  have S2 := Lib.hid S2
  clear hsl htl
  obtain ⟨ka, kc, hv2, -, -⟩ := S2.out
  subst hv2
  obtain ⟨i1, hj, hy0, hy1, hy2⟩ := info_parts Try.info_st
  have hj := Lib.hid hj
  have hy0 := Lib.hid hy0
  have hy1 := Lib.hid hy1
  have hy2 := Lib.hid hy2
  go_enter Try.func6, Try.ntmps6
  go_wp2_with fail
  refine (awake02 _).mono ?_
  rintro e w1 ⟨rfl, hb⟩
  have HB1 := Lib.hid hb
  clear hb
  go_wp2_with fail
  refine (HN.out _).mono ?_
  rintro e w2 ⟨p, S, rfl, hD, hb, hS⟩
  have HD2 := Lib.hid hD
  have HB2 := Lib.hid (bT HB1.out hb)
  have HS2 : Hid (∀ k ∈ S, w.heap.size ≤ k) := fun k hk => Nat.le_trans HB1.out.size (hS k hk)
  clear hD hb hS
  go_wp2_with fail
  obtain ⟨q, hq⟩ : ∃ q, w2.heap.size = q := ⟨_, rfl⟩
  have hwq : w.heap.size ≤ q := by have := HB2.out.size; omega
  have HM2 : Hid (MayAt (w2.alloc (.cells #[.slice none 0 0, .slice none 0 0, .slice none 0 0, .slice none 0 0] 41)) q (fun _ => .slice none 0 0) (fun _ => [])) :=
    ⟨hN hq.symm, fun j _ => OwnS.nil _ _ _, fun j _ h => by simp [blk, Value.ownBlock] at h, fun i _ j _ _ k h => by simp [blk, Value.ownBlock] at h⟩
  have HC2 : Hid (Clear w.heap.size S q (fun _ => .slice none 0 0)) := ⟨fun h => by have := HD2.out.lt q h; omega, hwq, fun j _ k h => by simp [blk, Value.ownBlock] at h⟩
  rw [hq]
  clear hq
  go_loopw [32] (fun i wr => ∃ (k : Nat) (D : Dev) (R : List Nat) (mv : Nat → Value) (L : Nat → List ByteArray), k ≤ ss.length ∧ i = .int .i64 k ∧ Hid (Inv1 Z k D L) ∧ Hid (DiskAt wr p D R) ∧ Hid (∀ b ∈ R, w.heap.size ≤ b) ∧ Hid (MayAt wr q mv L) ∧ Hid (Clear w.heap.size R q mv) ∧ Below w.heap.size w wr) (fun i _ => ss.length - (intOf i).toNat)
  case atStart => exact ⟨0, _, S, _, _, by omega, rfl, hN4, HD2.out.later (bA bR), HS2, HM2, HC2, bA HB2.out⟩
  case round =>
    obtain ⟨k, D, R, mv, L, hk, rfl, HI, HD, HR, HM, HC, hbr⟩ := hrel
    have HBr := Lib.hid hbr
    clear hbr HM2 HC2 HD2 HS2 hN4
    have hbr1 : w.heap.size ≤ wr.heap.size := HBr.out.size
    have hsf := HI.out.2.2.2.1
    by_cases hkm : k < ss.length
    · obtain ⟨b, off, rfl, hbl, hcs, hsm⟩ := S0.out.at HBr.out k hkm
      have hblr : b < wr.heap.size := by omega
      have HP := Lib.hid (law_padded (ss.getD k ⟨#[]⟩) hsm)
      have hpm := Lib.hid (padS_le _ hsm)
      generalize ss.getD k ⟨#[]⟩ = s' at *
      obtain ⟨j, hjk, hj4⟩ : ∃ j : Nat, (k : Int) % 4 = (j : Int) ∧ j < 4 := ⟨k % 4, by omega, by omega⟩
      have hj4' : (j : Int) < 4 := by omega
      go_wp2_with fail
      refine (HP.out _).mono ?_
      rintro e w4 ⟨rfl, hb4⟩
      have HDx := Lib.hid (HD.out.later hb4)
      have HMx := Lib.hid (HM.out.later hb4)
      have HBx := Lib.hid (bT HBr.out hb4)
      clear hb4
      generalize padS s' = A at *
      go_wp2_with fail
      refine (dsk_write p j A hpm.out D R (by omega) _ HDx.out).mono ?_
      rintro e w5 ⟨rfl, R', hD, hk', hR⟩
      have HR5 := Lib.hid (below_newS HBx.out HR.out hR)
      have HB5 := Lib.hid (below_keep HBx.out hk' HR.out)
      have HM5 := Lib.hid (HMx.out.dev HC.out hk')
      have HC5 := Lib.hid (HC.out.dev HMx.out hR)
      have HD5 := Lib.hid hD
      clear hD hk' hR
      have hop := inv1_write HI.out j hj4 A
      generalize D.write j A = DW at *
      obtain ⟨D5, r5⟩ := DW
      dsimp only at HD5 hop ⊢
      rcases hop with ⟨rfl, hI⟩ | ⟨rfl, hI⟩
      · have HI5 := Lib.hid hI
        clear hI
        go_wp2_with fail
        refine (HP.out _).mono ?_
        rintro e w6 ⟨rfl, hb6⟩
        have HD6 := Lib.hid (HD5.out.later hb6)
        have HM6 := Lib.hid (HM5.out.later hb6)
        have HB6 := Lib.hid (bT HB5.out hb6)
        clear hb6
        obtain ⟨hc6, hf6⟩ := HM6.out.cell j hj4
        have hq6 := block_lt HM6.out.1
        go_wp2_with fail
        go_roundw
        case rel =>
          have hbk : ∀ b ∈ blk (.slice (some ⟨w6.heap.size, 0, none⟩) 1 1), b ∈ blk (mv j) ∨ w6.heap.size ≤ b := fun b hb => .inr (by simp [blk, Value.ownBlock] at hb; omega)
          rw [← World.setCell_alloc_past _ q j _ hq6]
          exact ⟨k + 1, _, R', _, _, by omega, rfl, HI5, HD6.out.keep (((Keeps.refl (· = q) _).alloc _).setCell _ _ (.inl rfl)) (fun b hb (e : b = q) => HC5.out.1 (by rw [← e]; exact hb)), HR5,
            HM6.out.put j hj4 _ [A] ((Keeps.refl _ _).alloc _) (own_one _ A _ rfl) hbk, HC5.out.put HD6.out.lt HB6.out.size j hj4 _ hbk, bS (bA HB6.out) hwq⟩
        case measure => simp [intOf]; omega
      · have HI5 := Lib.hid hI
        clear hI
        go_wp2_with fail
        go_roundw
        case rel => exact ⟨k + 1, _, R', mv, L, by omega, rfl, HI5, HD5, HR5, HM5, HC5, HB5.out⟩
        case measure => simp [intOf]; omega
    · obtain rfl : k = ss.length := by omega
      obtain ⟨hb0, hup, hf4, hso, hI2⟩ := inv2_start HI.out
      clear HI hsf
      go_wp2_with fail
      refine (dsk_barrier p D R _ HD.out).mono ?_
      rintro e w5 ⟨rfl, R5, hD, hk', hR⟩
      have HR5 := Lib.hid (below_newS HBr.out HR.out hR)
      have HB5 := Lib.hid (below_keep HBr.out hk' HR.out)
      have HM5 := Lib.hid (HM.out.dev HC.out hk')
      have HC5 := Lib.hid (HC.out.dev HM.out hR)
      have HD5 := Lib.hid hD
      clear hD hk' hR HR HBr HM HC HD
      generalize D.barrier = DB at *
      obtain ⟨E, r5⟩ := DB
      dsimp only at hb0 hup hf4 hso hI2 HD5 ⊢
      subst hb0
      have hup := Lib.hid hup
      have hf4 := Lib.hid hf4
      have hso := Lib.hid hso
      have hI2 := Lib.hid hI2
      go_wp2_with fail
      go_loopw [54] (fun i wr => ∃ (k : Nat) (mv : Nat → Value) (L : Nat → List ByteArray), k ≤ 4 ∧ i = .int .i64 k ∧ Hid (Inv2 Z k E L) ∧ Hid (DiskAt wr p E R5) ∧ Hid (MayAt wr q mv L) ∧ Hid (Clear w.heap.size R5 q mv) ∧ Below w.heap.size w wr) (fun i _ => 4 - (intOf i).toNat)
      case atStart => exact ⟨0, _, _, by omega, rfl, hI2, HD5, HM5, HC5, HB5.out⟩
      case round =>
        obtain ⟨k, mv, L, hk, rfl, HI, HD, HM, HC, hbr⟩ := hrel
        have HBr := Lib.hid hbr
        clear hbr HM5 HC5 HD5 HB5 hI2
        have hbr1 : w.heap.size ≤ wr.heap.size := HBr.out.size
        by_cases hk4 : k < 4
        · obtain ⟨hcc, hcf⟩ := HM.out.cell k hk4
          obtain ⟨ma, mc, hmf⟩ := (HM.out.2.1 k hk4).form
          rw [hmf] at hcc
          have hqr := block_lt HM.out.1
          cases hl : (L k).length with
          | zero =>
            rw [hl] at hcc
            have hle : L k = [] := List.eq_nil_of_length_eq_zero hl
            have HI4 := Lib.hid (inv2_fill hk4 HI.out hle)
            go_wp2_with fail
            refine (HBl.out _).mono ?_
            rintro e w6 ⟨rfl, hb6⟩
            have HD6 := Lib.hid (HD.out.later hb6)
            have HM6 := Lib.hid (HM.out.later hb6)
            have HB6 := Lib.hid (bT HBr.out hb6)
            clear hb6
            obtain ⟨hc6, hf6⟩ := HM6.out.cell k hk4
            have hq6 := block_lt HM6.out.1
            go_wp2_with fail
            go_roundw
            case rel =>
              have hbk : ∀ b ∈ blk (.slice (some ⟨w6.heap.size, 0, none⟩) 1 1), b ∈ blk (mv k) ∨ w6.heap.size ≤ b := fun b hb => .inr (by simp [blk, Value.ownBlock] at hb; omega)
              rw [← World.setCell_alloc_past _ q k _ hq6]
              exact ⟨k + 1, _, _, by omega, rfl, HI4, HD6.out.keep (((Keeps.refl (· = q) _).alloc _).setCell _ _ (.inl rfl)) (fun b hb (e : b = q) => HC.out.1 (by rw [← e]; exact hb)),
                HM6.out.put k hk4 _ [Z] ((Keeps.refl _ _).alloc _) (own_one _ Z _ rfl) hbk, HC.out.put HD6.out.lt HB6.out.size k hk4 _ hbk, bS (bA HB6.out) hwq⟩
            case measure => simp [intOf]; omega
          | succ n =>
            rw [hl] at hcc
            have hle : L k ≠ [] := fun e => by rw [e] at hl; simp at hl
            have HI4 := Lib.hid (inv2_skip HI.out hle)
            have hn0 : (((n + 1 : Nat) : Int) == 0) = false := by simp; omega
            go_wp2_with fail
            go_roundw
            case rel => exact ⟨k + 1, mv, L, by omega, rfl, HI4, HD, HM, HC, HBr.out⟩
            case measure => simp [intOf]; omega
        · obtain rfl : k = 4 := by omega
          have HI3 := Lib.hid (inv3_start hup.out hf4.out hso.out HI.out)
          clear hup hf4 hso HI
          go_wp2_with fail
          go_loopw [69] (fun i wr => ∃ (k : Nat) (D : Dev) (R : List Nat) (mv : Nat → Value) (L : Nat → List ByteArray), k ≤ ts.length ∧ i = .int .i64 k ∧ Hid (Inv3 k D L) ∧ Hid (DiskAt wr p D R) ∧ Hid (∀ b ∈ R, w.heap.size ≤ b) ∧ Hid (MayAt wr q mv L) ∧ Hid (Clear w.heap.size R q mv) ∧ Below w.heap.size w wr) (fun i _ => ts.length - (intOf i).toNat)
          case atStart => exact ⟨0, E, R5, _, _, by omega, rfl, HI3, HD, HR5, HM, HC, HBr.out⟩
          case round =>
            obtain ⟨k, D, R, mv, L, hk, rfl, HI, HD, HR, HM, HC, hbr⟩ := hrel
            have HBr := Lib.hid hbr
            clear hbr HI3 HR5
            have hbr1 : w.heap.size ≤ wr.heap.size := HBr.out.size
            have hsf := HI.out.2.2.1
            by_cases hkm : k < ts.length
            · obtain ⟨b, off, rfl, hbl, hcs, hsm⟩ := S1.out.at HBr.out k hkm
              have hblr : b < wr.heap.size := by omega
              have HP := Lib.hid (law_padded (ts.getD k ⟨#[]⟩) hsm)
              have hpm := Lib.hid (padS_le _ hsm)
              generalize ts.getD k ⟨#[]⟩ = s' at *
              obtain ⟨j, hjk, hj4⟩ : ∃ j : Nat, (k : Int) % 4 = (j : Int) ∧ j < 4 := ⟨k % 4, by omega, by omega⟩
              have hj4' : (j : Int) < 4 := by omega
              go_wp2_with fail
              refine (HP.out _).mono ?_
              rintro e w4 ⟨rfl, hb4⟩
              have HDx := Lib.hid (HD.out.later hb4)
              have HMx := Lib.hid (HM.out.later hb4)
              have HBx := Lib.hid (bT HBr.out hb4)
              clear hb4
              generalize padS s' = A at *
              go_wp2_with fail
              refine (dsk_write p j A hpm.out D R (by omega) _ HDx.out).mono ?_
              rintro e w5 ⟨rfl, R', hD, hk', hR⟩
              have HR5 := Lib.hid (below_newS HBx.out HR.out hR)
              have HB5 := Lib.hid (below_keep HBx.out hk' HR.out)
              have HM5 := Lib.hid (HMx.out.dev HC.out hk')
              have HC5 := Lib.hid (HC.out.dev HMx.out hR)
              have HD5 := Lib.hid hD
              clear hD hk' hR HDx HMx HBx HD HM HC HR HBr hcs
              have hop := inv3_write HI.out j hj4 A
              generalize D.write j A = DW at *
              obtain ⟨D5, r5⟩ := DW
              dsimp only at HD5 hop ⊢
              have hLk := (HI.out.2.2.2.1 j hj4).1
              rcases hop with ⟨rfl, hI⟩ | ⟨rfl, hI⟩
              · have HI5 := Lib.hid hI
                clear hI
                obtain ⟨hc5, hf5⟩ := HM5.out.cell j hj4
                obtain ⟨ma, mc, hmf⟩ := (HM5.out.2.1 j hj4).form
                rw [hmf] at hc5
                have hq5 := block_lt HM5.out.1
                have hc5d : w5.drew.cell? ⟨q, j, none⟩ = some (.slice ma (L j).length mc) := hc5
                have hjt : (k : Int).tmod 4 = (j : Int) := by rw [Int.tmod_eq_emod_of_nonneg (by omega)]; exact hjk
                have hj0 : (0 : Int) ≤ (j : Int) := by omega
                go_wp2_with fail
                go_region_law (first
                  | (refine step_append_frame rfl (.tmp 86) (.tmp 89) 22 rfl 9 i1 (.string .empty) 1 16 Try.underlying22 hj.out hy0.out hy1.out hy2.out rfl (by decide) _ _ _ rfl HO6.out ⟨w6.heap.size, 0, none⟩ 1 1 [.string A] rfl rfl (cell_one_at _ _ _ _ _ rfl) (by simp [Value.oneCell']) (by unfold maxLen; omega) (by omega) (by omega) ?_; rintro g7 c7 w7 ho7 hk7 hb7; (have hq7 := hk7.keep (hO HM6.out.1) (by have := HM6.out.2.2.1 j hj4; rw [hmf] at this; exact this)); (have C7 : w7.cell? ⟨q, j, none⟩ = some (.slice ma (L j).length mc) := by rw [cell_at hq7 j, ← cell_at HM6.out.1 j]; exact hc6); (have F7 := free_at hq7 j); (have HO7 := Lib.hid ho7); (have HK7 := Lib.hid hk7); (have HB7 := Lib.hid hb7); clear ho7 hk7 hb7)
                  | (go_simp; go_at_call 13; refine (HP.out _).mono ?_; rintro e w6 ⟨rfl, hb6⟩; (have HD6 := Lib.hid ((HD5.out.later (bD bR)).later hb6)); (have HM6 := Lib.hid ((HM5.out.later (bD bR)).later hb6)); (have HB6 := Lib.hid (bT (bD HB5.out) hb6)); clear hb6; (have hc6 := (HM6.out.cell j hj4).1); (have hf6 := (HM6.out.cell j hj4).2); rw [hmf] at hc6; (have hq6 := block_lt HM6.out.1); (have HO6 := Lib.hid ((HM6.out.2.1 j hj4).keep ((Keeps.refl (fun _ => False) w6).alloc (.cells #[.string A] 9)) (fun _ _ => id))); rw [hmf] at HO6))
                all_goals
                  have hk67 : Keeps (· ∈ blk (mv j)) w6 w7 := by rw [hmf]; exact (((Keeps.refl (fun _ => False) w6).alloc (.cells #[.string A] 9)).mono (fun _ _ h => h.elim)).trans HK7.out (fun _ _ h => h)
                  have hbk : ∀ b ∈ blk (.slice (some ⟨g7, 0, none⟩) ((L j).length + 1) c7), b ∈ blk (mv j) ∨ w6.heap.size ≤ b := fun b hb => by
                    rw [hmf]
                    exact (HB7.out b hb).imp id (fun h => by simp at h; omega)
                  have hl7 : OwnS w7 9 1 (.slice (some ⟨g7, 0, none⟩) ((L j).length + 1) c7) (L j ++ [A]).length (strV (L j ++ [A])) := by
                    rw [List.length_append, show strV (L j ++ [A]) = strV (L j) ++ [.string A] from by simp [strV]]
                    exact HO7.out
                  have HM7 := Lib.hid (HM6.out.put j hj4 _ _ hk67 hl7 hbk)
                  have HC7 := Lib.hid (HC5.out.put HD6.out.lt HB6.out.size j hj4 _ hbk)
                  have HD7 := Lib.hid ((HD6.out.keep hk67 (fun b hb h => (HC5.out.2.2 j hj4 b h).1 hb)).keep ((Keeps.refl (· = q) w7).setCell ⟨q, j, none⟩ (.slice (some ⟨g7, 0, none⟩) ((L j).length + 1) c7) (.inl rfl)) (fun b hb (e : b = q) => HC5.out.1 (by rw [← e]; exact hb)))
                  have HB7' := Lib.hid (bS (below_keep HB6.out hk67 (fun b h => (HC5.out.2.2 j hj4 b h).2)) (p := ⟨q, j, none⟩) (u := .slice (some ⟨g7, 0, none⟩) ((L j).length + 1) c7) hwq)
                  clear hl7 hbk hk67
                  go_wp2_with fail
                  go_roundw
                  case rel => exact ⟨_, _, _, _, _, _, _, _, _, _, _, _, _, _, _, _, _, _, _, _, _, _, _, _, _, _, ⟨k + 1, _, R', _, _, by omega, rfl, HI5, HD7, HR5, HM7, HC7, HB7'.out⟩, rfl⟩
                  case measure => simp [intOf]; omega
              · have HI5 := Lib.hid hI
                clear hI
                go_wp2_with fail
                go_roundw
                case rel => exact ⟨_, _, _, _, _, _, _, _, _, _, _, _, _, _, _, _, _, _, _, _, _, _, _, _, _, _, ⟨k + 1, _, R', mv, L, by omega, rfl, HI5, HD5, HR5, HM5, HC5, HB5.out⟩, rfl⟩
                case measure => simp [intOf]; omega
            · obtain rfl : k = ts.length := by omega
              go_wp2_with fail
              refine (dsk_crash p D R w.heap.size _ ks _ HD.out (S2.out.keep (Keeps.of_below (fun _ => False) HBr.out) (Nat.le_refl _) (fun _ h => h.elim)) hbr1 HR.out).mono ?_
              rintro e w5 ⟨p5, S5, rfl, hD, hCr, hk', hS5⟩
              have HB5 := Lib.hid (below_keep HBr.out hk' (fun k e => by subst e; exact HR.out _ HD.out.mem))
              have HM5 := Lib.hid (HM.out.dev HC.out (hk'.mono fun i _ e => by subst e; exact HD.out.mem))
              have HC5 := Lib.hid hCr
              clear hD hCr hk' hS5
              go_wp2_with fail
              go_loopw [96] (fun i wx => ∃ (k : Nat), k ≤ 4 ∧ i = .int .i64 k ∧ wx = w5) (fun i _ => 4 - (intOf i).toNat)
              case atStart => exact ⟨0, by omega, rfl, rfl⟩
              case round =>
                obtain ⟨k, hk, rfl, rfl⟩ := hrel
                by_cases hk4 : k < 4
                · obtain ⟨s, hs, hmem⟩ := inv3_read HI.out ks k hk4
                  have hs := Lib.hid hs
                  have hmem := Lib.hid hmem
                  obtain ⟨hc5, hf5⟩ := HM5.out.cell k hk4
                  have ho := HM5.out.2.1 k hk4
                  obtain ⟨g, mc, hmf⟩ := ho.has (by cases hL : L k with | nil => rw [hL] at hmem; exact absurd hmem.out (by simp) | cons a b => simp)
                  rw [hmf] at hc5 ho
                  have HO := Lib.hid ho
                  clear ho
                  obtain ⟨l, hl⟩ : ∃ l, L k = l := ⟨_, rfl⟩
                  have hll := (HI.out.2.2.2.1 k hk4).1
                  rw [hl] at hc5 HO hmem hll
                  clear hl
                  go_wp2_with fail
                  refine (dsk_read p5 k _ S5 _ HC5.out).mono ?_
                  rintro e w7 ⟨rfl, rfl⟩
                  rw [hs.out]
                  go_wp2_with fail
                  go_loopw [19, 109] (fun f i wx => ∃ (m : Nat) (b : Bool), m ≤ l.length ∧ i = .int .i64 m ∧ f = .bool b ∧ (b = false → ∀ n, n < m → l.getD n ⟨#[]⟩ ≠ s) ∧ wx = w7) (fun _ i _ => l.length - (intOf i).toNat)
                  case atStart => exact ⟨0, false, by omega, rfl, rfl, fun _ n h => by omega, rfl⟩
                  case round =>
                    obtain ⟨m, bb, hm, rfl, rfl, hno, rfl⟩ := hrel
                    have hno := Lib.hid hno
                    by_cases hml : m < l.length
                    · have hcm : wr.cell? ⟨g, m, none⟩ = some (.string (l.getD m ⟨#[]⟩)) := by
                        rw [HO.out.cellAt m (by omega)]
                        unfold strV
                        rw [List.getElem?_map, List.getD_eq_getElem?_getD, List.getElem?_eq_getElem (by omega)]; rfl
                      cases bb with
                      | true =>
                        go_wp2_with fail
                        go_roundw
                        case rel => exact ⟨m + 1, true, by omega, rfl, rfl, by simp, by trivial⟩
                        case measure => simp [intOf]; omega
                      | false =>
                        by_cases hst : l.getD m ⟨#[]⟩ = s
                        · have hst' : (s.toList == (l.getD m ⟨#[]⟩).toList) = true := by rw [hst]; simp
                          generalize l.getD m ⟨#[]⟩ = t' at *
                          go_wp2_with fail
                          go_roundw
                          case rel => exact ⟨m + 1, true, by omega, rfl, rfl, by simp, by trivial⟩
                          case measure => simp [intOf]; omega
                        · have hst' : (s.toList == (l.getD m ⟨#[]⟩).toList) = false := str_ne (fun e => hst e.symm)
                          have hno' : ∀ n, n < m + 1 → l.getD n ⟨#[]⟩ ≠ s := fun n hn => by
                            by_cases e : n = m
                            · subst e; exact hst
                            · exact hno.out rfl n (by omega)
                          have hno' := Lib.hid hno'
                          clear hst
                          generalize l.getD m ⟨#[]⟩ = t' at *
                          go_wp2_with fail
                          go_roundw
                          case rel => exact ⟨m + 1, false, by omega, rfl, rfl, fun _ => hno'.out, by trivial⟩
                          case measure => simp [intOf]; omega
                    · obtain rfl : m = l.length := by omega
                      have hbt : bb = true := by
                        by_cases hb : bb = true
                        · exact hb
                        · obtain ⟨n, hn, hnn⟩ := List.getElem_of_mem hmem.out
                          exact absurd (show l.getD n ⟨#[]⟩ = s by rw [List.getD_eq_getElem?_getD, List.getElem?_eq_getElem hn]; exact hnn) (hno.out (by simpa using hb) n hn)
                      subst hbt
                      go_wp2_with fail
                      go_roundw
                      case rel => exact ⟨k + 1, by omega, rfl, by trivial⟩
                      case measure => simp [intOf]; omega
                · obtain rfl : k = 4 := by omega
                  go_wp2_with fail
                  refine (dsk_pending p5 _ S5 _ HC5.out).mono ?_
                  rintro e w8 ⟨rfl, rfl⟩
                  rw [show ((Dev.after D ks).soft.length : Int) = 0 from rfl]
                  go_wp2_with fail
                  go_ret
                  exact ⟨rfl, HB5.out⟩
end Go.Proofs.Ytbfifakacneacaa
