import Derived.Test.YtimomjheanfbmaaGreatDoorChRYz
import Derived.Test.YtimomjheanfbmaaGreatDoorMap
import Derived.Great.BuildSlice
import Derived.Deep.DeepCutAuto
import Derived.Deep.CutBlock
set_option linter.unusedSimpArgs false
set_option linter.unusedVariables false
namespace Go.Proofs.YtimomjheanfbmaaGreatDoor
open Go.RowKit

def intV (l : List Int) : List Value := l.map (Value.int .i64)
theorem intV_snoc (l : List Int) (a : Int) : intV (l ++ [a]) = intV l ++ [.int .i64 a] := by unfold intV; rw [List.map_append]; rfl
theorem intV_get {l : List Int} {i : Nat} {a : Int} (h : l[i]? = some a) : (intV l)[i]? = some (.int .i64 a) := by unfold intV; rw [List.getElem?_map, h]; rfl
theorem Tryz.info_intS : (Tryz.prog.info? 3).map (fun i => (i.zero, i.size, i.bytes)) = some (some (.int .i64 0), 1, 8) := by kernel_rfl
def svRow (F : Nat → Pg) (b : Nat) : List Value := pgRow (fun q => if q < b then F (q % 6) else pageZ) 12
theorem svRow_next (F : Nat → Pg) (b : Nat) (R : Pg) (hR : pgC R = pgC (F (b % 6))) : pgRow (fun q => if q = b then R else if q < b then F (q % 6) else pageZ) 12 = svRow F (b + 1) := pgRow_congr 12 (fun q hq => by
  show pgC (if q = b then R else if q < b then F (q % 6) else pageZ) = pgC (if q < b + 1 then F (q % 6) else pageZ)
  by_cases h1 : q = b
  · subst h1; rw [if_pos rfl, if_pos (by omega)]; exact hR
  · rw [if_neg h1]
    by_cases h2 : q < b
    · rw [if_pos h2, if_pos (by omega)]
    · rw [if_neg h2, if_neg (by omega)])
set_option maxRecDepth 100000 in
set_option maxHeartbeats 1600000 in
theorem chainSaves_walk (v : Value) (cs : List LCall) (nn : Int) (w : World) (h : LcIs w v cs) :
    Calls Tryz.prog 5 #[v, .int .i64 nn] w fun e w' => e = .returned (.bool true) ∧ Below w.heap.size w w' := by
  have HA := Lib.hid awake18
  obtain ⟨va, vc, rfl⟩ := h.form
  have hmx := h.max
  unfold maxLen at hmx
  obtain ⟨n, hn⟩ : ∃ n, cs.length = n := ⟨_, rfl⟩
  rw [hn] at h hmx ⊢
  replace hn := Lib.hid hn
  have H := Lib.hid h
  clear h
  go_enter Tryz.func5, Tryz.ntmps5
  go_wp2_with fail
  refine (HA.out _).mono ?_
  rintro e w1 ⟨rfl, hb⟩
  have HB1 := Lib.hid hb
  clear hb HA
  by_cases hbig : 12 < n
  · have b1 : decide (12 < (n : Int)) = true := by apply decide_eq_true; omega
    go_wp2_with fail
    go_ret
    exact ⟨rfl, HB1.out⟩
  have b1 : decide (12 < (n : Int)) = false := by apply decide_eq_false; omega
  have hn12 : Hid (n ≤ 12) := by show n ≤ 12; omega
  clear hbig hmx
  have hIn := svAll_inv cs n (by rw [hn.out]; exact Nat.le_refl _)
  rw [show cs.take n = cs by rw [← hn.out, List.take_length]] at hIn
  obtain ⟨l, hGl⟩ := hIn.stack (by have := hn12.out; omega)
  obtain ⟨tj, hto, htl⟩ := posL_eq nn (n + 1) (by omega) (by have := hn12.out; omega)
  obtain ⟨tu, htu⟩ : ∃ a, (svAll cs).sv[tj]? = some a := ⟨_, List.getElem?_eq_getElem (by rw [hIn.len]; exact htl)⟩
  obtain ⟨F, hF⟩ : ∃ F, svPages (svAll cs).σ l tu = F := ⟨_, rfl⟩
  obtain ⟨N1, hN1⟩ : ∃ q, n + 1 = q := ⟨_, rfl⟩
  rw [hN1] at hto htl
  have HIn := Lib.hid hIn
  have HG := Lib.hid hGl
  have Hto := Lib.hid hto
  have Htl := Lib.hid htl
  have Htu := Lib.hid htu
  replace hF := Lib.hid hF
  replace hN1 := Lib.hid hN1
  have htu0 := Lib.hid (hIn.rng tu (List.mem_of_getElem? htu))
  have hN13 : Hid (N1 ≤ 13 ∧ 1 ≤ N1) := by have := hN1.out; have := hn12.out; show _ ∧ _; omega
  clear hIn hGl hto htl htu
  obtain ⟨ji, hji, hy0, hy1, hy2⟩ := info_parts Tryz.info_intS
  go_upto_region 6 with fail
  have hsw : Hid (w.heap.size ≤ w1.heap.size) := HB1.out.size
  refine name_world (fun W => Below w.heap.size w W ∧ OwnS W 93 16 (.slice (some ⟨w1.heap.size, 0, none⟩) 12 12) 12 (svRow F 0)) ⟨bA HB1.out, by unfold svRow; rw [pgRow_length], .inr ⟨w1.heap.size, 12, _, rfl, Nat.zero_le _, hN rfl, Nat.le_refl _, by unfold maxLen; omega, by rfl, by rfl⟩⟩ ?_
  rintro W2 ⟨hb2, ho2⟩
  have HB2 := Lib.hid hb2
  have HS2 := Lib.hid ho2
  obtain ⟨sb, hsb⟩ : ∃ q, w1.heap.size = q := ⟨_, rfl⟩
  rw [hsb] at hsw HS2 ⊢
  clear hb2 ho2 HB1 hsb b1
  go_wp2_with fail
  go_loopw [29] (fun x wr => ∃ (k : Nat), k ≤ 2 ∧ x = .int .i64 k ∧ Hid (Below w.heap.size w wr) ∧ Hid (OwnS wr 93 16 (.slice (some ⟨sb, 0, none⟩) 12 12) 12 (svRow F (6 * k)))) (fun x _ => 2 - (intOf x).toNat)
  case atStart => exact ⟨0, by omega, rfl, HB2, HS2⟩
  case round =>
    clear HB2 HS2
    obtain ⟨k, hk, rfl, HB, HS⟩ := hrel
    by_cases hk2 : k < 2
    rotate_left
    · obtain rfl : k = 2 := by omega
      have hr0 := Lib.hid (row_half HS.out F 0 (by omega) (fun i hi => by show pgC (if 6 * 0 + i < 6 * 2 then F ((6 * 0 + i) % 6) else pageZ) = _; rw [if_pos (by omega), show (6 * 0 + i) % 6 = i by omega]))
      have hr1 := Lib.hid (row_half HS.out F 1 (by omega) (fun i hi => by show pgC (if 6 * 1 + i < 6 * 2 then F ((6 * 1 + i) % 6) else pageZ) = _; rw [if_pos (by omega), show (6 * 1 + i) % 6 = i by omega]))
      have hsz : Hid ((Tryz.prog.info? 92).map (·.size) = some (pgRow F 6).length) := by show _ = _; rw [pgRow_length]; kernel_rfl
      clear hk hk2 HS
      go_wp2_with (first
        | (refine wpList_load_mid rfl 92 _ rfl sb 0 rfl (pgRow F 6) _ (hr0.out) Tryz.underlying92 rfl hsz.out ?_)
        | (refine wpList_load_mid rfl 92 _ rfl sb 96 rfl (pgRow F 6) _ (hr1.out) Tryz.underlying92 rfl hsz.out ?_)
        | (refine wpList_eq_row6 rfl _ _ _ rfl F rfl rfl ?_))
      go_ret
      exact ⟨rfl, HB.out⟩
    have hkI : (k : Int) < 2 := by omega
    have hk0 : (0 : Int) ≤ k := by omega
    have hkw : IntKind.i64.wrap ((k : Int) + 1) = (k : Int) + 1 := by rw [IntKind.wrap_i64]; omega
    have hkN := Lib.hid hk2
    clear hk hk2
    have HMd := Lib.hid (cx_made w wr [sb] (fun q hq => by rw [List.mem_singleton.1 hq]; exact HS.out.lt (by simp [blk, Value.ownBlock])) HB.out 1 (by omega))
    go_wp2_with fail
    refine (HMd.out).mono ?_
    rintro e w2 ⟨c, lp, p, dp, lb, mb, rfl, hx, hk2⟩
    have HX2 := Lib.hid hx
    have HS2 : Hid (OwnS w2 93 16 (.slice (some ⟨sb, 0, none⟩) 12 12) 12 (svRow F (6 * k))) := HS.out.keep hk2 (fun q hq h => h.2 (by simp [blk, Value.ownBlock] at hq; simp [hq]))
    clear hx hk2 HMd HB HS
    have HN := Lib.hid (mx_new 54 6912 1 w2)
    go_wp2_with fail
    refine (HN.out).mono ?_
    rintro e w3 ⟨m, g, rfl, hm, hb, hm1, hg1⟩
    have HM3 := Lib.hid hm
    have hsl := HS2.out.lt (k := sb) (by simp [blk, Value.ownBlock])
    have hne : Hid (sb ≠ m ∧ sb ≠ g) := ⟨by omega, by omega⟩
    have HX3 : Hid (Cx w w3 [m, g, sb] c lp p dp 6 lb mb 0 (.slice none 0 0) (CS.init 1)) := HX2.out.more hb [m, g, sb] (fun q hq => by
      simp only [List.mem_cons, List.not_mem_nil, or_false] at hq
      rcases hq with rfl | rfl | rfl
      · exact hm.lt _ (by simp)
      · exact hm.lt _ (by simp)
      · exact Nat.lt_of_lt_of_le hsl hb.size) (fun q hq => by
      simp only [List.mem_cons, List.not_mem_nil, or_false] at hq
      rcases hq with rfl | rfl | rfl
      · exact .inr hm1
      · exact .inr hg1
      · exact .inl (by simp))
    have HS3 : Hid (OwnS w3 93 16 (.slice (some ⟨sb, 0, none⟩) 12 12) 12 (svRow F (6 * k))) := HS2.out.keep (Keeps.of_below (fun _ => False) hb) (fun _ _ h => h)
    have hgw : Hid (w.heap.size ≤ g) := Nat.le_trans (HX2.out.bel).size hg1
    have hmw : Hid (w.heap.size ≤ m) := Nat.le_trans (HX2.out.bel).size hm1
    have hmg : Hid (m ≠ g) := hm.nd
    clear hm hb hm1 hg1 HN HX2 HS2 hsl
    have HBg := Lib.hid (cx_begin_one HX3.out)
    go_wp2_with fail
    refine (HBg.out).mono ?_
    rintro e w5 ⟨n5, lv5, rfl, hk5, hx5⟩
    have HX5 := Lib.hid hx5
    have HM5 : Hid (Mx w5 m g (fun _ => pageZ)) := HM3.out.keep hk5 (fun q hq h => h.2 (by simp at hq; rcases hq with rfl | rfl <;> simp))
    have HS5 : Hid (OwnS w5 93 16 (.slice (some ⟨sb, 0, none⟩) 12 12) 12 (svRow F (6 * k))) := HS3.out.keep hk5 (fun q hq h => h.2 (by simp [blk, Value.ownBlock] at hq; simp [hq]))
    clear hk5 hx5 HBg HX3 HM3 HS3
    go_wp2_with (refine wpList_buildSlice rfl 54 3 1 _ rfl #[.int .i64 0] ji _ Tryz.underlying54 hji hy0 (by rw [hy1]; decide) (by rw [hy1]; decide) (by rw [hy1]; rfl) ?_)
    go_loopw [53, 14] (fun x y wr => ∃ (j nk : Nat) (lv : Value), j ≤ n ∧ x = .int .i64 j ∧ Hid (OwnS wr 3 1 y (j + 1) (intV (svAll (cs.take j)).sv)) ∧ Hid (Cx w wr (blk y ++ [m, g, sb]) c lp p dp 6 lb mb nk lv (svAll (cs.take j)).σ) ∧ Hid (Mx wr m g (svAll (cs.take j)).f) ∧ Hid (OwnS wr 93 16 (.slice (some ⟨sb, 0, none⟩) 12 12) 12 (svRow F (6 * k))) ∧ Hid (∀ q ∈ blk y, w.heap.size ≤ q ∧ q ≠ m ∧ q ≠ g ∧ q ≠ sb)) (fun x _ _ => n - (intOf x).toNat)
    case atStart =>
      have hm5 := HM5.out.lt m (by simp)
      have hg5 := HM5.out.lt g (by simp)
      have hs5 := HS5.out.lt (k := sb) (by simp [blk, Value.ownBlock])
      have hw5 := HX5.out.bel.size
      exact ⟨0, n5, lv5, Nat.zero_le _, rfl, ⟨rfl, .inr ⟨w5.heap.size, 1, _, rfl, Nat.zero_le _, hN rfl, Nat.le_refl _, by unfold maxLen; omega, by rfl, by rfl⟩⟩, HX5.out.push (bA bR) _ (Nat.le_refl _) (by simp), HM5.out.later (bA bR), HS5.out.keep ((Keeps.refl (fun _ => False) w5).alloc _) (fun _ _ h => h), fun q hq => by
        obtain rfl : q = w5.heap.size := by simpa [blk, Value.ownBlock] using hq
        exact ⟨hw5, by omega, by omega, by omega⟩⟩
    case round =>
      clear HX5 HM5 HS5
      obtain ⟨j, nk, lv, hj, rfl, HO, HX, HMx, HS, HQ⟩ := hrel
      by_cases hjn : j < n
      · obtain ⟨y, hy⟩ : ∃ y, cs[j]? = some y := ⟨_, List.getElem?_eq_getElem (by rw [hn.out]; exact hjn)⟩
        obtain ⟨b, off, rfl, hbl, hrg, hyo⟩ := H.out.at j y hy
        have HRg := Lib.hid (range_below hrg hbl HX.out.bel)
        have hnx := svAll_next hy
        have hIj := svAll_inv cs j (by rw [hn.out]; omega)
        obtain ⟨q, hq⟩ : ∃ q, svAll (cs.take j) = q := ⟨_, rfl⟩
        rw [hq] at hIj hnx HO HX HMx
        have HIj := Lib.hid hIj
        have Hnx := Lib.hid hnx
        have hjI : (j : Int) < n := by omega
        have hj0 : (0 : Int) ≤ j := by omega
        have hjw : IntKind.i64.wrap ((j : Int) + 1) = (j : Int) + 1 := by have := hn12.out; rw [IntKind.wrap_i64]; omega
        have HNc : Hid ((wr.alloc (.cells (lcL lcZ).toArray 35)).heap[wr.heap.size]? = some (.cells (lcL lcZ).toArray 35 (0, 0))) := hN rfl
        have hyo' := Lib.hid hyo
        have hjN := Lib.hid hjn
        obtain ⟨ya, yc, hyv⟩ := HO.out.form
        subst hyv
        clear hrg hy hyo hj hjn hq hnx hIj
        go_upto_region 18 with (first
          | (refine wpList_load_mid rfl 35 _ rfl b (off + j * 8) rfl (lcL y) _ HRg.out Tryz.underlying35 rfl lcl_info ?_)
          | (refine wpList_store_whole rfl 35 _ _ rfl _ (lcL y).toArray rfl rfl _ _ HNc.out rfl lcl_info (fun v hv => lcL_cells y v (by simpa using hv)) ?_; intro w5 HC5 K5; (have HK5 : Hid (Keeps (fun _ => False) wr w5) := ((Keeps.refl (fun _ => False) wr).alloc _).trans K5.out (fun q hq e => by omega)); clear HNc K5))
        have HX5 := Lib.hid (HX.out.later HK5.out.below)
        have HM5 := Lib.hid (HMx.out.later HK5.out.below)
        have HO5 := Lib.hid (HO.out.keep HK5.out (fun _ _ h => h))
        have HS5 := Lib.hid (HS.out.keep HK5.out (fun _ _ h => h))
        clear HX HMx HRg HO HS
        have HIm := Lib.hid (mx_image HM5.out y)
        go_wp2_with (refine wpList_load_row rfl 35 _ rfl _ rfl 35 _ _ _ HC5.out Tryz.underlying35 rfl lcl_info ?_)
        refine (HIm.out).mono ?_
        rintro e w6 ⟨ib, rfl, hib, hb6, hibl⟩
        have HX6 : Hid (Cx w w6 (ib :: (blk (.slice ya (j + 1) yc) ++ [m, g, sb])) c lp p dp 6 lb mb nk lv q.σ) := HX5.out.push hb6 _ hibl (block_lt hib)
        have HM6 := Lib.hid (HM5.out.later hb6)
        have HO6 := Lib.hid (HO5.out.keep (Keeps.of_below (fun _ => False) hb6) (fun _ _ h => h))
        have HS6 := Lib.hid (HS5.out.keep (Keeps.of_below (fun _ => False) hb6) (fun _ _ h => h))
        have HI6 := Lib.hid hib
        have hig : Hid (ib ≠ g) := by have := HM5.out.lt g (by simp); show ib ≠ g; omega
        have HNu : Hid ((w6.alloc (.cells #[.int .i64 0, .int .i64 0, .int .i64 0, .int .i64 0, .string ⟨#[]⟩, .int .i64 0, .string ⟨#[]⟩] 42)).heap[w6.heap.size]? = some (.cells #[.int .i64 0, .int .i64 0, .int .i64 0, .int .i64 0, .string ⟨#[]⟩, .int .i64 0, .string ⟨#[]⟩] 42 (0, 0))) := hN rfl
        have hUo : Hid (∀ v ∈ (unL (imgU q.f y)).toArray.toList, v.oneCell' = true) := fun v hv => un_cells _ v (by simpa using hv)
        obtain ⟨U, hU⟩ : ∃ U, imgU q.f y = U := ⟨_, rfl⟩
        rw [hU] at hUo ⊢
        clear hib hb6 hibl HIm HX5 HM5 HC5 HO5 HS5
        go_upto_region 19 with (refine wpList_store_whole rfl 42 _ _ rfl _ (unL U).toArray rfl rfl _ _ HNu.out rfl un_info hUo.out ?_; intro w7 HU7 K7; (have hk7 : Hid (Keeps (fun _ => False) w6 w7) := ((Keeps.refl (fun _ => False) w6).alloc _).trans K7.out (fun q hq e => by omega)); (have HX7 := Lib.hid (HX6.out.later hk7.out.below)); (have HM7 := Lib.hid (HM6.out.later hk7.out.below)); (have HI7 := Lib.hid (hk7.out.keep HI6.out (fun h => h))); (have HO7 := Lib.hid (HO6.out.keep hk7.out (fun _ _ h => h))); (have HS7 := Lib.hid (HS6.out.keep hk7.out (fun _ _ h => h))); clear HNu K7 hk7 HX6 HM6 HI6 HO6 HS6)
        have HCh := Lib.hid (cx_change_sv HX7.out HIj.out (by have := hn12.out; have := hjN.out; omega) y hyo'.out.1 ib (by simp) HI7.out)
        rw [hU] at HCh
        replace hU := Lib.hid hU
        go_wp2_with (refine wpList_load_row rfl 42 _ rfl _ rfl 42 _ _ _ HU7.out Tryz.underlying42 rfl un_info ?_)
        refine (HCh.out).mono ?_
        rintro e w8 ⟨cd, n', rfl, hk8, hx8, hcd8⟩
        have HX8 := Lib.hid hx8
        have HM8 : Hid (Mx w8 m g q.f) := HM7.out.keep hk8 (fun q hq h => h.2 (by simp at hq; rcases hq with rfl | rfl <;> simp))
        have HIb8 := Lib.hid (hk8.keep HI7.out (fun h => h.2 (by simp)))
        have HO8 : Hid (OwnS w8 3 1 (.slice ya (j + 1) yc) (j + 1) (intV q.sv)) := HO7.out.keep hk8 (fun q hq h => h.2 (List.mem_cons_of_mem _ (List.mem_append_left _ hq)))
        have HS8 : Hid (OwnS w8 93 16 (.slice (some ⟨sb, 0, none⟩) 12 12) 12 (svRow F (6 * k))) := HS7.out.keep hk8 (fun q hq h => h.2 (by simp [blk, Value.ownBlock] at hq; simp [hq]))
        have HIr := Lib.hid (HIj.out.next y)
        obtain ⟨r, hr⟩ : ∃ r, svN q y = r := ⟨_, rfl⟩
        have hrsv : r.sv = q.sv ++ [(svS r.σ).2.2] := by rw [← hr]; exact svN_sv q y
        rw [hr] at HX8 HIr hcd8 Hnx
        have Hrsv := Lib.hid hrsv
        have hcd9 := Lib.hid hcd8
        clear hk8 hx8 hcd8 HCh HX7 HM7 HI7 HU7 HO7 HS7 hr hrsv HIj
        by_cases hcd : cd = 0
        rotate_left
        · have HXt : Hid (Cx w w8 (blk (.slice ya (j + 1) yc) ++ [m, g, sb]) c lp p dp 6 lb mb n' lv r.σ) := HX8.out.pop
          have HMt : Hid (Mx w8 m g r.f) := by
            rcases hcd9.out with ⟨_, h⟩ | ⟨h, _⟩
            · show Mx _ _ _ _; rw [h]; exact HM8.out
            · exact absurd h hcd
          have HOt := HO8
          have HSt := HS8
          replace hcd := Lib.hid hcd
          have hcb : (cd == 0) = false := by simpa using hcd.out
          clear HX8 HM8 HO8 HS8 HIb8
          have HSv := Lib.hid (cx_save_sv HXt.out HIr.out)
          go_wp2_with fail
          refine (HSv.out).mono ?_
          rintro e wa ⟨rfl, hba⟩
          obtain ⟨la, hla⟩ : ∃ a, (svS r.σ).2.2 = a := ⟨_, rfl⟩
          rw [hla] at Hrsv ⊢
          have HXa := Lib.hid (HXt.out.later hba)
          have HMa := Lib.hid (HMt.out.later hba)
          have HOa := Lib.hid (HOt.out.keep (Keeps.of_below (fun _ => False) hba) (fun _ _ h => h))
          have HSa := Lib.hid (HSt.out.keep (Keeps.of_below (fun _ => False) hba) (fun _ _ h => h))
          have HO5 : Hid (OwnS (wa.alloc (.cells #[.int .i64 la] 3)) 3 1 (.slice ya (j + 1) yc) (j + 1) (intV q.sv)) := HOa.out.keep ((Keeps.refl (fun _ => False) wa).alloc _) (fun _ _ h => h)
          clear hba HSv HXt HMt HOt HSt HOa hla
          go_wp2_with (first
            | (refine wpList_buildSlice rfl 54 3 1 _ rfl #[.int .i64 la] ji _ Tryz.underlying54 hji hy0 (by rw [hy1]; decide) (by rw [hy1]; decide) (by rw [hy1]; rfl) ?_)
            | (at_builtin; go_must (refine wpList_append_frame _ rfl _ _ 54 rfl 3 ji _ 1 8 Tryz.underlying54 hji hy0 hy1 hy2 rfl (by decide) _ _ _ rfl HO5.out ⟨wa.heap.size, 0, none⟩ 1 1 [.int .i64 la] rfl rfl (fun i u hi => by
                cases i with
                | zero => rw [← hi]; exact cell_at (hN rfl) 0
                | succ i => simp at hi) (fun v hv => by simp at hv; rw [hv]; rfl) (by have := hjN.out; have := hn12.out; unfold maxLen; omega) (by have := hjN.out; have := hn12.out; omega) ?_); rintro v9 w9 ho9 hk9 hb9 hn9; (have HO9 := Lib.hid ho9); (have HK9 := Lib.hid hk9); (have HB9 := Lib.hid hb9); clear ho9 hk9 hb9 hn9 HO5))
          have HK9' : Keeps (· ∈ blk (.slice ya (j + 1) yc)) (wa.alloc (.cells #[.int .i64 la] 3)) w9 := HK9.out
          have HB9' : ∀ q ∈ blk v9, q ∈ blk (.slice ya (j + 1) yc) ∨ (wa.alloc (.cells #[.int .i64 la] 3)).heap.size ≤ q := HB9.out
          have hs4 : (wa.alloc (.cells #[.int .i64 la] 3)).heap.size = wa.heap.size + 1 := by simp
          have hws : w.heap.size ≤ wa.heap.size := HXa.out.bel.size
          have hmlt := HMa.out.lt
          have hslt := HSa.out.lt (k := sb) (by simp [blk, Value.ownBlock])
          have h9s := HK9'.size
          have HX9 : Hid (Cx w w9 (blk v9 ++ [m, g, sb]) c lp p dp 6 lb mb n' lv r.σ) := by
            have h1 := (HXa.out.later (w' := wa.alloc (.cells #[.int .i64 la] 3)) (bA bR))
            refine Cx.swap h1 HK9' (fun q hq => ⟨List.mem_append_left _ hq, (HQ.out q hq).1⟩) _ (fun q hq => ?_) (fun q hq => ?_)
            · rcases List.mem_append.1 hq with hq | hq
              · exact HO9.out.lt hq
              · simp only [List.mem_cons, List.not_mem_nil, or_false] at hq
                rcases hq with rfl | rfl | rfl
                · have := hmlt q (by simp); omega
                · have := hmlt q (by simp); omega
                · omega
            · rcases List.mem_append.1 hq with hq | hq
              · rcases HB9' q hq with h | h
                · exact .inl (List.mem_append_left _ h)
                · exact .inr h
              · exact .inl (List.mem_append_right _ hq)
          have HM9 : Hid (Mx w9 m g r.f) := (HMa.out.later (w' := wa.alloc (.cells #[.int .i64 la] 3)) (bA bR)).keep HK9' (fun q hq h => by
            have := HQ.out q h
            simp only [List.mem_cons, List.not_mem_nil, or_false] at hq
            rcases hq with rfl | rfl
            · exact this.2.1 rfl
            · exact this.2.2.1 rfl)
          have HS9 : Hid (OwnS w9 93 16 (.slice (some ⟨sb, 0, none⟩) 12 12) 12 (svRow F (6 * k))) := (HSa.out.keep (w' := wa.alloc (.cells #[.int .i64 la] 3)) ((Keeps.refl (fun _ => False) wa).alloc _) (fun _ _ h => h)).keep HK9' (fun q hq h => by
            obtain rfl : q = sb := by simpa [blk, Value.ownBlock] using hq
            exact (HQ.out q h).2.2.2 rfl)
          have HQ9 : Hid (∀ q ∈ blk v9, w.heap.size ≤ q ∧ q ≠ m ∧ q ≠ g ∧ q ≠ sb) := fun q hq => by
            rcases HB9' q hq with h | h
            · exact HQ.out q h
            · have h1 := hmlt m (by simp)
              have h2 := hmlt g (by simp)
              exact ⟨by omega, by omega, by omega, by omega⟩
          have HO9' : Hid (OwnS w9 3 1 v9 (j + 1 + 1) (intV r.sv)) := by
            show OwnS _ _ _ _ _ _
            rw [Hrsv.out, intV_snoc]
            exact HO9.out
          rw [← Hnx.out] at HX9 HM9 HO9'
          clear HK9 HB9 HK9' HB9' HXa HMa HSa HQ HO9 hs4 hws hmlt hslt h9s
          go_roundw
          case rel => exact ⟨j + 1, n', lv, hjN.out, rfl, HO9', HX9, HM9, HS9, HQ9⟩
          case measure => have := hjN.out; simp [intOf]; omega
        · have hrf : r.f = svF q.f y := by
            rcases hcd9.out with ⟨h, _⟩ | ⟨_, h⟩
            · exact absurd hcd h
            · exact h
          subst hcd
          obtain ⟨pi, hpi⟩ : ∃ q, pos6 y.page = q := ⟨_, rfl⟩
          have hpl : Hid (pi < 6) := hpi ▸ (pos6_eq y.page).2
          obtain ⟨R, hR⟩ : ∃ R, imgP q.f y = R := ⟨_, rfl⟩
          unfold svF at hrf
          rw [hpi, hR] at HIb8
          rw [hpi, hR] at hrf
          replace hrf := Lib.hid hrf
          clear hpi hR hcd9
          have HMd : Hid (Mx w8.drew m g q.f) := HM8.out.later (bD bR)
          have HXd : Hid (Cx w w8.drew (ib :: (blk (.slice ya (j + 1) yc) ++ [m, g, sb])) c lp p dp 6 lb mb n' lv r.σ) := HX8.out.later (bD bR)
          have HOd : Hid (OwnS w8.drew 3 1 (.slice ya (j + 1) yc) (j + 1) (intV q.sv)) := OwnS.keep (w := w8) HO8.out (Keeps.refl (fun _ => False) w8).drew (fun _ _ h => h)
          have HSd : Hid (OwnS w8.drew 93 16 (.slice (some ⟨sb, 0, none⟩) 12 12) 12 (svRow F (6 * k))) := OwnS.keep (w := w8) HS8.out (Keeps.refl (fun _ => False) w8).drew (fun _ _ h => h)
          have HRow := Lib.hid HMd.out.row
          have hS0 : MpS m g ib pi R w8.drew := mps_of HMd.out (hDr HIb8.out)
          have hpI : (pi : Int) < 6 := by have := hpl.out; omega
          have hp0 : (0 : Int) ≤ pi := by omega
          clear HIb8 HM8 HX8 HO8 HS8
          go_upto_region 20 with fail
          refine wp_region_held_drew (S := MpS m g ib pi R) (by kernel_rfl) hS0 (fun hHeld => ?_)
          clear hS0
          refine wpAnyH_take (i := 0) (oi := ⟨some 69, _, _, _, _, _⟩) (v := .pointer (some ⟨m, 0, none⟩)) rfl (by kernel_rfl) (by kernel_rfl) (by kernel_rfl) (fun _ _ _ h => h) (Or.inl ⟨by rfl, ?_⟩) hHeld ?_
          · intro w' hSw
            obtain ⟨s0, s1, s2⟩ := hSw
            go_simp
            try with_reducible rfl
            try omega
          simp only [Act.put, List.setIfInBounds_toArray, List.set_cons_zero, List.set_cons_succ]
          refine wpAnyH_take (i := 1) (oi := ⟨some 70, _, _, _, _, _⟩) (v := .pointer (some ⟨m, 0, none⟩)) rfl (by kernel_rfl) (by kernel_rfl) (by kernel_rfl) (fun _ _ _ h => h) (Or.inl ⟨by rfl, ?_⟩) hHeld ?_
          · intro w' hSw
            obtain ⟨s0, s1, s2⟩ := hSw
            go_simp
            try with_reducible rfl
            try omega
          simp only [Act.put, List.setIfInBounds_toArray, List.set_cons_zero, List.set_cons_succ]
          refine wpAnyH_take (i := 2) (oi := ⟨some 71, _, _, _, _, _⟩) (v := .pointer (some ⟨m, 6, none⟩)) rfl (by kernel_rfl) (by kernel_rfl) (by kernel_rfl) (fun _ _ _ h => h) (Or.inl ⟨by rfl, ?_⟩) hHeld ?_
          · intro w' hSw
            obtain ⟨s0, s1, s2⟩ := hSw
            go_simp
            try with_reducible rfl
            try omega
          simp only [Act.put, List.setIfInBounds_toArray, List.set_cons_zero, List.set_cons_succ]
          refine wpAnyH_take (i := 3) (oi := ⟨some 72, _, _, _, _, _⟩) (v := .slice (some ⟨g, 0, none⟩) 6 6) rfl (by kernel_rfl) (by kernel_rfl) (by kernel_rfl) (fun _ _ _ h => h) (Or.inl ⟨by rfl, ?_⟩) hHeld ?_
          · intro w' hSw
            obtain ⟨s0, s1, s2⟩ := hSw
            go_simp
            try with_reducible rfl
            try omega
          simp only [Act.put, List.setIfInBounds_toArray, List.set_cons_zero, List.set_cons_succ]
          refine wpAnyH_take (i := 4) (oi := ⟨some 73, _, _, _, _, _⟩) (v := .slice (some ⟨ib, 0, none⟩) 1 1) rfl (by kernel_rfl) (by kernel_rfl) (by kernel_rfl) (fun _ _ _ h => h) (Or.inl ⟨by rfl, ?_⟩) hHeld ?_
          · intro w' hSw
            obtain ⟨s0, s1, s2⟩ := hSw
            go_simp
            try with_reducible rfl
            try omega
          simp only [Act.put, List.setIfInBounds_toArray, List.set_cons_zero, List.set_cons_succ]
          refine wpAnyH_take (i := 5) (oi := ⟨some 74, _, _, _, _, _⟩) (v := .pointer (some ⟨ib, 0, none⟩)) rfl (by kernel_rfl) (by kernel_rfl) (by kernel_rfl) (fun _ _ _ h => h) (Or.inl ⟨by rfl, ?_⟩) hHeld ?_
          · intro w' hSw
            obtain ⟨s0, s1, s2⟩ := hSw
            go_simp
            try with_reducible rfl
            try omega
          simp only [Act.put, List.setIfInBounds_toArray, List.set_cons_zero, List.set_cons_succ]
          refine wpAnyH_take (i := 6) (oi := ⟨some 75, _, _, _, _, _⟩) (v := .pointer (some ⟨ib, 0, none⟩)) rfl (by kernel_rfl) (by kernel_rfl) (by kernel_rfl) (fun _ _ _ h => h) (Or.inl ⟨by rfl, ?_⟩) hHeld ?_
          · intro w' hSw
            obtain ⟨s0, s1, s2⟩ := hSw
            go_simp
            try with_reducible rfl
            try omega
          simp only [Act.put, List.setIfInBounds_toArray, List.set_cons_zero, List.set_cons_succ]
          refine wpAnyH_take (i := 7) (oi := ⟨some 76, _, _, _, _, _⟩) (v := .int .i64 pi) rfl (by kernel_rfl) (by kernel_rfl) (by kernel_rfl) (fun _ _ _ h => h) (Or.inl ⟨by rfl, ?_⟩) hHeld ?_
          · intro w' hSw
            obtain ⟨s0, s1, s2⟩ := hSw
            go_simp
            try with_reducible rfl
            try omega
          simp only [Act.put, List.setIfInBounds_toArray, List.set_cons_zero, List.set_cons_succ]
          refine wpAnyH_take (i := 8) (oi := ⟨some 77, _, _, _, _, _⟩) (v := .slice (some ⟨ib, 0, none⟩) 1 1) rfl (by kernel_rfl) (by kernel_rfl) (by kernel_rfl) (fun _ _ _ h => h) (Or.inl ⟨by rfl, ?_⟩) hHeld ?_
          · intro w' hSw
            obtain ⟨s0, s1, s2⟩ := hSw
            go_simp
            try with_reducible rfl
            try omega
          simp only [Act.put, List.setIfInBounds_toArray, List.set_cons_zero, List.set_cons_succ]
          refine wpAnyH_take (i := 9) (oi := ⟨some 78, _, _, _, _, _⟩) (v := .pointer (some ⟨ib, 0, none⟩)) rfl (by kernel_rfl) (by kernel_rfl) (by kernel_rfl) (fun _ _ _ h => h) (Or.inl ⟨by rfl, ?_⟩) hHeld ?_
          · intro w' hSw
            obtain ⟨s0, s1, s2⟩ := hSw
            go_simp
            try with_reducible rfl
            try omega
          simp only [Act.put, List.setIfInBounds_toArray, List.set_cons_zero, List.set_cons_succ]
          refine wpAnyH_take (i := 10) (oi := ⟨some 79, _, _, _, _, _⟩) (v := .pointer (some ⟨ib, 1, none⟩)) rfl (by kernel_rfl) (by kernel_rfl) (by kernel_rfl) (fun _ _ _ h => h) (Or.inl ⟨by rfl, ?_⟩) hHeld ?_
          · intro w' hSw
            obtain ⟨s0, s1, s2⟩ := hSw
            go_simp
            try with_reducible rfl
            try omega
          simp only [Act.put, List.setIfInBounds_toArray, List.set_cons_zero, List.set_cons_succ]
          refine wpAnyH_take (i := 11) (oi := ⟨some 80, _, _, _, _, _⟩) (v := .agg (pgC R)) rfl (by kernel_rfl) (by kernel_rfl) (by kernel_rfl) (fun _ _ _ h => h) (yieldsIf_load_mid (by rfl) _ _ rfl ib 1 rfl (pgC R).toList _ (fun _ h => h.2.2) Tryz.underlying49 rfl (by kernel_rfl)) hHeld ?_
          simp only [Act.put, List.setIfInBounds_toArray, List.set_cons_zero, List.set_cons_succ]
          refine wpAnyH_take (i := 12) (oi := ⟨some 81, _, _, _, _, _⟩) (v := .pointer (some ⟨g, pi * 16, none⟩)) rfl (by kernel_rfl) (by kernel_rfl) (by kernel_rfl) (fun _ _ _ h => h) (Or.inl ⟨by rfl, ?_⟩) hHeld ?_
          · intro w' hSw
            obtain ⟨s0, s1, s2⟩ := hSw
            go_simp
            try with_reducible rfl
            try omega
          simp only [Act.put, List.setIfInBounds_toArray, List.set_cons_zero, List.set_cons_succ]
          refine wpAnyH_ready (rs := [13]) (by kernel_rfl) (by simp) ?_
          refine AllReadyH.cons (o := ⟨none, _, _, _, _, _⟩) rfl (fun K hK => ?_) AllReadyH.nil
          refine step_store_row rfl _ _ rfl 49 g pi 6 6 q.f R rfl rfl HRow.out hpl.out ?_
          intro wz HRz Kz
          refine hK.out _ _ ⟨cell_keep Kz.out hmg.out hHeld.1, cell_keep Kz.out hig.out hHeld.2.1, fun j v hj => cell_keep Kz.out hig.out (hHeld.2.2 j v hj)⟩ (fun hHeld => ?_)
          clear hK K
          try simp only [Act.put, List.setIfInBounds_toArray, List.set_cons_zero, List.set_cons_succ]
          clear hHeld
          refine wpAnyH_done (by kernel_rfl) ?_ _
          go_wp2_with fail
          have HMt : Hid (Mx wz m g r.f) := ⟨by obtain ⟨C, h1, h2⟩ := HMd.out.blkm; exact ⟨C, Kz.out.keep h1 hmg.out, h2⟩, by rw [hrf.out]; exact HRz.out, hmg.out⟩
          have HXt : Hid (Cx w wz (blk (.slice ya (j + 1) yc) ++ [m, g, sb]) c lp p dp 6 lb mb n' lv r.σ) := (HXd.out.loc Kz.out (fun q hq => by subst hq; exact ⟨by simp, hgw.out⟩)).pop
          have HOt : Hid (OwnS wz 3 1 (.slice ya (j + 1) yc) (j + 1) (intV q.sv)) := HOd.out.keep Kz.out (fun q hq h => (HQ.out q hq).2.2.1 h)
          have HSt : Hid (OwnS wz 93 16 (.slice (some ⟨sb, 0, none⟩) 12 12) 12 (svRow F (6 * k))) := HSd.out.keep Kz.out (fun q hq h => by
            obtain rfl : q = sb := by simpa [blk, Value.ownBlock] using hq
            exact hne.out.2 h)
          clear HRz Kz HMd HXd HRow HOd HSd hpI hp0
          have HSv := Lib.hid (cx_save_sv HXt.out HIr.out)
          go_wp2_with fail
          refine (HSv.out).mono ?_
          rintro e wa ⟨rfl, hba⟩
          obtain ⟨la, hla⟩ : ∃ a, (svS r.σ).2.2 = a := ⟨_, rfl⟩
          rw [hla] at Hrsv ⊢
          have HXa := Lib.hid (HXt.out.later hba)
          have HMa := Lib.hid (HMt.out.later hba)
          have HOa := Lib.hid (HOt.out.keep (Keeps.of_below (fun _ => False) hba) (fun _ _ h => h))
          have HSa := Lib.hid (HSt.out.keep (Keeps.of_below (fun _ => False) hba) (fun _ _ h => h))
          have HO5 : Hid (OwnS (wa.alloc (.cells #[.int .i64 la] 3)) 3 1 (.slice ya (j + 1) yc) (j + 1) (intV q.sv)) := HOa.out.keep ((Keeps.refl (fun _ => False) wa).alloc _) (fun _ _ h => h)
          clear hba HSv HXt HMt HOt HSt HOa hla
          go_wp2_with (first
            | (refine wpList_buildSlice rfl 54 3 1 _ rfl #[.int .i64 la] ji _ Tryz.underlying54 hji hy0 (by rw [hy1]; decide) (by rw [hy1]; decide) (by rw [hy1]; rfl) ?_)
            | (at_builtin; go_must (refine wpList_append_frame _ rfl _ _ 54 rfl 3 ji _ 1 8 Tryz.underlying54 hji hy0 hy1 hy2 rfl (by decide) _ _ _ rfl HO5.out ⟨wa.heap.size, 0, none⟩ 1 1 [.int .i64 la] rfl rfl (fun i u hi => by
                cases i with
                | zero => rw [← hi]; exact cell_at (hN rfl) 0
                | succ i => simp at hi) (fun v hv => by simp at hv; rw [hv]; rfl) (by have := hjN.out; have := hn12.out; unfold maxLen; omega) (by have := hjN.out; have := hn12.out; omega) ?_); rintro v9 w9 ho9 hk9 hb9 hn9; (have HO9 := Lib.hid ho9); (have HK9 := Lib.hid hk9); (have HB9 := Lib.hid hb9); clear ho9 hk9 hb9 hn9 HO5))
          have HK9' : Keeps (· ∈ blk (.slice ya (j + 1) yc)) (wa.alloc (.cells #[.int .i64 la] 3)) w9 := HK9.out
          have HB9' : ∀ q ∈ blk v9, q ∈ blk (.slice ya (j + 1) yc) ∨ (wa.alloc (.cells #[.int .i64 la] 3)).heap.size ≤ q := HB9.out
          have hs4 : (wa.alloc (.cells #[.int .i64 la] 3)).heap.size = wa.heap.size + 1 := by simp
          have hws : w.heap.size ≤ wa.heap.size := HXa.out.bel.size
          have hmlt := HMa.out.lt
          have hslt := HSa.out.lt (k := sb) (by simp [blk, Value.ownBlock])
          have h9s := HK9'.size
          have HX9 : Hid (Cx w w9 (blk v9 ++ [m, g, sb]) c lp p dp 6 lb mb n' lv r.σ) := by
            have h1 := (HXa.out.later (w' := wa.alloc (.cells #[.int .i64 la] 3)) (bA bR))
            refine Cx.swap h1 HK9' (fun q hq => ⟨List.mem_append_left _ hq, (HQ.out q hq).1⟩) _ (fun q hq => ?_) (fun q hq => ?_)
            · rcases List.mem_append.1 hq with hq | hq
              · exact HO9.out.lt hq
              · simp only [List.mem_cons, List.not_mem_nil, or_false] at hq
                rcases hq with rfl | rfl | rfl
                · have := hmlt q (by simp); omega
                · have := hmlt q (by simp); omega
                · omega
            · rcases List.mem_append.1 hq with hq | hq
              · rcases HB9' q hq with h | h
                · exact .inl (List.mem_append_left _ h)
                · exact .inr h
              · exact .inl (List.mem_append_right _ hq)
          have HM9 : Hid (Mx w9 m g r.f) := (HMa.out.later (w' := wa.alloc (.cells #[.int .i64 la] 3)) (bA bR)).keep HK9' (fun q hq h => by
            have := HQ.out q h
            simp only [List.mem_cons, List.not_mem_nil, or_false] at hq
            rcases hq with rfl | rfl
            · exact this.2.1 rfl
            · exact this.2.2.1 rfl)
          have HS9 : Hid (OwnS w9 93 16 (.slice (some ⟨sb, 0, none⟩) 12 12) 12 (svRow F (6 * k))) := (HSa.out.keep (w' := wa.alloc (.cells #[.int .i64 la] 3)) ((Keeps.refl (fun _ => False) wa).alloc _) (fun _ _ h => h)).keep HK9' (fun q hq h => by
            obtain rfl : q = sb := by simpa [blk, Value.ownBlock] using hq
            exact (HQ.out q h).2.2.2 rfl)
          have HQ9 : Hid (∀ q ∈ blk v9, w.heap.size ≤ q ∧ q ≠ m ∧ q ≠ g ∧ q ≠ sb) := fun q hq => by
            rcases HB9' q hq with h | h
            · exact HQ.out q h
            · have h1 := hmlt m (by simp)
              have h2 := hmlt g (by simp)
              exact ⟨by omega, by omega, by omega, by omega⟩
          have HO9' : Hid (OwnS w9 3 1 v9 (j + 1 + 1) (intV r.sv)) := by
            show OwnS _ _ _ _ _ _
            rw [Hrsv.out, intV_snoc]
            exact HO9.out
          rw [← Hnx.out] at HX9 HM9 HO9'
          clear HK9 HB9 HK9' HB9' HXa HMa HSa HQ HO9 hs4 hws hmlt hslt h9s
          go_roundw
          case rel => exact ⟨j + 1, n', lv, hjN.out, rfl, HO9', HX9, HM9, HS9, HQ9⟩
          case measure => have := hjN.out; simp [intOf]; omega
      · obtain rfl : j = n := by omega
        have hjI : ¬ (j : Int) < j := by omega
        rw [show cs.take j = cs by rw [← hn.out, List.take_length]] at HO HX
        obtain ⟨ya, yc, hyv⟩ := HO.out.form
        subst hyv
        obtain ⟨vb, rfl⟩ := HO.out.spot (by omega)
        rw [hN1.out] at HO HX ⊢
        obtain ⟨σ0, hσ0⟩ : ∃ x, (svAll cs).σ = x := ⟨_, rfl⟩
        obtain ⟨SV, hSV⟩ : ∃ x, (svAll cs).sv = x := ⟨_, rfl⟩
        have hGl := HG.out
        have hIn := HIn.out
        have hF2 := hF.out
        have htu2 := Htu.out
        have hup := hIn.up
        have hsl := hIn.len
        have hrg := hIn.rng
        rw [hσ0] at hGl hF2 HX hrg
        rw [hSV] at htu2 hup hsl hrg HO
        rw [hN1.out] at hsl
        have HGl := Lib.hid hGl
        have HF2 := Lib.hid hF2
        have HTu := Lib.hid htu2
        have Hup := Lib.hid hup
        have Hsl := Lib.hid hsl
        have Hrg := Lib.hid hrg
        have HX4 : Hid (Cx w wr [vb, m, g, sb] c lp p dp 6 lb mb nk lv σ0) := by
          have := HX.out
          rwa [show blk (.slice (some ⟨vb, 0, none⟩) N1 yc) ++ [m, g, sb] = [vb, m, g, sb] by simp [blk, Value.ownBlock]] at this
        obtain ⟨hvw, hvm, hvg, hvs⟩ := HQ.out vb (by simp [blk, Value.ownBlock])
        have hvw2 := Lib.hid hvw
        have hvs2 := Lib.hid hvs
        have hto := Hto.out
        have hlenI : (0 : Int) < N1 := by have := hN13.out; omega
        have hlen0 : ((N1 : Int) == 0) = false := by have := hN13.out; rw [beq_eq_false_iff_ne]; omega
        clear HX HQ HMx hGl hIn hF2 htu2 hup hsl hrg hσ0 hSV hvw hvm hvg hvs hj hjn HIn HG hF Htu
        go_upto_region 25 with fail
        try rw [hto]
        clear hto
        by_cases hkz : k = 0
        · have hkb : ((k : Int) == 0) = true := beq_iff_eq.2 (by omega)
          have hNw : IntKind.i64.wrap ((N1 : Int) - 1) = (N1 : Int) - 1 := by have := hN13.out; rw [IntKind.wrap_i64]; omega
          have hsta := Lib.hid HGl.out.start
          replace hkz := Lib.hid hkz
          go_wp2_with fail
          go_loopw [22] (fun x wr => ∃ (v : Int) (n' : Nat) (σ : CS) (bd : Int), (tj : Int) - 1 ≤ v ∧ v ≤ (N1 : Int) - 1 ∧ x = .int .i64 v ∧ Hid (Cx w wr [vb, m, g, sb] c lp p dp 6 lb mb n' lv σ) ∧ Hid (SvB σ0 l bd σ) ∧ Hid ((∀ (i : Nat) (b : Int), (i : Int) ≤ v → SV[i]? = some b → b ≤ bd) ∧ (v = (tj : Int) - 1 → bd = tu)) ∧ Hid (OwnS wr 3 1 (.slice (some ⟨vb, 0, none⟩) N1 yc) N1 (intV SV)) ∧ Hid (OwnS wr 93 16 (.slice (some ⟨sb, 0, none⟩) 12 12) 12 (svRow F (6 * k)))) (fun x _ => (intOf x + 1).toNat)
          case atStart => exact ⟨(N1 : Int) - 1, nk, σ0, _, by have := Htl.out; omega, Int.le_refl _, rfl, HX4, hsta, ⟨fun i b _ hb => (Hrg.out b (List.mem_of_getElem? hb)).2, fun h => by have := Htl.out; omega⟩, HO, HS⟩
          case round =>
            clear HX4 HO HS hsta
            obtain ⟨v, n', σ, bd, hv1, hv2, rfl, HX, HBd, Hbd, HO, HS⟩ := hrel
            by_cases hv : (tj : Int) ≤ v
            · obtain ⟨i, rfl⟩ : ∃ i : Nat, v = (i : Int) := ⟨v.toNat, by omega⟩
              have hiN : i < N1 := by omega
              obtain ⟨b, hb⟩ : ∃ b, SV[i]? = some b := ⟨_, List.getElem?_eq_getElem (by rw [Hsl.out]; exact hiN)⟩
              have hx4 := World.ownsRow.cells HO.out (g := vb) rfl i _ (intV_get hb)
              rw [Addr.add_mid, Nat.zero_add] at hx4
              have HBk := Lib.hid (cx_back_sv HX.out HGl.out HBd.out b ⟨(Hrg.out b (List.mem_of_getElem? hb)).1, Hbd.out.1 i b (Int.le_refl _) hb⟩)
              unfold kitV at HBk
              have hiI : (i : Int) < N1 := by omega
              have hi0 : (0 : Int) ≤ i := by omega
              have hiw : IntKind.i64.wrap ((i : Int) - 1) = (i : Int) - 1 := by have := hN13.out; rw [IntKind.wrap_i64]; omega
              have hiN2 := Lib.hid hiN
              have hbN := Lib.hid hb
              have hvN := Lib.hid hv1
              clear hv1 hv2 hiN hb HX HBd
              go_wp2_with fail
              refine (HBk.out).mono ?_
              rintro e w9 ⟨rfl, hk9, n9, σ9, hx9, hb9⟩
              have HX9 := Lib.hid hx9
              have HB9 := Lib.hid hb9
              have HO9 : Hid (OwnS w9 3 1 (.slice (some ⟨vb, 0, none⟩) N1 yc) N1 (intV SV)) := HO.out.keep hk9 (fun q hq h => h.2 (by simp [blk, Value.ownBlock] at hq; simp [hq]))
              have HS9 : Hid (OwnS w9 93 16 (.slice (some ⟨sb, 0, none⟩) 12 12) 12 (svRow F (6 * k))) := HS.out.keep hk9 (fun q hq h => h.2 (by simp [blk, Value.ownBlock] at hq; simp [hq]))
              clear hk9 hx9 hb9 HBk HO HS hx4
              go_wp2_with fail
              go_roundw
              case rel =>
                refine ⟨(i : Int) - 1, n9, σ9, b, by omega, by have := hiN2.out; omega, rfl, HX9, HB9, ⟨fun i' b' hi' hb' => Hup.out i' i b' b (by omega) hb' hbN.out, fun h => ?_⟩, HO9, HS9⟩
                obtain rfl : i = tj := by omega
                have h1 := hbN.out
                rw [HTu.out] at h1
                exact (Option.some.inj h1).symm
              case measure => simp [intOf]
            · obtain rfl : bd = tu := Hbd.out.2 (by omega)
              have hvn : ¬ (tj : Int) ≤ v := hv
              have HXq := HX
              have HBq := HBd
              have HSq := HS
              clear hv1 hv2 HX HBd HS HO Hbd
              go_wp2_with fail
              have HXs : Hid (Cx w wr [sb] c lp p dp 6 lb mb n' lv σ) := HXq.out.less [sb] (fun q hq => by simp at hq; simp [hq])
              have HPg : Hid (∀ id, pgC (σ.M id).1 = pgC (F id)) := fun id => by rw [← HF2.out]; exact HBq.out.pages HGl.out id
              clear HXq HBq
              go_loopw [135] (fun x wr => ∃ i : Nat, i ≤ 6 ∧ x = .int .i64 i ∧ Hid (Cx w wr [sb] c lp p dp 6 lb mb n' lv σ) ∧ Hid (OwnS wr 93 16 (.slice (some ⟨sb, 0, none⟩) 12 12) 12 (svRow F (6 * k + i)))) (fun x _ => 6 - (intOf x).toNat)
              case atStart => exact ⟨0, by omega, rfl, HXs, HSq⟩
              case round =>
                clear HXs HSq
                obtain ⟨i, hi, rfl, HX, HS⟩ := hrel
                by_cases hi6 : i < 6
                · have hiI : (i : Int) < 6 := by omega
                  have hi0 : (0 : Int) ≤ i := by omega
                  have hiw : IntKind.i64.wrap ((i : Int) + 1) = (i : Int) + 1 := by rw [IntKind.wrap_i64]; omega
                  have hiN := Lib.hid hi6
                  clear hi hi6
                  go_upto_region 36 with fail
                  obtain ⟨wu, hwu⟩ : ∃ x, wr = x := ⟨_, rfl⟩
                  rw [hwu] at HX HS ⊢
                  clear hwu
                  have HXd : Hid (Cx w wu.drew [sb] c lp p dp 6 lb mb n' lv σ) := HX.out.later (bD bR)
                  have HSd : Hid (OwnS wu.drew 93 16 (.slice (some ⟨sb, 0, none⟩) 12 12) 12 (svRow F (6 * k + i))) := OwnS.keep (w := wu) HS.out (Keeps.refl (fun _ => False) wu).drew (fun _ _ h => h)
                  have HGt := Lib.hid (cx_get HXd.out (i : Int))
                  unfold pgV at HGt
                  clear HX HS
                  refine wp_region_held_drew (S := fun _ => True) (by kernel_rfl) trivial (fun hHeld => ?_)
                  refine wpAnyH_take (i := 0) (oi := ⟨some 139, _, _, _, _, _⟩) (v := .int .i64 k) rfl (by kernel_rfl) (by kernel_rfl) (by kernel_rfl) (fun _ _ _ h => h) (Or.inl ⟨by rfl, ?_⟩) hHeld ?_
                  · intro w' hSw
                    clear hSw
                    go_simp
                    try with_reducible rfl
                    try omega
                  simp only [Act.put, List.setIfInBounds_toArray, List.set_cons_zero, List.set_cons_succ]
                  refine wpAnyH_take (i := 1) (oi := ⟨some 140, _, _, _, _, _⟩) (v := .int .i64 i) rfl (by kernel_rfl) (by kernel_rfl) (by kernel_rfl) (fun _ _ _ h => h) (Or.inl ⟨by rfl, ?_⟩) hHeld ?_
                  · intro w' hSw
                    clear hSw
                    go_simp
                    try with_reducible rfl
                    try omega
                  simp only [Act.put, List.setIfInBounds_toArray, List.set_cons_zero, List.set_cons_succ]
                  refine wpAnyH_take (i := 2) (oi := ⟨some 141, _, _, _, _, _⟩) (v := .pointer (some ⟨p, 0, none⟩)) rfl (by kernel_rfl) (by kernel_rfl) (by kernel_rfl) (fun _ _ _ h => h) (Or.inl ⟨by rfl, ?_⟩) hHeld ?_
                  · intro w' hSw
                    clear hSw
                    go_simp
                    try with_reducible rfl
                    try omega
                  simp only [Act.put, List.setIfInBounds_toArray, List.set_cons_zero, List.set_cons_succ]
                  refine wpAnyH_take (i := 3) (oi := ⟨some 142, _, _, _, _, _⟩) (v := .int .i64 i) rfl (by kernel_rfl) (by kernel_rfl) (by kernel_rfl) (fun _ _ _ h => h) (Or.inl ⟨by rfl, ?_⟩) hHeld ?_
                  · intro w' hSw
                    clear hSw
                    go_simp
                    try with_reducible rfl
                    try omega
                  simp only [Act.put, List.setIfInBounds_toArray, List.set_cons_zero, List.set_cons_succ]
                  refine wpAnyH_take (i := 8) (oi := ⟨some 146, _, _, _, _, _⟩) (v := .pointer (some ⟨sb, k * 96, none⟩)) rfl (by kernel_rfl) (by kernel_rfl) (by kernel_rfl) (fun _ _ _ h => h) (Or.inl ⟨by rfl, ?_⟩) hHeld ?_
                  · intro w' hSw
                    clear hSw
                    go_simp
                    try with_reducible rfl
                    try omega
                  simp only [Act.put, List.setIfInBounds_toArray, List.set_cons_zero, List.set_cons_succ]
                  refine wpAnyH_ready (rs := [4]) (by kernel_rfl) (by simp) ?_
                  refine AllReadyH.cons (o := ⟨some 143, _, _, _, _, _⟩) rfl (fun K hK => ?_) AllReadyH.nil
                  go_simp
                  go_at_call 24
                  refine (HGt.out).mono ?_
                  rintro e w9 ⟨Q, cd, rfl, hx9, hk9, hres⟩
                  have hQ : Hid (pgC Q = pgC (F ((6 * k + i) % 6))) := by
                    show _ = _
                    rcases hres with ⟨_, _, _, h1⟩ | ⟨h1, _⟩
                    · rw [Int.toNat_natCast] at h1
                      rw [h1, HPg.out, show (6 * k + i) % 6 = i by have := hiN.out; omega]
                    · have := hiN.out; omega
                  have HX9 := Lib.hid hx9
                  have HS9 : Hid (OwnS w9 93 16 (.slice (some ⟨sb, 0, none⟩) 12 12) 12 (svRow F (6 * k + i))) := HSd.out.keep hk9 (fun q hq h => h.2 (by simp [blk, Value.ownBlock] at hq; simp [hq]))
                  clear hx9 hk9 hres HGt HXd HSd
                  go_wp2_with fail
                  refine hK.out _ _ trivial (fun hHeld => ?_)
                  clear hK K
                  try simp only [Act.put, List.setIfInBounds_toArray, List.set_cons_zero, List.set_cons_succ]
                  refine wpAnyH_take (i := 5) (oi := ⟨some 138, _, _, _, _, _⟩) (v := .tuple #[.agg (pgC Q), .int .i64 cd]) rfl (by kernel_rfl) (by kernel_rfl) (by kernel_rfl) (fun _ _ _ h => h) (Or.inl ⟨by rfl, ?_⟩) hHeld ?_
                  · intro w' hSw
                    clear hSw
                    go_simp
                    try with_reducible rfl
                    try omega
                  simp only [Act.put, List.setIfInBounds_toArray, List.set_cons_zero, List.set_cons_succ]
                  refine wpAnyH_take (i := 6) (oi := ⟨some 144, _, _, _, _, _⟩) (v := .agg (pgC Q)) rfl (by kernel_rfl) (by kernel_rfl) (by kernel_rfl) (fun _ _ _ h => h) (Or.inl ⟨by rfl, ?_⟩) hHeld ?_
                  · intro w' hSw
                    clear hSw
                    go_simp
                    try with_reducible rfl
                    try omega
                  simp only [Act.put, List.setIfInBounds_toArray, List.set_cons_zero, List.set_cons_succ]
                  refine wpAnyH_take (i := 9) (oi := ⟨some 147, _, _, _, _, _⟩) (v := .pointer (some ⟨sb, k * 96 + i * 16, none⟩)) rfl (by kernel_rfl) (by kernel_rfl) (by kernel_rfl) (fun _ _ _ h => h) (Or.inl ⟨by rfl, ?_⟩) hHeld ?_
                  · intro w' hSw
                    clear hSw
                    go_simp
                    try with_reducible rfl
                    try omega
                  simp only [Act.put, List.setIfInBounds_toArray, List.set_cons_zero, List.set_cons_succ]
                  refine wpAnyH_take (i := 7) (oi := ⟨some 145, _, _, _, _, _⟩) (v := .int .i64 cd) rfl (by kernel_rfl) (by kernel_rfl) (by kernel_rfl) (fun _ _ _ h => h) (Or.inl ⟨by rfl, ?_⟩) hHeld ?_
                  · intro w' hSw
                    clear hSw
                    go_simp
                    try with_reducible rfl
                    try omega
                  simp only [Act.put, List.setIfInBounds_toArray, List.set_cons_zero, List.set_cons_succ]
                  refine wpAnyH_ready (rs := [10]) (by kernel_rfl) (by simp) ?_
                  refine AllReadyH.cons (o := ⟨none, _, _, _, _, _⟩) rfl (fun K hK => ?_) AllReadyH.nil
                  refine step_store_row2 rfl _ _ rfl 93 sb (6 * k + i) (k * 96 + i * 16) 12 12 (fun q => if q < 6 * k + i then F (q % 6) else pageZ) Q rfl (by omega) rfl HS9.out (by have := hiN.out; have := hkN.out; omega) ?_
                  intro wz HRz Kz
                  refine hK.out _ _ trivial (fun hHeld => ?_)
                  clear hK K
                  try simp only [Act.put, List.setIfInBounds_toArray, List.set_cons_zero, List.set_cons_succ]
                  clear hHeld
                  refine wpAnyH_done (by kernel_rfl) ?_ _
                  have HXz : Hid (Cx w wz [sb] c lp p dp 6 lb mb n' lv σ) := HX9.out.loc Kz.out (fun q hq => by subst hq; exact ⟨by simp, hsw.out⟩)
                  have HSz : Hid (OwnS wz 93 16 (.slice (some ⟨sb, 0, none⟩) 12 12) 12 (svRow F (6 * k + (i + 1)))) := by
                    have h1 := HRz.out
                    rw [svRow_next F (6 * k + i) Q hQ.out] at h1
                    exact h1
                  clear HRz Kz HX9 HS9
                  go_wp2_with fail
                  go_roundw
                  case rel => exact ⟨i + 1, hiN.out, rfl, HXz, HSz⟩
                  case measure => have := hiN.out; simp [intOf]; omega
                · obtain rfl : i = 6 := by omega
                  have hbz : Hid (Below w.heap.size w wr) := HX.out.bel
                  have hkN2 := Lib.hid hkN.out
                  go_wp2_with fail
                  go_roundw
                  case rel => exact ⟨k + 1, by have := hkN2.out; omega, rfl, hbz, by rw [show 6 * (k + 1) = 6 * k + 6 by omega]; exact HS⟩
                  case measure => have := hkN2.out; simp [intOf]; omega
        · have hkb : ((k : Int) == 0) = false := beq_eq_false_iff_ne.2 (by omega)
          have hx4 := World.ownsRow.cells HO.out (g := vb) rfl tj _ (intV_get HTu.out)
          rw [Addr.add_mid, Nat.zero_add] at hx4
          have HBk := Lib.hid (cx_back_sv HX4.out HGl.out HGl.out.start tu (Hrg.out tu (List.mem_of_getElem? HTu.out)))
          unfold kitV at HBk
          have htI : (tj : Int) < N1 := by have := Htl.out; omega
          have ht0 : (0 : Int) ≤ tj := by omega
          replace hkz := Lib.hid hkz
          clear HX4
          go_wp2_with fail
          refine (HBk.out).mono ?_
          rintro e w9 ⟨rfl, hk9, n', σ, hx9, hb9⟩
          have HXq := Lib.hid hx9
          have HBq := Lib.hid hb9
          have HSq : Hid (OwnS w9 93 16 (.slice (some ⟨sb, 0, none⟩) 12 12) 12 (svRow F (6 * k))) := HS.out.keep hk9 (fun q hq h => h.2 (by simp [blk, Value.ownBlock] at hq; simp [hq]))
          clear hk9 hx9 hb9 HBk HO HS hx4
          go_wp2_with fail
          have HXs : Hid (Cx w w9 [sb] c lp p dp 6 lb mb n' lv σ) := HXq.out.less [sb] (fun q hq => by simp at hq; simp [hq])
          have HPg : Hid (∀ id, pgC (σ.M id).1 = pgC (F id)) := fun id => by rw [← HF2.out]; exact HBq.out.pages HGl.out id
          clear HXq HBq
          go_loopw [135] (fun x wr => ∃ i : Nat, i ≤ 6 ∧ x = .int .i64 i ∧ Hid (Cx w wr [sb] c lp p dp 6 lb mb n' lv σ) ∧ Hid (OwnS wr 93 16 (.slice (some ⟨sb, 0, none⟩) 12 12) 12 (svRow F (6 * k + i)))) (fun x _ => 6 - (intOf x).toNat)
          case atStart => exact ⟨0, by omega, rfl, HXs, HSq⟩
          case round =>
            clear HXs HSq
            obtain ⟨i, hi, rfl, HX, HS⟩ := hrel
            by_cases hi6 : i < 6
            · have hiI : (i : Int) < 6 := by omega
              have hi0 : (0 : Int) ≤ i := by omega
              have hiw : IntKind.i64.wrap ((i : Int) + 1) = (i : Int) + 1 := by rw [IntKind.wrap_i64]; omega
              have hiN := Lib.hid hi6
              clear hi hi6
              go_upto_region 36 with fail
              obtain ⟨wu, hwu⟩ : ∃ x, wr = x := ⟨_, rfl⟩
              rw [hwu] at HX HS ⊢
              clear hwu
              have HXd : Hid (Cx w wu.drew [sb] c lp p dp 6 lb mb n' lv σ) := HX.out.later (bD bR)
              have HSd : Hid (OwnS wu.drew 93 16 (.slice (some ⟨sb, 0, none⟩) 12 12) 12 (svRow F (6 * k + i))) := OwnS.keep (w := wu) HS.out (Keeps.refl (fun _ => False) wu).drew (fun _ _ h => h)
              have HGt := Lib.hid (cx_get HXd.out (i : Int))
              unfold pgV at HGt
              clear HX HS
              refine wp_region_held_drew (S := fun _ => True) (by kernel_rfl) trivial (fun hHeld => ?_)
              refine wpAnyH_take (i := 0) (oi := ⟨some 139, _, _, _, _, _⟩) (v := .int .i64 k) rfl (by kernel_rfl) (by kernel_rfl) (by kernel_rfl) (fun _ _ _ h => h) (Or.inl ⟨by rfl, ?_⟩) hHeld ?_
              · intro w' hSw
                clear hSw
                go_simp
                try with_reducible rfl
                try omega
              simp only [Act.put, List.setIfInBounds_toArray, List.set_cons_zero, List.set_cons_succ]
              refine wpAnyH_take (i := 1) (oi := ⟨some 140, _, _, _, _, _⟩) (v := .int .i64 i) rfl (by kernel_rfl) (by kernel_rfl) (by kernel_rfl) (fun _ _ _ h => h) (Or.inl ⟨by rfl, ?_⟩) hHeld ?_
              · intro w' hSw
                clear hSw
                go_simp
                try with_reducible rfl
                try omega
              simp only [Act.put, List.setIfInBounds_toArray, List.set_cons_zero, List.set_cons_succ]
              refine wpAnyH_take (i := 2) (oi := ⟨some 141, _, _, _, _, _⟩) (v := .pointer (some ⟨p, 0, none⟩)) rfl (by kernel_rfl) (by kernel_rfl) (by kernel_rfl) (fun _ _ _ h => h) (Or.inl ⟨by rfl, ?_⟩) hHeld ?_
              · intro w' hSw
                clear hSw
                go_simp
                try with_reducible rfl
                try omega
              simp only [Act.put, List.setIfInBounds_toArray, List.set_cons_zero, List.set_cons_succ]
              refine wpAnyH_take (i := 3) (oi := ⟨some 142, _, _, _, _, _⟩) (v := .int .i64 i) rfl (by kernel_rfl) (by kernel_rfl) (by kernel_rfl) (fun _ _ _ h => h) (Or.inl ⟨by rfl, ?_⟩) hHeld ?_
              · intro w' hSw
                clear hSw
                go_simp
                try with_reducible rfl
                try omega
              simp only [Act.put, List.setIfInBounds_toArray, List.set_cons_zero, List.set_cons_succ]
              refine wpAnyH_take (i := 8) (oi := ⟨some 146, _, _, _, _, _⟩) (v := .pointer (some ⟨sb, k * 96, none⟩)) rfl (by kernel_rfl) (by kernel_rfl) (by kernel_rfl) (fun _ _ _ h => h) (Or.inl ⟨by rfl, ?_⟩) hHeld ?_
              · intro w' hSw
                clear hSw
                go_simp
                try with_reducible rfl
                try omega
              simp only [Act.put, List.setIfInBounds_toArray, List.set_cons_zero, List.set_cons_succ]
              refine wpAnyH_ready (rs := [4]) (by kernel_rfl) (by simp) ?_
              refine AllReadyH.cons (o := ⟨some 143, _, _, _, _, _⟩) rfl (fun K hK => ?_) AllReadyH.nil
              go_simp
              go_at_call 24
              refine (HGt.out).mono ?_
              rintro e w9 ⟨Q, cd, rfl, hx9, hk9, hres⟩
              have hQ : Hid (pgC Q = pgC (F ((6 * k + i) % 6))) := by
                show _ = _
                rcases hres with ⟨_, _, _, h1⟩ | ⟨h1, _⟩
                · rw [Int.toNat_natCast] at h1
                  rw [h1, HPg.out, show (6 * k + i) % 6 = i by have := hiN.out; omega]
                · have := hiN.out; omega
              have HX9 := Lib.hid hx9
              have HS9 : Hid (OwnS w9 93 16 (.slice (some ⟨sb, 0, none⟩) 12 12) 12 (svRow F (6 * k + i))) := HSd.out.keep hk9 (fun q hq h => h.2 (by simp [blk, Value.ownBlock] at hq; simp [hq]))
              clear hx9 hk9 hres HGt HXd HSd
              go_wp2_with fail
              refine hK.out _ _ trivial (fun hHeld => ?_)
              clear hK K
              try simp only [Act.put, List.setIfInBounds_toArray, List.set_cons_zero, List.set_cons_succ]
              refine wpAnyH_take (i := 5) (oi := ⟨some 138, _, _, _, _, _⟩) (v := .tuple #[.agg (pgC Q), .int .i64 cd]) rfl (by kernel_rfl) (by kernel_rfl) (by kernel_rfl) (fun _ _ _ h => h) (Or.inl ⟨by rfl, ?_⟩) hHeld ?_
              · intro w' hSw
                clear hSw
                go_simp
                try with_reducible rfl
                try omega
              simp only [Act.put, List.setIfInBounds_toArray, List.set_cons_zero, List.set_cons_succ]
              refine wpAnyH_take (i := 6) (oi := ⟨some 144, _, _, _, _, _⟩) (v := .agg (pgC Q)) rfl (by kernel_rfl) (by kernel_rfl) (by kernel_rfl) (fun _ _ _ h => h) (Or.inl ⟨by rfl, ?_⟩) hHeld ?_
              · intro w' hSw
                clear hSw
                go_simp
                try with_reducible rfl
                try omega
              simp only [Act.put, List.setIfInBounds_toArray, List.set_cons_zero, List.set_cons_succ]
              refine wpAnyH_take (i := 9) (oi := ⟨some 147, _, _, _, _, _⟩) (v := .pointer (some ⟨sb, k * 96 + i * 16, none⟩)) rfl (by kernel_rfl) (by kernel_rfl) (by kernel_rfl) (fun _ _ _ h => h) (Or.inl ⟨by rfl, ?_⟩) hHeld ?_
              · intro w' hSw
                clear hSw
                go_simp
                try with_reducible rfl
                try omega
              simp only [Act.put, List.setIfInBounds_toArray, List.set_cons_zero, List.set_cons_succ]
              refine wpAnyH_take (i := 7) (oi := ⟨some 145, _, _, _, _, _⟩) (v := .int .i64 cd) rfl (by kernel_rfl) (by kernel_rfl) (by kernel_rfl) (fun _ _ _ h => h) (Or.inl ⟨by rfl, ?_⟩) hHeld ?_
              · intro w' hSw
                clear hSw
                go_simp
                try with_reducible rfl
                try omega
              simp only [Act.put, List.setIfInBounds_toArray, List.set_cons_zero, List.set_cons_succ]
              refine wpAnyH_ready (rs := [10]) (by kernel_rfl) (by simp) ?_
              refine AllReadyH.cons (o := ⟨none, _, _, _, _, _⟩) rfl (fun K hK => ?_) AllReadyH.nil
              refine step_store_row2 rfl _ _ rfl 93 sb (6 * k + i) (k * 96 + i * 16) 12 12 (fun q => if q < 6 * k + i then F (q % 6) else pageZ) Q rfl (by omega) rfl HS9.out (by have := hiN.out; have := hkN.out; omega) ?_
              intro wz HRz Kz
              refine hK.out _ _ trivial (fun hHeld => ?_)
              clear hK K
              try simp only [Act.put, List.setIfInBounds_toArray, List.set_cons_zero, List.set_cons_succ]
              clear hHeld
              refine wpAnyH_done (by kernel_rfl) ?_ _
              have HXz : Hid (Cx w wz [sb] c lp p dp 6 lb mb n' lv σ) := HX9.out.loc Kz.out (fun q hq => by subst hq; exact ⟨by simp, hsw.out⟩)
              have HSz : Hid (OwnS wz 93 16 (.slice (some ⟨sb, 0, none⟩) 12 12) 12 (svRow F (6 * k + (i + 1)))) := by
                have h1 := HRz.out
                rw [svRow_next F (6 * k + i) Q hQ.out] at h1
                exact h1
              clear HRz Kz HX9 HS9
              go_wp2_with fail
              go_roundw
              case rel => exact ⟨i + 1, hiN.out, rfl, HXz, HSz⟩
              case measure => have := hiN.out; simp [intOf]; omega
            · obtain rfl : i = 6 := by omega
              have hbz : Hid (Below w.heap.size w wr) := HX.out.bel
              have hkN2 := Lib.hid hkN.out
              go_wp2_with fail
              go_roundw
              case rel => exact ⟨k + 1, by have := hkN2.out; omega, rfl, hbz, by rw [show 6 * (k + 1) = 6 * k + 6 by omega]; exact HS⟩
              case measure => have := hkN2.out; simp [intOf]; omega
end Go.Proofs.YtimomjheanfbmaaGreatDoor
