import Derived.Test.YtdkilpjebmhkkaaDoorPrbz
import Derived.Deep.DeepCutAuto
import Derived.Deep.CutBlock
import Derived.BigRegion
set_option linter.unusedSimpArgs false
set_option linter.unusedVariables false
namespace Go.Proofs.YtdkilpjebmhkkaaDoor
open Go.RowKit
set_option maxRecDepth 100000 in
set_option maxHeartbeats 1600000 in
theorem poolAgain_walk (v : Value) (cs : List PCall) (wh : Int) (w : World) (h : CallsIs w v cs) :
    Calls Tryd.prog 4 #[v, .int .i64 wh] w fun e w' => e = .returned (.bool true) ∧ Below w.heap.size w w' := by
  have HA := Lib.hid awake12
  obtain ⟨va, vc, rfl⟩ := h.form
  have hmx := h.max
  unfold maxLen at hmx
  obtain ⟨n, hn⟩ : ∃ n, cs.length = n := ⟨_, rfl⟩
  rw [hn] at h hmx ⊢
  replace hn := Lib.hid hn
  have H := Lib.hid h
  clear h
  go_enter Tryd.func4, Tryd.ntmps4
  go_wp2_with fail
  refine (HA.out _).mono ?_
  rintro e w1 ⟨rfl, hb⟩
  have HN := Lib.hid (dsk_new 152 (by omega) (by omega) w1)
  rw [show ((152 : Nat) : Int) = 152 from rfl] at HN
  have HB1 := Lib.hid hb
  clear hb HA
  go_wp2_with fail
  refine (HN.out).mono ?_
  rintro e w2 ⟨dp, Sd, rfl, hd, hb, hS⟩
  have HC := Lib.hid (lk_create (w0 := w) (L := []) (by omega) (by omega) hd (fun k hk => ⟨Nat.le_trans HB1.out.size (hS k hk), by simp⟩) (fun k hk => by simp at hk) (bT HB1.out hb))
  clear HN hd hb hS
  go_wp2_with fail
  refine (HC.out).mono ?_
  rintro e w3 ⟨lp, Sl, Sd2, rfl, hlk, -⟩
  have HP := Lib.hid (lk_pool hlk 6 4 (by omega) (by omega) (by omega) (by omega) (by omega))
  rw [show ((6 : Nat) : Int) = 6 from rfl, show ((4 : Nat) : Int) = 4 from rfl] at HP
  clear HC hlk
  go_wp2_with fail
  refine (HP.out).mono ?_
  rintro e w4 ⟨p, rfl, hq, -⟩
  have HQ4 := Lib.hid hq
  clear hq HP
  by_cases hbig : 100 < n
  · have b1 : decide (100 < (n : Int)) = true := by apply decide_eq_true; omega
    have HB4 := Lib.hid HQ4.out.bel
    go_wp2_with fail
    go_ret
    exact ⟨rfl, HB4.out⟩
  have b1 : decide (100 < (n : Int)) = false := by apply decide_eq_false; omega
  have hn100 : Hid (n ≤ 100) := by show n ≤ 100; omega
  clear hbig hmx
  go_wp2_with fail
  go_loopw [57] (fun x wr => ∃ (j : Nat), j ≤ n ∧ x = .int .i64 j ∧ Hid (Kq w wr [] p lp dp 6 (runG (putF 6) cs j).1 (runG (putF 6) cs j).2 (4 * (runG (putF 6) cs j).1.length))) (fun x _ => n - (intOf x).toNat)
  case atStart => exact ⟨0, by omega, rfl, HQ4⟩
  case round =>
    clear HQ4
    obtain ⟨j, hj, rfl, HQ⟩ := hrel
    by_cases hjn : j < n
    -- BODY BEGIN
    · obtain ⟨c, hc⟩ : ∃ c, cs[j]? = some c := ⟨_, List.getElem?_eq_getElem (by rw [hn.out]; exact hjn)⟩
      obtain ⟨b, off, rfl, hbl, hrg, hpc⟩ := H.out.at j c hc
      have HB := HQ.out.bel
      have HRg := Lib.hid (range_below hrg hbl HB)
      have hcount := Lib.hid HQ.out.count
      have hnx := runG_next (f := putF 6) hc
      have hjI : (j : Int) < n := by omega
      have hj0 : (0 : Int) ≤ j := by omega
      have hjw : IntKind.i64.wrap ((j : Int) + 1) = (j : Int) + 1 := by have := hn100.out; rw [IntKind.wrap_i64]; omega
      have hCl : Hid ((Tryd.prog.info? 43).map (·.size) = some (pcL c).length) := pcl_info
      have hCs : Hid ((Tryd.prog.info? 43).map (·.size) = some (pcL c).toArray.size) := pcl_info
      have hone : Hid (∀ v ∈ (pcL c).toArray.toList, v.oneCell' = true) := fun v hv => pcL_cells c v (by simpa using hv)
      have hszz : Hid ((pcL pcZ).toArray.size = (pcL c).toArray.size) := rfl
      have HN : Hid ((wr.alloc (.cells (pcL pcZ).toArray 43)).heap[wr.heap.size]? = some (.cells (pcL pcZ).toArray 43 (0, 0))) := hN rfl
      obtain ⟨⟨rs, M⟩, hst⟩ : ∃ st, runG (putF 6) cs j = st := ⟨_, rfl⟩
      obtain ⟨⟨rs2, M2⟩, hF2⟩ : ∃ st, putF 6 (rs, M) c = st := ⟨_, rfl⟩
      rw [hst] at HQ hcount hnx
      rw [hF2] at hnx
      replace hnx := Lib.hid hnx
      replace hst := Lib.hid hst
      replace hF2 := Lib.hid hF2
      dsimp only at HQ hcount
      replace hc := Lib.hid hc
      replace hj := Lib.hid hj
      clear HB hrg
      go_wp2_with (first
        | (refine wpList_load_mid rfl 43 _ rfl b (off + j * 19) rfl (pcL c) _ HRg.out Tryd.underlying43 rfl hCl.out ?_)
        | (refine wpList_store_whole rfl 43 _ _ rfl _ (pcL c).toArray rfl rfl _ _ HN.out hszz.out hCs.out hone.out ?_; intro w5 HC5 K5; (have HK5 : Hid (Keeps (fun _ => False) wr w5) := ((Keeps.refl (fun _ => False) wr).alloc _).trans K5.out (fun q hq e => by omega)); (have HQ5 : Hid (Kq w w5 [wr.heap.size] p lp dp 6 rs M (4 * rs.length)) := HQ.out.more HK5.out.below [wr.heap.size] (fun q hq => by rw [List.mem_singleton.1 hq]; exact block_lt HC5.out) (fun q hq => by rw [List.mem_singleton.1 hq]; exact .inr (Nat.le_refl _))); (obtain ⟨ck, ci, cp, cr⟩ := pc_at HC5.out); clear HN K5 HQ))
      have HAp := Lib.hid (kq_append HQ5.out c.rcd hpc.2)
      refine (HAp.out).mono ?_
      rintro e w6 ⟨hres, hk6⟩
      have HC6 := Lib.hid (hk6.keep HC5.out (fun h => h.2 (by simp)))
      clear hk6 HAp ck ci cp cr
      rcases hres with ⟨hrf, cd, hcd, rfl, hq6⟩ | ⟨hrf, rfl, hq6⟩
      · have HQ6 : Hid (Kq w w6 [] p lp dp 6 (runG (putF 6) cs (j + 1)).1 (runG (putF 6) cs (j + 1)).2 (4 * (runG (putF 6) cs (j + 1)).1.length)) := by
          rw [hnx.out]
          have h1 := hF2.out
          rw [putF_no (pg := 6) (s := (rs, M)) (c := c) hrf] at h1
          injection h1 with h1 h2
          subst h1 h2
          exact hq6.less [] (fun k hk => by simp at hk)
        clear hq6
        replace hrf := Lib.hid hrf
        go_wp2_with fail
        go_roundw
        case rel => exact ⟨j + 1, by omega, rfl, HQ6⟩
        case measure => simp [intOf]; omega
      · have hN : 4 * rs.length + 4 ≤ 4 * (rs ++ [c.rcd]).length + 100 := by rw [List.length_append, List.length_singleton]; omega
        have HPt := Lib.hid (kq_put hq6 hN c.id c.pg hpc.1 ((54 + lenL rs : Nat) : Int) (by have := hcount.out.2.1; omega))
        obtain ⟨ck, ci, cp, cr⟩ := pc_at HC6.out
        have hpi : Hid ((Tryd.prog.info? 41).map (·.size) = some (pgC c.pg).size) := by show _ = _; kernel_rfl
        unfold pgV at HPt
        have hlen : (rs ++ [c.rcd]).length = rs.length + 1 := by rw [List.length_append, List.length_singleton]
        replace hlen := Lib.hid hlen
        replace hrf := Lib.hid hrf
        clear hq6 hN
        go_wp2_with (refine wpList_load_arr rfl 41 _ rfl wr.heap.size 2 rfl (pgC c.pg) _ cp Tryd.underlying41 rfl hpi.out ?_)
        refine (HPt.out).mono ?_
        rintro e w7 ⟨cd, M1, rfl, hq7, hk7, hres⟩
        have hpf : putF 6 (rs, M) c = (rs ++ [c.rcd], M1) := by
          rcases hres with ⟨h1, h2, h3, _, rfl⟩ | ⟨h1, _, rfl⟩
          · exact putF_ok hrf.out ⟨h1, h2, h3⟩
          · exact putF_bad hrf.out h1
        have HQ7 : Hid (Kq w w7 [] p lp dp 6 (runG (putF 6) cs (j + 1)).1 (runG (putF 6) cs (j + 1)).2 (4 * (runG (putF 6) cs (j + 1)).1.length)) := by
          rw [hnx.out]
          have h1 := hF2.out
          rw [hpf] at h1
          injection h1 with h1 h2
          subst h1 h2
          exact (hq7.mono (by show 4 * rs.length + 4 ≤ 4 * (rs ++ [c.rcd]).length; rw [hlen.out]; omega) (by show 4 * (rs ++ [c.rcd]).length ≤ 4 * (rs ++ [c.rcd]).length + 100; omega)).less [] (fun k hk => by simp at hk)
        clear hq7 hk7 hres HPt hpf ck ci cp cr HC6
        go_wp2_with fail
        go_roundw
        case rel => exact ⟨j + 1, by omega, rfl, HQ7⟩
        case measure => simp [intOf]; omega
    -- BODY END
    · obtain rfl : j = n := by omega
      have hlt : ¬ (j : Int) < j := by omega
      obtain ⟨⟨rs, M⟩, hst⟩ : ∃ st, runG (putF 6) cs j = st := ⟨_, rfl⟩
      rw [hst] at HQ
      dsimp only at HQ
      replace hst := Lib.hid hst
      replace hjn := Lib.hid hjn
      obtain ⟨N, hNeq⟩ : ∃ N, 4 * rs.length = N := ⟨_, rfl⟩
      rw [hNeq] at HQ
      replace hNeq := Lib.hid hNeq
      go_upto_region 16 with fail
      obtain ⟨w5, hw5⟩ : ∃ w5, wr = w5 := ⟨_, rfl⟩
      rw [hw5] at HQ ⊢
      have hwlow := Lib.hid HQ.out.bel.size
      clear hw5
      refine name_world (fun W => Kq w W [w5.heap.size] p lp dp 6 rs M N ∧ OwnS W 50 16 (.slice (some ⟨w5.heap.size, 0, none⟩) 6 6) 6 (pgRow (fun _ => pageZ) 6)) ⟨HQ.out.more (bA bR) [w5.heap.size] (fun q hq => by rw [List.mem_singleton.1 hq]; simp) (fun q hq => by rw [List.mem_singleton.1 hq]; exact .inr (Nat.le_refl _)), by rw [pgRow_length], .inr ⟨w5.heap.size, 6, _, rfl, Nat.zero_le _, hN rfl, Nat.le_refl _, by unfold maxLen; omega, by rfl, by rfl⟩⟩ ?_
      rintro W6 ⟨hq6, ho6⟩
      have HQ6 := Lib.hid hq6
      have HO6 := Lib.hid ho6
      clear hq6 ho6 HQ
      go_wp2_with fail
      go_loopw [78] (fun x wx => ∃ (i : Nat), i ≤ 6 ∧ x = .int .i64 i ∧ Hid (Kq w wx [w5.heap.size] p lp dp 6 rs M N) ∧ Hid (OwnS wx 50 16 (.slice (some ⟨w5.heap.size, 0, none⟩) 6 6) 6 (pgRow (fun k => if k < i then (M k).1 else pageZ) 6))) (fun x _ => 6 - (intOf x).toNat)
      case atStart => exact ⟨0, by omega, rfl, HQ6, by simpa [Hid] using HO6.out⟩
      case round =>
        clear HQ6 HO6
        obtain ⟨i, hi, rfl, HQ, HO⟩ := hrel
        by_cases hi6 : i < 6
        · have hiI : (i : Int) < 6 := by omega
          have hi0 : (0 : Int) ≤ i := by omega
          have hiw : IntKind.i64.wrap ((i : Int) + 1) = (i : Int) + 1 := by rw [IntKind.wrap_i64]; omega
          have HG := Lib.hid (kq_get HQ.out (i : Int))
          unfold pgV at HG
          replace hi := Lib.hid hi
          go_wp2_with fail
          refine (HG.out).mono ?_
          rintro e w7 ⟨Q, cd, rfl, hq, hk, hres⟩
          have hQ : pgC Q = pgC (M i).1 := by
            rcases hres with ⟨_, _, _, h1⟩ | ⟨h1, _⟩
            · rw [Int.toNat_natCast] at h1; exact h1
            · omega
          rw [hQ]
          have HQ7 := Lib.hid hq
          have HO7 := Lib.hid (HO.out.keep hk (fun q hq h => h.2 (by simpa [blk, Value.ownBlock] using hq)))
          have hlow : Hid (w.heap.size ≤ w5.heap.size) := hwlow.out
          clear hq hk hres HG hQ HQ HO
          go_wp2_with (refine wpList_store_row rfl _ _ rfl 50 w5.heap.size i 6 6 (fun k => if k < i then (M k).1 else pageZ) (M i).1 rfl rfl HO7.out hi6 ?_; intro w8 HO8 K8)
          go_roundw
          case rel =>
            refine ⟨i + 1, by omega, rfl, HQ7.out.keep (K8.out.mono (fun q _ e => by simp [e])) (fun q hq => by rw [List.mem_singleton.1 hq]; exact hlow.out), ?_⟩
            rw [pgRow_congr (g := fun k => if k = i then (M i).1 else if k < i then (M k).1 else pageZ) 6 (fun k hk => by
              by_cases h1 : k = i
              · subst h1; rw [if_pos (by omega), if_pos rfl]
              · rw [if_neg h1]
                by_cases h2 : k < i
                · rw [if_pos (by omega), if_pos h2]
                · rw [if_neg (by omega), if_neg h2])]
            exact HO8.out
          case measure => simp [intOf]; omega
        · obtain rfl : i = 6 := by omega
          have hrow : pgRow (fun k => if k < 6 then (M k).1 else pageZ) 6 = pgRow (fun k => (M k).1) 6 := pgRow_congr 6 (fun k hk => by rw [if_pos hk])
          rw [hrow] at HO
          have HFl := Lib.hid (kq_flush HQ.out)
          clear hi hrow
          go_wp2_with fail
          refine (HFl.out).mono ?_
          rintro e w7 ⟨rfl, hc7, hk7⟩
          have HO7 := Lib.hid (HO.out.keep hk7 (fun q hq h => h.2 (by simpa [blk, Value.ownBlock] using hq)))
          have HRn := Lib.hid (kc_renew hc7 5 (by omega) (by omega))
          rw [show ((6 : Nat) : Int) = 6 from rfl, show ((5 : Nat) : Int) = 5 from rfl] at HRn
          clear hc7 hk7 HFl HQ HO
          go_wp2_with fail
          refine (HRn.out).mono ?_
          rintro e w8 ⟨q, rfl, hc8, hk8⟩
          have HO8 := Lib.hid (HO7.out.keep hk8 (fun q hq h => h.2 (by simpa [blk, Value.ownBlock] using hq)))
          have HC8 := Lib.hid hc8
          clear hc8 hk8 HRn HO7
          go_wp2_with fail
          go_loopw [101] (fun x wx => ∃ (i : Nat), i ≤ 6 ∧ x = .int .i64 i ∧ Hid (Kc w wx [w5.heap.size] q lp dp 6 rs M N) ∧ Hid (OwnS wx 50 16 (.slice (some ⟨w5.heap.size, 0, none⟩) 6 6) 6 (pgRow (fun k => (M k).1) 6))) (fun x _ => 6 - (intOf x).toNat)
          case atStart => exact ⟨0, by omega, rfl, HC8, HO8⟩
          case round =>
            clear HC8 HO8
            obtain ⟨i, hi, rfl, HC, HO⟩ := hrel
            by_cases hi6 : i < 6
            · have hiI : (i : Int) < 6 := by omega
              have hi0 : (0 : Int) ≤ i := by omega
              have hiw : IntKind.i64.wrap ((i : Int) + 1) = (i : Int) + 1 := by rw [IntKind.wrap_i64]; omega
              have HG := Lib.hid (kc_get HC.out (i : Int) (by omega))
              unfold pgV at HG
              replace hi := Lib.hid hi
              go_wp2_with fail
              refine (HG.out).mono ?_
              rintro e w9 ⟨Q, rfl, hc9, hk9, hQ⟩
              rw [Int.toNat_natCast] at hQ
              rw [hQ]
              have HC9 := Lib.hid hc9
              have HO9 := Lib.hid (HO.out.keep hk9 (fun q hq h => h.2 (by simpa [blk, Value.ownBlock] using hq)))
              have HN9 : Hid ((w9.alloc (.cells (pgC pageZ) 41)).heap[w9.heap.size]? = some (.cells (pgC pageZ) 41 (0, 0))) := hN rfl
              obtain ⟨R, hR⟩ : ∃ R, (M i).1 = R := ⟨_, rfl⟩
              rw [hR]
              clear hc9 hk9 hQ HG HC HO
              go_wp2_with (refine wpList_store_whole rfl 41 _ _ rfl _ (pgC R) rfl rfl _ (pgC pageZ) HN9.out rfl (by kernel_rfl) (pgC_one _) ?_; intro wa HX K9; (have HKa : Hid (Keeps (fun _ => False) w9 wa) := ((Keeps.refl (fun _ => False) w9).alloc _).trans K9.out (fun q hq e => by omega)); (have HCa := Lib.hid (HC9.out.later HKa.out.below)); (have HOa := Lib.hid (HO9.out.keep HKa.out (fun _ _ h => h))); clear HN9 K9 HC9 HO9)
              have hS0 : RgS w5.heap.size w9.heap.size i R wa.drew := ⟨hR ▸ row_at HOa.out i hi6, HX.out⟩
              have heq : Hid ((!eqPg R R) = false) := by show _ = _; rw [eqPg_same rfl]; rfl
              replace hR := Lib.hid hR
              refine wp_region_held_drew (S := RgS w5.heap.size w9.heap.size i R) (by kernel_rfl) hS0 (fun hHeld => ?_)
              clear hS0
              refine wpAnyH_take (i := 0) (oi := ⟨some 110, _, _, _, _, _⟩) (v := ?_) rfl (by kernel_rfl) (by kernel_rfl) (by kernel_rfl) (fun _ _ _ h => h) (Or.inl ⟨by rfl, ?_⟩) hHeld ?_
              rotate_left
              · intro w' hSw
                obtain ⟨s0, s1⟩ := hSw
                go_simp
                try with_reducible rfl
                try omega
              simp only [Act.put, List.setIfInBounds_toArray, List.set_cons_zero, List.set_cons_succ]
              refine wpAnyH_take (i := 1) (oi := ⟨some 111, _, _, _, _, _⟩) (v := ?_) rfl (by kernel_rfl) (by kernel_rfl) (by kernel_rfl) (fun _ _ _ h => h) (Or.inl ⟨by rfl, ?_⟩) hHeld ?_
              rotate_left
              · intro w' hSw
                obtain ⟨s0, s1⟩ := hSw
                go_simp
                try with_reducible rfl
                try omega
              simp only [Act.put, List.setIfInBounds_toArray, List.set_cons_zero, List.set_cons_succ]
              refine wpAnyH_take (i := 2) (oi := ⟨some 112, _, _, _, _, _⟩) (v := ?_) rfl (by kernel_rfl) (by kernel_rfl) (by kernel_rfl) (fun _ _ _ h => h) (Or.inl ⟨by rfl, ?_⟩) hHeld ?_
              rotate_left
              · intro w' hSw
                obtain ⟨s0, s1⟩ := hSw
                go_simp
                try with_reducible rfl
                try omega
              simp only [Act.put, List.setIfInBounds_toArray, List.set_cons_zero, List.set_cons_succ]
              refine wpAnyH_take (i := 3) (oi := ⟨some 113, _, _, _, _, _⟩) (v := .agg (pgC R)) rfl (by kernel_rfl) (by kernel_rfl) (by kernel_rfl) (fun _ _ _ h => h) (yieldsIf_load_mid (by rfl) _ _ rfl w9.heap.size 0 rfl (pgC R).toList _ (fun _ h => range_of h.2) Tryd.underlying41 rfl (by kernel_rfl)) hHeld ?_
              simp only [Act.put, List.setIfInBounds_toArray, List.set_cons_zero, List.set_cons_succ]
              refine wpAnyH_take (i := 4) (oi := ⟨some 114, _, _, _, _, _⟩) (v := ?_) rfl (by kernel_rfl) (by kernel_rfl) (by kernel_rfl) (fun _ _ _ h => h) (Or.inl ⟨by rfl, ?_⟩) hHeld ?_
              rotate_left
              · intro w' hSw
                obtain ⟨s0, s1⟩ := hSw
                go_simp
                try with_reducible rfl
                try omega
              simp only [Act.put, List.setIfInBounds_toArray, List.set_cons_zero, List.set_cons_succ]
              refine wpAnyH_take (i := 5) (oi := ⟨some 115, _, _, _, _, _⟩) (v := .pointer (some ⟨w5.heap.size, i * 16, none⟩)) rfl (by kernel_rfl) (by kernel_rfl) (by kernel_rfl) (fun _ _ _ h => h) (Or.inl ⟨by rfl, ?_⟩) hHeld ?_
              · intro w' hSw
                obtain ⟨s0, s1⟩ := hSw
                go_simp
                try with_reducible rfl
                try omega
              simp only [Act.put, List.setIfInBounds_toArray, List.set_cons_zero, List.set_cons_succ]
              refine wpAnyH_take (i := 6) (oi := ⟨some 116, _, _, _, _, _⟩) (v := .agg (pgC R)) rfl (by kernel_rfl) (by kernel_rfl) (by kernel_rfl) (fun _ _ _ h => h) (yieldsIf_load_mid (by rfl) _ _ rfl w5.heap.size (i * 16) rfl (pgC R).toList _ (fun _ h => h.1) Tryd.underlying41 rfl (by kernel_rfl)) hHeld ?_
              simp only [Act.put, List.setIfInBounds_toArray, List.set_cons_zero, List.set_cons_succ]
              refine wpAnyH_take (i := 7) (oi := ⟨some 117, _, _, _, _, _⟩) (v := .bool false) rfl (by kernel_rfl) (by kernel_rfl) (by kernel_rfl) (fun _ _ _ h => h) (Or.inl ⟨by rfl, fun w' _ => run_ne_op _ _ _ rfl R R false heq.out rfl rfl w'⟩) hHeld ?_
              simp only [Act.put, List.setIfInBounds_toArray, List.set_cons_zero, List.set_cons_succ]
              refine wpAnyH_take (i := 8) (oi := ⟨some 118, _, _, _, _, _⟩) (v := ?_) rfl (by kernel_rfl) (by kernel_rfl) (by kernel_rfl) (fun _ _ _ h => h) (Or.inl ⟨by rfl, ?_⟩) hHeld ?_
              rotate_left
              · intro w' hSw
                obtain ⟨s0, s1⟩ := hSw
                go_simp
                try with_reducible rfl
                try omega
              simp only [Act.put, List.setIfInBounds_toArray, List.set_cons_zero, List.set_cons_succ]
              clear hHeld
              refine wpAnyH_done (by kernel_rfl) ?_ _
              go_wp2_with fail
              go_roundw
              case rel => exact ⟨i + 1, by omega, rfl, HCa.out.later (bD bR), OwnS.keep (w := wa) HOa.out ((Keeps.refl (fun _ => False) wa).drew) (fun _ _ h => h)⟩
              case measure => simp [intOf]; omega
            · obtain rfl : i = 6 := by omega
              clear hi
              obtain ⟨I, hI, hI24⟩ := turn_pos wh
              obtain ⟨S, hS64, hSec⟩ := kc_sector HC.out I hI24
              have HSec := Lib.hid hSec
              have hIw : wrap64 (128 + (I : Int)) = 128 + (I : Int) := by unfold wrap64; omega
              have HRd := Lib.hid (HSec.out wr (Below.refl _ _)).1
              have HBw := Lib.hid HC.out.bel
              have HI := Lib.hid hI
              have HIw := Lib.hid hIw
              clear HC HO hSec hi6 hI hIw
              go_wp2_with fail
              rw [HI.out, HIw.out]
              refine (HRd.out).mono ?_
              rintro e w6 ⟨rfl, rfl⟩
              have hcv := fun w => run_bytes_of_string (P := Tryd.prog) w 9 54 5 S Tryd.underlying9 Tryd.underlying54 Tryd.underlying5
              clear HRd
              go_upto_region 36 with fail
              have hcapge := grownCap_ge w6 64 0 5
              have hbn := bytesAt_new w6 5 S (grownCap w6 64 0 5) (by omega)
              generalize grownCap w6 64 0 5 = cap at *
              refine name_world (fun W => BytesAt W 5 w6.heap.size (byteL S) ∧ Below w6.heap.size w6 W) ⟨BytesAt.drew hbn, bD (bA bR)⟩ ?_
              rintro W ⟨hB, hbW⟩
              have hl : (byteL S).length = 64 := by rw [byteL_length]; omega
              obtain ⟨x1, x2, x3⟩ := xor_one S hS64
              have hcell := hB.cell 60 (by omega)
              have hfr := hB.free 60 (by omega)
              have HBt := Lib.hid (hB.set 60 (bits .xor .u8 ((byteL S).getD 60 0) 1))
              generalize hx0 : (byteL S).getD 60 0 = x0 at *
              have HWb := Lib.hid (bS (p := ⟨w6.heap.size, 60, none⟩) (u := .int .u8 (bits .xor .u8 x0 1)) hbW (Nat.le_refl _))
              have HX := Lib.hid (And.intro x1 (And.intro x2 x3))
              replace hx0 := Lib.hid hx0
              replace hl := Lib.hid hl
              clear hB hbW hbn hcapge x1 x2 x3 hcv
              go_upto_region 37 with fail
              refine name_world (fun W' => BytesAt W' 5 w6.heap.size ((byteL S).set 60 (bits .xor .u8 x0 1)) ∧ Below w6.heap.size w6 W') ⟨HBt.out, HWb.out⟩ ?_
              rintro W7 ⟨hB7, hb7⟩
              have hx : (convert 54 9 (.slice (some ⟨w6.heap.size, 0, none⟩) 64 cap)).run Tryd.prog W7 = .ok (.string (setB S 60 (bits .xor .u8 x0 1))) W7 :=
                BytesAt.str (P := Tryd.prog) hB7 54 Tryd.underlying54 Tryd.underlying5 64 cap (by rw [List.length_set]; exact hl.out) 9 Tryd.underlying9
              have HWr := Lib.hid ((HSec.out W7 hb7).2 _ HX.out.1 HX.out.2.1 HX.out.2.2)
              have HB6 := Lib.hid (bT HBw.out hb7)
              have hdiv : (I : Int).tdiv 4 = ((I / 4 : Nat) : Int) := by rw [Int.tdiv_eq_ediv_of_nonneg (by omega)]; omega
              have HDv := Lib.hid hdiv
              clear hB7 hb7 HBt HWb HX hx0 hdiv HSec hcell hfr
              go_wp2_with fail
              refine (HWr.out).mono ?_
              rintro e w8 ⟨rfl, hkt⟩
              have HNw := Lib.hid (kt_new hkt (by omega))
              clear hkt HWr hx
              go_wp2_with fail
              refine (HNw.out).mono ?_
              rintro e w9 ⟨o, rfl, hgt⟩
              have HGt := Lib.hid hgt
              clear HNw hgt
              unfold pgV at HGt
              go_wp2_with fail
              try rw [HDv.out]
              refine (HGt.out).mono ?_
              rintro e wa ⟨rfl, hba⟩
              have HBa := Lib.hid hba
              have HNa : Hid ((wa.alloc (.cells (pgC pageZ) 41)).heap[wa.heap.size]? = some (.cells (pgC pageZ) 41 (0, 0))) := hN rfl
              clear hba HGt
              go_wp2_with (refine wpList_store_whole rfl 41 _ _ rfl _ (pgC pageZ) rfl rfl _ (pgC pageZ) HNa.out rfl (by kernel_rfl) (pgC_one _) ?_; intro wb HX Kb; (have HBb := Lib.hid (bK (bA HBa.out) Kb (fun j hj => by have := HBa.out.size; omega))); clear HNa Kb HX)
              go_ret
              exact ⟨rfl, HBb.out⟩
end Go.Proofs.YtdkilpjebmhkkaaDoor
