import Derived.Test.YtimomjheanfbmaaGreatDoorChRWz
import Derived.Test.YtimomjheanfbmaaGreatDoorMap
import Derived.Great.BuildSlice
import Derived.Deep.DeepCutAuto
import Derived.Deep.CutBlock
set_option linter.unusedSimpArgs false
set_option linter.unusedVariables false
namespace Go.Proofs.YtimomjheanfbmaaGreatDoor
open Go.RowKit

/-- what Change's region reads -/
def RmS (cb xg ub p4 : Nat) (x : Int) (U : List Value) (w : World) : Prop := w.cell? ⟨cb, 1, none⟩ = some (.int .i64 x) ∧ w.cell? ⟨xg, p4, none⟩ = some (.int .i64 ((p4 + 1 : Nat) : Int)) ∧ w.heap[ub]? = some (.cells U.toArray 42 (0, 0))
/-- the numbers that Begin has handed out -/
def xsV : Nat → List Value
  | 0 => []
  | j + 1 => xsV j ++ [.int .i64 ((j + 1 : Nat) : Int)]
theorem xsV_length : ∀ j, (xsV j).length = j
  | 0 => rfl
  | j + 1 => by rw [xsV, List.length_append, xsV_length j]; rfl
theorem xsV_get : ∀ (j i : Nat), i < j → (xsV j)[i]? = some (.int .i64 ((i + 1 : Nat) : Int))
  | 0, i, h => by omega
  | j + 1, i, h => by
    rw [xsV]
    by_cases e : i = j
    · subst e
      rw [List.getElem?_append_right (by rw [xsV_length]; omega), xsV_length, Nat.sub_self]; rfl
    · rw [List.getElem?_append_left (by rw [xsV_length]; omega)]
      exact xsV_get j i (by omega)
theorem Tryz.info_int18 : (Tryz.prog.info? 3).map (fun i => (i.zero, i.size, i.bytes)) = some (some (.int .i64 0), 1, 8) := by kernel_rfl
theorem pos4_eq (v : Int) : ∃ k : Nat, (wrap64 (v.tmod 4 + 4)).tmod 4 = (k : Int) ∧ k < 4 := by
  have h1 : -4 < v.tmod 4 ∧ v.tmod 4 < 4 := ⟨Int.lt_tmod_of_pos v (by omega), Int.tmod_lt_of_pos v (by omega)⟩
  have h2 : wrap64 (v.tmod 4 + 4) = v.tmod 4 + 4 := by unfold wrap64; omega
  rw [h2, Int.tmod_eq_emod_of_nonneg (by omega)]
  exact ⟨((v.tmod 4 + 4) % 4).toNat, by omega, by omega⟩
theorem bools_k {w wr : World} {ba : Option Addr} {bc n : Nat} {ks : List Bool} (h : BoolsAt w w.heap.size (.slice ba n bc) ks) (hn : ks.length = n) (hb : Below w.heap.size w wr) (k : Nat) (hk : k < n) : ∃ b off, ba = some ⟨b, off, none⟩ ∧ wr.cell? ⟨b, off + k, none⟩ = some (.bool (ks.getD k false)) := by
  obtain ⟨a, c, h1, -, h3⟩ := h
  obtain ⟨b, off, e1, hbl, hc⟩ := h3 (by intro e; subst e; simp at hn; omega)
  injection h1 with i1 i2 i3
  exact ⟨b, off, by rw [i1, e1], by rw [hb.cell (p := ⟨b, off + k, none⟩) hbl, hc k (by omega)]⟩
theorem cx_save_any {w0 w : World} {L : List Nat} {c lp p dp pg lb mb n : Nat} {lv : Value} {σ : CS} (h : Cx w0 w L c lp p dp pg lb mb n lv σ) (x : Int) :
    Calls Tryz.prog 32 #[.pointer (some ⟨c, 0, none⟩), .int .i64 x] w fun e w' => ∃ t q : Int, e = .returned (.tuple #[.int .i64 t, .int .i64 q]) ∧ Below w.heap.size w w' := by
  refine (ch_save h.ch x).mono ?_
  rintro e w' ⟨hres, hb⟩
  rcases hres with ⟨i, s, -, -, -, rfl⟩ | ⟨-, rfl⟩
  · exact ⟨_, _, rfl, hb⟩
  · exact ⟨_, _, rfl, hb⟩
set_option maxRecDepth 100000 in
set_option maxHeartbeats 1600000 in
theorem chainRoom_walk (v : Value) (cs : List LCall) (vb : Value) (ks : List Bool) (w : World) (h : LcIs w v cs) (hk : BoolsAt w w.heap.size vb ks) :
    Calls Tryz.prog 7 #[v, vb] w fun e w' => e = .returned (.bool true) ∧ Below w.heap.size w w' := by
  have HA := Lib.hid awake18
  obtain ⟨va, vc, rfl⟩ := h.form
  have hmx := h.max
  unfold maxLen at hmx
  obtain ⟨n, hn⟩ : ∃ n, cs.length = n := ⟨_, rfl⟩
  rw [hn] at h hmx ⊢
  replace hn := Lib.hid hn
  have H := Lib.hid h
  have HKS := Lib.hid hk
  obtain ⟨ba, bc, rfl, hbm, -⟩ := hk
  obtain ⟨bn, hbn⟩ : ∃ n, ks.length = n := ⟨_, rfl⟩
  rw [hbn] at hbm HKS ⊢
  unfold maxLen at hbm
  have hbmN := Lib.hid hbm
  replace hbn := Lib.hid hbn
  clear h hbm
  go_enter Tryz.func7, Tryz.ntmps7
  go_wp2_with fail
  refine (HA.out _).mono ?_
  rintro e w1 ⟨rfl, hb⟩
  have HB1 := Lib.hid hb
  clear hb HA
  by_cases hbig : 100 < n
  · have b1 : decide (100 < (n : Int)) = true := by apply decide_eq_true; omega
    go_wp2_with fail
    go_ret
    exact ⟨rfl, HB1.out⟩
  have b1 : decide (100 < (n : Int)) = false := by apply decide_eq_false; omega
  have hn100 : Hid (n ≤ 100) := by show n ≤ 100; omega
  clear hbig hmx
  have HM := Lib.hid (cx_made w w1 [] (fun k hk => by cases hk) HB1.out 1 (by omega))
  go_wp2_with fail
  refine (HM.out).mono ?_
  rintro e w2 ⟨c, lp, p, dp, lb, mb, rfl, hx, -⟩
  have HX2 := Lib.hid hx
  clear hx HM
  have HN := Lib.hid (mx_new 54 6912 1 w2)
  go_wp2_with fail
  refine (HN.out).mono ?_
  rintro e w3 ⟨m, g, rfl, hm, hb, hm1, hg1⟩
  have HM3 := Lib.hid hm
  have HX3 : Hid (Cx w w3 [m, g] c lp p dp 6 lb mb 0 (.slice none 0 0) (CS.init 1)) := HX2.out.more hb [m, g] hm.lt (fun k hk => .inr (by simp at hk; rcases hk with rfl | rfl <;> assumption))
  have hgw : Hid (w.heap.size ≤ g) := Nat.le_trans (HX2.out.bel).size hg1
  have hmg : Hid (m ≠ g) := hm.nd
  clear hm hb hm1 hg1 HN HX2 HB1
  obtain ⟨ji, hji, hy0, hy1, hy2⟩ := info_parts Tryz.info_int18
  go_wp2_with fail
  go_loopw [38, 10] (fun x y wr => ∃ (j : Nat) (nk : Nat) (lv : Value), j ≤ 4 ∧ x = .int .i64 j ∧ Hid (OwnS wr 3 1 y j (xsV j)) ∧ Hid (Cx w wr (blk y ++ [m, g]) c lp p dp 6 lb mb nk lv (bgN j)) ∧ Hid (Mx wr m g (fun _ => pageZ)) ∧ Hid (∀ q ∈ blk y, w.heap.size ≤ q ∧ q ≠ m ∧ q ≠ g)) (fun x _ _ => 4 - (intOf x).toNat)
  case atStart => exact ⟨0, 0, _, by omega, rfl, OwnS.nil _ _ _, HX3, HM3, fun q hq => by simp [blk, Value.ownBlock] at hq⟩
  case round =>
    clear HX3 HM3
    obtain ⟨j, nk, lv, hj, rfl, HO, HX, HMx, HQ⟩ := hrel
    by_cases hj4 : j < 4
    · have hjI : (j : Int) < 4 := by omega
      have hjw : IntKind.i64.wrap ((j : Int) + 1) = (j : Int) + 1 := by rw [IntKind.wrap_i64]; omega
      have HBg := Lib.hid (cx_begin_n hj4 HX.out)
      have hjN := Lib.hid hj4
      clear hj hj4
      go_wp2_with fail
      refine (HBg.out).mono ?_
      rintro e w4 ⟨n', lv', rfl, hk4, hx4⟩
      obtain ⟨ya, yc, rfl⟩ := HO.out.form
      have HX4 := Lib.hid hx4
      have HO4 : Hid (OwnS w4 3 1 (.slice ya j yc) j (xsV j)) := HO.out.keep hk4 (fun q hq h => h.2 (List.mem_append_left _ hq))
      have HM4 : Hid (Mx w4 m g (fun _ => pageZ)) := HMx.out.keep hk4 (fun q hq h => h.2 (List.mem_append_right _ hq))
      have HO5 : Hid (OwnS (w4.alloc (.cells #[.int .i64 ((j + 1 : Nat) : Int)] 3)) 3 1 (.slice ya j yc) j (xsV j)) := HO4.out.keep ((Keeps.refl (fun _ => False) w4).alloc _) (fun _ _ h => h)
      clear hk4 hx4 HBg HX HMx HO
      go_wp2_with (first
        | (refine wpList_buildSlice rfl 54 3 1 _ rfl #[.int .i64 ((j + 1 : Nat) : Int)] ji _ Tryz.underlying54 hji hy0 (by rw [hy1]; decide) (by rw [hy1]; decide) (by rw [hy1]; rfl) ?_)
        | (at_builtin; go_must (refine wpList_append_frame _ rfl _ _ 54 rfl 3 ji _ 1 8 Tryz.underlying54 hji hy0 hy1 hy2 rfl (by decide) _ _ _ rfl HO5.out ⟨w4.heap.size, 0, none⟩ 1 1 [.int .i64 ((j + 1 : Nat) : Int)] rfl rfl (fun i u hi => by
            cases i with
            | zero => rw [← hi]; exact cell_at (hN rfl) 0
            | succ i => simp at hi) (fun v hv => by simp at hv; rw [hv]; rfl) (by have := hjN.out; unfold maxLen; omega) (by have := hjN.out; omega) ?_); rintro v9 w9 ho9 hk9 hb9 hn9; (have HO9 := Lib.hid ho9); (have HK9 := Lib.hid hk9); (have HB9 := Lib.hid hb9); clear ho9 hk9 hb9 hn9 HO5))
      have HK9' : Keeps (· ∈ blk (.slice ya j yc)) (w4.alloc (.cells #[.int .i64 ((j + 1 : Nat) : Int)] 3)) w9 := HK9.out
      have HB9' : ∀ q ∈ blk v9, q ∈ blk (.slice ya j yc) ∨ (w4.alloc (.cells #[.int .i64 ((j + 1 : Nat) : Int)] 3)).heap.size ≤ q := HB9.out
      have hs4 : (w4.alloc (.cells #[.int .i64 ((j + 1 : Nat) : Int)] 3)).heap.size = w4.heap.size + 1 := by simp
      have hws : w.heap.size ≤ w4.heap.size := HX4.out.bel.size
      have hmlt := HM4.out.lt
      have h9s := HK9'.size
      have HX9 : Hid (Cx w w9 (blk v9 ++ [m, g]) c lp p dp 6 lb mb n' lv' (bgN (j + 1))) := by
        have h1 := (HX4.out.later (w' := w4.alloc (.cells #[.int .i64 ((j + 1 : Nat) : Int)] 3)) (bA bR))
        refine Cx.swap h1 HK9' (fun q hq => ⟨List.mem_append_left _ hq, (HQ.out q hq).1⟩) _ (fun q hq => ?_) (fun q hq => ?_)
        · rcases List.mem_append.1 hq with hq | hq
          · exact HO9.out.lt hq
          · have := hmlt q hq; omega
        · rcases List.mem_append.1 hq with hq | hq
          · rcases HB9' q hq with h | h
            · exact .inl (List.mem_append_left _ h)
            · exact .inr h
          · exact .inl (List.mem_append_right _ hq)
      have HM9 : Hid (Mx w9 m g (fun _ => pageZ)) := (HM4.out.later (w' := w4.alloc (.cells #[.int .i64 ((j + 1 : Nat) : Int)] 3)) (bA bR)).keep HK9' (fun q hq h => by
        have := HQ.out q h
        simp only [List.mem_cons, List.not_mem_nil, or_false] at hq
        rcases hq with rfl | rfl
        · exact this.2.1 rfl
        · exact this.2.2 rfl)
      have HQ9 : Hid (∀ q ∈ blk v9, w.heap.size ≤ q ∧ q ≠ m ∧ q ≠ g) := fun q hq => by
        rcases HB9' q hq with h | h
        · exact HQ.out q h
        · have h1 := hmlt m (by simp)
          have h2 := hmlt g (by simp)
          exact ⟨by omega, by omega, by omega⟩
      clear HK9 HB9 HK9' HB9' HX4 HM4 HO4 HQ
      go_roundw
      case rel => exact ⟨j + 1, n', lv', hjN.out, rfl, HO9, HX9, HM9, HQ9⟩
      case measure => have := hjN.out; simp [intOf]; omega
    · obtain rfl : j = 4 := by omega
      obtain ⟨ya, yc, hya⟩ := HO.out.form
      subst hya
      obtain ⟨xg, rfl⟩ := HO.out.spot (by omega)
      have HX4 : Hid (Cx w wr [xg, m, g] c lp p dp 6 lb mb nk lv (bgN 4)) := by
        have := HX.out
        rwa [show blk (.slice (some ⟨xg, 0, none⟩) 4 yc) ++ [m, g] = [xg, m, g] by simp [blk, Value.ownBlock]] at this
      obtain ⟨hxw, hxm, hxg⟩ := HQ.out xg (by simp [blk, Value.ownBlock])
      have hxw2 := Lib.hid hxw
      have hxg2 := Lib.hid hxg
      clear HQ HX hxw hxm hxg hj hj4
      go_upto_block 2 with fail
      go_cut [] from 13 to 133 (fun wx => ∃ (σ : CS) (nk : Nat), Hid (Cx w wx [xg, m, g] c lp p dp 6 lb mb nk lv σ) ∧ Hid (Rm 0 σ) ∧ Hid (OwnS wx 3 1 (.slice (some ⟨xg, 0, none⟩) 4 yc) 4 (xsV 4)) ∧ Hid (σ.cnt ≤ 100000))
      case first =>
        go_wp2_with fail
        go_loopw [13, 14] (fun x y wr => ∃ (kk : Nat) (b : Bool) (σ : CS) (nk : Nat) (f : Nat → Pg), kk ≤ 60 ∧ x = .bool b ∧ y = .int .i64 kk ∧ Hid (Cx w wr [xg, m, g] c lp p dp 6 lb mb nk lv σ) ∧ Hid (Mx wr m g f) ∧ Hid (∀ i, i < 6 → PgOk (f i)) ∧ Hid (Rm 0 σ) ∧ Hid (OwnS wr 3 1 (.slice (some ⟨xg, 0, none⟩) 4 yc) 4 (xsV 4)) ∧ Hid (σ.cnt ≤ 4 + 200 * kk)) (fun _ y _ => 60 - (intOf y).toNat)
        case atStart => exact ⟨0, false, bgN 4, nk, _, by omega, rfl, rfl, HX4, HMx, fun i hi => by decide, bgN_four, HO, by show 4 ≤ 4 + 200 * 0; omega⟩
        case round =>
          clear HX4 HMx HO
          obtain ⟨kk, b, σ, nk, f, hkk, rfl, rfl, HX, HMx, HF, HR, HO, HC⟩ := hrel
          cases b with
          | true =>
            have hc5 : Hid (σ.cnt ≤ 100000) := by have := HC.out; show _ ≤ _; omega
            go_wp2_with fail
            go_meet
            exact ⟨σ, nk, HX, HR, HO, hc5⟩
          | false =>
            by_cases hk60 : kk < 60
            rotate_left
            · have hkI : ¬ (kk : Int) < 60 := by omega
              have hkd : decide ((kk : Int) < 60) = false := decide_eq_false hkI
              have hc5 : Hid (σ.cnt ≤ 100000) := by have := HC.out; show _ ≤ _; omega
              go_wp2_with fail
              go_meet
              exact ⟨σ, nk, HX, HR, HO, hc5⟩
            have hkd : decide ((kk : Int) < 60) = true := decide_eq_true (by omega)
            have hkN := Lib.hid hk60
            have hkw : IntKind.i64.wrap ((kk : Int) + 1) = ((kk + 1 : Nat) : Int) := by rw [IntKind.wrap_i64]; omega
            clear hkk hk60
            go_upto_block 4 with fail
            go_cut [13] (fun x wx => ∃ (b : Bool) (σ : CS) (nk : Nat) (f : Nat → Pg), x = .bool b ∧ Hid (Cx w wx [xg, m, g] c lp p dp 6 lb mb nk lv σ) ∧ Hid (Mx wx m g f) ∧ Hid (∀ i, i < 6 → PgOk (f i)) ∧ Hid (Rm 0 σ) ∧ Hid (OwnS wx 3 1 (.slice (some ⟨xg, 0, none⟩) 4 yc) 4 (xsV 4)) ∧ Hid (σ.cnt ≤ 4 + 200 * kk + 100))
            case first =>
              go_wp2_with fail
              go_loopw [62, 13] (fun x y wr => ∃ (k : Nat) (σ : CS) (nk : Nat) (f : Nat → Pg), k ≤ n ∧ x = .int .i64 k ∧ y = .bool false ∧ Hid (Cx w wr [xg, m, g] c lp p dp 6 lb mb nk lv σ) ∧ Hid (Mx wr m g f) ∧ Hid (∀ i, i < 6 → PgOk (f i)) ∧ Hid (Rm 0 σ) ∧ Hid (OwnS wr 3 1 (.slice (some ⟨xg, 0, none⟩) 4 yc) 4 (xsV 4)) ∧ Hid (σ.cnt ≤ 4 + 200 * kk + k)) (fun x _ _ => n - (intOf x).toNat)
              case atStart => exact ⟨0, σ, nk, f, by omega, rfl, rfl, HX, HMx, HF, HR, HO, by have := HC.out; show _ ≤ _; omega⟩
              case round =>
                clear HX HMx HF HR HO HC
                obtain ⟨k, σ, nk, f, hk, rfl, rfl, HX, HMx, HF, HR, HO, HC⟩ := hrel
                by_cases hkn : k < n
                rotate_left
                · obtain rfl : k = n := by omega
                  have hkI : ¬ (k : Int) < k := by omega
                  have hc5 : Hid (σ.cnt ≤ 4 + 200 * kk + 100) := by have := HC.out; have := hn100.out; show _ ≤ _; omega
                  go_wp2_with fail
                  go_meet
                  exact ⟨false, σ, nk, f, rfl, HX, HMx, HF, HR, HO, hc5⟩
                obtain ⟨y, hy⟩ : ∃ y, cs[k]? = some y := ⟨_, List.getElem?_eq_getElem (by rw [hn.out]; exact hkn)⟩
                obtain ⟨b, off, rfl, hbl, hrg, hyo⟩ := H.out.at k y hy
                have HRg := Lib.hid (range_below hrg hbl HX.out.bel)
                have hkI : (k : Int) < n := by omega
                have hk0 : (0 : Int) ≤ k := by omega
                have hkw2 : IntKind.i64.wrap ((k : Int) + 1) = (k : Int) + 1 := by have := hn100.out; rw [IntKind.wrap_i64]; omega
                have HN : Hid ((wr.alloc (.cells (lcL lcZ).toArray 35)).heap[wr.heap.size]? = some (.cells (lcL lcZ).toArray 35 (0, 0))) := hN rfl
                have hyo' := Lib.hid hyo
                have hkN2 := Lib.hid hkn
                clear hrg hy hyo hk hkn
                go_upto_region 24 with (first
                  | (refine wpList_load_mid rfl 35 _ rfl b (off + k * 8) rfl (lcL y) _ HRg.out Tryz.underlying35 rfl lcl_info ?_)
                  | (refine wpList_store_whole rfl 35 _ _ rfl _ (lcL y).toArray rfl rfl _ _ HN.out rfl lcl_info (fun v hv => lcL_cells y v (by simpa using hv)) ?_; intro w5 HC5 K5; (have HK5 : Hid (Keeps (fun _ => False) wr w5) := ((Keeps.refl (fun _ => False) wr).alloc _).trans K5.out (fun q hq e => by omega)); clear HN K5))
                have HX5 : Hid (Cx w w5 [wr.heap.size, xg, m, g] c lp p dp 6 lb mb nk lv σ) := HX.out.push HK5.out.below _ (Nat.le_refl _) (block_lt HC5.out)
                have HM5 := Lib.hid (HMx.out.later HK5.out.below)
                have HO5 := Lib.hid (HO.out.keep HK5.out (fun _ _ h => h))
                clear HX HMx HO HRg
                have HIm := Lib.hid (mx_image HM5.out y)
                go_wp2_with (refine wpList_load_row rfl 35 _ rfl _ rfl 35 _ _ _ HC5.out Tryz.underlying35 rfl lcl_info ?_)
                refine (HIm.out).mono ?_
                rintro e w6 ⟨ib, rfl, hib, hb6, hibl⟩
                have HX6 : Hid (Cx w w6 [ib, wr.heap.size, xg, m, g] c lp p dp 6 lb mb nk lv σ) := HX5.out.push hb6 _ hibl (block_lt hib)
                have HM6 := Lib.hid (HM5.out.later hb6)
                have HO6 := Lib.hid (HO5.out.keep (Keeps.of_below (fun _ => False) hb6) (fun _ _ h => h))
                have HI6 := Lib.hid hib
                have HC6 : Hid (w6.heap[wr.heap.size]? = some (.cells (lcL y).toArray 35 (0, 0))) := by
                  have h1 := hb6.block wr.heap.size (block_lt HC5.out)
                  show _ = _
                  rw [h1]; exact HC5.out
                have hig : Hid (ib ≠ g) := by have := HM5.out.lt g (by simp); show ib ≠ g; omega
                have HNu : Hid ((w6.alloc (.cells #[.int .i64 0, .int .i64 0, .int .i64 0, .int .i64 0, .string ⟨#[]⟩, .int .i64 0, .string ⟨#[]⟩] 42)).heap[w6.heap.size]? = some (.cells #[.int .i64 0, .int .i64 0, .int .i64 0, .int .i64 0, .string ⟨#[]⟩, .int .i64 0, .string ⟨#[]⟩] 42 (0, 0))) := hN rfl
                have hUo : Hid (∀ v ∈ (unL (imgU f y)).toArray.toList, v.oneCell' = true) := fun v hv => un_cells _ v (by simpa using hv)
                obtain ⟨U, hU⟩ : ∃ U, imgU f y = U := ⟨_, rfl⟩
                rw [hU] at hUo ⊢
                clear hib hb6 hibl HIm HX5 HM5 HC5 HO5
                go_upto_region 25 with (refine wpList_store_whole rfl 42 _ _ rfl _ (unL U).toArray rfl rfl _ _ HNu.out rfl un_info hUo.out ?_; intro w7 HU7 K7; (have hk7 : Hid (Keeps (fun _ => False) w6 w7) := ((Keeps.refl (fun _ => False) w6).alloc _).trans K7.out (fun q hq e => by omega)); (have HX7 : Hid (Cx w w7 [w6.heap.size, ib, wr.heap.size, xg, m, g] c lp p dp 6 lb mb nk lv σ) := HX6.out.push hk7.out.below _ (Nat.le_refl _) (block_lt HU7.out)); (have HM7 := Lib.hid (HM6.out.later hk7.out.below)); (have HO7 := Lib.hid (HO6.out.keep hk7.out (fun _ _ h => h))); (have HI7 := Lib.hid (hk7.out.keep HI6.out (fun h => h))); (have HC7 := Lib.hid (hk7.out.keep HC6.out (fun h => h))); clear HNu K7 hk7 HX6 HM6 HI6 HC6 HO6)
                have c1 : w7.cell? ⟨wr.heap.size, 1, none⟩ = some (.int .i64 y.x) := cell_at HC7.out 1
                have c4 : w7.cell? ⟨wr.heap.size, 4, none⟩ = some (.int .i64 y.st) := cell_at HC7.out 4
                have c5 : w7.cell? ⟨wr.heap.size, 5, none⟩ = some (.string y.dt) := cell_at HC7.out 5
                have HB7 : Hid (Below w.heap.size w w7) := HX7.out.bel
                by_cases hcl : ClOk y.st y.dt
                rotate_left
                · have hbad : Hid (¬ ClOk y.st y.dt) := hcl
                  clear hcl
                  by_cases d1 : 34 < y.dt.size
                  · have e1 : decide (34 < (y.dt.size : Int)) = true := decide_eq_true (by omega)
                    go_wp2_with fail
                    go_ret
                    exact ⟨rfl, HB7.out⟩
                  have e1 : decide (34 < (y.dt.size : Int)) = false := decide_eq_false (by omega)
                  by_cases d2 : y.st < 0
                  · have e2 : decide (y.st < 0) = true := decide_eq_true d2
                    go_wp2_with fail
                    go_ret
                    exact ⟨rfl, HB7.out⟩
                  have e2 : decide (y.st < 0) = false := decide_eq_false d2
                  by_cases d3 : 2 < y.st
                  · have e3 : decide (2 < y.st) = true := decide_eq_true d3
                    go_wp2_with fail
                    go_ret
                    exact ⟨rfl, HB7.out⟩
                  have e3 : decide (2 < y.st) = false := decide_eq_false d3
                  have d4 : y.st = 0 ∧ y.dt.size ≠ 0 := by
                    by_cases h : y.st = 0 ∧ y.dt.size ≠ 0
                    · exact h
                    · exact absurd ⟨by omega, by omega, by omega, fun h0 => by
                        by_cases h1 : y.dt.size = 0
                        · exact h1
                        · exact absurd ⟨h0, h1⟩ h⟩ hbad.out
                  have e4 : (y.st == 0) = true := by simpa using d4.1
                  obtain ⟨s1, s2⟩ := str_some d4.2
                  clear d1 d2 d3 d4
                  go_wp2_with fail
                  go_ret
                  exact ⟨rfl, HB7.out⟩
                obtain ⟨k1, k2, k3, k4⟩ := hcl
                have e1 : decide (34 < (y.dt.size : Int)) = false := decide_eq_false (by omega)
                have e2 : decide (y.st < 0) = false := decide_eq_false (by omega)
                have e3 : decide (2 < y.st) = false := decide_eq_false (by omega)
                have hclN : Hid (ClOk y.st y.dt) := ⟨k1, k2, k3, k4⟩
                have e5 : (y.st == 0) = false ∨ ((y.st == 0) = true ∧ y.dt.toList = [] ∧ y.dt.toList.isEmpty = true) := by
                  by_cases h : y.st = 0
                  · have h2 := str_none (k4 h)
                    refine .inr ⟨by simpa using h, ?_, ?_⟩
                    · rw [h2, ByteArray.toList_eq]
                    · rw [h2, ByteArray.toList_eq]; rfl
                  · exact .inl (by simpa using h)
                clear k1 k2 k3 k4
                obtain ⟨p4, hp4, hp4l⟩ := pos4_eq y.x
                have hx4 := World.ownsRow.cells HO7.out (g := xg) rfl p4 _ (xsV_get 4 p4 hp4l)
                rw [Addr.add_mid, Nat.zero_add] at hx4
                have hp4I : (p4 : Int) < 4 := by omega
                have hp40 : (0 : Int) ≤ p4 := by omega
                have hx4N := Lib.hid hx4
                have hp4N := Lib.hid hp4l
                have HCh := Lib.hid (fun wq (hq : Below w7.heap.size w7 wq) => cx_change_rm (HX7.out.later hq) HR.out (by have := HC.out; have := hn100.out; have := hkN2.out; have := hkN.out; omega) HF.out ((p4 + 1 : Nat) : Int) ⟨by omega, by omega⟩ y hclN.out ib (by simp) ((Keeps.of_below (fun _ => False) hq).keep HI7.out (fun h => h)))
                rw [hU] at HCh
                replace hU := Lib.hid hU
                have hmeet : Hid (y.st = y.st) := rfl
                clear hx4 hp4l
                have hS0 : RmS wr.heap.size xg w6.heap.size p4 y.x (unL U) w7.drew := ⟨c1, hx4N.out, hDr HU7.out⟩
                rcases e5 with e5 | ⟨e5, e6, e7⟩
                all_goals (go_upto_region 27 with fail)
                ·
                    clear c1 c4 c5
                    refine wp_region_held_drew (S := RmS wr.heap.size xg w6.heap.size p4 y.x (unL U)) (by kernel_rfl) hS0 (fun hHeld => ?_)
                    clear hS0
                    refine wpAnyH_take (i := 0) (oi := ⟨some 101, _, _, _, _, _⟩) (v := .pointer (some ⟨c, 0, none⟩)) rfl (by kernel_rfl) (by kernel_rfl) (by kernel_rfl) (fun _ _ _ h => h) (Or.inl ⟨by rfl, ?_⟩) hHeld ?_
                    · intro w' hSw
                      obtain ⟨s0, s1, s2⟩ := hSw
                      go_simp
                      try with_reducible rfl
                      try omega
                    simp only [Act.put, List.setIfInBounds_toArray, List.set_cons_zero, List.set_cons_succ]
                    refine wpAnyH_take (i := 1) (oi := ⟨some 102, _, _, _, _, _⟩) (v := .slice (some ⟨xg, 0, none⟩) 4 yc) rfl (by kernel_rfl) (by kernel_rfl) (by kernel_rfl) (fun _ _ _ h => h) (Or.inl ⟨by rfl, ?_⟩) hHeld ?_
                    · intro w' hSw
                      obtain ⟨s0, s1, s2⟩ := hSw
                      go_simp
                      try with_reducible rfl
                      try omega
                    simp only [Act.put, List.setIfInBounds_toArray, List.set_cons_zero, List.set_cons_succ]
                    refine wpAnyH_take (i := 2) (oi := ⟨some 103, _, _, _, _, _⟩) (v := .pointer (some ⟨wr.heap.size, 1, none⟩)) rfl (by kernel_rfl) (by kernel_rfl) (by kernel_rfl) (fun _ _ _ h => h) (Or.inl ⟨by rfl, ?_⟩) hHeld ?_
                    · intro w' hSw
                      obtain ⟨s0, s1, s2⟩ := hSw
                      go_simp
                      try with_reducible rfl
                      try omega
                    simp only [Act.put, List.setIfInBounds_toArray, List.set_cons_zero, List.set_cons_succ]
                    refine wpAnyH_take (i := 3) (oi := ⟨some 104, _, _, _, _, _⟩) (v := .int .i64 y.x) rfl (by kernel_rfl) (by kernel_rfl) (by kernel_rfl) (fun _ _ _ h => h) (Or.inl ⟨by rfl, ?_⟩) hHeld ?_
                    · intro w' hSw
                      obtain ⟨s0, s1, s2⟩ := hSw
                      go_simp
                      try with_reducible rfl
                      try omega
                    simp only [Act.put, List.setIfInBounds_toArray, List.set_cons_zero, List.set_cons_succ]
                    refine wpAnyH_take (i := 4) (oi := ⟨some 105, _, _, _, _, _⟩) (v := .int .i64 (y.x.tmod 4)) rfl (by kernel_rfl) (by kernel_rfl) (by kernel_rfl) (fun _ _ _ h => h) (Or.inl ⟨by rfl, ?_⟩) hHeld ?_
                    · intro w' hSw
                      obtain ⟨s0, s1, s2⟩ := hSw
                      go_simp
                      try with_reducible rfl
                      try omega
                    simp only [Act.put, List.setIfInBounds_toArray, List.set_cons_zero, List.set_cons_succ]
                    refine wpAnyH_take (i := 5) (oi := ⟨some 106, _, _, _, _, _⟩) (v := .int .i64 (wrap64 (y.x.tmod 4 + 4))) rfl (by kernel_rfl) (by kernel_rfl) (by kernel_rfl) (fun _ _ _ h => h) (Or.inl ⟨by rfl, ?_⟩) hHeld ?_
                    · intro w' hSw
                      obtain ⟨s0, s1, s2⟩ := hSw
                      go_simp
                      try with_reducible rfl
                      try omega
                      try (unfold wrap64; rw [IntKind.wrap_i64])
                    simp only [Act.put, List.setIfInBounds_toArray, List.set_cons_zero, List.set_cons_succ]
                    refine wpAnyH_take (i := 6) (oi := ⟨some 107, _, _, _, _, _⟩) (v := .int .i64 p4) rfl (by kernel_rfl) (by kernel_rfl) (by kernel_rfl) (fun _ _ _ h => h) (Or.inl ⟨by rfl, ?_⟩) hHeld ?_
                    · intro w' hSw
                      obtain ⟨s0, s1, s2⟩ := hSw
                      go_simp
                      try with_reducible rfl
                      try omega
                    simp only [Act.put, List.setIfInBounds_toArray, List.set_cons_zero, List.set_cons_succ]
                    refine wpAnyH_take (i := 7) (oi := ⟨some 108, _, _, _, _, _⟩) (v := .pointer (some ⟨xg, p4, none⟩)) rfl (by kernel_rfl) (by kernel_rfl) (by kernel_rfl) (fun _ _ _ h => h) (Or.inl ⟨by rfl, ?_⟩) hHeld ?_
                    · intro w' hSw
                      obtain ⟨s0, s1, s2⟩ := hSw
                      go_simp
                      try with_reducible rfl
                      try omega
                    simp only [Act.put, List.setIfInBounds_toArray, List.set_cons_zero, List.set_cons_succ]
                    refine wpAnyH_take (i := 8) (oi := ⟨some 109, _, _, _, _, _⟩) (v := .int .i64 ((p4 + 1 : Nat) : Int)) rfl (by kernel_rfl) (by kernel_rfl) (by kernel_rfl) (fun _ _ _ h => h) (Or.inl ⟨by rfl, ?_⟩) hHeld ?_
                    · intro w' hSw
                      obtain ⟨s0, s1, s2⟩ := hSw
                      go_simp
                      try with_reducible rfl
                      try omega
                    simp only [Act.put, List.setIfInBounds_toArray, List.set_cons_zero, List.set_cons_succ]
                    refine wpAnyH_take (i := 9) (oi := ⟨some 110, _, _, _, _, _⟩) (v := .agg (unL U).toArray) rfl (by kernel_rfl) (by kernel_rfl) (by kernel_rfl) (fun _ _ _ h => h) (yieldsIf_load_mid (by rfl) _ _ rfl w6.heap.size 0 rfl (unL U) _ (fun _ h => range_of h.2.2) Tryz.underlying42 rfl un_info) hHeld ?_
                    simp only [Act.put, List.setIfInBounds_toArray, List.set_cons_zero, List.set_cons_succ]
                    refine wpAnyH_take (i := 10) (oi := ⟨some 111, _, _, _, _, _⟩) (v := .slice (some ⟨ib, 0, none⟩) 1 1) rfl (by kernel_rfl) (by kernel_rfl) (by kernel_rfl) (fun _ _ _ h => h) (Or.inl ⟨by rfl, ?_⟩) hHeld ?_
                    · intro w' hSw
                      obtain ⟨s0, s1, s2⟩ := hSw
                      go_simp
                      try with_reducible rfl
                      try omega
                    simp only [Act.put, List.setIfInBounds_toArray, List.set_cons_zero, List.set_cons_succ]
                    refine wpAnyH_ready (rs := [11]) (by kernel_rfl) (by simp) ?_
                    refine AllReadyH.cons (o := ⟨some 112, _, _, _, _, _⟩) rfl (fun K hK => ?_) AllReadyH.nil
                    go_simp
                    go_at_call 15
                    refine (HCh.out _ (bD bR)).mono ?_
                    rintro e w8 ⟨cd, n', σ', rfl, hk8, hx8, hr8, hc8, hcd8, hok8⟩
                    have HX8 := Lib.hid hx8
                    have HR8 := Lib.hid hr8
                    have HC8 := Lib.hid (hk8.keep (hDr HC7.out) (fun h => h.2 (by simp)))
                    have HU8 := Lib.hid (hk8.keep (hDr HU7.out) (fun h => h.2 (by simp)))
                    have HI8 := Lib.hid (hk8.keep (hDr HI7.out) (fun h => h.2 (by simp)))
                    have HM8 : Hid (Mx w8 m g f) := (HM7.out.later (bD bR)).keep hk8 (fun q hq h => h.2 (by simp at hq; rcases hq with rfl | rfl <;> simp))
                    have HO8 : Hid (OwnS w8 3 1 (.slice (some ⟨xg, 0, none⟩) 4 yc) 4 (xsV 4)) := (OwnS.keep (w := w7) (w' := w7.drew) HO7.out (Keeps.refl (fun _ => False) w7).drew (fun _ _ h => h)).keep hk8 (fun q hq h => h.2 (by simp [blk, Value.ownBlock] at hq; subst hq; simp))
                    have hx8c := World.ownsRow.cells HO8.out (g := xg) rfl p4 _ (xsV_get 4 p4 hp4N.out)
                    rw [Addr.add_mid, Nat.zero_add] at hx8c
                    have hS8 : RmS wr.heap.size xg w6.heap.size p4 y.x (unL U) w8 := ⟨cell_at HC8.out 1, hx8c, HU8.out⟩
                    have hcnt8 : Hid (σ'.cnt ≤ 4 + 200 * kk + (k + 1)) := by have := HC.out; show _ ≤ _; omega
                    have hok9 := Lib.hid hok8
                    clear hk8 hx8 hr8 hc8 hok8 HCh hx8c HX7 HM7 HO7 HI7 HC7 HU7
                    go_wp2_with fail
                    refine hK.out _ _ hS8 (fun hHeld => ?_)
                    clear hK K hS8
                    try simp only [Act.put, List.setIfInBounds_toArray, List.set_cons_zero, List.set_cons_succ]
                    refine wpAnyH_take (i := 12) (oi := ⟨some 19, _, _, _, _, _⟩) (v := .int .i64 cd) rfl (by kernel_rfl) (by kernel_rfl) (by kernel_rfl) (fun _ _ _ h => h) (Or.inl ⟨by rfl, fun _ _ => rfl⟩) hHeld ?_
                    simp only [Act.put, List.setIfInBounds_toArray, List.set_cons_zero, List.set_cons_succ]
                    clear hHeld
                    refine wpAnyH_done (by kernel_rfl) ?_ _
                    have HXo : Hid (Cx w w8 [xg, m, g] c lp p dp 6 lb mb n' lv σ') := HX8.out.less _ (fun q hq => by simp at hq ⊢; rcases hq with rfl | rfl | rfl <;> simp)
                    rcases hcd8 with rfl | rfl
                    rotate_left
                    · have hc5 : Hid (σ'.cnt ≤ 4 + 200 * kk + 100) := by have := hcnt8.out; have := hn100.out; have := hkN2.out; show _ ≤ _; omega
                      go_wp2_with fail
                      go_meet
                      exact ⟨true, σ', n', f, rfl, HXo, HM8, HF, HR8, HO8, hc5⟩
                    · obtain ⟨pi, hpi⟩ : ∃ q, pos6 y.page = q := ⟨_, rfl⟩
                      have hpl : Hid (pi < 6) := hpi ▸ (pos6_eq y.page).2
                      obtain ⟨R, hR⟩ : ∃ R, imgP f y = R := ⟨_, rfl⟩
                      rw [hpi, hR] at HI8
                      rw [hR] at hok9
                      clear hpi hR
                      have HMd : Hid (Mx w8.drew m g f) := HM8.out.later (bD bR)
                      have HXd : Hid (Cx w w8.drew [xg, m, g] c lp p dp 6 lb mb n' lv σ') := HXo.out.later (bD bR)
                      have HOd : Hid (OwnS w8.drew 3 1 (.slice (some ⟨xg, 0, none⟩) 4 yc) 4 (xsV 4)) := OwnS.keep (w := w8) HO8.out (Keeps.refl (fun _ => False) w8).drew (fun _ _ h => h)
                      have HRow := Lib.hid HMd.out.row
                      have hS0 : MpS m g ib pi R w8.drew := mps_of HMd.out (hDr HI8.out)
                      have hpI : (pi : Int) < 6 := by have := hpl.out; omega
                      have hp0 : (0 : Int) ≤ pi := by omega
                      clear HI8 HM8 HX8 HXo HO8 HC8 HU8
                      go_upto_region 32 with fail
                      refine wp_region_held_drew (S := MpS m g ib pi R) (by kernel_rfl) hS0 (fun hHeld => ?_)
                      clear hS0
                      refine wpAnyH_take (i := 0) (oi := ⟨some 117, _, _, _, _, _⟩) (v := .pointer (some ⟨m, 0, none⟩)) rfl (by kernel_rfl) (by kernel_rfl) (by kernel_rfl) (fun _ _ _ h => h) (Or.inl ⟨by rfl, ?_⟩) hHeld ?_
                      · intro w' hSw
                        obtain ⟨s0, s1, s2⟩ := hSw
                        go_simp
                        try with_reducible rfl
                        try omega
                      simp only [Act.put, List.setIfInBounds_toArray, List.set_cons_zero, List.set_cons_succ]
                      refine wpAnyH_take (i := 1) (oi := ⟨some 118, _, _, _, _, _⟩) (v := .pointer (some ⟨m, 0, none⟩)) rfl (by kernel_rfl) (by kernel_rfl) (by kernel_rfl) (fun _ _ _ h => h) (Or.inl ⟨by rfl, ?_⟩) hHeld ?_
                      · intro w' hSw
                        obtain ⟨s0, s1, s2⟩ := hSw
                        go_simp
                        try with_reducible rfl
                        try omega
                      simp only [Act.put, List.setIfInBounds_toArray, List.set_cons_zero, List.set_cons_succ]
                      refine wpAnyH_take (i := 2) (oi := ⟨some 119, _, _, _, _, _⟩) (v := .pointer (some ⟨m, 6, none⟩)) rfl (by kernel_rfl) (by kernel_rfl) (by kernel_rfl) (fun _ _ _ h => h) (Or.inl ⟨by rfl, ?_⟩) hHeld ?_
                      · intro w' hSw
                        obtain ⟨s0, s1, s2⟩ := hSw
                        go_simp
                        try with_reducible rfl
                        try omega
                      simp only [Act.put, List.setIfInBounds_toArray, List.set_cons_zero, List.set_cons_succ]
                      refine wpAnyH_take (i := 3) (oi := ⟨some 120, _, _, _, _, _⟩) (v := .slice (some ⟨g, 0, none⟩) 6 6) rfl (by kernel_rfl) (by kernel_rfl) (by kernel_rfl) (fun _ _ _ h => h) (Or.inl ⟨by rfl, ?_⟩) hHeld ?_
                      · intro w' hSw
                        obtain ⟨s0, s1, s2⟩ := hSw
                        go_simp
                        try with_reducible rfl
                        try omega
                      simp only [Act.put, List.setIfInBounds_toArray, List.set_cons_zero, List.set_cons_succ]
                      refine wpAnyH_take (i := 4) (oi := ⟨some 121, _, _, _, _, _⟩) (v := .slice (some ⟨ib, 0, none⟩) 1 1) rfl (by kernel_rfl) (by kernel_rfl) (by kernel_rfl) (fun _ _ _ h => h) (Or.inl ⟨by rfl, ?_⟩) hHeld ?_
                      · intro w' hSw
                        obtain ⟨s0, s1, s2⟩ := hSw
                        go_simp
                        try with_reducible rfl
                        try omega
                      simp only [Act.put, List.setIfInBounds_toArray, List.set_cons_zero, List.set_cons_succ]
                      refine wpAnyH_take (i := 5) (oi := ⟨some 122, _, _, _, _, _⟩) (v := .pointer (some ⟨ib, 0, none⟩)) rfl (by kernel_rfl) (by kernel_rfl) (by kernel_rfl) (fun _ _ _ h => h) (Or.inl ⟨by rfl, ?_⟩) hHeld ?_
                      · intro w' hSw
                        obtain ⟨s0, s1, s2⟩ := hSw
                        go_simp
                        try with_reducible rfl
                        try omega
                      simp only [Act.put, List.setIfInBounds_toArray, List.set_cons_zero, List.set_cons_succ]
                      refine wpAnyH_take (i := 6) (oi := ⟨some 123, _, _, _, _, _⟩) (v := .pointer (some ⟨ib, 0, none⟩)) rfl (by kernel_rfl) (by kernel_rfl) (by kernel_rfl) (fun _ _ _ h => h) (Or.inl ⟨by rfl, ?_⟩) hHeld ?_
                      · intro w' hSw
                        obtain ⟨s0, s1, s2⟩ := hSw
                        go_simp
                        try with_reducible rfl
                        try omega
                      simp only [Act.put, List.setIfInBounds_toArray, List.set_cons_zero, List.set_cons_succ]
                      refine wpAnyH_take (i := 7) (oi := ⟨some 124, _, _, _, _, _⟩) (v := .int .i64 pi) rfl (by kernel_rfl) (by kernel_rfl) (by kernel_rfl) (fun _ _ _ h => h) (Or.inl ⟨by rfl, ?_⟩) hHeld ?_
                      · intro w' hSw
                        obtain ⟨s0, s1, s2⟩ := hSw
                        go_simp
                        try with_reducible rfl
                        try omega
                      simp only [Act.put, List.setIfInBounds_toArray, List.set_cons_zero, List.set_cons_succ]
                      refine wpAnyH_take (i := 8) (oi := ⟨some 125, _, _, _, _, _⟩) (v := .slice (some ⟨ib, 0, none⟩) 1 1) rfl (by kernel_rfl) (by kernel_rfl) (by kernel_rfl) (fun _ _ _ h => h) (Or.inl ⟨by rfl, ?_⟩) hHeld ?_
                      · intro w' hSw
                        obtain ⟨s0, s1, s2⟩ := hSw
                        go_simp
                        try with_reducible rfl
                        try omega
                      simp only [Act.put, List.setIfInBounds_toArray, List.set_cons_zero, List.set_cons_succ]
                      refine wpAnyH_take (i := 9) (oi := ⟨some 126, _, _, _, _, _⟩) (v := .pointer (some ⟨ib, 0, none⟩)) rfl (by kernel_rfl) (by kernel_rfl) (by kernel_rfl) (fun _ _ _ h => h) (Or.inl ⟨by rfl, ?_⟩) hHeld ?_
                      · intro w' hSw
                        obtain ⟨s0, s1, s2⟩ := hSw
                        go_simp
                        try with_reducible rfl
                        try omega
                      simp only [Act.put, List.setIfInBounds_toArray, List.set_cons_zero, List.set_cons_succ]
                      refine wpAnyH_take (i := 10) (oi := ⟨some 127, _, _, _, _, _⟩) (v := .pointer (some ⟨ib, 1, none⟩)) rfl (by kernel_rfl) (by kernel_rfl) (by kernel_rfl) (fun _ _ _ h => h) (Or.inl ⟨by rfl, ?_⟩) hHeld ?_
                      · intro w' hSw
                        obtain ⟨s0, s1, s2⟩ := hSw
                        go_simp
                        try with_reducible rfl
                        try omega
                      simp only [Act.put, List.setIfInBounds_toArray, List.set_cons_zero, List.set_cons_succ]
                      refine wpAnyH_take (i := 11) (oi := ⟨some 128, _, _, _, _, _⟩) (v := .agg (pgC R)) rfl (by kernel_rfl) (by kernel_rfl) (by kernel_rfl) (fun _ _ _ h => h) (yieldsIf_load_mid (by rfl) _ _ rfl ib 1 rfl (pgC R).toList _ (fun _ h => h.2.2) Tryz.underlying49 rfl (by kernel_rfl)) hHeld ?_
                      simp only [Act.put, List.setIfInBounds_toArray, List.set_cons_zero, List.set_cons_succ]
                      refine wpAnyH_take (i := 12) (oi := ⟨some 129, _, _, _, _, _⟩) (v := .pointer (some ⟨g, pi * 16, none⟩)) rfl (by kernel_rfl) (by kernel_rfl) (by kernel_rfl) (fun _ _ _ h => h) (Or.inl ⟨by rfl, ?_⟩) hHeld ?_
                      · intro w' hSw
                        obtain ⟨s0, s1, s2⟩ := hSw
                        go_simp
                        try with_reducible rfl
                        try omega
                      simp only [Act.put, List.setIfInBounds_toArray, List.set_cons_zero, List.set_cons_succ]
                      refine wpAnyH_ready (rs := [13]) (by kernel_rfl) (by simp) ?_
                      refine AllReadyH.cons (o := ⟨none, _, _, _, _, _⟩) rfl (fun K hK => ?_) AllReadyH.nil
                      refine step_store_row rfl _ _ rfl 49 g pi 6 6 f R rfl rfl HRow.out hpl.out ?_
                      intro wz HRz Kz
                      refine hK.out _ _ ⟨cell_keep Kz.out hmg.out hHeld.1, cell_keep Kz.out hig.out hHeld.2.1, fun j v hj => cell_keep Kz.out hig.out (hHeld.2.2 j v hj)⟩ (fun hHeld => ?_)
                      clear hK K
                      try simp only [Act.put, List.setIfInBounds_toArray, List.set_cons_zero, List.set_cons_succ]
                      clear hHeld
                      refine wpAnyH_done (by kernel_rfl) ?_ _
                      go_wp2_with fail
                      have HM9 : Hid (Mx wz m g (fun k => if k = pi then R else f k)) := ⟨by obtain ⟨C, h1, h2⟩ := HMd.out.blkm; exact ⟨C, Kz.out.keep h1 hmg.out, h2⟩, HRz.out, hmg.out⟩
                      have HX9 : Hid (Cx w wz [xg, m, g] c lp p dp 6 lb mb n' lv σ') := HXd.out.loc Kz.out (fun q hq => by subst hq; exact ⟨by simp, hgw.out⟩)
                      have HO9 : Hid (OwnS wz 3 1 (.slice (some ⟨xg, 0, none⟩) 4 yc) 4 (xsV 4)) := HOd.out.keep Kz.out (fun q hq h => by simp [blk, Value.ownBlock] at hq; subst hq; exact hxg2.out h)
                      have HF9 : Hid (∀ i, i < 6 → PgOk ((fun k => if k = pi then R else f k) i)) := fun i hi => by
                        show PgOk (if i = pi then R else f i)
                        split
                        · exact hok9.out
                        · exact HF.out i hi
                      clear HRz Kz HMd HXd HRow HOd
                      go_roundw
                      case rel =>
                        repeat apply Exists.intro
                        exact ⟨⟨k + 1, σ', n', _, hkN2.out, rfl, rfl, HX9, HM9, HF9, HR8, HO9, hcnt8⟩, rfl⟩
                      case measure => have := hkN2.out; simp [intOf]; omega
                ·
                    clear c1 c4 c5
                    refine wp_region_held_drew (S := RmS wr.heap.size xg w6.heap.size p4 y.x (unL U)) (by kernel_rfl) hS0 (fun hHeld => ?_)
                    clear hS0
                    refine wpAnyH_take (i := 0) (oi := ⟨some 101, _, _, _, _, _⟩) (v := .pointer (some ⟨c, 0, none⟩)) rfl (by kernel_rfl) (by kernel_rfl) (by kernel_rfl) (fun _ _ _ h => h) (Or.inl ⟨by rfl, ?_⟩) hHeld ?_
                    · intro w' hSw
                      obtain ⟨s0, s1, s2⟩ := hSw
                      go_simp
                      try with_reducible rfl
                      try omega
                    simp only [Act.put, List.setIfInBounds_toArray, List.set_cons_zero, List.set_cons_succ]
                    refine wpAnyH_take (i := 1) (oi := ⟨some 102, _, _, _, _, _⟩) (v := .slice (some ⟨xg, 0, none⟩) 4 yc) rfl (by kernel_rfl) (by kernel_rfl) (by kernel_rfl) (fun _ _ _ h => h) (Or.inl ⟨by rfl, ?_⟩) hHeld ?_
                    · intro w' hSw
                      obtain ⟨s0, s1, s2⟩ := hSw
                      go_simp
                      try with_reducible rfl
                      try omega
                    simp only [Act.put, List.setIfInBounds_toArray, List.set_cons_zero, List.set_cons_succ]
                    refine wpAnyH_take (i := 2) (oi := ⟨some 103, _, _, _, _, _⟩) (v := .pointer (some ⟨wr.heap.size, 1, none⟩)) rfl (by kernel_rfl) (by kernel_rfl) (by kernel_rfl) (fun _ _ _ h => h) (Or.inl ⟨by rfl, ?_⟩) hHeld ?_
                    · intro w' hSw
                      obtain ⟨s0, s1, s2⟩ := hSw
                      go_simp
                      try with_reducible rfl
                      try omega
                    simp only [Act.put, List.setIfInBounds_toArray, List.set_cons_zero, List.set_cons_succ]
                    refine wpAnyH_take (i := 3) (oi := ⟨some 104, _, _, _, _, _⟩) (v := .int .i64 y.x) rfl (by kernel_rfl) (by kernel_rfl) (by kernel_rfl) (fun _ _ _ h => h) (Or.inl ⟨by rfl, ?_⟩) hHeld ?_
                    · intro w' hSw
                      obtain ⟨s0, s1, s2⟩ := hSw
                      go_simp
                      try with_reducible rfl
                      try omega
                    simp only [Act.put, List.setIfInBounds_toArray, List.set_cons_zero, List.set_cons_succ]
                    refine wpAnyH_take (i := 4) (oi := ⟨some 105, _, _, _, _, _⟩) (v := .int .i64 (y.x.tmod 4)) rfl (by kernel_rfl) (by kernel_rfl) (by kernel_rfl) (fun _ _ _ h => h) (Or.inl ⟨by rfl, ?_⟩) hHeld ?_
                    · intro w' hSw
                      obtain ⟨s0, s1, s2⟩ := hSw
                      go_simp
                      try with_reducible rfl
                      try omega
                    simp only [Act.put, List.setIfInBounds_toArray, List.set_cons_zero, List.set_cons_succ]
                    refine wpAnyH_take (i := 5) (oi := ⟨some 106, _, _, _, _, _⟩) (v := .int .i64 (wrap64 (y.x.tmod 4 + 4))) rfl (by kernel_rfl) (by kernel_rfl) (by kernel_rfl) (fun _ _ _ h => h) (Or.inl ⟨by rfl, ?_⟩) hHeld ?_
                    · intro w' hSw
                      obtain ⟨s0, s1, s2⟩ := hSw
                      go_simp
                      try with_reducible rfl
                      try omega
                      try (unfold wrap64; rw [IntKind.wrap_i64])
                    simp only [Act.put, List.setIfInBounds_toArray, List.set_cons_zero, List.set_cons_succ]
                    refine wpAnyH_take (i := 6) (oi := ⟨some 107, _, _, _, _, _⟩) (v := .int .i64 p4) rfl (by kernel_rfl) (by kernel_rfl) (by kernel_rfl) (fun _ _ _ h => h) (Or.inl ⟨by rfl, ?_⟩) hHeld ?_
                    · intro w' hSw
                      obtain ⟨s0, s1, s2⟩ := hSw
                      go_simp
                      try with_reducible rfl
                      try omega
                    simp only [Act.put, List.setIfInBounds_toArray, List.set_cons_zero, List.set_cons_succ]
                    refine wpAnyH_take (i := 7) (oi := ⟨some 108, _, _, _, _, _⟩) (v := .pointer (some ⟨xg, p4, none⟩)) rfl (by kernel_rfl) (by kernel_rfl) (by kernel_rfl) (fun _ _ _ h => h) (Or.inl ⟨by rfl, ?_⟩) hHeld ?_
                    · intro w' hSw
                      obtain ⟨s0, s1, s2⟩ := hSw
                      go_simp
                      try with_reducible rfl
                      try omega
                    simp only [Act.put, List.setIfInBounds_toArray, List.set_cons_zero, List.set_cons_succ]
                    refine wpAnyH_take (i := 8) (oi := ⟨some 109, _, _, _, _, _⟩) (v := .int .i64 ((p4 + 1 : Nat) : Int)) rfl (by kernel_rfl) (by kernel_rfl) (by kernel_rfl) (fun _ _ _ h => h) (Or.inl ⟨by rfl, ?_⟩) hHeld ?_
                    · intro w' hSw
                      obtain ⟨s0, s1, s2⟩ := hSw
                      go_simp
                      try with_reducible rfl
                      try omega
                    simp only [Act.put, List.setIfInBounds_toArray, List.set_cons_zero, List.set_cons_succ]
                    refine wpAnyH_take (i := 9) (oi := ⟨some 110, _, _, _, _, _⟩) (v := .agg (unL U).toArray) rfl (by kernel_rfl) (by kernel_rfl) (by kernel_rfl) (fun _ _ _ h => h) (yieldsIf_load_mid (by rfl) _ _ rfl w6.heap.size 0 rfl (unL U) _ (fun _ h => range_of h.2.2) Tryz.underlying42 rfl un_info) hHeld ?_
                    simp only [Act.put, List.setIfInBounds_toArray, List.set_cons_zero, List.set_cons_succ]
                    refine wpAnyH_take (i := 10) (oi := ⟨some 111, _, _, _, _, _⟩) (v := .slice (some ⟨ib, 0, none⟩) 1 1) rfl (by kernel_rfl) (by kernel_rfl) (by kernel_rfl) (fun _ _ _ h => h) (Or.inl ⟨by rfl, ?_⟩) hHeld ?_
                    · intro w' hSw
                      obtain ⟨s0, s1, s2⟩ := hSw
                      go_simp
                      try with_reducible rfl
                      try omega
                    simp only [Act.put, List.setIfInBounds_toArray, List.set_cons_zero, List.set_cons_succ]
                    refine wpAnyH_ready (rs := [11]) (by kernel_rfl) (by simp) ?_
                    refine AllReadyH.cons (o := ⟨some 112, _, _, _, _, _⟩) rfl (fun K hK => ?_) AllReadyH.nil
                    go_simp
                    go_at_call 15
                    refine (HCh.out _ (bD bR)).mono ?_
                    rintro e w8 ⟨cd, n', σ', rfl, hk8, hx8, hr8, hc8, hcd8, hok8⟩
                    have HX8 := Lib.hid hx8
                    have HR8 := Lib.hid hr8
                    have HC8 := Lib.hid (hk8.keep (hDr HC7.out) (fun h => h.2 (by simp)))
                    have HU8 := Lib.hid (hk8.keep (hDr HU7.out) (fun h => h.2 (by simp)))
                    have HI8 := Lib.hid (hk8.keep (hDr HI7.out) (fun h => h.2 (by simp)))
                    have HM8 : Hid (Mx w8 m g f) := (HM7.out.later (bD bR)).keep hk8 (fun q hq h => h.2 (by simp at hq; rcases hq with rfl | rfl <;> simp))
                    have HO8 : Hid (OwnS w8 3 1 (.slice (some ⟨xg, 0, none⟩) 4 yc) 4 (xsV 4)) := (OwnS.keep (w := w7) (w' := w7.drew) HO7.out (Keeps.refl (fun _ => False) w7).drew (fun _ _ h => h)).keep hk8 (fun q hq h => h.2 (by simp [blk, Value.ownBlock] at hq; subst hq; simp))
                    have hx8c := World.ownsRow.cells HO8.out (g := xg) rfl p4 _ (xsV_get 4 p4 hp4N.out)
                    rw [Addr.add_mid, Nat.zero_add] at hx8c
                    have hS8 : RmS wr.heap.size xg w6.heap.size p4 y.x (unL U) w8 := ⟨cell_at HC8.out 1, hx8c, HU8.out⟩
                    have hcnt8 : Hid (σ'.cnt ≤ 4 + 200 * kk + (k + 1)) := by have := HC.out; show _ ≤ _; omega
                    have hok9 := Lib.hid hok8
                    clear hk8 hx8 hr8 hc8 hok8 HCh hx8c HX7 HM7 HO7 HI7 HC7 HU7
                    go_wp2_with fail
                    refine hK.out _ _ hS8 (fun hHeld => ?_)
                    clear hK K hS8
                    try simp only [Act.put, List.setIfInBounds_toArray, List.set_cons_zero, List.set_cons_succ]
                    refine wpAnyH_take (i := 12) (oi := ⟨some 19, _, _, _, _, _⟩) (v := .int .i64 cd) rfl (by kernel_rfl) (by kernel_rfl) (by kernel_rfl) (fun _ _ _ h => h) (Or.inl ⟨by rfl, fun _ _ => rfl⟩) hHeld ?_
                    simp only [Act.put, List.setIfInBounds_toArray, List.set_cons_zero, List.set_cons_succ]
                    clear hHeld
                    refine wpAnyH_done (by kernel_rfl) ?_ _
                    have HXo : Hid (Cx w w8 [xg, m, g] c lp p dp 6 lb mb n' lv σ') := HX8.out.less _ (fun q hq => by simp at hq ⊢; rcases hq with rfl | rfl | rfl <;> simp)
                    rcases hcd8 with rfl | rfl
                    rotate_left
                    · have hc5 : Hid (σ'.cnt ≤ 4 + 200 * kk + 100) := by have := hcnt8.out; have := hn100.out; have := hkN2.out; show _ ≤ _; omega
                      go_wp2_with fail
                      go_meet
                      exact ⟨true, σ', n', f, rfl, HXo, HM8, HF, HR8, HO8, hc5⟩
                    · obtain ⟨pi, hpi⟩ : ∃ q, pos6 y.page = q := ⟨_, rfl⟩
                      have hpl : Hid (pi < 6) := hpi ▸ (pos6_eq y.page).2
                      obtain ⟨R, hR⟩ : ∃ R, imgP f y = R := ⟨_, rfl⟩
                      rw [hpi, hR] at HI8
                      rw [hR] at hok9
                      clear hpi hR
                      have HMd : Hid (Mx w8.drew m g f) := HM8.out.later (bD bR)
                      have HXd : Hid (Cx w w8.drew [xg, m, g] c lp p dp 6 lb mb n' lv σ') := HXo.out.later (bD bR)
                      have HOd : Hid (OwnS w8.drew 3 1 (.slice (some ⟨xg, 0, none⟩) 4 yc) 4 (xsV 4)) := OwnS.keep (w := w8) HO8.out (Keeps.refl (fun _ => False) w8).drew (fun _ _ h => h)
                      have HRow := Lib.hid HMd.out.row
                      have hS0 : MpS m g ib pi R w8.drew := mps_of HMd.out (hDr HI8.out)
                      have hpI : (pi : Int) < 6 := by have := hpl.out; omega
                      have hp0 : (0 : Int) ≤ pi := by omega
                      clear HI8 HM8 HX8 HXo HO8 HC8 HU8
                      go_upto_region 32 with fail
                      refine wp_region_held_drew (S := MpS m g ib pi R) (by kernel_rfl) hS0 (fun hHeld => ?_)
                      clear hS0
                      refine wpAnyH_take (i := 0) (oi := ⟨some 117, _, _, _, _, _⟩) (v := .pointer (some ⟨m, 0, none⟩)) rfl (by kernel_rfl) (by kernel_rfl) (by kernel_rfl) (fun _ _ _ h => h) (Or.inl ⟨by rfl, ?_⟩) hHeld ?_
                      · intro w' hSw
                        obtain ⟨s0, s1, s2⟩ := hSw
                        go_simp
                        try with_reducible rfl
                        try omega
                      simp only [Act.put, List.setIfInBounds_toArray, List.set_cons_zero, List.set_cons_succ]
                      refine wpAnyH_take (i := 1) (oi := ⟨some 118, _, _, _, _, _⟩) (v := .pointer (some ⟨m, 0, none⟩)) rfl (by kernel_rfl) (by kernel_rfl) (by kernel_rfl) (fun _ _ _ h => h) (Or.inl ⟨by rfl, ?_⟩) hHeld ?_
                      · intro w' hSw
                        obtain ⟨s0, s1, s2⟩ := hSw
                        go_simp
                        try with_reducible rfl
                        try omega
                      simp only [Act.put, List.setIfInBounds_toArray, List.set_cons_zero, List.set_cons_succ]
                      refine wpAnyH_take (i := 2) (oi := ⟨some 119, _, _, _, _, _⟩) (v := .pointer (some ⟨m, 6, none⟩)) rfl (by kernel_rfl) (by kernel_rfl) (by kernel_rfl) (fun _ _ _ h => h) (Or.inl ⟨by rfl, ?_⟩) hHeld ?_
                      · intro w' hSw
                        obtain ⟨s0, s1, s2⟩ := hSw
                        go_simp
                        try with_reducible rfl
                        try omega
                      simp only [Act.put, List.setIfInBounds_toArray, List.set_cons_zero, List.set_cons_succ]
                      refine wpAnyH_take (i := 3) (oi := ⟨some 120, _, _, _, _, _⟩) (v := .slice (some ⟨g, 0, none⟩) 6 6) rfl (by kernel_rfl) (by kernel_rfl) (by kernel_rfl) (fun _ _ _ h => h) (Or.inl ⟨by rfl, ?_⟩) hHeld ?_
                      · intro w' hSw
                        obtain ⟨s0, s1, s2⟩ := hSw
                        go_simp
                        try with_reducible rfl
                        try omega
                      simp only [Act.put, List.setIfInBounds_toArray, List.set_cons_zero, List.set_cons_succ]
                      refine wpAnyH_take (i := 4) (oi := ⟨some 121, _, _, _, _, _⟩) (v := .slice (some ⟨ib, 0, none⟩) 1 1) rfl (by kernel_rfl) (by kernel_rfl) (by kernel_rfl) (fun _ _ _ h => h) (Or.inl ⟨by rfl, ?_⟩) hHeld ?_
                      · intro w' hSw
                        obtain ⟨s0, s1, s2⟩ := hSw
                        go_simp
                        try with_reducible rfl
                        try omega
                      simp only [Act.put, List.setIfInBounds_toArray, List.set_cons_zero, List.set_cons_succ]
                      refine wpAnyH_take (i := 5) (oi := ⟨some 122, _, _, _, _, _⟩) (v := .pointer (some ⟨ib, 0, none⟩)) rfl (by kernel_rfl) (by kernel_rfl) (by kernel_rfl) (fun _ _ _ h => h) (Or.inl ⟨by rfl, ?_⟩) hHeld ?_
                      · intro w' hSw
                        obtain ⟨s0, s1, s2⟩ := hSw
                        go_simp
                        try with_reducible rfl
                        try omega
                      simp only [Act.put, List.setIfInBounds_toArray, List.set_cons_zero, List.set_cons_succ]
                      refine wpAnyH_take (i := 6) (oi := ⟨some 123, _, _, _, _, _⟩) (v := .pointer (some ⟨ib, 0, none⟩)) rfl (by kernel_rfl) (by kernel_rfl) (by kernel_rfl) (fun _ _ _ h => h) (Or.inl ⟨by rfl, ?_⟩) hHeld ?_
                      · intro w' hSw
                        obtain ⟨s0, s1, s2⟩ := hSw
                        go_simp
                        try with_reducible rfl
                        try omega
                      simp only [Act.put, List.setIfInBounds_toArray, List.set_cons_zero, List.set_cons_succ]
                      refine wpAnyH_take (i := 7) (oi := ⟨some 124, _, _, _, _, _⟩) (v := .int .i64 pi) rfl (by kernel_rfl) (by kernel_rfl) (by kernel_rfl) (fun _ _ _ h => h) (Or.inl ⟨by rfl, ?_⟩) hHeld ?_
                      · intro w' hSw
                        obtain ⟨s0, s1, s2⟩ := hSw
                        go_simp
                        try with_reducible rfl
                        try omega
                      simp only [Act.put, List.setIfInBounds_toArray, List.set_cons_zero, List.set_cons_succ]
                      refine wpAnyH_take (i := 8) (oi := ⟨some 125, _, _, _, _, _⟩) (v := .slice (some ⟨ib, 0, none⟩) 1 1) rfl (by kernel_rfl) (by kernel_rfl) (by kernel_rfl) (fun _ _ _ h => h) (Or.inl ⟨by rfl, ?_⟩) hHeld ?_
                      · intro w' hSw
                        obtain ⟨s0, s1, s2⟩ := hSw
                        go_simp
                        try with_reducible rfl
                        try omega
                      simp only [Act.put, List.setIfInBounds_toArray, List.set_cons_zero, List.set_cons_succ]
                      refine wpAnyH_take (i := 9) (oi := ⟨some 126, _, _, _, _, _⟩) (v := .pointer (some ⟨ib, 0, none⟩)) rfl (by kernel_rfl) (by kernel_rfl) (by kernel_rfl) (fun _ _ _ h => h) (Or.inl ⟨by rfl, ?_⟩) hHeld ?_
                      · intro w' hSw
                        obtain ⟨s0, s1, s2⟩ := hSw
                        go_simp
                        try with_reducible rfl
                        try omega
                      simp only [Act.put, List.setIfInBounds_toArray, List.set_cons_zero, List.set_cons_succ]
                      refine wpAnyH_take (i := 10) (oi := ⟨some 127, _, _, _, _, _⟩) (v := .pointer (some ⟨ib, 1, none⟩)) rfl (by kernel_rfl) (by kernel_rfl) (by kernel_rfl) (fun _ _ _ h => h) (Or.inl ⟨by rfl, ?_⟩) hHeld ?_
                      · intro w' hSw
                        obtain ⟨s0, s1, s2⟩ := hSw
                        go_simp
                        try with_reducible rfl
                        try omega
                      simp only [Act.put, List.setIfInBounds_toArray, List.set_cons_zero, List.set_cons_succ]
                      refine wpAnyH_take (i := 11) (oi := ⟨some 128, _, _, _, _, _⟩) (v := .agg (pgC R)) rfl (by kernel_rfl) (by kernel_rfl) (by kernel_rfl) (fun _ _ _ h => h) (yieldsIf_load_mid (by rfl) _ _ rfl ib 1 rfl (pgC R).toList _ (fun _ h => h.2.2) Tryz.underlying49 rfl (by kernel_rfl)) hHeld ?_
                      simp only [Act.put, List.setIfInBounds_toArray, List.set_cons_zero, List.set_cons_succ]
                      refine wpAnyH_take (i := 12) (oi := ⟨some 129, _, _, _, _, _⟩) (v := .pointer (some ⟨g, pi * 16, none⟩)) rfl (by kernel_rfl) (by kernel_rfl) (by kernel_rfl) (fun _ _ _ h => h) (Or.inl ⟨by rfl, ?_⟩) hHeld ?_
                      · intro w' hSw
                        obtain ⟨s0, s1, s2⟩ := hSw
                        go_simp
                        try with_reducible rfl
                        try omega
                      simp only [Act.put, List.setIfInBounds_toArray, List.set_cons_zero, List.set_cons_succ]
                      refine wpAnyH_ready (rs := [13]) (by kernel_rfl) (by simp) ?_
                      refine AllReadyH.cons (o := ⟨none, _, _, _, _, _⟩) rfl (fun K hK => ?_) AllReadyH.nil
                      refine step_store_row rfl _ _ rfl 49 g pi 6 6 f R rfl rfl HRow.out hpl.out ?_
                      intro wz HRz Kz
                      refine hK.out _ _ ⟨cell_keep Kz.out hmg.out hHeld.1, cell_keep Kz.out hig.out hHeld.2.1, fun j v hj => cell_keep Kz.out hig.out (hHeld.2.2 j v hj)⟩ (fun hHeld => ?_)
                      clear hK K
                      try simp only [Act.put, List.setIfInBounds_toArray, List.set_cons_zero, List.set_cons_succ]
                      clear hHeld
                      refine wpAnyH_done (by kernel_rfl) ?_ _
                      go_wp2_with fail
                      have HM9 : Hid (Mx wz m g (fun k => if k = pi then R else f k)) := ⟨by obtain ⟨C, h1, h2⟩ := HMd.out.blkm; exact ⟨C, Kz.out.keep h1 hmg.out, h2⟩, HRz.out, hmg.out⟩
                      have HX9 : Hid (Cx w wz [xg, m, g] c lp p dp 6 lb mb n' lv σ') := HXd.out.loc Kz.out (fun q hq => by subst hq; exact ⟨by simp, hgw.out⟩)
                      have HO9 : Hid (OwnS wz 3 1 (.slice (some ⟨xg, 0, none⟩) 4 yc) 4 (xsV 4)) := HOd.out.keep Kz.out (fun q hq h => by simp [blk, Value.ownBlock] at hq; subst hq; exact hxg2.out h)
                      have HF9 : Hid (∀ i, i < 6 → PgOk ((fun k => if k = pi then R else f k) i)) := fun i hi => by
                        show PgOk (if i = pi then R else f i)
                        split
                        · exact hok9.out
                        · exact HF.out i hi
                      clear HRz Kz HMd HXd HRow HOd
                      go_roundw
                      case rel =>
                        repeat apply Exists.intro
                        exact ⟨⟨k + 1, σ', n', _, hkN2.out, rfl, rfl, HX9, HM9, HF9, HR8, HO9, hcnt8⟩, rfl⟩
                      case measure => have := hkN2.out; simp [intOf]; omega
            case rest =>
              clear HX HMx HF HR HO HC
              obtain ⟨b, σ', nk', f', rfl, HX, HMx, HF, HR, HO, HC⟩ := hcut
              by_cases hn0 : n = 0
              · have e0 : ((n : Int) == 0) = true := beq_iff_eq.2 (by omega)
                have hc5 : Hid (σ'.cnt ≤ 100000) := by have := HC.out; have := hkN.out; show _ ≤ _; omega
                replace hn0 := Lib.hid hn0
                go_wp2_with fail
                go_meet
                exact ⟨σ', nk', HX, HR, HO, hc5⟩
              · have e0 : ((n : Int) == 0) = false := beq_eq_false_iff_ne.2 (by omega)
                have hc5 : Hid (σ'.cnt ≤ 4 + 200 * (kk + 1)) := by have := HC.out; show _ ≤ _; omega
                replace hn0 := Lib.hid hn0
                go_wp2_with fail
                go_roundw
                case rel => exact ⟨kk + 1, b, σ', nk', f', hkN.out, rfl, rfl, HX, HMx, HF, HR, HO, hc5⟩
                case measure => have := hkN.out; simp [intOf]; omega
      case rest =>
        clear HX4 HMx HO
        obtain ⟨σ, nk, HX, HR, HO, HC⟩ := hcut
        go_wp2_with fail
        go_loopw [136] (fun x wr => ∃ (a : Nat) (σ : CS) (nk : Nat) (lv : Value), a ≤ 4 ∧ x = .int .i64 a ∧ Hid (Cx w wr [xg, m, g] c lp p dp 6 lb mb nk lv σ) ∧ Hid (Rm a σ) ∧ Hid (OwnS wr 3 1 (.slice (some ⟨xg, 0, none⟩) 4 yc) 4 (xsV 4)) ∧ Hid (σ.cnt ≤ 100000 + 400 * a)) (fun x _ => 4 - (intOf x).toNat)
        case atStart => exact ⟨0, σ, nk, lv, by omega, rfl, HX, HR, HO, by have := HC.out; show _ ≤ 100000 + 400 * 0; omega⟩
        case round =>
          clear HX HR HO HC
          obtain ⟨a, σ, nk, lv, ha, rfl, HX, HR, HO, HC⟩ := hrel
          by_cases ha4 : a < 4
          · have haI : (a : Int) < 4 := by omega
            have ha0 : (0 : Int) ≤ a := by omega
            have haw : IntKind.i64.wrap ((a : Int) + 1) = (a : Int) + 1 := by rw [IntKind.wrap_i64]; omega
            have hx4 := World.ownsRow.cells HO.out (g := xg) rfl a _ (xsV_get 4 a ha4)
            rw [Addr.add_mid, Nat.zero_add] at hx4
            have haN := Lib.hid ha4
            have hcn : Hid (σ.cnt ≤ 200000) := by have := HC.out; show _ ≤ _; omega
            rw [show ((a + 1 : Nat) : Int) = (a : Int) + 1 by omega] at hx4
            clear ha ha4
            by_cases hab : a < bn ∧ ks.getD a false = true
            · obtain ⟨h1, h2⟩ := hab
              obtain ⟨bk, off, rfl, hbkc⟩ := bools_k HKS.out hbn.out HX.out.bel a h1
              rw [h2] at hbkc
              have habI : (a : Int) < bn := by omega
              have HSv := Lib.hid (cx_save_any HX.out ((a : Int) + 1))
              replace h1 := Lib.hid h1
              replace h2 := Lib.hid h2
              go_wp2_with fail
              refine (HSv.out).mono ?_
              rintro e w3 ⟨t, q, rfl, hb3⟩
              have HX3 := Lib.hid (HX.out.later hb3)
              have HO3 := Lib.hid (HO.out.keep (Keeps.of_below (fun _ => False) hb3) (fun _ _ h => h))
              have HBk := Lib.hid (fun tu => cx_back_rm HX3.out HR.out haN.out tu (by have := hcn.out; omega))
              unfold kitV at HBk
              clear hb3 HSv HX HO hx4 hbkc
              go_wp2_with fail
              refine (HBk.out _).mono ?_
              rintro e w5 ⟨rfl, hk5, n5, σ5, hx5, hr5, hc5⟩
              have HO5 : Hid (OwnS w5 3 1 (.slice (some ⟨xg, 0, none⟩) 4 yc) 4 (xsV 4)) := HO3.out.keep hk5 (fun q hq h => h.2 (by simp [blk, Value.ownBlock] at hq; subst hq; simp))
              have HC5 : Hid (σ5.cnt ≤ 100000 + 400 * a + 100) := by have := HC.out; show _ ≤ _; omega
              have HCm := Lib.hid (cx_commit_rm hx5 hr5 haN.out)
              clear hk5 hx5 hr5 hc5 HBk HX3 HO3 HR HC
              go_wp2_with fail
              refine (HCm.out).mono ?_
              rintro e w6 ⟨rfl, hk6, n6, lv6, σ6, hx6, hh6, hc6⟩
              have HX6 := Lib.hid hx6
              have HO6 : Hid (OwnS w6 3 1 (.slice (some ⟨xg, 0, none⟩) 4 yc) 4 (xsV 4)) := HO5.out.keep hk6 (fun q hq h => h.2 (by simp [blk, Value.ownBlock] at hq; subst hq; simp))
              have HC6 : Hid (σ6.cnt ≤ 100000 + 400 * (a + 1)) := by have := HC5.out; show _ ≤ _; omega
              have HFr := Lib.hid (cx_free_rm hx6 hh6 haN.out)
              clear hk6 hx6 hh6 hc6 HO5 HC5 HX6
              go_wp2_with fail
              refine (HFr.out).mono ?_
              rintro e w7 ⟨rfl, hk7, σ7, hx7, hr7, hc7⟩
              have HX7 := Lib.hid hx7
              have HR7 := Lib.hid hr7
              have HO7 : Hid (OwnS w7 3 1 (.slice (some ⟨xg, 0, none⟩) 4 yc) 4 (xsV 4)) := HO6.out.keep hk7 (fun q hq h => h.2 (by simp [blk, Value.ownBlock] at hq; subst hq; simp))
              have HC7 : Hid (σ7.cnt ≤ 100000 + 400 * (a + 1)) := by have := HC6.out; show _ ≤ _; omega
              clear hk7 hx7 hr7 hc7 HFr HO6 HC6
              go_wp2_with fail
              go_roundw
              case rel => exact ⟨a + 1, σ7, n6, lv6, haN.out, rfl, HX7, HR7, HO7, HC7⟩
              case measure => have := haN.out; simp [intOf]; omega
            · have hcond : Hid (Calls Tryz.prog 36 #[.pointer (some ⟨c, 0, none⟩), .int .i64 ((a : Int) + 1), kitV p] wr fun e w' => e = .returned (.int .i64 0) ∧ Keeps (Own w [xg, m, g]) wr w' ∧ ∃ n' lv' σ', Cx w w' [xg, m, g] c lp p dp 6 lb mb n' lv' σ' ∧ Half a σ' ∧ σ'.cnt ≤ σ.cnt + 100) := cx_abort_rm HX.out HR.out haN.out (by have := hcn.out; omega)
              unfold kitV at hcond
              have HO5 := HO
              have HC5 : Hid (σ.cnt ≤ 100000 + 400 * a + 100) := by have := HC.out; show _ ≤ _; omega
              by_cases h1 : a < bn
              · obtain ⟨bk, off, rfl, hbkc⟩ := bools_k HKS.out hbn.out HX.out.bel a h1
                have h2 : ks.getD a false = false := by
                  cases h : ks.getD a false with
                  | false => rfl
                  | true => exact absurd ⟨h1, h⟩ hab
                rw [h2] at hbkc
                have habI : (a : Int) < bn := by omega
                replace h1 := Lib.hid h1
                replace h2 := Lib.hid h2
                replace hab := Lib.hid hab
                clear HX HR HC HO
                go_wp2_with fail
                refine (hcond.out).mono ?_
                rintro e w6 ⟨rfl, hk6, n6, lv6, σ6, hx6, hh6, hc6⟩
                have HX6 := Lib.hid hx6
                have HO6 : Hid (OwnS w6 3 1 (.slice (some ⟨xg, 0, none⟩) 4 yc) 4 (xsV 4)) := HO5.out.keep hk6 (fun q hq h => h.2 (by simp [blk, Value.ownBlock] at hq; subst hq; simp))
                have HC6 : Hid (σ6.cnt ≤ 100000 + 400 * (a + 1)) := by have := HC5.out; show _ ≤ _; omega
                have HFr := Lib.hid (cx_free_rm hx6 hh6 haN.out)
                clear hk6 hx6 hh6 hc6 HO5 HC5 HX6
                go_wp2_with fail
                refine (HFr.out).mono ?_
                rintro e w7 ⟨rfl, hk7, σ7, hx7, hr7, hc7⟩
                have HX7 := Lib.hid hx7
                have HR7 := Lib.hid hr7
                have HO7 : Hid (OwnS w7 3 1 (.slice (some ⟨xg, 0, none⟩) 4 yc) 4 (xsV 4)) := HO6.out.keep hk7 (fun q hq h => h.2 (by simp [blk, Value.ownBlock] at hq; subst hq; simp))
                have HC7 : Hid (σ7.cnt ≤ 100000 + 400 * (a + 1)) := by have := HC6.out; show _ ≤ _; omega
                clear hk7 hx7 hr7 hc7 HFr HO6 HC6
                go_wp2_with fail
                go_roundw
                case rel => exact ⟨a + 1, σ7, n6, lv6, haN.out, rfl, HX7, HR7, HO7, HC7⟩
                case measure => have := haN.out; simp [intOf]; omega
              · have habI : ¬ (a : Int) < bn := by omega
                replace h1 := Lib.hid h1
                replace hab := Lib.hid hab
                clear HX HR HC HO
                go_wp2_with fail
                refine (hcond.out).mono ?_
                rintro e w6 ⟨rfl, hk6, n6, lv6, σ6, hx6, hh6, hc6⟩
                have HX6 := Lib.hid hx6
                have HO6 : Hid (OwnS w6 3 1 (.slice (some ⟨xg, 0, none⟩) 4 yc) 4 (xsV 4)) := HO5.out.keep hk6 (fun q hq h => h.2 (by simp [blk, Value.ownBlock] at hq; subst hq; simp))
                have HC6 : Hid (σ6.cnt ≤ 100000 + 400 * (a + 1)) := by have := HC5.out; show _ ≤ _; omega
                have HFr := Lib.hid (cx_free_rm hx6 hh6 haN.out)
                clear hk6 hx6 hh6 hc6 HO5 HC5 HX6
                go_wp2_with fail
                refine (HFr.out).mono ?_
                rintro e w7 ⟨rfl, hk7, σ7, hx7, hr7, hc7⟩
                have HX7 := Lib.hid hx7
                have HR7 := Lib.hid hr7
                have HO7 : Hid (OwnS w7 3 1 (.slice (some ⟨xg, 0, none⟩) 4 yc) 4 (xsV 4)) := HO6.out.keep hk7 (fun q hq h => h.2 (by simp [blk, Value.ownBlock] at hq; subst hq; simp))
                have HC7 : Hid (σ7.cnt ≤ 100000 + 400 * (a + 1)) := by have := HC6.out; show _ ≤ _; omega
                clear hk7 hx7 hr7 hc7 HFr HO6 HC6
                go_wp2_with fail
                go_roundw
                case rel => exact ⟨a + 1, σ7, n6, lv6, haN.out, rfl, HX7, HR7, HO7, HC7⟩
                case measure => have := haN.out; simp [intOf]; omega
          · obtain rfl : a = 4 := by omega
            obtain ⟨hlv, hT⟩ := HR.out.none
            have HL := Lib.hid (cx_lives HX.out)
            rw [hlv] at HL
            have o0 : FloatKind.f64.format.order 0 0 = some .eq := by
              have h := fl_order 0 0 (by decide) (by decide)
              rw [show flB 0 = 0 from rfl] at h
              exact h
            replace hlv := Lib.hid hlv
            have hTN := Lib.hid hT
            clear hT ha ha4 HO HC HR
            go_wp2_with fail
            refine (HL.out).mono ?_
            rintro e w3 ⟨v', ho3, -, rfl, hb3⟩
            obtain ⟨a3, c3, rfl⟩ := ho3.form
            have HRs := Lib.hid (cx_reserved (HX.out.later hb3))
            rw [hTN.out, show flB ((0, 0) : Nat × Nat).1 = 0 from rfl] at HRs
            have hb3N := Lib.hid (bT HX.out.bel hb3)
            clear ho3 hb3 HL HX
            go_wp2_with fail
            refine (HRs.out).mono ?_
            rintro e w4 ⟨rfl, hb4⟩
            have hb4N := Lib.hid (bT hb3N.out hb4)
            clear hb4 HRs hb3N
            go_wp2_with fail
            go_ret
            exact ⟨rfl, hb4N.out⟩
end Go.Proofs.YtimomjheanfbmaaGreatDoor
