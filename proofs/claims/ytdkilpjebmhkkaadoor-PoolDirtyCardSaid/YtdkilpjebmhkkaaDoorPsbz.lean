import Derived.Test.YtdkilpjebmhkkaaDoorPsaz
import Derived.Deep.DeepCutAuto
import Derived.Deep.CutBlock
import Derived.BigRegion
set_option linter.unusedSimpArgs false
set_option linter.unusedVariables false
namespace Go.Proofs.YtdkilpjebmhkkaaDoor
open Go.RowKit

theorem wpList_load_arr_want {P : Program} {ops : Array Oper} {rest : List Oper} {op : Oper} {a : Act} {w : World} {Q : Exit → Act → World → Prop} (hw : Region.wanted op (yielded ops a.tmps) = true) (ty : TypeId) (x : Operand) (ho : op.op = .load ty x)
    (b o : Nat) (hx : a.eval x = .pointer (some ⟨b, o, none⟩)) (C : Array Value) (d : TypeDesc) (hc : w.rangeAt b o C.toList)
    (hu : P.underlying ty = some d) (hd : d.isRow = true) (hi : (P.info? ty).map (·.size) = some C.size)
    (h : wpList P ops Q rest (a.put op.dst (.agg C)) w) : wpList P ops Q (op :: rest) a w :=
  wpList_want hw fun _ hK => wp_load_mid ty x ho b o hx C.toList d hc hu hd (by rw [hi, Array.length_toList]) (hK _ _ (by rw [Array.toArray_toList]; exact h))
set_option maxRecDepth 100000 in
set_option maxHeartbeats 1600000 in
theorem poolDirty_walk (v : Value) (cs : List PCall) (fr : Int) (w : World) (h : CallsIs w v cs) :
    Calls Tryd.prog 6 #[v, .int .i64 fr] w fun e w' => e = .returned (.bool true) ∧ Below w.heap.size w w' := by
  have HA := Lib.hid awake12
  obtain ⟨va, vc, rfl⟩ := h.form
  have hmx := h.max
  unfold maxLen at hmx
  obtain ⟨n, hn⟩ : ∃ n, cs.length = n := ⟨_, rfl⟩
  rw [hn] at h hmx ⊢
  replace hn := Lib.hid hn
  have H := Lib.hid h
  clear h
  by_cases hbad : fr < 4 ∨ 64 < fr ∨ 100 < (n : Int)
  · have hb : (decide (fr < 4) || decide (64 < fr) || decide (100 < (n : Int))) = true := by
      rcases hbad with h | h | h <;> simp [h]
    obtain ⟨x1, h1⟩ : ∃ x, decide (fr < 4) = x := ⟨_, rfl⟩
    obtain ⟨x2, h2⟩ : ∃ x, decide (64 < fr) = x := ⟨_, rfl⟩
    obtain ⟨x3, h3⟩ : ∃ x, decide (100 < (n : Int)) = x := ⟨_, rfl⟩
    rw [h1, h2, h3] at hb
    clear hbad
    cases x1 <;> cases x2 <;> cases x3 <;> first
      | (simp at hb; done)
      | (go_enter Tryd.func6, Tryd.ntmps6
         go_wp2_with fail
         refine (HA.out _).mono ?_
         rintro e w1 ⟨rfl, hb1⟩
         have HB1 := Lib.hid hb1
         clear hb1
         go_wp2_with fail
         go_ret
         exact ⟨rfl, HB1.out⟩)
  obtain ⟨f, hf⟩ : ∃ f : Nat, (f : Int) = fr := ⟨fr.toNat, by omega⟩
  subst hf
  have b1 : decide ((f : Int) < 4) = false := by apply decide_eq_false; omega
  have b2 : decide (64 < (f : Int)) = false := by apply decide_eq_false; omega
  have b3 : decide (100 < (n : Int)) = false := by apply decide_eq_false; omega
  have hn100 : Hid (n ≤ 100) := by show n ≤ 100; omega
  have hf4 : Hid (4 ≤ f ∧ f ≤ 64) := by show _ ∧ _; omega
  clear hbad hmx
  go_enter Tryd.func6, Tryd.ntmps6
  go_wp2_with fail
  refine (HA.out _).mono ?_
  rintro e w1 ⟨rfl, hb⟩
  have HN := Lib.hid (dsk_new 160 (by omega) (by omega) w1)
  rw [show ((160 : Nat) : Int) = 160 from rfl] at HN
  have HB1 := Lib.hid hb
  clear hb HA
  go_wp2_with fail
  refine (HN.out).mono ?_
  rintro e w2 ⟨dp, Sd, rfl, hd, hb, hS⟩
  have HC := Lib.hid (lk_create (w0 := w) (L := []) (by omega) (by omega) hd (fun k hk => ⟨Nat.le_trans HB1.out.size (hS k hk), by simp⟩) (fun k hk => by simp at hk) (bT HB1.out hb))
  clear HN hd hb hS
  go_wp2_with fail
  refine (HC.out).mono ?_
  rintro e w3 ⟨lp, Sl, Sd2, rfl, hlk, -⟩
  have HP := Lib.hid (kx_pool hlk 8 f (by omega) (by omega) (by have := hf4.out; omega) (by have := hf4.out; omega) (by omega))
  rw [show ((8 : Nat) : Int) = 8 from rfl] at HP
  clear HC hlk
  go_wp2_with fail
  refine (HP.out).mono ?_
  rintro e w4 ⟨p, rfl, hq, -⟩
  have HQ4 : Hid (Kx w w4 [] p lp dp [] M0 0 (DirtyIn 8 f (fun _ => false))) := hq.imp (fun X hX => ⟨hX.1, hX.2.1, fun j s hs => by rw [hX.2.2] at hs; simp at hs⟩)
  clear hq HP
  have hmm := @run_makeMap Tryd.prog
  go_upto_region 11 with fail
  have hf4b := hf4
  refine name_world (fun W => Kx w W [w4.heap.size] p lp dp [] M0 0 (DirtyIn 8 f (fun _ => false)) ∧ BMap W w4.heap.size 0 (fun _ => false)) ⟨HQ4.out.more (bA bR) [w4.heap.size] (fun q hq => by rw [List.mem_singleton.1 hq]; simp) (fun q hq => by rw [List.mem_singleton.1 hq]; exact .inr (Nat.le_refl _)), BMap.made w4⟩ ?_
  rintro W5 ⟨hq5, hm5⟩
  have HQ5 := Lib.hid hq5
  have HM5 := Lib.hid hm5
  have hw4 := Lib.hid HQ4.out.bel.size
  obtain ⟨b0, hb0⟩ : ∃ b, w4.heap.size = b := ⟨_, rfl⟩
  rw [hb0] at HQ5 HM5 hw4 ⊢
  clear hq5 hm5 HQ4 hb0
  go_wp2_with fail
  go_loopw [53, 11] (fun x y wr => ∃ (j : Nat), j ≤ n ∧ x = .int .i64 j ∧ ∃ (rs : List ByteArray) (M : Nat → Pg × Int) (T : Int → Bool) (b k : Nat), y = .map (some b) ∧ Hid (Kx w wr [b] p lp dp rs M (4 * rs.length) (DirtyIn 8 f T)) ∧ Hid (BMap wr b k T) ∧ k ≤ j ∧ Hid (w.heap.size ≤ b)) (fun x _ _ => n - (intOf x).toNat)
  case atStart => exact ⟨0, by omega, rfl, [], M0, _, b0, 0, rfl, HQ5, HM5, Nat.le_refl _, hw4⟩
  case round =>
    clear HQ5 HM5 hw4
    obtain ⟨j, hj, rfl, rs, M, T, b, k, rfl, HQ, HM, hk, hwb⟩ := hrel
    by_cases hjn : j < n
    · obtain ⟨c, hc⟩ : ∃ c, cs[j]? = some c := ⟨_, List.getElem?_eq_getElem (by rw [hn.out]; exact hjn)⟩
      obtain ⟨bb, off, rfl, hbl, hrg, hpc⟩ := H.out.at j c hc
      have HB := HQ.out.bel
      have HRg := Lib.hid (range_below hrg hbl HB)
      have hcount := Lib.hid HQ.out.count
      have hjI : (j : Int) < n := by omega
      have hj0 : (0 : Int) ≤ j := by omega
      have hjw : IntKind.i64.wrap ((j : Int) + 1) = (j : Int) + 1 := by have := hn100.out; rw [IntKind.wrap_i64]; omega
      have hCl : Hid ((Tryd.prog.info? 43).map (·.size) = some (pcL c).length) := pcl_info
      have hCs : Hid ((Tryd.prog.info? 43).map (·.size) = some (pcL c).toArray.size) := pcl_info
      have hone : Hid (∀ v ∈ (pcL c).toArray.toList, v.oneCell' = true) := fun v hv => pcL_cells c v (by simpa using hv)
      have hszz : Hid ((pcL pcZ).toArray.size = (pcL c).toArray.size) := rfl
      have HN : Hid ((wr.alloc (.cells (pcL pcZ).toArray 43)).heap[wr.heap.size]? = some (.cells (pcL pcZ).toArray 43 (0, 0))) := hN rfl
      have hblt := Lib.hid HM.out.lt
      replace hc := Lib.hid hc
      replace hj := Lib.hid hj
      replace hk := Lib.hid hk
      clear HB hrg
      go_upto_block 2 with (first
        | (refine wpList_load_mid rfl 43 _ rfl bb (off + j * 19) rfl (pcL c) _ HRg.out Tryd.underlying43 rfl hCl.out ?_)
        | (refine wpList_store_whole rfl 43 _ _ rfl _ (pcL c).toArray rfl rfl _ _ HN.out hszz.out hCs.out hone.out ?_; intro w5 HC5 K5; (have HK5 : Hid (Keeps (fun _ => False) wr w5) := ((Keeps.refl (fun _ => False) wr).alloc _).trans K5.out (fun q hq e => by omega)); (have HQ5 : Hid (Kx w w5 [b, wr.heap.size] p lp dp rs M (4 * rs.length) (DirtyIn 8 f T)) := HQ.out.more HK5.out.below [b, wr.heap.size] (fun q hq => by rcases List.mem_cons.1 hq with rfl | hq; exact Nat.lt_of_lt_of_le hblt.out HK5.out.size; rw [List.mem_singleton.1 hq]; exact block_lt HC5.out) (fun q hq => by rcases List.mem_cons.1 hq with rfl | hq; exact .inl (by simp); rw [List.mem_singleton.1 hq]; exact .inr (Nat.le_refl _))); (have HM5 := Lib.hid (HM.out.keep HK5.out (fun h => h))); (obtain ⟨ck, ci, cp, cr⟩ := pc_at HC5.out); clear HN K5 HQ HM))
      go_cut [11] (fun s11 wx => ∃ (rs : List ByteArray) (M : Nat → Pg × Int) (T : Int → Bool) (b k : Nat), s11 = .map (some b) ∧ Hid (Kx w wx [b] p lp dp rs M (4 * rs.length) (DirtyIn 8 f T)) ∧ Hid (BMap wx b k T) ∧ k ≤ j + 1 ∧ Hid (w.heap.size ≤ b))
      case first =>
        by_cases hk1 : c.kind = 1
        · have d1 : (c.kind == 1) = true := by simpa using hk1
          have HAp := Lib.hid (kx_append HQ5.out c.rcd hpc.2)
          replace hk1 := Lib.hid hk1
          go_wp2_with fail
          refine (HAp.out).mono ?_
          rintro e w6 ⟨hres, hk6⟩
          have HC6 := Lib.hid (hk6.keep HC5.out (fun h => h.2 (by simp)))
          have HM6 := Lib.hid (HM5.out.keep hk6 (fun h => h.2 (by simp)))
          clear hk6 HAp ck ci cp cr HM5 HC5
          rcases hres with ⟨hrf, cd, hcd, rfl, hq6⟩ | ⟨hrf, rfl, hq6⟩
          · have HQ6 := Lib.hid (hq6.less [b] (fun q hq => by rw [List.mem_singleton.1 hq]; simp))
            have d2 : (cd == 0) = false := by simpa using hcd
            replace hrf := Lib.hid hrf
            clear hq6
            go_wp2_with fail
            go_meet
            exact ⟨rs, M, T, b, k, rfl, HQ6, HM6, by have := hk.out; omega, hwb⟩
          · have hN : 4 * rs.length + 4 ≤ 4 * (rs ++ [c.rcd]).length + 100 := by rw [List.length_append, List.length_singleton]; omega
            have HPt := Lib.hid (kd_put hq6 hN c.id c.pg hpc.1 ((54 + lenL rs : Nat) : Int) (by have := hcount.out.2.1; omega))
            obtain ⟨ck, ci, cp, cr⟩ := pc_at HC6.out
            have hpi : Hid ((Tryd.prog.info? 41).map (·.size) = some (pgC c.pg).size) := by show _ = _; kernel_rfl
            unfold pgV at HPt
            have hlen : (rs ++ [c.rcd]).length = rs.length + 1 := by rw [List.length_append, List.length_singleton]
            replace hlen := Lib.hid hlen
            replace hrf := Lib.hid hrf
            clear hq6 hN
            go_wp2_with (refine wpList_load_arr_want (by rfl) 41 _ rfl wr.heap.size 2 rfl (pgC c.pg) _ cp Tryd.underlying41 rfl hpi.out ?_)
            refine (HPt.out).mono ?_
            rintro e w7 ⟨cd, M1, rfl, hk7, hres⟩
            have HM7 := Lib.hid (HM6.out.keep hk7 (fun h => h.2 (by simp)))
            have HC7 := Lib.hid (hk7.keep HC6.out (fun h => h.2 (by simp)))
            clear HPt ck ci cp cr HC6 HM6 hk7
            rcases hres with ⟨r1, r2, r3, rfl, rfl, hq7⟩ | ⟨_, rfl, rfl, hq7⟩
            · obtain ⟨ck, ci, cp, cr⟩ := pc_at HC7.out
              obtain ⟨w8, hup, hm8, hk8⟩ := HM7.out.put (by have := hk.out; have := hn100.out; have := hj.out; unfold maxLen; omega) c.id (by omega)
              have HQ8 : Hid (Kx w w8 [b] p lp dp (rs ++ [c.rcd]) (upd M c.id.toNat (c.pg, ((54 + lenL rs : Nat) : Int))) (4 * (rs ++ [c.rcd]).length) (DirtyIn 8 f (fun i => if i = c.id then true else T i))) := by
                have h1 := (hq7.less [b] (fun q hq => by rw [List.mem_singleton.1 hq]; simp)).keep (hk8.mono (fun q _ e => by simp [e])) (fun q hq => by rw [List.mem_singleton.1 hq]; exact hwb.out)
                exact h1.mono (by rw [hlen.out]; omega) (by omega)
              have HM8 := Lib.hid hm8
              clear hq7 hk8 hm8
              go_wp2_with fail
              go_meet
              exact ⟨_, _, _, b, k + 1, rfl, HQ8, HM8, by have := hk.out; omega, hwb⟩
            · have HQ7 : Hid (Kx w w7 [b] p lp dp (rs ++ [c.rcd]) M1 (4 * (rs ++ [c.rcd]).length) (DirtyIn 8 f T)) :=
                (hq7.less [b] (fun q hq => by rw [List.mem_singleton.1 hq]; simp)).mono (by rw [hlen.out]; omega) (by omega)
              clear hq7
              go_wp2_with fail
              go_meet
              exact ⟨_, _, T, b, k, rfl, HQ7, HM7, by have := hk.out; omega, hwb⟩
        · have d1 : (c.kind == 1) = false := by simpa using hk1
          replace hk1 := Lib.hid hk1
          by_cases hk2 : c.kind = 2
          · have d2 : (c.kind == 2) = true := by simpa using hk2
            have HFl := Lib.hid (kd_flush HQ5.out)
            replace hk2 := Lib.hid hk2
            clear ck ci cp cr
            go_wp2_with fail
            refine (HFl.out).mono ?_
            rintro e w6 ⟨rfl, hq6, hk6⟩
            have HQ6 : Hid (Kx w (w6.alloc (.map #[] 0)) [w6.heap.size] p lp dp rs M (4 * rs.length) (DirtyIn 8 f (fun _ => false))) := hq6.more (bA bR) [w6.heap.size] (fun q hq => by rw [List.mem_singleton.1 hq]; simp) (fun q hq => by rw [List.mem_singleton.1 hq]; exact .inr (Nat.le_refl _))
            have HM6 := Lib.hid (BMap.made w6)
            have hw6 := Lib.hid hq6.bel.size
            clear hq6 hk6 HFl HM5
            go_wp2_with fail
            go_meet
            exact ⟨rs, M, _, w6.heap.size, 0, rfl, HQ6, HM6, by omega, hw6⟩
          · have d2 : (c.kind == 2) = false := by simpa using hk2
            have HG := Lib.hid (kd_get HQ5.out c.id)
            unfold pgV at HG
            replace hk2 := Lib.hid hk2
            go_wp2_with fail
            refine (HG.out).mono ?_
            rintro e w6 ⟨Q, cd, rfl, hq6, hk6, -⟩
            have HQ6 := Lib.hid (hq6.less [b] (fun q hq => by rw [List.mem_singleton.1 hq]; simp))
            have HM6 := Lib.hid (HM5.out.keep hk6 (fun h => h.2 (by simp)))
            clear hq6 hk6 HG HM5 ck ci cp cr
            go_wp2_with fail
            go_meet
            exact ⟨rs, M, T, b, k, rfl, HQ6, HM6, by have := hk.out; omega, hwb⟩
      case rest =>
        clear HQ5 HM5 ck ci cp cr HC5 HK5 hblt HRg hcount hone hk hwb hCl hCs hszz
        obtain ⟨rs, M, T, b, k, rfl, HQ, HM, hk, hwb⟩ := hcut
        have HDr := Lib.hid (kd_dirty HQ.out)
        go_wp2_with fail
        refine (HDr.out).mono ?_
        rintro e w6 ⟨dv, l, rfl, ho, hb, hbk, hlf, hlT, hla⟩
        have HQ6 := Lib.hid (HQ.out.later hb)
        have HM6 := Lib.hid (HM.out.keep (Keeps.of_below (fun _ => False) hb) (fun h => h))
        obtain ⟨da, dc, hdv⟩ := ho.form
        subst hdv
        have HO := Lib.hid ho
        obtain ⟨m, hm⟩ : ∃ m, l.length = m := ⟨_, rfl⟩
        rw [hm] at HO hlf ⊢
        obtain ⟨mm, hml, hmk, hm0⟩ := HM6.out.len 3
        have bf : decide ((f : Int) < m) = false := by apply decide_eq_false; omega
        obtain ⟨x1, hx1⟩ : ∃ x, ((mm : Int) == 0) = x := ⟨_, rfl⟩
        obtain ⟨x2, hx2⟩ : ∃ x, decide (0 < (m : Int)) = x := ⟨_, rfl⟩
        have hx12 : x1 = true → x2 = false := fun h => by
          subst hx1 hx2
          have h0 : mm = 0 := by have : (mm : Int) = 0 := by simpa using h
                                 omega
          have hnil : l = [] := by
            cases l with
            | nil => rfl
            | cons x t => have := (hlT x (by simp)).1; rw [hm0 h0 x] at this; cases this
          subst hnil
          have : m = 0 := hm.symm
          subst this
          rfl
        have hlT := Lib.hid hlT
        have hla := Lib.hid hla
        have HX := Lib.hid hx12
        replace hm := Lib.hid hm
        have hk := Lib.hid hk
        have hlf := Lib.hid hlf
        clear ho hb hbk HQ HM HDr hx12 hm0 hmk
        cases x1
        · go_wp2_with fail
          clear hx1 hx2 hml bf
          go_loopw [111] (fun z wx => ∃ (i : Nat), i ≤ m ∧ z = .int .i64 i ∧ Hid (wx = w6)) (fun z _ => m - (intOf z).toNat)
          case atStart => exact ⟨0, by omega, rfl, rfl⟩
          case round =>
            obtain ⟨i, hi, rfl, hwx⟩ := hrel
            replace hwx := hwx.out
            subst hwx
            by_cases him : i < m
            · obtain ⟨g, rfl⟩ := HO.out.addr (by omega)
              have hx : i < l.length := by rw [hm.out]; exact him
              obtain ⟨x, hxe⟩ : ∃ x, l[i] = x := ⟨_, rfl⟩
              have hxm : x ∈ l := by rw [← hxe]; exact List.getElem_mem hx
              obtain ⟨t1, t2, t3⟩ := hlT.out x hxm
              have hget := HM6.out.get x (by omega) t1
              have hcx : wr.cell? ⟨g, i, none⟩ = some (.int .i64 x) := by
                have h2 : (l.map (Value.int .i64))[i]? = some (.int .i64 x) := by rw [List.getElem?_map, List.getElem?_eq_getElem hx, hxe]; rfl
                have := World.ownsRow.cells HO.out (g := g) rfl i _ h2
                rwa [Addr.add_mid, Nat.zero_add] at this
              have hiI : (i : Int) < m := by omega
              have hi0 : (0 : Int) ≤ i := by omega
              have hiw : IntKind.i64.wrap ((i : Int) + 1) = (i : Int) + 1 := by have := hlf.out; have := hf4.out; rw [IntKind.wrap_i64]; omega
              replace hxe := Lib.hid hxe
              replace hi := Lib.hid hi
              clear hxm t1 t2 t3
              by_cases hi1 : 0 < i
              · obtain ⟨y, hye⟩ : ∃ y, l[i - 1]'(by omega) = y := ⟨_, rfl⟩
                have hcy : wr.cell? ⟨g, ((i : Int) - 1).toNat, none⟩ = some (.int .i64 y) := by
                  have h2 : (l.map (Value.int .i64))[i - 1]? = some (.int .i64 y) := by rw [List.getElem?_map, List.getElem?_eq_getElem (by omega), hye]; rfl
                  have := World.ownsRow.cells HO.out (g := g) rfl (i - 1) _ h2
                  rw [show ((i : Int) - 1).toNat = i - 1 by omega]
                  rwa [Addr.add_mid, Nat.zero_add] at this
                have hcy2 : wr.cell? ⟨g, i - 1, none⟩ = some (.int .i64 y) := by
                  rwa [show ((i : Int) - 1).toNat = i - 1 by omega] at hcy
                have hlt := hla.out (i - 1) (by omega)
                have hd0 : decide (0 < (i : Int)) = true := by apply decide_eq_true; omega
                have hyx : decide (x ≤ y) = false := by
                  apply decide_eq_false
                  have e1 : l[i - 1 + 1]'(by omega) = x := by rw [← hxe.out]; congr 1; omega
                  rw [e1, hye] at hlt
                  omega
                have hw1 : IntKind.i64.wrap ((i : Int) - 1) = (i : Int) - 1 := by have := hlf.out; have := hf4.out; rw [IntKind.wrap_i64]; omega
                have hw2 : (i : Int) - 1 < m := by omega
                have hw3 : (0 : Int) ≤ (i : Int) - 1 := by omega
                replace hye := Lib.hid hye
                clear hlt
                go_wp2_with fail
                go_roundw
                case rel => exact ⟨i + 1, by omega, rfl, by first | exact trivial | exact rfl⟩
                case measure => simp [intOf]; omega
              · have hd0 : decide (0 < (i : Int)) = false := by apply decide_eq_false; omega
                go_wp2_with fail
                go_roundw
                case rel => exact ⟨i + 1, by omega, rfl, by first | exact trivial | exact rfl⟩
                case measure => simp [intOf]; omega
            · have hiI : ¬ (i : Int) < m := by omega
              go_wp2_with fail
              go_roundw
              case rel => exact ⟨j + 1, by omega, rfl, rs, M, T, b, k, rfl, HQ6, HM6, hk.out, hwb⟩
              case measure => simp [intOf]; omega
        · have h2 : x2 = false := HX.out rfl
          rw [h2] at hx2
          have hm00 : Hid (m = 0) := by show m = 0; have := of_decide_eq_false hx2; omega
          have hx3 : decide (0 < m) = false := decide_eq_false (by have := hm00.out; omega)
          go_wp2_with fail
          clear hx1 hx2 hx3 hml bf
          go_loopw [111] (fun z wx => ∃ (i : Nat), i ≤ m ∧ z = .int .i64 i ∧ Hid (wx = w6)) (fun z _ => m - (intOf z).toNat)
          case atStart => exact ⟨0, by omega, rfl, rfl⟩
          case round =>
            obtain ⟨i, hi, rfl, hwx⟩ := hrel
            replace hwx := hwx.out
            subst hwx
            have hiI : ¬ (i : Int) < m := by have := hm00.out; omega
            go_wp2_with fail
            go_roundw
            case rel => exact ⟨j + 1, by omega, rfl, rs, M, T, b, k, rfl, HQ6, HM6, hk.out, hwb⟩
            case measure => simp [intOf]; omega
    · obtain rfl : j = n := by omega
      have hlt : ¬ (j : Int) < j := by omega
      have HB := Lib.hid HQ.out.bel
      clear HM HQ
      go_wp2_with fail
      go_ret
      exact ⟨rfl, HB.out⟩
end Go.Proofs.YtdkilpjebmhkkaaDoor
