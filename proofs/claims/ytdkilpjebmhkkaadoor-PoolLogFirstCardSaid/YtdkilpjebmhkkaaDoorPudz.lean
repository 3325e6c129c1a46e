import Derived.Test.YtdkilpjebmhkkaaDoorPucz
import Derived.Test.YtdkilpjebmhkkaaDoorMal
import Derived.Deep.DeepCutAuto
import Derived.Deep.CutBlock
import Derived.BigRegion
import Derived.Great.BuildSlice
set_option linter.unusedSimpArgs false
set_option linter.unusedVariables false
namespace Go.Proofs.YtdkilpjebmhkkaaDoor
open Go.RowKit

theorem wpList_load_arr_want {P : Program} {ops : Array Oper} {rest : List Oper} {op : Oper} {a : Act} {w : World} {Q : Exit → Act → World → Prop} (hw : Region.wanted op (yielded ops a.tmps) = true) (ty : TypeId) (x : Operand) (ho : op.op = .load ty x)
    (b o : Nat) (hx : a.eval x = .pointer (some ⟨b, o, none⟩)) (C : Array Value) (d : TypeDesc) (hc : w.rangeAt b o C.toList)
    (hu : P.underlying ty = some d) (hd : d.isRow = true) (hi : (P.info? ty).map (·.size) = some C.size)
    (h : wpList P ops Q rest (a.put op.dst (.agg C)) w) : wpList P ops Q (op :: rest) a w :=
  wpList_want hw fun _ hK => wp_load_mid ty x ho b o hx C.toList d hc hu hd (by rw [hi, Array.length_toList]) (hK _ _ (by rw [Array.toArray_toList]; exact h))
/-! ### what the law itself keeps: the calls, and their places in the log -/
def saidL : List (PCall × Int) → List Value
  | [] => []
  | x :: l => pcL x.1 ++ saidL l
theorem saidL_length : ∀ l : List (PCall × Int), (saidL l).length = l.length * 19
  | [] => rfl
  | x :: l => by rw [saidL, List.length_append, pcL_length, saidL_length l, List.length_cons]; omega
theorem saidL_append : ∀ l m : List (PCall × Int), saidL (l ++ m) = saidL l ++ saidL m
  | [], m => rfl
  | x :: l, m => by rw [List.cons_append, saidL, saidL, saidL_append l m, List.append_assoc]
theorem saidL_get : ∀ (l : List (PCall × Int)) (i : Nat) (x : PCall × Int), l[i]? = some x → ∀ (j : Nat) (v : Value), (pcL x.1)[j]? = some v → (saidL l)[19 * i + j]? = some v
  | [], i, x, h, _, _, _ => by simp at h
  | y :: l, 0, x, h, j, v, hv => by
    simp only [List.getElem?_cons_zero, Option.some.injEq] at h
    subst h
    have hj : j < 19 := (List.getElem?_eq_some_iff.1 hv).1
    rw [saidL, List.getElem?_append_left (by rw [pcL_length]; omega)]
    simpa using hv
  | y :: l, i + 1, x, h, j, v, hv => by
    rw [saidL, List.getElem?_append_right (by rw [pcL_length]; omega), pcL_length, show 19 * (i + 1) + j - 19 = 19 * i + j by omega]
    exact saidL_get l i x (by simpa using h) j v hv
structure Gl (w w1 : World) (s1 s2 : Value) (pts : List (PCall × Int)) : Prop where
  said : OwnS w1 43 19 s1 pts.length (saidL pts)
  at_ : OwnS w1 3 1 s2 pts.length (pts.map (fun x => Value.int .i64 x.2))
  dis : ∀ q ∈ blk s1, q ∉ blk s2
  low : ∀ q, q ∈ blk s1 ∨ q ∈ blk s2 → w.heap.size ≤ q
theorem Gl.keep {w w1 w2 : World} {s1 s2 : Value} {pts : List (PCall × Int)} {S : Nat → Prop} (h : Gl w w1 s1 s2 pts) (hk : Keeps S w1 w2) (hS : ∀ q, q ∈ blk s1 ∨ q ∈ blk s2 → ¬ S q) : Gl w w2 s1 s2 pts :=
  ⟨h.said.keep hk (fun q hq => hS q (.inl hq)), h.at_.keep hk (fun q hq => hS q (.inr hq)), h.dis, h.low⟩
theorem Gl.lt {w w1 : World} {s1 s2 : Value} {pts : List (PCall × Int)} (h : Gl w w1 s1 s2 pts) : ∀ q, q ∈ blk s1 ∨ q ∈ blk s2 → q < w1.heap.size := fun q hq => hq.elim (fun h' => h.said.lt h') (fun h' => h.at_.lt h')
def glL (s1 s2 : Value) : List Nat := blk s1 ++ blk s2
theorem glL_mem {s1 s2 : Value} {q : Nat} : q ∈ glL s1 s2 ↔ q ∈ blk s1 ∨ q ∈ blk s2 := by unfold glL; rw [List.mem_append]
theorem Tryd.info_call : (Tryd.prog.info? 43).map (fun i => (i.zero, i.size, i.bytes)) = some (some (.agg (pcL pcZ).toArray), 19, 208) := by kernel_rfl
theorem wpList_ne_pg {ops : Array Oper} {rest : List Oper} {o : Oper} {a : Act} {w : World} {Q : Exit → Act → World → Prop} (hw : Region.wanted o (yielded ops a.tmps) = true) (x y : Operand) (r : TypeId) (ho : o.op = .binOp .neq 41 x y r)
    (X Y : Pg) (b : Bool) (hb : (!eqPg X Y) = b) (hx : a.eval x = .agg (pgC X)) (hy : a.eval y = .agg (pgC Y)) (h : wpList Tryd.prog ops Q rest (a.put o.dst (.bool b)) w) : wpList Tryd.prog ops Q (o :: rest) a w :=
  wpList_want hw fun K hK => by
    subst hb
    unfold Oper.wp execOp
    simp only [ho, hx, hy, Sem.run_bind, Sem.run_pure, Result.andThen_ok, run_eqGuard_agg (P := Tryd.prog) w .neq 41 x y _ _ (by kernel_rfl), run_ne_pg X Y w]
    exact hK _ _ h
theorem run_eq_op {op : Oper} {a : Act} (x y : Operand) (r : TypeId) (ho : op.op = .binOp .eql 41 x y r) (X Y : Pg) (b : Bool) (hb : eqPg X Y = b) (hx : a.eval x = .agg (pgC X)) (hy : a.eval y = .agg (pgC Y)) (w : World) :
    (execOp a.eval op).run Tryd.prog w = .ok (Next.value (.bool b)) w := by
  subst hb
  unfold execOp
  simp only [ho, hx, hy, Sem.run_bind, Sem.run_pure, Result.andThen_ok, run_eqGuard_agg (P := Tryd.prog) w .eql 41 x y _ _ (by kernel_rfl), run_eq_pg X Y w]
theorem plL_at {rs : List ByteArray} {i m : Nat} (hm : m < i) (hi : i ≤ rs.length) : ∃ e : Int × ByteArray, (plL 54 (rs.take i))[m]? = some e ∧ e.1 = ((54 + lenL (rs.take m) : Nat) : Int) := by
  have hl : m < (rs.take i).length := by rw [List.length_take]; omega
  obtain ⟨r, hr⟩ : ∃ r, (rs.take i)[m]? = some r := ⟨_, List.getElem?_eq_getElem hl⟩
  have hs : rs.take i = (rs.take i).take m ++ r :: (rs.take i).drop (m + 1) := by
    have h1 := List.drop_eq_getElem_cons hl
    have h2 : (rs.take i)[m] = r := by rw [List.getElem?_eq_getElem hl] at hr; exact Option.some.inj hr
    rw [h2] at h1
    rw [← h1, List.take_append_drop]
  rw [hs, plL_append, plL]
  have h3 : ((plL 54 ((rs.take i).take m)).length) = m := by rw [plL_length, List.length_take, List.length_take]; omega
  refine ⟨_, by rw [List.getElem?_append_right (by omega), h3, Nat.sub_self]; rfl, ?_⟩
  show (54 : Int) + ((lenL ((rs.take i).take m) : Nat) : Int) = _
  rw [List.take_take, Nat.min_eq_left (by omega)]
  omega
/-- a record that stands ahead of a firm place is in what Open lists -/
theorem logged_at {rs : List ByteArray} {i0 i m : Nat} {st : Int} (hm : m < rs.length) (hst : st = ((54 + lenL (rs.take m) : Nat) : Int)) (hlt : st < ((54 + lenL (rs.take i0) : Nat) : Int)) (h0 : i0 ≤ i) (hi : i ≤ rs.length) :
    ∃ (k : Nat) (e : Int × ByteArray), (plL 54 (rs.take i))[k]? = some e ∧ e.1 = st := by
  have : m < i0 := by
    rcases Nat.lt_or_ge m i0 with h | h
    · exact h
    · have := lenL_mono rs h; omega
  obtain ⟨e, h1, h2⟩ := plL_at (show m < i by omega) hi
  exact ⟨m, e, h1, by rw [h2, hst]⟩
theorem said_range {w : World} {g n c : Nat} {pts : List (PCall × Int)} (h : OwnS w 43 19 (.slice (some ⟨g, 0, none⟩) n c) n (saidL pts)) (k : Nat) (x : PCall × Int) (hx : pts[k]? = some x) : w.rangeAt g (k * 19) (pcL x.1) := fun j v hj => by
  have h2 := saidL_get pts k x hx j v hj
  have := World.ownsRow.cells h (g := g) rfl (19 * k + j) v h2
  rw [Addr.add_mid, Nat.zero_add] at this
  rw [Nat.mul_comm k 19]
  exact this
/-- what region 46 reads -/
def FdS (g g2 b k : Nat) (x : PCall × Int) (P : Pg) (w : World) : Prop := w.cell? ⟨g, k * 19 + 1, none⟩ = some (.int .i64 x.1.id) ∧ w.rangeAt g (k * 19 + 2) (pgC x.1.pg).toList ∧ w.cell? ⟨g2, k, none⟩ = some (.int .i64 x.2) ∧ w.heap[b]? = some (.cells (pgC P) 41 (0, 0))
theorem pcL_in {w : World} {g o : Nat} {c : PCall} (h : w.rangeAt g o (pcL c)) : w.cell? ⟨g, o + 1, none⟩ = some (.int .i64 c.id) ∧ w.rangeAt g (o + 2) (pgC c.pg).toList := by
  refine ⟨h 1 _ rfl, fun j v hj => ?_⟩
  have hjl : j < 16 := (List.getElem?_eq_some_iff.1 hj).1
  rw [show o + 2 + j = o + (2 + j) by omega]
  refine h (2 + j) v ?_
  unfold pcL
  rw [show 2 + j = j + 1 + 1 by omega, List.getElem?_cons_succ, List.getElem?_cons_succ, List.getElem?_append_left (show j < (pgC c.pg).toList.length from hjl)]
  exact hj
set_option maxRecDepth 100000 in
set_option maxHeartbeats 8000000 in
theorem poolLogFirst_walk (v : Value) (cs : List PCall) (fuel : Int) (hfu : fuel ≤ 9223372036854775807) (kv : Value) (keep : List Bool) (w : World) (h : CallsIs w v cs) (hkp : BoolsAt w w.heap.size kv keep) :
    Calls Tryd.prog 5 #[v, .int .i64 fuel, kv] w fun e w' => e = .returned (.bool true) ∧ Below w.heap.size w w' := by
  have HA := Lib.hid awake12
  obtain ⟨va, vc, rfl⟩ := h.form
  have hmx := h.max
  unfold maxLen at hmx
  obtain ⟨n, hn⟩ : ∃ n, cs.length = n := ⟨_, rfl⟩
  rw [hn] at h hmx ⊢
  replace hn := Lib.hid hn
  have H := Lib.hid h
  have HKV := Lib.hid hkp
  have hn63 : Hid (n ≤ 9223372036854775807) := hmx
  have hmax1 : Hid (max fuel 0 ≤ 9223372036854775807) := by show max fuel 0 ≤ _; omega
  replace hfu := Lib.hid hfu
  clear h hkp hmx
  go_enter Tryd.func5, Tryd.ntmps5
  go_wp2_with fail
  refine (HA.out _).mono ?_
  rintro e w1 ⟨rfl, hb⟩
  have HN := Lib.hid (dsk_new 152 (by omega) (by omega) w1)
  rw [show ((152 : Nat) : Int) = 152 from rfl] at HN
  have HB1 := Lib.hid hb
  clear hb HA
  go_wp2_with fail
  refine (HN.out).mono ?_
  rintro e w2 ⟨dp, Sd, rfl, hd, hb, hS⟩
  have HC := Lib.hid (lk_create (w0 := w) (L := []) (by omega) (by omega) hd (fun k hk => ⟨Nat.le_trans HB1.out.size (hS k hk), by simp⟩) (fun k hk => by simp at hk) (bT HB1.out hb))
  clear HN hd hb hS
  go_wp2_with fail
  refine (HC.out).mono ?_
  rintro e w3 ⟨lp, Sl, Sd2, rfl, hlk, -⟩
  have HP := Lib.hid (kg_pool hlk (by omega))
  clear HC hlk
  go_wp2_with fail
  refine (HP.out).mono ?_
  rintro e w4 ⟨p, rfl, hq, -⟩
  have HF := Lib.hid (kg_fuel hq (max fuel 0) hmax1.out)
  clear hq HP
  go_wp2_with fail
  refine (HF.out).mono ?_
  rintro e w5 ⟨rfl, hq5, -⟩
  have HQ5 := Lib.hid hq5
  clear hq5 HF
  go_wp2_with fail
  go_loopw [59, 13, 14] (fun x s1 s2 wr => ∃ (j : Nat), j ≤ n ∧ x = .int .i64 j ∧ ∃ (rs : List ByteArray) (pts : List (PCall × Int)), Hid (Gl w wr s1 s2 pts) ∧ Hid (Kg w wr (glL s1 s2) p lp dp rs (4 * rs.length) pts)) (fun x _ _ _ => n - (intOf x).toNat)
  case atStart => exact ⟨0, by omega, rfl, [], [], ⟨OwnS.nil _ _ _, OwnS.nil _ _ _, fun q hq => by simp [blk, Value.ownBlock] at hq, fun q hq => by simp [blk, Value.ownBlock] at hq⟩, HQ5⟩
  case round =>
    clear HQ5
    obtain ⟨j, hj, rfl, rs, pts, HG, HQ⟩ := hrel
    by_cases hjn : j < n
    · obtain ⟨c, hc⟩ : ∃ c, cs[j]? = some c := ⟨_, List.getElem?_eq_getElem (by rw [hn.out]; exact hjn)⟩
      obtain ⟨bb, off, rfl, hbl, hrg, hpc⟩ := H.out.at j c hc
      have HB := HQ.out.bel
      have HRg := Lib.hid (range_below hrg hbl HB)
      have hwr : Hid (w.heap.size ≤ wr.heap.size) := HB.size
      have hcount := Lib.hid HQ.out.count
      have hjI : (j : Int) < n := by omega
      have hj0 : (0 : Int) ≤ j := by omega
      have hjw : IntKind.i64.wrap ((j : Int) + 1) = (j : Int) + 1 := by have := hn63.out; rw [IntKind.wrap_i64]; omega
      have hCl : Hid ((Tryd.prog.info? 43).map (·.size) = some (pcL c).length) := pcl_info
      have hCs : Hid ((Tryd.prog.info? 43).map (·.size) = some (pcL c).toArray.size) := pcl_info
      have hone : Hid (∀ v ∈ (pcL c).toArray.toList, v.oneCell' = true) := fun v hv => pcL_cells c v (by simpa using hv)
      have hszz : Hid ((pcL pcZ).toArray.size = (pcL c).toArray.size) := rfl
      have HN : Hid ((wr.alloc (.cells (pcL pcZ).toArray 43)).heap[wr.heap.size]? = some (.cells (pcL pcZ).toArray 43 (0, 0))) := hN rfl
      obtain ⟨a1, c1, hs1⟩ := HG.out.said.form
      obtain ⟨a2, c2, hs2⟩ := HG.out.at_.form
      subst hs1 hs2
      obtain ⟨m, hm⟩ : ∃ m, pts.length = m := ⟨_, rfl⟩
      rw [hm] at HG HQ ⊢
      obtain ⟨L, hL⟩ : ∃ L, glL (.slice a1 m c1) (.slice a2 m c2) = L := ⟨_, rfl⟩
      rw [hL] at HQ
      have hLlt : Hid (∀ q ∈ L, q < wr.heap.size) := fun q hq => HG.out.lt q (glL_mem.1 (hL ▸ hq))
      have hLlow : Hid (∀ q ∈ L, w.heap.size ≤ q) := fun q hq => HG.out.low q (glL_mem.1 (hL ▸ hq))
      replace hL := Lib.hid hL
      replace hm := Lib.hid hm
      replace hc := Lib.hid hc
      replace hj := Lib.hid hj
      clear HB hrg
      go_upto_block 1 with fail
      go_cut [13, 14] (fun s1 s2 wx => ∃ (rs : List ByteArray) (pts : List (PCall × Int)), Hid (Gl w wx s1 s2 pts) ∧ Hid (Kg w wx (glL s1 s2) p lp dp rs (4 * rs.length) pts))
      case first =>
        go_upto_block 2 with (first
          | (refine wpList_load_mid rfl 43 _ rfl bb (off + j * 19) rfl (pcL c) _ HRg.out Tryd.underlying43 rfl hCl.out ?_)
          | (refine wpList_store_whole rfl 43 _ _ rfl _ (pcL c).toArray rfl rfl _ _ HN.out hszz.out hCs.out hone.out ?_; intro w6 HC6 K6; (have HK6 : Hid (Keeps (fun _ => False) wr w6) := ((Keeps.refl (fun _ => False) wr).alloc _).trans K6.out (fun q hq e => by omega)); (have HQ6 : Hid (Kg w w6 (wr.heap.size :: L) p lp dp rs (4 * rs.length) pts) := HQ.out.more HK6.out.below (wr.heap.size :: L) (fun q hq => by rcases List.mem_cons.1 hq with rfl | hq; exact block_lt HC6.out; exact Nat.lt_of_lt_of_le (hLlt.out q hq) HK6.out.size) (fun q hq => by rcases List.mem_cons.1 hq with rfl | hq; exact .inr (Nat.le_refl _); exact .inl hq)); (have HG6 := Lib.hid (HG.out.keep HK6.out (fun q hq h => h))); (obtain ⟨ck, ci, cp, cr⟩ := pc_at HC6.out); clear HN K6 HQ HG))
        have hLo : Hid (∀ q, (q ∈ blk (.slice a1 m c1) ∨ q ∈ blk (.slice a2 m c2)) → ¬ Own w (wr.heap.size :: L) q) := fun q hq h => h.2 (List.mem_cons_of_mem _ (by rw [← hL.out]; exact glL_mem.2 hq))
        have hCo : Hid (¬ Own w (wr.heap.size :: L) wr.heap.size) := fun h => h.2 (by simp)
        by_cases hk0 : c.kind = 0
        · have d0 : (c.kind == 0) = true := by simpa using hk0
          have HGt := Lib.hid (kg_get HQ6.out c.id)
          unfold pgV at HGt
          replace hk0 := Lib.hid hk0
          go_wp2_with fail
          refine (HGt.out).mono ?_
          rintro e w7 ⟨Q, cd, rfl, hq7, hk7⟩
          have HG7 := Lib.hid (HG6.out.keep hk7 hLo.out)
          have HQ7 : Hid (Kg w w7 (glL (.slice a1 m c1) (.slice a2 m c2)) p lp dp rs (4 * rs.length) pts) := hq7.less _ (fun q hq => List.mem_cons_of_mem _ (by rw [← hL.out]; exact hq))
          clear hq7 hk7 HGt HG6 HQ6 ck ci cp cr HC6
          go_wp2_with fail
          go_meet
          exact ⟨rs, pts, HG7, HQ7⟩
        have d0 : (c.kind == 0) = false := by simpa using hk0
        replace hk0 := Lib.hid hk0
        by_cases hk1 : c.kind = 1
        rotate_left
        · have d1 : (c.kind == 1) = false := by simpa using hk1
          have HFl := Lib.hid (kg_flush HQ6.out)
          replace hk1 := Lib.hid hk1
          clear ck ci cp cr
          go_wp2_with fail
          refine (HFl.out).mono ?_
          rintro e w7 ⟨cd, rfl, hq7, hk7⟩
          have HG7 := Lib.hid (HG6.out.keep hk7 hLo.out)
          have HQ7 : Hid (Kg w w7 (glL (.slice a1 m c1) (.slice a2 m c2)) p lp dp rs (4 * rs.length) pts) := hq7.less _ (fun q hq => List.mem_cons_of_mem _ (by rw [← hL.out]; exact hq))
          clear hq7 hk7 HFl HG6 HQ6 HC6
          go_wp2_with fail
          go_meet
          exact ⟨rs, pts, HG7, HQ7⟩
        have d1 : (c.kind == 1) = true := by simpa using hk1
        have HAp := Lib.hid (kg_append HQ6.out c.rcd hpc.2)
        replace hk1 := Lib.hid hk1
        go_wp2_with fail
        refine (HAp.out).mono ?_
        rintro e w7 ⟨hres, hk7⟩
        have HC7 := Lib.hid (hk7.keep HC6.out hCo.out)
        have HG7 := Lib.hid (HG6.out.keep hk7 hLo.out)
        clear hk7 HAp ck ci cp cr HC6 HG6
        rcases hres with ⟨cd, hcd, rfl, hq7⟩ | ⟨rfl, hq7, hadd⟩
        · have d2 : (cd == 0) = false := by simpa using hcd
          have HQ7 : Hid (Kg w w7 (glL (.slice a1 m c1) (.slice a2 m c2)) p lp dp rs (4 * rs.length) pts) := hq7.less _ (fun q hq => List.mem_cons_of_mem _ (by rw [← hL.out]; exact hq))
          clear hq7
          go_wp2_with fail
          go_meet
          exact ⟨rs, pts, HG7, HQ7⟩
        have hN4 : 4 * rs.length ≤ 4 * (rs ++ [c.rcd]).length := by rw [List.length_append]; omega
        have HQ7 : Hid (Kg w w7 (wr.heap.size :: L) p lp dp (rs ++ [c.rcd]) (4 * (rs ++ [c.rcd]).length) pts) := hq7.mono hN4 (by omega)
        have HAdd := Lib.hid hadd
        obtain ⟨ck, ci, cp, cr⟩ := pc_at HC7.out
        have hpi : Hid ((Tryd.prog.info? 41).map (·.size) = some (pgC c.pg).size) := by show _ = _; kernel_rfl
        clear hq7 hadd hN4
        by_cases hi0 : 0 ≤ c.id
        rotate_left
        · have e0 : decide (0 ≤ c.id) = false := decide_eq_false hi0
          have HQ8 : Hid (Kg w w7 (glL (.slice a1 m c1) (.slice a2 m c2)) p lp dp (rs ++ [c.rcd]) (4 * (rs ++ [c.rcd]).length) pts) := HQ7.out.less _ (fun q hq => List.mem_cons_of_mem _ (by rw [← hL.out]; exact hq))
          replace hi0 := Lib.hid hi0
          go_wp2_with fail
          go_meet
          exact ⟨_, pts, HG7, HQ8⟩
        have e0 : decide (0 ≤ c.id) = true := decide_eq_true hi0
        by_cases hi6 : c.id < 6
        rotate_left
        · have e6 : decide (c.id < 6) = false := decide_eq_false hi6
          have HQ8 : Hid (Kg w w7 (glL (.slice a1 m c1) (.slice a2 m c2)) p lp dp (rs ++ [c.rcd]) (4 * (rs ++ [c.rcd]).length) pts) := HQ7.out.less _ (fun q hq => List.mem_cons_of_mem _ (by rw [← hL.out]; exact hq))
          replace hi6 := Lib.hid hi6
          go_wp2_with fail
          go_meet
          exact ⟨_, pts, HG7, HQ8⟩
        have e6 : decide (c.id < 6) = true := decide_eq_true hi6
        have HRt := Lib.hid (rf_right c.pg hpc.1 w7)
        unfold pgV at HRt
        replace hi0 := Lib.hid hi0
        replace hi6 := Lib.hid hi6
        go_wp2_with (refine wpList_load_arr_want (by rfl) 41 _ rfl wr.heap.size 2 rfl (pgC c.pg) _ cp Tryd.underlying41 rfl hpi.out ?_)
        refine (HRt.out).mono ?_
        rintro e w8 ⟨hres, hb8⟩
        have HK8 := Lib.hid (Keeps.of_below (fun _ => False) hb8)
        have HC8 := Lib.hid (HK8.out.keep HC7.out (fun h => h))
        have HG8 := Lib.hid (HG7.out.keep HK8.out (fun q hq h => h))
        clear hb8 HRt HG7
        rcases hres with ⟨rfl, hok⟩ | ⟨rfl, hno⟩
        rotate_left
        · have HQ8 : Hid (Kg w w8 (glL (.slice a1 m c1) (.slice a2 m c2)) p lp dp (rs ++ [c.rcd]) (4 * (rs ++ [c.rcd]).length) pts) := (HQ7.out.less _ (fun q hq => List.mem_cons_of_mem _ (by rw [← hL.out]; exact hq))).later HK8.out.below
          go_wp2_with fail
          go_meet
          exact ⟨_, pts, HG8, HQ8⟩
        have HQ8 := Lib.hid ((HAdd.out c hok hi0.out hi6.out).later HK8.out.below)
        replace hok := Lib.hid hok
        have hst0 : Hid (((54 + lenL rs : Nat) : Int) = 54 + (lenL rs : Int)) := by show _ = _; omega
        rw [hst0.out] at HQ8
        obtain ⟨st, hst⟩ : ∃ st, 54 + (lenL rs : Int) = st := ⟨_, rfl⟩
        rw [hst] at HQ8 ⊢
        replace hst := Lib.hid hst
        clear HQ7 HAdd HC7 ck ci cp cr hst0
        obtain ⟨ji, hji, hy0, hy1, hy2⟩ := info_parts Tryd.info_call
        have hm23 : Hid (m ≤ 2304) := by
          have h1 := HQ8.out.many
          have h2 := HQ8.out.count.1
          rw [List.length_append, List.length_singleton, hm.out] at h1
          show m ≤ 2304; omega
        have HOs : Hid (OwnS (w8.alloc (.cells (pcL c).toArray 43)) 43 19 (.slice a1 m c1) m (saidL pts)) := OwnS.keep (w := w8) (by have := HG8.out.said; rwa [hm.out] at this) ((Keeps.refl (fun _ => False) w8).alloc _) (fun _ _ h => h)
        go_upto_region 22 with (first
          | (refine wpList_load_row rfl 43 _ rfl _ rfl 43 _ _ _ HC8.out Tryd.underlying43 rfl hCs.out ?_)
          | (refine wpList_buildSlice rfl 22 43 1 _ rfl (pcL c).toArray ji _ Tryd.underlying22 hji hy0 (by rw [hy1]; decide) (by rw [hy1]; decide) (by rw [hy1]; kernel_rfl) ?_)
          | (at_builtin; go_must (refine wpList_append_frame _ rfl _ _ 22 rfl 43 ji _ 19 208 Tryd.underlying22 hji hy0 hy1 hy2 rfl (by decide) _ _ _ rfl HOs.out ⟨w8.heap.size, 0, none⟩ 1 1 (pcL c) rfl rfl (cells_new _ _ _ _ _ rfl) (fun v hv => pcL_cells c v hv) (by have := hm23.out; unfold maxLen; omega) (by have := hm23.out; omega) ?_); rintro v9 w9 ho9 hk9 hb9 hn9; (have HO9 := Lib.hid ho9); (have HK9 := Lib.hid hk9); (have HB9 := Lib.hid hb9); clear ho9 hk9 hb9 hn9 HOs))
        obtain ⟨a9, c9, hv9⟩ := HO9.out.form
        subst hv9
        have hsub1 : ∀ q ∈ blk (.slice a1 m c1), q ∈ L := fun q hq => by rw [← hL.out]; exact glL_mem.2 (.inl hq)
        have hsub2 : ∀ q ∈ blk (.slice a2 m c2), q ∈ L := fun q hq => by rw [← hL.out]; exact glL_mem.2 (.inr hq)
        have K89 : Keeps (· ∈ blk (.slice a1 m c1)) w8 w9 := ((Keeps.refl (· ∈ blk (.slice a1 m c1)) w8).alloc _).trans HK9.out (fun q hq h => h)
        have HA9 : Hid (OwnS w9 3 1 (.slice a2 m c2) m (pts.map (fun x => Value.int .i64 x.2))) := by
          have := HG8.out.at_.keep K89 (fun q hq h => HG8.out.dis q h hq)
          rwa [hm.out] at this
        have HB9' : Hid (∀ q ∈ blk (.slice a9 (m + 1) c9), q ∈ blk (.slice a1 m c1) ∨ w8.heap.size ≤ q) := fun q hq => (HB9.out q hq).imp (fun h => h) (fun h => Nat.le_trans (by simp) h)
        have HOa : Hid (OwnS (w9.alloc (.cells #[.int .i64 st] 3)) 3 1 (.slice a2 m c2) m (pts.map (fun x => Value.int .i64 x.2))) := OwnS.keep (w := w9) HA9.out ((Keeps.refl (fun _ => False) w9).alloc _) (fun _ _ h => h)
        have HOs9 : Hid (OwnS (w9.alloc (.cells #[.int .i64 st] 3)) 43 19 (.slice a9 (m + 1) c9) (m + 1) (saidL pts ++ pcL c)) := OwnS.keep (w := w9) HO9.out ((Keeps.refl (fun _ => False) w9).alloc _) (fun _ _ h => h)
        obtain ⟨jj, hjj, hz0, hz1, hz2⟩ := info_parts Tryd.info_int
        have K89h := Lib.hid K89
        have hs1 := Lib.hid hsub1
        have hs2 := Lib.hid hsub2
        clear hsub1 hsub2 K89 HK9 HB9
        go_upto_region 23 with (at_builtin; go_must (refine wpList_append_frame _ rfl _ _ 26 rfl 3 jj (.int .i64 0) 1 8 Tryd.underlying26 hjj hz0 hz1 hz2 rfl (by decide) _ _ _ rfl HOa.out ⟨w9.heap.size, 0, none⟩ 1 1 [.int .i64 st] rfl rfl (cell_one_at _ _ _ _ _ rfl) (by simp [Value.oneCell']) (by have := hm23.out; unfold maxLen; omega) (by have := hm23.out; omega) ?_); rintro v10 w10 ho10 hk10 hb10 hn10; (have HO10 := Lib.hid ho10); (have HK10 := Lib.hid hk10); (have HB10 := Lib.hid hb10); clear ho10 hk10 hb10 hn10)
        obtain ⟨a10, c10, hv10⟩ := HO10.out.form
        subst hv10
        have hdis9 : ∀ q ∈ blk (.slice a9 (m + 1) c9), q ∉ blk (.slice a2 m c2) := fun q hq h => (HB9'.out q hq).elim (fun h1 => HG8.out.dis q h1 h) (fun h1 => by have := HG8.out.lt q (.inr h); omega)
        have K9a : Keeps (· ∈ blk (.slice a2 m c2)) w9 w10 := ((Keeps.refl (· ∈ blk (.slice a2 m c2)) w9).alloc _).trans HK10.out (fun q hq h => h)
        have HOs10 := HO9.out.keep K9a hdis9
        have hw89 : w8.heap.size ≤ w9.heap.size := K89h.out.size
        have HB10' : ∀ q ∈ blk (.slice a10 (m + 1) c10), q ∈ blk (.slice a2 m c2) ∨ w9.heap.size ≤ q := fun q hq => (HB10.out q hq).imp (fun h => h) (fun h => Nat.le_trans (by simp) h)
        have hwl : w.heap.size ≤ w8.heap.size := HQ8.out.bel.size
        have K8a : Keeps (· ∈ wr.heap.size :: L) w8 w10 := (K89h.out.mono (fun q _ h => List.mem_cons_of_mem _ (hs1.out q h))).trans K9a (fun q hq h => List.mem_cons_of_mem _ (hs2.out q h))
        have hcL : wr.heap.size ∉ L := fun h => by have := hLlt.out _ h; omega
        have HC10 : Hid (w10.heap[wr.heap.size]? = some (.cells (pcL c).toArray 43 (0, 0))) := K9a.keep (K89h.out.keep HC8.out (fun h => hcL (hs1.out _ h))) (fun h => hcL (hs2.out _ h))
        have HG10 : Hid (Gl w w10 (.slice a9 (m + 1) c9) (.slice a10 (m + 1) c10) (pts ++ [(c, st)])) := by
          refine ⟨?_, ?_, fun q hq h => ?_, fun q hq => ?_⟩
          · rw [List.length_append, List.length_singleton, hm.out, saidL_append]
            show OwnS w10 _ 19 _ (m + 1) (saidL pts ++ (pcL c ++ []))
            rw [List.append_nil]
            exact HOs10
          · rw [List.length_append, List.length_singleton, hm.out, List.map_append]
            exact HO10.out
          · rcases HB10' q h with h1 | h1
            · exact hdis9 q hq h1
            · have := HO9.out.lt hq; omega
          · rcases hq with hq | hq
            · rcases HB9'.out q hq with h1 | h1
              · exact HG8.out.low q (.inl h1)
              · omega
            · rcases HB10' q hq with h1 | h1
              · exact HG8.out.low q (.inr h1)
              · omega
        have HQ10 : Hid (Kg w w10 (wr.heap.size :: glL (.slice a9 (m + 1) c9) (.slice a10 (m + 1) c10)) p lp dp (rs ++ [c.rcd]) (4 * rs.length) (pts ++ [(c, st)])) := by
          refine HQ8.out.turn K8a (fun q hq => ?_) _ (fun q hq => ?_) (fun q hq => ?_)
          · rcases List.mem_cons.1 hq with rfl | hq
            · exact hwr.out
            · exact hLlow.out q hq
          · rcases List.mem_cons.1 hq with rfl | hq
            · exact block_lt HC10.out
            · exact HG10.out.lt q (glL_mem.1 hq)
          · rcases List.mem_cons.1 hq with rfl | hq
            · exact .inl (by simp)
            · rcases glL_mem.1 hq with hq | hq
              · exact (HB9'.out q hq).imp (fun h => List.mem_cons_of_mem _ (hs1.out q h)) (fun h => h)
              · exact (HB10' q hq).imp (fun h => List.mem_cons_of_mem _ (hs2.out q h)) (fun h => by omega)
        have hcnt := HQ10.out.count
        have HPt := Lib.hid (kg_put HQ10.out (by rw [List.length_append, List.length_singleton]; omega) (c, st) (by simp) hpc.1)
        unfold pgV at HPt
        dsimp only at HPt
        obtain ⟨ck, ci, cp, cr⟩ := pc_at HC10.out
        clear HQ8 HG8 HC8 HO9 HA9 HOa HOs9 HO10 HK10 HB10 HB10' hdis9 K9a HOs10 K8a hcL K89h hs1 hs2 HB9' hcnt
        go_wp2_with (refine wpList_load_arr rfl 41 _ rfl wr.heap.size 2 rfl (pgC c.pg) _ cp Tryd.underlying41 rfl hpi.out ?_)
        refine (HPt.out).mono ?_
        rintro e w11 ⟨cd, rfl, hcd, hq11, hk11⟩
        have HG11 := Lib.hid (HG10.out.keep hk11 (fun q hq h => h.2 (List.mem_cons_of_mem _ (glL_mem.2 hq))))
        have HQ11 : Hid (Kg w w11 (glL (.slice a9 (m + 1) c9) (.slice a10 (m + 1) c10)) p lp dp (rs ++ [c.rcd]) (4 * (rs ++ [c.rcd]).length) (pts ++ [(c, st)])) := (hq11.less _ (fun q hq => List.mem_cons_of_mem _ hq)).mono (by rw [List.length_append, List.length_singleton]; omega) (by omega)
        clear HPt hq11 hk11 ck ci cp cr HC10 HG10 HQ10
        rcases hcd with rfl | rfl
        · go_wp2_with fail
          go_meet
          exact ⟨_, _, HG11, HQ11⟩
        · go_wp2_with fail
          go_meet
          exact ⟨_, _, HG11, HQ11⟩
      case rest =>
        obtain ⟨rs2, pts2, HGn, HQn⟩ := hcut
        clear HQ HG HN hLlt hLlow HRg hcount hone hCl hCs hszz
        go_wp2_with fail
        go_roundw
        case rel => exact ⟨j + 1, by omega, rfl, rs2, pts2, HGn, HQn⟩
        case measure => simp [intOf]; omega
    · obtain rfl : j = n := by omega
      have hlt : ¬ (j : Int) < j := by omega
      have HCr := Lib.hid (kg_crash HQ.out HKV.out)
      have hpl : Hid (pts.length ≤ rs.length ∧ rs.length ≤ 2304) := ⟨HQ.out.many, HQ.out.count.1⟩
      replace hjn := Lib.hid hjn
      clear HQ
      go_wp2_with fail
      refine (HCr.out).mono ?_
      rintro e w6 ⟨cd, D, Sc, i0, rfl, hko, hk6⟩
      have HG6 := Lib.hid (HG.out.keep hk6 (fun q hq h => h.2 (glL_mem.2 hq)))
      have HOp := Lib.hid (ko_open hko)
      have hpok := Lib.hid hko.pok
      have hasc := Lib.hid hko.asc
      have hcnt := Lib.hid hko.cnt
      have hbel6 := Lib.hid hko.bel
      clear hko hk6 HCr HG
      go_wp2_with fail
      refine (HOp.out).mono ?_
      rintro e w7 ⟨i, D2, Sc2, lp2, lv, hi1, hi2, rfl, hd7, hdn7, hl7, hall7, hown7, hk7⟩
      have HG7 := Lib.hid (HG6.out.keep hk7 (fun q hq h => h.2 (glL_mem.2 hq)))
      have HB7 : Hid (Below w.heap.size w w7) := hbel6.out.trans (hk7.belowB hbel6.out.size (fun k hk => hk.1))
      have HD7 := Lib.hid hd7
      have HE7 := Lib.hid hown7
      have hOpen : Hid (∀ id, id < 6 → opn D2 (128 + 4 * id) = (⟨#[]⟩, 0, 30) ∨ ∃ (P : Pg) (st : Int), PgOk P ∧ 0 ≤ st ∧ st ≤ 1152921504606846976 ∧ opn D2 (128 + 4 * id) = (pageS P, st, 0) ∧ ((P = pageZ ∧ st = 0) ∨ (st ≠ 0 ∧ (∃ (k : Nat) (x : PCall × Int), pts[k]? = some x ∧ x.1.id = (id : Int) ∧ x.1.pg = P ∧ x.2 = st) ∧ ∃ (k : Nat) (e : Int × ByteArray), (plL 54 (rs.take i))[k]? = some e ∧ e.1 = st))) := fun id hid => by
        have hle : ∀ m, lenL (rs.take m) ≤ 6912 := fun m => Nat.le_trans (lenL_take_le rs m) hcnt.out
        rcases open_li hall7 (fun x hx => by
          obtain ⟨q1, _, _, m, q4, q5⟩ := hpok.out x hx
          have := hle m
          exact ⟨q1, by omega, by omega⟩) hasc.out id hid (by rw [hd7.1.2.2.1]; exact hl7) with h | ⟨P, st, h1, h2, h3, h4, h5⟩
        · exact .inl h
        · refine .inr ⟨P, st, h1, h2, h3, h4, h5.imp (fun h => h) (fun ⟨h6, x, h7, h8, h9, h10, h11⟩ => ?_)⟩
          obtain ⟨q1, _, _, m, q4, q5⟩ := hpok.out x h7
          obtain ⟨k, hk⟩ := List.getElem?_of_mem h7
          exact ⟨h6, ⟨k, x, hk, h8, h9, h10⟩, logged_at q4 (by rw [← h10]; exact q5) h11 hi1 hi2⟩
      obtain ⟨a1, c1, hs1⟩ := HG7.out.said.form
      obtain ⟨a2, c2, hs2⟩ := HG7.out.at_.form
      obtain ⟨a3, c3, hs3⟩ := hown7.form
      subst hs1 hs2 hs3
      obtain ⟨m, hm⟩ : ∃ m, pts.length = m := ⟨_, rfl⟩
      obtain ⟨E, hE⟩ : ∃ E, plL 54 (rs.take i) = E := ⟨_, rfl⟩
      rw [hE] at HE7 hOpen ⊢
      obtain ⟨mE, hmE⟩ : ∃ m, E.length = m := ⟨_, rfl⟩
      rw [hmE] at HE7 ⊢
      have hEb : Hid (∀ (k : Nat) (e : Int × ByteArray), E[k]? = some e → 0 ≤ e.1 ∧ e.1 ≤ 10000) := fun k e he => by
        have hk : k < i := by
          have := (List.getElem?_eq_some_iff.1 he).1
          rw [← hE, plL_length, List.length_take] at this
          omega
        obtain ⟨e', h1, h2⟩ := plL_at hk hi2
        rw [hE, he] at h1
        injection h1 with h1
        subst h1
        have := lenL_take_le rs k
        have := hcnt.out
        omega
      have hmb : Hid (m ≤ 2304 ∧ mE ≤ 2304) := by
        have h1 := hpl.out
        have h2 : E.length = i := by rw [← hE, plL_length, List.length_take]; omega
        show m ≤ 2304 ∧ mE ≤ 2304
        omega
      have HS7 : Hid (OwnS w7 43 19 (.slice a1 m c1) m (saidL pts)) := by have := HG7.out.said; rwa [hm] at this
      have HA7 : Hid (OwnS w7 3 1 (.slice a2 m c2) m (pts.map (fun x => Value.int .i64 x.2))) := by have := HG7.out.at_; rwa [hm] at this
      rw [hm] at HG7 ⊢
      replace hm := Lib.hid hm
      replace hmE := Lib.hid hmE
      replace hE := Lib.hid hE
      have hdn := Lib.hid hdn7
      have hl := Lib.hid hl7
      clear hd7 hall7 hown7 hk7 HOp HG6 HG7 hi1 hi2 hdn7 hl7
      go_wp2_with fail
      go_loopw [132] (fun x wx => ∃ (q : Nat), q ≤ 6 ∧ x = .int .i64 q ∧ Hid (Below w7.heap.size w7 wx)) (fun x _ => 6 - (intOf x).toNat)
      case atStart => exact ⟨0, by omega, rfl, Below.refl _ _⟩
      case round =>
        obtain ⟨q, hq, rfl, HB⟩ := hrel
        by_cases hq6 : q < 6
        rotate_left
        · obtain rfl : q = 6 := by omega
          have HBw := Lib.hid (bT HB7.out HB.out)
          go_wp2_with fail
          go_ret
          exact ⟨rfl, HBw.out⟩
        have hqI : (q : Int) < 6 := by omega
        have hq0 : (0 : Int) ≤ q := by omega
        have hqw : IntKind.i64.wrap ((q : Int) + 1) = (q : Int) + 1 := by rw [IntKind.wrap_i64]; omega
        have HRd := Lib.hid (law_read (HD7.out.later HB.out) hdn.out q (by omega) (by have := hl.out; omega))
        replace hq := Lib.hid hq
        rcases hOpen.out q hq6 with h | ⟨P, st, hPok, hst0, hst1, hop, hcase⟩
        · rw [h] at HRd
          clear h
          go_wp2_with fail
          refine (HRd.out).mono ?_
          rintro e w8 ⟨rfl, hb8⟩
          have HB8 := Lib.hid (bT HB.out hb8)
          clear hb8 HRd HB
          go_wp2_with fail
          go_roundw
          case rel => exact ⟨q + 1, by omega, rfl, HB8⟩
          case measure => simp [intOf]; omega
        rw [hop] at HRd
        dsimp only at HRd
        have hsz := pageS_size hPok
        have HDc := Lib.hid (fun w => rf_decode (pageS P) (by rw [hsz]; unfold maxLen; omega) w)
        have hdo := Lib.hid (dec_ok hPok)
        have hde := Lib.hid (dec_enc hPok)
        replace hPok := Lib.hid hPok
        obtain ⟨BS, hBS⟩ : ∃ B, pageS P = B := ⟨_, rfl⟩
        rw [hBS] at HRd HDc hdo hde hop
        unfold pgV at HDc
        rw [hde.out] at HDc
        replace hcase := Lib.hid hcase
        replace hop := Lib.hid hop
        clear hsz
        go_wp2_with fail
        refine (HRd.out).mono ?_
        rintro e w8 ⟨rfl, hb8⟩
        have HB8 := Lib.hid (bT HB.out hb8)
        clear hb8 HRd HB
        go_wp2_with fail
        refine (HDc.out _).mono ?_
        rintro e w9 ⟨hres, hb9⟩
        have HB9 := Lib.hid (bT HB8.out hb9)
        obtain rfl : e = .returned (.tuple #[.agg (pgC P), .int .i64 0]) := by
          rcases hres with ⟨h1, _⟩ | ⟨_, h2⟩
          · exact h1
          · exact absurd hdo.out h2
        have HN9 : Hid ((w9.alloc (.cells (pgC pageZ) 41)).heap[w9.heap.size]? = some (.cells (pgC pageZ) 41 (0, 0))) := hN rfl
        clear hb9 hres HDc HB8
        go_upto_region 39 with (refine wpList_store_whole rfl 41 _ _ rfl _ (pgC P) rfl rfl _ (pgC pageZ) HN9.out rfl (by kernel_rfl) (pgC_one _) ?_; intro wa HX K9; (have HKa : Hid (Keeps (fun _ => False) w9 wa) := ((Keeps.refl (fun _ => False) w9).alloc _).trans K9.out (fun q hq e => by omega)); (have HBa := Lib.hid (bT HB9.out HKa.out.below)); clear HN9 K9 HB9)
        rcases hcase.out with ⟨hPz, hsz⟩ | ⟨hs0, hk1, hk2⟩
        · subst hPz hsz
          have heq : (!eqPg pageZ pageZ) = false := by rw [eqPg_same rfl]; rfl
          replace heq := Lib.hid heq
          go_wp2_with (first
            | (refine wpList_load_row rfl 41 _ rfl _ rfl 41 _ _ _ HX.out Tryd.underlying41 rfl (by kernel_rfl) ?_)
            | (refine wpList_ne_pg (by rfl) _ _ _ rfl pageZ pageZ false heq.out rfl rfl ?_))
          go_roundw
          case rel => exact ⟨q + 1, by omega, rfl, HBa⟩
          case measure => simp [intOf]; omega
        · have hs0 : (st == 0) = false := by simpa using hs0
          obtain ⟨kx, x0, hkx, ex1, ex2, ex3⟩ := hk1
          have hkm : kx < m := by rw [← hm.out]; exact (List.getElem?_eq_some_iff.1 hkx).1
          have HK1 := Lib.hid (And.intro hkx (And.intro ex1 (And.intro ex2 ex3)))
          have HK2 := Lib.hid hk2
          clear hkx ex1 ex2 ex3 hk2
          go_wp2_with fail
          go_loopw [162, 29] (fun y fd wy => ∃ (k : Nat), k ≤ m ∧ y = .int .i64 k ∧ ∃ b : Bool, fd = .bool b ∧ Hid (b = true ∨ k ≤ kx) ∧ Hid (Below wa.heap.size wa wy)) (fun y _ _ => m - (intOf y).toNat)
          case atStart => exact ⟨0, by omega, rfl, false, rfl, .inr (Nat.zero_le _), Below.refl _ _⟩
          case round =>
            obtain ⟨k, hk, rfl, b, rfl, hb, HBy⟩ := hrel
            by_cases hkm2 : k < m
            · have hkI : (k : Int) < m := by omega
              have hk0 : (0 : Int) ≤ k := by omega
              have hkw : IntKind.i64.wrap ((k : Int) + 1) = (k : Int) + 1 := by have := hmb.out; rw [IntKind.wrap_i64]; omega
              obtain ⟨x, hx⟩ : ∃ x, pts[k]? = some x := ⟨_, List.getElem?_eq_getElem (by rw [hm.out]; omega)⟩
              have hKy : Keeps (fun _ => False) w7 wr := Keeps.of_below _ (bT HBa.out HBy.out)
              have hSy := HS7.out.keep hKy (fun _ _ h => h)
              have hAy := HA7.out.keep hKy (fun _ _ h => h)
              obtain ⟨g, rfl⟩ := hSy.addr (by omega)
              obtain ⟨g2, rfl⟩ := hAy.addr (by omega)
              obtain ⟨r1, r2⟩ := pcL_in (said_range hSy k x hx)
              have r3 : wr.cell? ⟨g2, k, none⟩ = some (.int .i64 x.2) := by
                have h2 : (pts.map (fun x => Value.int .i64 x.2))[k]? = some (.int .i64 x.2) := by rw [List.getElem?_map, hx]; rfl
                have := World.ownsRow.cells hAy (g := g2) rfl k _ h2
                rwa [Addr.add_mid, Nat.zero_add] at this
              have hS0 : FdS g g2 w9.heap.size k x P wr.drew := ⟨r1, r2, r3, hDr (hBs HBy.out HX.out)⟩
              have hx2 : 0 ≤ x.2 ∧ x.2 ≤ 10000 := by
                obtain ⟨_, _, _, mm, q4, q5⟩ := hpok.out x (List.mem_of_getElem? hx)
                have := lenL_take_le rs mm
                have := hcnt.out
                omega
              have hxw : IntKind.u64.wrap x.2 = x.2 := by rw [IntKind.wrap_u64]; omega
              have hbn : b = false → x.1.id = (q : Int) → x.1.pg = P → x.2 = st → False ∨ True := fun _ _ _ _ => .inr trivial
              have hnext : Hid (∀ b' : Bool, (b = true → b' = true) → (x.1.id = (q : Int) → eqPg x.1.pg P = true → x.2 = st → b' = true) → b' = true ∨ k + 1 ≤ kx) := fun b' h1 h2 => by
                rcases hb.out with h | h
                · exact .inl (h1 h)
                · rcases Nat.lt_or_ge k kx with h3 | h3
                  · exact .inr h3
                  · have : k = kx := by omega
                    subst this
                    obtain ⟨y1, y2, y3, y4⟩ := HK1.out
                    rw [hx] at y1
                    injection y1 with y1
                    subst y1
                    exact .inl (h2 y2 (eqPg_same (by rw [y3])) y4)
              replace hb := Lib.hid hb
              replace hk := Lib.hid hk
              replace hx := Lib.hid hx
              clear hbn r1 r2 r3 hSy hAy hKy
              have HBz : Hid (Below wa.heap.size wa wr.drew) := bD HBy.out
              go_upto_region 46 with fail
              cases b with
              | true =>
                refine wp_region_held_drew (S := FdS g g2 w9.heap.size k x P) (by kernel_rfl) hS0 (fun hHeld => ?_)
                clear hS0
                refine wpAnyH_take (i := 0) (oi := ⟨some 165, _, _, _, _, _⟩) (v := ?_) rfl (by kernel_rfl) (by kernel_rfl) (by kernel_rfl) (fun _ _ _ h => h) (Or.inl ⟨by rfl, ?_⟩) hHeld ?_
                rotate_left
                · intro w' hSw
                  obtain ⟨s0, s1, s2, s3⟩ := hSw
                  go_simp
                  try with_reducible rfl
                  try omega
                simp only [Act.put, List.setIfInBounds_toArray, List.set_cons_zero, List.set_cons_succ]
                refine wpAnyH_take (i := 1) (oi := ⟨some 166, _, _, _, _, _⟩) (v := ?_) rfl (by kernel_rfl) (by kernel_rfl) (by kernel_rfl) (fun _ _ _ h => h) (Or.inl ⟨by rfl, ?_⟩) hHeld ?_
                rotate_left
                · intro w' hSw
                  obtain ⟨s0, s1, s2, s3⟩ := hSw
                  go_simp
                  try with_reducible rfl
                  try omega
                simp only [Act.put, List.setIfInBounds_toArray, List.set_cons_zero, List.set_cons_succ]
                refine wpAnyH_take (i := 2) (oi := ⟨some 167, _, _, _, _, _⟩) (v := undef) rfl (by kernel_rfl) (by kernel_rfl) (by kernel_rfl) (fun _ _ _ h => h) (Or.inr ⟨by rfl, rfl⟩) hHeld ?_
                simp only [Act.put, List.setIfInBounds_toArray, List.set_cons_zero, List.set_cons_succ]
                refine wpAnyH_take (i := 3) (oi := ⟨some 168, _, _, _, _, _⟩) (v := undef) rfl (by kernel_rfl) (by kernel_rfl) (by kernel_rfl) (fun _ _ _ h => h) (Or.inr ⟨by rfl, rfl⟩) hHeld ?_
                simp only [Act.put, List.setIfInBounds_toArray, List.set_cons_zero, List.set_cons_succ]
                refine wpAnyH_take (i := 4) (oi := ⟨some 169, _, _, _, _, _⟩) (v := undef) rfl (by kernel_rfl) (by kernel_rfl) (by kernel_rfl) (fun _ _ _ h => h) (Or.inr ⟨by rfl, rfl⟩) hHeld ?_
                simp only [Act.put, List.setIfInBounds_toArray, List.set_cons_zero, List.set_cons_succ]
                refine wpAnyH_take (i := 5) (oi := ⟨some 170, _, _, _, _, _⟩) (v := undef) rfl (by kernel_rfl) (by kernel_rfl) (by kernel_rfl) (fun _ _ _ h => h) (Or.inr ⟨by rfl, rfl⟩) hHeld ?_
                simp only [Act.put, List.setIfInBounds_toArray, List.set_cons_zero, List.set_cons_succ]
                refine wpAnyH_take (i := 6) (oi := ⟨some 171, _, _, _, _, _⟩) (v := undef) rfl (by kernel_rfl) (by kernel_rfl) (by kernel_rfl) (fun _ _ _ h => h) (Or.inr ⟨by rfl, rfl⟩) hHeld ?_
                simp only [Act.put, List.setIfInBounds_toArray, List.set_cons_zero, List.set_cons_succ]
                refine wpAnyH_take (i := 7) (oi := ⟨some 172, _, _, _, _, _⟩) (v := undef) rfl (by kernel_rfl) (by kernel_rfl) (by kernel_rfl) (fun _ _ _ h => h) (Or.inr ⟨by rfl, rfl⟩) hHeld ?_
                simp only [Act.put, List.setIfInBounds_toArray, List.set_cons_zero, List.set_cons_succ]
                refine wpAnyH_take (i := 8) (oi := ⟨some 173, _, _, _, _, _⟩) (v := undef) rfl (by kernel_rfl) (by kernel_rfl) (by kernel_rfl) (fun _ _ _ h => h) (Or.inr ⟨by rfl, rfl⟩) hHeld ?_
                simp only [Act.put, List.setIfInBounds_toArray, List.set_cons_zero, List.set_cons_succ]
                refine wpAnyH_take (i := 9) (oi := ⟨some 174, _, _, _, _, _⟩) (v := undef) rfl (by kernel_rfl) (by kernel_rfl) (by kernel_rfl) (fun _ _ _ h => h) (Or.inr ⟨by rfl, rfl⟩) hHeld ?_
                simp only [Act.put, List.setIfInBounds_toArray, List.set_cons_zero, List.set_cons_succ]
                refine wpAnyH_take (i := 10) (oi := ⟨some 175, _, _, _, _, _⟩) (v := undef) rfl (by kernel_rfl) (by kernel_rfl) (by kernel_rfl) (fun _ _ _ h => h) (Or.inr ⟨by rfl, rfl⟩) hHeld ?_
                simp only [Act.put, List.setIfInBounds_toArray, List.set_cons_zero, List.set_cons_succ]
                refine wpAnyH_take (i := 11) (oi := ⟨some 176, _, _, _, _, _⟩) (v := undef) rfl (by kernel_rfl) (by kernel_rfl) (by kernel_rfl) (fun _ _ _ h => h) (Or.inr ⟨by rfl, rfl⟩) hHeld ?_
                simp only [Act.put, List.setIfInBounds_toArray, List.set_cons_zero, List.set_cons_succ]
                refine wpAnyH_take (i := 12) (oi := ⟨some 177, _, _, _, _, _⟩) (v := undef) rfl (by kernel_rfl) (by kernel_rfl) (by kernel_rfl) (fun _ _ _ h => h) (Or.inr ⟨by rfl, rfl⟩) hHeld ?_
                simp only [Act.put, List.setIfInBounds_toArray, List.set_cons_zero, List.set_cons_succ]
                refine wpAnyH_take (i := 13) (oi := ⟨some 178, _, _, _, _, _⟩) (v := undef) rfl (by kernel_rfl) (by kernel_rfl) (by kernel_rfl) (fun _ _ _ h => h) (Or.inr ⟨by rfl, rfl⟩) hHeld ?_
                simp only [Act.put, List.setIfInBounds_toArray, List.set_cons_zero, List.set_cons_succ]
                refine wpAnyH_take (i := 14) (oi := ⟨some 179, _, _, _, _, _⟩) (v := undef) rfl (by kernel_rfl) (by kernel_rfl) (by kernel_rfl) (fun _ _ _ h => h) (Or.inr ⟨by rfl, rfl⟩) hHeld ?_
                simp only [Act.put, List.setIfInBounds_toArray, List.set_cons_zero, List.set_cons_succ]
                refine wpAnyH_take (i := 15) (oi := ⟨some 180, _, _, _, _, _⟩) (v := undef) rfl (by kernel_rfl) (by kernel_rfl) (by kernel_rfl) (fun _ _ _ h => h) (Or.inr ⟨by rfl, rfl⟩) hHeld ?_
                simp only [Act.put, List.setIfInBounds_toArray, List.set_cons_zero, List.set_cons_succ]
                refine wpAnyH_take (i := 16) (oi := ⟨some 181, _, _, _, _, _⟩) (v := undef) rfl (by kernel_rfl) (by kernel_rfl) (by kernel_rfl) (fun _ _ _ h => h) (Or.inr ⟨by rfl, rfl⟩) hHeld ?_
                simp only [Act.put, List.setIfInBounds_toArray, List.set_cons_zero, List.set_cons_succ]
                refine wpAnyH_take (i := 17) (oi := ⟨some 182, _, _, _, _, _⟩) (v := undef) rfl (by kernel_rfl) (by kernel_rfl) (by kernel_rfl) (fun _ _ _ h => h) (Or.inr ⟨by rfl, rfl⟩) hHeld ?_
                simp only [Act.put, List.setIfInBounds_toArray, List.set_cons_zero, List.set_cons_succ]
                refine wpAnyH_take (i := 18) (oi := ⟨some 183, _, _, _, _, _⟩) (v := undef) rfl (by kernel_rfl) (by kernel_rfl) (by kernel_rfl) (fun _ _ _ h => h) (Or.inr ⟨by rfl, rfl⟩) hHeld ?_
                simp only [Act.put, List.setIfInBounds_toArray, List.set_cons_zero, List.set_cons_succ]
                refine wpAnyH_take (i := 19) (oi := ⟨some 184, _, _, _, _, _⟩) (v := undef) rfl (by kernel_rfl) (by kernel_rfl) (by kernel_rfl) (fun _ _ _ h => h) (Or.inr ⟨by rfl, rfl⟩) hHeld ?_
                simp only [Act.put, List.setIfInBounds_toArray, List.set_cons_zero, List.set_cons_succ]
                refine wpAnyH_take (i := 20) (oi := ⟨some 185, _, _, _, _, _⟩) (v := undef) rfl (by kernel_rfl) (by kernel_rfl) (by kernel_rfl) (fun _ _ _ h => h) (Or.inr ⟨by rfl, rfl⟩) hHeld ?_
                simp only [Act.put, List.setIfInBounds_toArray, List.set_cons_zero, List.set_cons_succ]
                refine wpAnyH_take (i := 21) (oi := ⟨some 186, _, _, _, _, _⟩) (v := undef) rfl (by kernel_rfl) (by kernel_rfl) (by kernel_rfl) (fun _ _ _ h => h) (Or.inr ⟨by rfl, rfl⟩) hHeld ?_
                simp only [Act.put, List.setIfInBounds_toArray, List.set_cons_zero, List.set_cons_succ]
                refine wpAnyH_take (i := 22) (oi := ⟨some 187, _, _, _, _, _⟩) (v := undef) rfl (by kernel_rfl) (by kernel_rfl) (by kernel_rfl) (fun _ _ _ h => h) (Or.inr ⟨by rfl, rfl⟩) hHeld ?_
                simp only [Act.put, List.setIfInBounds_toArray, List.set_cons_zero, List.set_cons_succ]
                refine wpAnyH_take (i := 23) (oi := ⟨some 188, _, _, _, _, _⟩) (v := undef) rfl (by kernel_rfl) (by kernel_rfl) (by kernel_rfl) (fun _ _ _ h => h) (Or.inr ⟨by rfl, rfl⟩) hHeld ?_
                simp only [Act.put, List.setIfInBounds_toArray, List.set_cons_zero, List.set_cons_succ]
                refine wpAnyH_take (i := 24) (oi := ⟨some 189, _, _, _, _, _⟩) (v := undef) rfl (by kernel_rfl) (by kernel_rfl) (by kernel_rfl) (fun _ _ _ h => h) (Or.inr ⟨by rfl, rfl⟩) hHeld ?_
                simp only [Act.put, List.setIfInBounds_toArray, List.set_cons_zero, List.set_cons_succ]
                refine wpAnyH_take (i := 25) (oi := ⟨some 190, _, _, _, _, _⟩) (v := undef) rfl (by kernel_rfl) (by kernel_rfl) (by kernel_rfl) (fun _ _ _ h => h) (Or.inr ⟨by rfl, rfl⟩) hHeld ?_
                simp only [Act.put, List.setIfInBounds_toArray, List.set_cons_zero, List.set_cons_succ]
                refine wpAnyH_take (i := 26) (oi := ⟨some 191, _, _, _, _, _⟩) (v := undef) rfl (by kernel_rfl) (by kernel_rfl) (by kernel_rfl) (fun _ _ _ h => h) (Or.inr ⟨by rfl, rfl⟩) hHeld ?_
                simp only [Act.put, List.setIfInBounds_toArray, List.set_cons_zero, List.set_cons_succ]
                refine wpAnyH_take (i := 27) (oi := ⟨some 192, _, _, _, _, _⟩) (v := ?_) rfl (by kernel_rfl) (by kernel_rfl) (by kernel_rfl) (fun _ _ _ h => h) (Or.inl ⟨by rfl, ?_⟩) hHeld ?_
                rotate_left
                · intro w' hSw
                  obtain ⟨s0, s1, s2, s3⟩ := hSw
                  go_simp
                  try with_reducible rfl
                  try omega
                simp only [Act.put, List.setIfInBounds_toArray, List.set_cons_zero, List.set_cons_succ]
                refine wpAnyH_take (i := 28) (oi := ⟨some 29, _, _, _, _, _⟩) (v := ?_) rfl (by kernel_rfl) (by kernel_rfl) (by kernel_rfl) (fun _ _ _ h => h) (Or.inl ⟨by rfl, ?_⟩) hHeld ?_
                rotate_left
                · intro w' hSw
                  obtain ⟨s0, s1, s2, s3⟩ := hSw
                  go_simp
                  try with_reducible rfl
                  try omega
                simp only [Act.put, List.setIfInBounds_toArray, List.set_cons_zero, List.set_cons_succ]
                clear hHeld
                refine wpAnyH_done (by kernel_rfl) ?_ _
                go_wp2_with fail
                go_roundw
                case rel => exact ⟨k + 1, by omega, rfl, true, rfl, .inl rfl, HBz⟩
                case measure => simp [intOf]; omega
              | false =>
                by_cases hid : x.1.id = (q : Int)
                rotate_left
                · have hidq : (x.1.id == (q : Int)) = false := by simpa using hid
                  replace hid := Lib.hid hid
                  refine wp_region_held_drew (S := FdS g g2 w9.heap.size k x P) (by kernel_rfl) hS0 (fun hHeld => ?_)
                  clear hS0
                  refine wpAnyH_take (i := 0) (oi := ⟨some 165, _, _, _, _, _⟩) (v := ?_) rfl (by kernel_rfl) (by kernel_rfl) (by kernel_rfl) (fun _ _ _ h => h) (Or.inl ⟨by rfl, ?_⟩) hHeld ?_
                  rotate_left
                  · intro w' hSw
                    obtain ⟨s0, s1, s2, s3⟩ := hSw
                    go_simp
                    try with_reducible rfl
                    try omega
                  simp only [Act.put, List.setIfInBounds_toArray, List.set_cons_zero, List.set_cons_succ]
                  refine wpAnyH_take (i := 1) (oi := ⟨some 166, _, _, _, _, _⟩) (v := ?_) rfl (by kernel_rfl) (by kernel_rfl) (by kernel_rfl) (fun _ _ _ h => h) (Or.inl ⟨by rfl, ?_⟩) hHeld ?_
                  rotate_left
                  · intro w' hSw
                    obtain ⟨s0, s1, s2, s3⟩ := hSw
                    go_simp
                    try with_reducible rfl
                    try omega
                  simp only [Act.put, List.setIfInBounds_toArray, List.set_cons_zero, List.set_cons_succ]
                  refine wpAnyH_take (i := 2) (oi := ⟨some 167, _, _, _, _, _⟩) (v := ?_) rfl (by kernel_rfl) (by kernel_rfl) (by kernel_rfl) (fun _ _ _ h => h) (Or.inl ⟨by rfl, ?_⟩) hHeld ?_
                  rotate_left
                  · intro w' hSw
                    obtain ⟨s0, s1, s2, s3⟩ := hSw
                    go_simp
                    try with_reducible rfl
                    try omega
                  simp only [Act.put, List.setIfInBounds_toArray, List.set_cons_zero, List.set_cons_succ]
                  refine wpAnyH_take (i := 3) (oi := ⟨some 168, _, _, _, _, _⟩) (v := ?_) rfl (by kernel_rfl) (by kernel_rfl) (by kernel_rfl) (fun _ _ _ h => h) (Or.inl ⟨by rfl, ?_⟩) hHeld ?_
                  rotate_left
                  · intro w' hSw
                    obtain ⟨s0, s1, s2, s3⟩ := hSw
                    go_simp
                    try with_reducible rfl
                    try omega
                  simp only [Act.put, List.setIfInBounds_toArray, List.set_cons_zero, List.set_cons_succ]
                  refine wpAnyH_take (i := 4) (oi := ⟨some 169, _, _, _, _, _⟩) (v := .pointer (some ⟨g, k * 19, none⟩)) rfl (by kernel_rfl) (by kernel_rfl) (by kernel_rfl) (fun _ _ _ h => h) (Or.inl ⟨by rfl, ?_⟩) hHeld ?_
                  · intro w' hSw
                    obtain ⟨s0, s1, s2, s3⟩ := hSw
                    go_simp
                    try with_reducible rfl
                    try omega
                  simp only [Act.put, List.setIfInBounds_toArray, List.set_cons_zero, List.set_cons_succ]
                  refine wpAnyH_take (i := 5) (oi := ⟨some 170, _, _, _, _, _⟩) (v := .pointer (some ⟨g, k * 19 + 1, none⟩)) rfl (by kernel_rfl) (by kernel_rfl) (by kernel_rfl) (fun _ _ _ h => h) (Or.inl ⟨by rfl, ?_⟩) hHeld ?_
                  · intro w' hSw
                    obtain ⟨s0, s1, s2, s3⟩ := hSw
                    go_simp
                    try with_reducible rfl
                    try omega
                  simp only [Act.put, List.setIfInBounds_toArray, List.set_cons_zero, List.set_cons_succ]
                  refine wpAnyH_take (i := 6) (oi := ⟨some 171, _, _, _, _, _⟩) (v := ?_) rfl (by kernel_rfl) (by kernel_rfl) (by kernel_rfl) (fun _ _ _ h => h) (Or.inl ⟨by rfl, ?_⟩) hHeld ?_
                  rotate_left
                  · intro w' hSw
                    obtain ⟨s0, s1, s2, s3⟩ := hSw
                    go_simp
                    try with_reducible rfl
                    try omega
                  simp only [Act.put, List.setIfInBounds_toArray, List.set_cons_zero, List.set_cons_succ]
                  refine wpAnyH_take (i := 7) (oi := ⟨some 172, _, _, _, _, _⟩) (v := ?_) rfl (by kernel_rfl) (by kernel_rfl) (by kernel_rfl) (fun _ _ _ h => h) (Or.inl ⟨by rfl, ?_⟩) hHeld ?_
                  rotate_left
                  · intro w' hSw
                    obtain ⟨s0, s1, s2, s3⟩ := hSw
                    go_simp
                    try with_reducible rfl
                    try omega
                  simp only [Act.put, List.setIfInBounds_toArray, List.set_cons_zero, List.set_cons_succ]
                  refine wpAnyH_take (i := 8) (oi := ⟨some 173, _, _, _, _, _⟩) (v := .bool false) rfl (by kernel_rfl) (by kernel_rfl) (by kernel_rfl) (fun _ _ _ h => h) (Or.inl ⟨by rfl, ?_⟩) hHeld ?_
                  · intro w' hSw
                    obtain ⟨s0, s1, s2, s3⟩ := hSw
                    go_simp
                    try with_reducible rfl
                    try omega
                  simp only [Act.put, List.setIfInBounds_toArray, List.set_cons_zero, List.set_cons_succ]
                  refine wpAnyH_take (i := 9) (oi := ⟨some 174, _, _, _, _, _⟩) (v := ?_) rfl (by kernel_rfl) (by kernel_rfl) (by kernel_rfl) (fun _ _ _ h => h) (Or.inl ⟨by rfl, ?_⟩) hHeld ?_
                  rotate_left
                  · intro w' hSw
                    obtain ⟨s0, s1, s2, s3⟩ := hSw
                    go_simp
                    try with_reducible rfl
                    try omega
                  simp only [Act.put, List.setIfInBounds_toArray, List.set_cons_zero, List.set_cons_succ]
                  refine wpAnyH_take (i := 10) (oi := ⟨some 175, _, _, _, _, _⟩) (v := undef) rfl (by kernel_rfl) (by kernel_rfl) (by kernel_rfl) (fun _ _ _ h => h) (Or.inr ⟨by rfl, rfl⟩) hHeld ?_
                  simp only [Act.put, List.setIfInBounds_toArray, List.set_cons_zero, List.set_cons_succ]
                  refine wpAnyH_take (i := 11) (oi := ⟨some 176, _, _, _, _, _⟩) (v := undef) rfl (by kernel_rfl) (by kernel_rfl) (by kernel_rfl) (fun _ _ _ h => h) (Or.inr ⟨by rfl, rfl⟩) hHeld ?_
                  simp only [Act.put, List.setIfInBounds_toArray, List.set_cons_zero, List.set_cons_succ]
                  refine wpAnyH_take (i := 12) (oi := ⟨some 177, _, _, _, _, _⟩) (v := undef) rfl (by kernel_rfl) (by kernel_rfl) (by kernel_rfl) (fun _ _ _ h => h) (Or.inr ⟨by rfl, rfl⟩) hHeld ?_
                  simp only [Act.put, List.setIfInBounds_toArray, List.set_cons_zero, List.set_cons_succ]
                  refine wpAnyH_take (i := 13) (oi := ⟨some 178, _, _, _, _, _⟩) (v := undef) rfl (by kernel_rfl) (by kernel_rfl) (by kernel_rfl) (fun _ _ _ h => h) (Or.inr ⟨by rfl, rfl⟩) hHeld ?_
                  simp only [Act.put, List.setIfInBounds_toArray, List.set_cons_zero, List.set_cons_succ]
                  refine wpAnyH_take (i := 14) (oi := ⟨some 179, _, _, _, _, _⟩) (v := undef) rfl (by kernel_rfl) (by kernel_rfl) (by kernel_rfl) (fun _ _ _ h => h) (Or.inr ⟨by rfl, rfl⟩) hHeld ?_
                  simp only [Act.put, List.setIfInBounds_toArray, List.set_cons_zero, List.set_cons_succ]
                  refine wpAnyH_take (i := 15) (oi := ⟨some 180, _, _, _, _, _⟩) (v := undef) rfl (by kernel_rfl) (by kernel_rfl) (by kernel_rfl) (fun _ _ _ h => h) (Or.inr ⟨by rfl, rfl⟩) hHeld ?_
                  simp only [Act.put, List.setIfInBounds_toArray, List.set_cons_zero, List.set_cons_succ]
                  refine wpAnyH_take (i := 16) (oi := ⟨some 181, _, _, _, _, _⟩) (v := undef) rfl (by kernel_rfl) (by kernel_rfl) (by kernel_rfl) (fun _ _ _ h => h) (Or.inr ⟨by rfl, rfl⟩) hHeld ?_
                  simp only [Act.put, List.setIfInBounds_toArray, List.set_cons_zero, List.set_cons_succ]
                  refine wpAnyH_take (i := 17) (oi := ⟨some 182, _, _, _, _, _⟩) (v := ?_) rfl (by kernel_rfl) (by kernel_rfl) (by kernel_rfl) (fun _ _ _ h => h) (Or.inl ⟨by rfl, ?_⟩) hHeld ?_
                  rotate_left
                  · intro w' hSw
                    obtain ⟨s0, s1, s2, s3⟩ := hSw
                    go_simp
                    try with_reducible rfl
                    try omega
                  simp only [Act.put, List.setIfInBounds_toArray, List.set_cons_zero, List.set_cons_succ]
                  refine wpAnyH_take (i := 18) (oi := ⟨some 183, _, _, _, _, _⟩) (v := ?_) rfl (by kernel_rfl) (by kernel_rfl) (by kernel_rfl) (fun _ _ _ h => h) (Or.inl ⟨by rfl, ?_⟩) hHeld ?_
                  rotate_left
                  · intro w' hSw
                    obtain ⟨s0, s1, s2, s3⟩ := hSw
                    go_simp
                    try with_reducible rfl
                    try omega
                  simp only [Act.put, List.setIfInBounds_toArray, List.set_cons_zero, List.set_cons_succ]
                  refine wpAnyH_take (i := 19) (oi := ⟨some 184, _, _, _, _, _⟩) (v := undef) rfl (by kernel_rfl) (by kernel_rfl) (by kernel_rfl) (fun _ _ _ h => h) (Or.inr ⟨by rfl, rfl⟩) hHeld ?_
                  simp only [Act.put, List.setIfInBounds_toArray, List.set_cons_zero, List.set_cons_succ]
                  refine wpAnyH_take (i := 20) (oi := ⟨some 185, _, _, _, _, _⟩) (v := undef) rfl (by kernel_rfl) (by kernel_rfl) (by kernel_rfl) (fun _ _ _ h => h) (Or.inr ⟨by rfl, rfl⟩) hHeld ?_
                  simp only [Act.put, List.setIfInBounds_toArray, List.set_cons_zero, List.set_cons_succ]
                  refine wpAnyH_take (i := 21) (oi := ⟨some 186, _, _, _, _, _⟩) (v := undef) rfl (by kernel_rfl) (by kernel_rfl) (by kernel_rfl) (fun _ _ _ h => h) (Or.inr ⟨by rfl, rfl⟩) hHeld ?_
                  simp only [Act.put, List.setIfInBounds_toArray, List.set_cons_zero, List.set_cons_succ]
                  refine wpAnyH_take (i := 22) (oi := ⟨some 187, _, _, _, _, _⟩) (v := undef) rfl (by kernel_rfl) (by kernel_rfl) (by kernel_rfl) (fun _ _ _ h => h) (Or.inr ⟨by rfl, rfl⟩) hHeld ?_
                  simp only [Act.put, List.setIfInBounds_toArray, List.set_cons_zero, List.set_cons_succ]
                  refine wpAnyH_take (i := 23) (oi := ⟨some 188, _, _, _, _, _⟩) (v := undef) rfl (by kernel_rfl) (by kernel_rfl) (by kernel_rfl) (fun _ _ _ h => h) (Or.inr ⟨by rfl, rfl⟩) hHeld ?_
                  simp only [Act.put, List.setIfInBounds_toArray, List.set_cons_zero, List.set_cons_succ]
                  refine wpAnyH_take (i := 24) (oi := ⟨some 189, _, _, _, _, _⟩) (v := undef) rfl (by kernel_rfl) (by kernel_rfl) (by kernel_rfl) (fun _ _ _ h => h) (Or.inr ⟨by rfl, rfl⟩) hHeld ?_
                  simp only [Act.put, List.setIfInBounds_toArray, List.set_cons_zero, List.set_cons_succ]
                  refine wpAnyH_take (i := 25) (oi := ⟨some 190, _, _, _, _, _⟩) (v := undef) rfl (by kernel_rfl) (by kernel_rfl) (by kernel_rfl) (fun _ _ _ h => h) (Or.inr ⟨by rfl, rfl⟩) hHeld ?_
                  simp only [Act.put, List.setIfInBounds_toArray, List.set_cons_zero, List.set_cons_succ]
                  refine wpAnyH_take (i := 26) (oi := ⟨some 191, _, _, _, _, _⟩) (v := ?_) rfl (by kernel_rfl) (by kernel_rfl) (by kernel_rfl) (fun _ _ _ h => h) (Or.inl ⟨by rfl, ?_⟩) hHeld ?_
                  rotate_left
                  · intro w' hSw
                    obtain ⟨s0, s1, s2, s3⟩ := hSw
                    go_simp
                    try with_reducible rfl
                    try omega
                  simp only [Act.put, List.setIfInBounds_toArray, List.set_cons_zero, List.set_cons_succ]
                  refine wpAnyH_take (i := 27) (oi := ⟨some 192, _, _, _, _, _⟩) (v := ?_) rfl (by kernel_rfl) (by kernel_rfl) (by kernel_rfl) (fun _ _ _ h => h) (Or.inl ⟨by rfl, ?_⟩) hHeld ?_
                  rotate_left
                  · intro w' hSw
                    obtain ⟨s0, s1, s2, s3⟩ := hSw
                    go_simp
                    try with_reducible rfl
                    try omega
                  simp only [Act.put, List.setIfInBounds_toArray, List.set_cons_zero, List.set_cons_succ]
                  refine wpAnyH_take (i := 28) (oi := ⟨some 29, _, _, _, _, _⟩) (v := ?_) rfl (by kernel_rfl) (by kernel_rfl) (by kernel_rfl) (fun _ _ _ h => h) (Or.inl ⟨by rfl, ?_⟩) hHeld ?_
                  rotate_left
                  · intro w' hSw
                    obtain ⟨s0, s1, s2, s3⟩ := hSw
                    go_simp
                    try with_reducible rfl
                    try omega
                  simp only [Act.put, List.setIfInBounds_toArray, List.set_cons_zero, List.set_cons_succ]
                  clear hHeld
                  refine wpAnyH_done (by kernel_rfl) ?_ _
                  go_wp2_with fail
                  go_roundw
                  case rel => exact ⟨k + 1, by omega, rfl, false, rfl, hnext.out false (fun h => h) (fun h => absurd h hid.out), HBz⟩
                  case measure => simp [intOf]; omega
                have hidq : (x.1.id == (q : Int)) = true := by simpa using hid
                replace hid := Lib.hid hid
                cases hpgb : eqPg x.1.pg P with
                | false =>
                  have hpg := Lib.hid hpgb
                  clear hpgb
                  refine wp_region_held_drew (S := FdS g g2 w9.heap.size k x P) (by kernel_rfl) hS0 (fun hHeld => ?_)
                  clear hS0
                  refine wpAnyH_take (i := 0) (oi := ⟨some 165, _, _, _, _, _⟩) (v := ?_) rfl (by kernel_rfl) (by kernel_rfl) (by kernel_rfl) (fun _ _ _ h => h) (Or.inl ⟨by rfl, ?_⟩) hHeld ?_
                  rotate_left
                  · intro w' hSw
                    obtain ⟨s0, s1, s2, s3⟩ := hSw
                    go_simp
                    try with_reducible rfl
                    try omega
                  simp only [Act.put, List.setIfInBounds_toArray, List.set_cons_zero, List.set_cons_succ]
                  refine wpAnyH_take (i := 1) (oi := ⟨some 166, _, _, _, _, _⟩) (v := ?_) rfl (by kernel_rfl) (by kernel_rfl) (by kernel_rfl) (fun _ _ _ h => h) (Or.inl ⟨by rfl, ?_⟩) hHeld ?_
                  rotate_left
                  · intro w' hSw
                    obtain ⟨s0, s1, s2, s3⟩ := hSw
                    go_simp
                    try with_reducible rfl
                    try omega
                  simp only [Act.put, List.setIfInBounds_toArray, List.set_cons_zero, List.set_cons_succ]
                  refine wpAnyH_take (i := 2) (oi := ⟨some 167, _, _, _, _, _⟩) (v := ?_) rfl (by kernel_rfl) (by kernel_rfl) (by kernel_rfl) (fun _ _ _ h => h) (Or.inl ⟨by rfl, ?_⟩) hHeld ?_
                  rotate_left
                  · intro w' hSw
                    obtain ⟨s0, s1, s2, s3⟩ := hSw
                    go_simp
                    try with_reducible rfl
                    try omega
                  simp only [Act.put, List.setIfInBounds_toArray, List.set_cons_zero, List.set_cons_succ]
                  refine wpAnyH_take (i := 3) (oi := ⟨some 168, _, _, _, _, _⟩) (v := ?_) rfl (by kernel_rfl) (by kernel_rfl) (by kernel_rfl) (fun _ _ _ h => h) (Or.inl ⟨by rfl, ?_⟩) hHeld ?_
                  rotate_left
                  · intro w' hSw
                    obtain ⟨s0, s1, s2, s3⟩ := hSw
                    go_simp
                    try with_reducible rfl
                    try omega
                  simp only [Act.put, List.setIfInBounds_toArray, List.set_cons_zero, List.set_cons_succ]
                  refine wpAnyH_take (i := 4) (oi := ⟨some 169, _, _, _, _, _⟩) (v := .pointer (some ⟨g, k * 19, none⟩)) rfl (by kernel_rfl) (by kernel_rfl) (by kernel_rfl) (fun _ _ _ h => h) (Or.inl ⟨by rfl, ?_⟩) hHeld ?_
                  · intro w' hSw
                    obtain ⟨s0, s1, s2, s3⟩ := hSw
                    go_simp
                    try with_reducible rfl
                    try omega
                  simp only [Act.put, List.setIfInBounds_toArray, List.set_cons_zero, List.set_cons_succ]
                  refine wpAnyH_take (i := 5) (oi := ⟨some 170, _, _, _, _, _⟩) (v := .pointer (some ⟨g, k * 19 + 1, none⟩)) rfl (by kernel_rfl) (by kernel_rfl) (by kernel_rfl) (fun _ _ _ h => h) (Or.inl ⟨by rfl, ?_⟩) hHeld ?_
                  · intro w' hSw
                    obtain ⟨s0, s1, s2, s3⟩ := hSw
                    go_simp
                    try with_reducible rfl
                    try omega
                  simp only [Act.put, List.setIfInBounds_toArray, List.set_cons_zero, List.set_cons_succ]
                  refine wpAnyH_take (i := 6) (oi := ⟨some 171, _, _, _, _, _⟩) (v := ?_) rfl (by kernel_rfl) (by kernel_rfl) (by kernel_rfl) (fun _ _ _ h => h) (Or.inl ⟨by rfl, ?_⟩) hHeld ?_
                  rotate_left
                  · intro w' hSw
                    obtain ⟨s0, s1, s2, s3⟩ := hSw
                    go_simp
                    try with_reducible rfl
                    try omega
                  simp only [Act.put, List.setIfInBounds_toArray, List.set_cons_zero, List.set_cons_succ]
                  refine wpAnyH_take (i := 7) (oi := ⟨some 172, _, _, _, _, _⟩) (v := ?_) rfl (by kernel_rfl) (by kernel_rfl) (by kernel_rfl) (fun _ _ _ h => h) (Or.inl ⟨by rfl, ?_⟩) hHeld ?_
                  rotate_left
                  · intro w' hSw
                    obtain ⟨s0, s1, s2, s3⟩ := hSw
                    go_simp
                    try with_reducible rfl
                    try omega
                  simp only [Act.put, List.setIfInBounds_toArray, List.set_cons_zero, List.set_cons_succ]
                  refine wpAnyH_take (i := 8) (oi := ⟨some 173, _, _, _, _, _⟩) (v := .bool true) rfl (by kernel_rfl) (by kernel_rfl) (by kernel_rfl) (fun _ _ _ h => h) (Or.inl ⟨by rfl, ?_⟩) hHeld ?_
                  · intro w' hSw
                    obtain ⟨s0, s1, s2, s3⟩ := hSw
                    go_simp
                    try with_reducible rfl
                    try omega
                  simp only [Act.put, List.setIfInBounds_toArray, List.set_cons_zero, List.set_cons_succ]
                  refine wpAnyH_take (i := 9) (oi := ⟨some 174, _, _, _, _, _⟩) (v := ?_) rfl (by kernel_rfl) (by kernel_rfl) (by kernel_rfl) (fun _ _ _ h => h) (Or.inl ⟨by rfl, ?_⟩) hHeld ?_
                  rotate_left
                  · intro w' hSw
                    obtain ⟨s0, s1, s2, s3⟩ := hSw
                    go_simp
                    try with_reducible rfl
                    try omega
                  simp only [Act.put, List.setIfInBounds_toArray, List.set_cons_zero, List.set_cons_succ]
                  refine wpAnyH_take (i := 10) (oi := ⟨some 175, _, _, _, _, _⟩) (v := ?_) rfl (by kernel_rfl) (by kernel_rfl) (by kernel_rfl) (fun _ _ _ h => h) (Or.inl ⟨by rfl, ?_⟩) hHeld ?_
                  rotate_left
                  · intro w' hSw
                    obtain ⟨s0, s1, s2, s3⟩ := hSw
                    go_simp
                    try with_reducible rfl
                    try omega
                  simp only [Act.put, List.setIfInBounds_toArray, List.set_cons_zero, List.set_cons_succ]
                  refine wpAnyH_take (i := 11) (oi := ⟨some 176, _, _, _, _, _⟩) (v := ?_) rfl (by kernel_rfl) (by kernel_rfl) (by kernel_rfl) (fun _ _ _ h => h) (Or.inl ⟨by rfl, ?_⟩) hHeld ?_
                  rotate_left
                  · intro w' hSw
                    obtain ⟨s0, s1, s2, s3⟩ := hSw
                    go_simp
                    try with_reducible rfl
                    try omega
                  simp only [Act.put, List.setIfInBounds_toArray, List.set_cons_zero, List.set_cons_succ]
                  refine wpAnyH_take (i := 12) (oi := ⟨some 177, _, _, _, _, _⟩) (v := .pointer (some ⟨g, k * 19, none⟩)) rfl (by kernel_rfl) (by kernel_rfl) (by kernel_rfl) (fun _ _ _ h => h) (Or.inl ⟨by rfl, ?_⟩) hHeld ?_
                  · intro w' hSw
                    obtain ⟨s0, s1, s2, s3⟩ := hSw
                    go_simp
                    try with_reducible rfl
                    try omega
                  simp only [Act.put, List.setIfInBounds_toArray, List.set_cons_zero, List.set_cons_succ]
                  refine wpAnyH_take (i := 13) (oi := ⟨some 178, _, _, _, _, _⟩) (v := .pointer (some ⟨g, k * 19 + 2, none⟩)) rfl (by kernel_rfl) (by kernel_rfl) (by kernel_rfl) (fun _ _ _ h => h) (Or.inl ⟨by rfl, ?_⟩) hHeld ?_
                  · intro w' hSw
                    obtain ⟨s0, s1, s2, s3⟩ := hSw
                    go_simp
                    try with_reducible rfl
                    try omega
                  simp only [Act.put, List.setIfInBounds_toArray, List.set_cons_zero, List.set_cons_succ]
                  refine wpAnyH_take (i := 14) (oi := ⟨some 179, _, _, _, _, _⟩) (v := .agg (pgC x.1.pg)) rfl (by kernel_rfl) (by kernel_rfl) (by kernel_rfl) (fun _ _ _ h => h) (yieldsIf_load_mid (by rfl) _ _ rfl g (k * 19 + 2) rfl (pgC x.1.pg).toList _ (fun _ h => h.2.1) Tryd.underlying41 rfl (by kernel_rfl)) hHeld ?_
                  simp only [Act.put, List.setIfInBounds_toArray, List.set_cons_zero, List.set_cons_succ]
                  refine wpAnyH_take (i := 15) (oi := ⟨some 180, _, _, _, _, _⟩) (v := .agg (pgC P)) rfl (by kernel_rfl) (by kernel_rfl) (by kernel_rfl) (fun _ _ _ h => h) (yieldsIf_load_mid (by rfl) _ _ rfl w9.heap.size 0 rfl (pgC P).toList _ (fun _ h => range_of h.2.2.2) Tryd.underlying41 rfl (by kernel_rfl)) hHeld ?_
                  simp only [Act.put, List.setIfInBounds_toArray, List.set_cons_zero, List.set_cons_succ]
                  refine wpAnyH_take (i := 16) (oi := ⟨some 181, _, _, _, _, _⟩) (v := .bool false) rfl (by kernel_rfl) (by kernel_rfl) (by kernel_rfl) (fun _ _ _ h => h) (Or.inl ⟨by rfl, fun w' _ => run_eq_op _ _ _ rfl x.1.pg P false hpg.out rfl rfl w'⟩) hHeld ?_
                  simp only [Act.put, List.setIfInBounds_toArray, List.set_cons_zero, List.set_cons_succ]
                  refine wpAnyH_take (i := 17) (oi := ⟨some 182, _, _, _, _, _⟩) (v := ?_) rfl (by kernel_rfl) (by kernel_rfl) (by kernel_rfl) (fun _ _ _ h => h) (Or.inl ⟨by rfl, ?_⟩) hHeld ?_
                  rotate_left
                  · intro w' hSw
                    obtain ⟨s0, s1, s2, s3⟩ := hSw
                    go_simp
                    try with_reducible rfl
                    try omega
                  simp only [Act.put, List.setIfInBounds_toArray, List.set_cons_zero, List.set_cons_succ]
                  refine wpAnyH_take (i := 18) (oi := ⟨some 183, _, _, _, _, _⟩) (v := ?_) rfl (by kernel_rfl) (by kernel_rfl) (by kernel_rfl) (fun _ _ _ h => h) (Or.inl ⟨by rfl, ?_⟩) hHeld ?_
                  rotate_left
                  · intro w' hSw
                    obtain ⟨s0, s1, s2, s3⟩ := hSw
                    go_simp
                    try with_reducible rfl
                    try omega
                  simp only [Act.put, List.setIfInBounds_toArray, List.set_cons_zero, List.set_cons_succ]
                  refine wpAnyH_take (i := 19) (oi := ⟨some 184, _, _, _, _, _⟩) (v := undef) rfl (by kernel_rfl) (by kernel_rfl) (by kernel_rfl) (fun _ _ _ h => h) (Or.inr ⟨by rfl, rfl⟩) hHeld ?_
                  simp only [Act.put, List.setIfInBounds_toArray, List.set_cons_zero, List.set_cons_succ]
                  refine wpAnyH_take (i := 20) (oi := ⟨some 185, _, _, _, _, _⟩) (v := undef) rfl (by kernel_rfl) (by kernel_rfl) (by kernel_rfl) (fun _ _ _ h => h) (Or.inr ⟨by rfl, rfl⟩) hHeld ?_
                  simp only [Act.put, List.setIfInBounds_toArray, List.set_cons_zero, List.set_cons_succ]
                  refine wpAnyH_take (i := 21) (oi := ⟨some 186, _, _, _, _, _⟩) (v := undef) rfl (by kernel_rfl) (by kernel_rfl) (by kernel_rfl) (fun _ _ _ h => h) (Or.inr ⟨by rfl, rfl⟩) hHeld ?_
                  simp only [Act.put, List.setIfInBounds_toArray, List.set_cons_zero, List.set_cons_succ]
                  refine wpAnyH_take (i := 22) (oi := ⟨some 187, _, _, _, _, _⟩) (v := undef) rfl (by kernel_rfl) (by kernel_rfl) (by kernel_rfl) (fun _ _ _ h => h) (Or.inr ⟨by rfl, rfl⟩) hHeld ?_
                  simp only [Act.put, List.setIfInBounds_toArray, List.set_cons_zero, List.set_cons_succ]
                  refine wpAnyH_take (i := 23) (oi := ⟨some 188, _, _, _, _, _⟩) (v := undef) rfl (by kernel_rfl) (by kernel_rfl) (by kernel_rfl) (fun _ _ _ h => h) (Or.inr ⟨by rfl, rfl⟩) hHeld ?_
                  simp only [Act.put, List.setIfInBounds_toArray, List.set_cons_zero, List.set_cons_succ]
                  refine wpAnyH_take (i := 24) (oi := ⟨some 189, _, _, _, _, _⟩) (v := undef) rfl (by kernel_rfl) (by kernel_rfl) (by kernel_rfl) (fun _ _ _ h => h) (Or.inr ⟨by rfl, rfl⟩) hHeld ?_
                  simp only [Act.put, List.setIfInBounds_toArray, List.set_cons_zero, List.set_cons_succ]
                  refine wpAnyH_take (i := 25) (oi := ⟨some 190, _, _, _, _, _⟩) (v := undef) rfl (by kernel_rfl) (by kernel_rfl) (by kernel_rfl) (fun _ _ _ h => h) (Or.inr ⟨by rfl, rfl⟩) hHeld ?_
                  simp only [Act.put, List.setIfInBounds_toArray, List.set_cons_zero, List.set_cons_succ]
                  refine wpAnyH_take (i := 26) (oi := ⟨some 191, _, _, _, _, _⟩) (v := ?_) rfl (by kernel_rfl) (by kernel_rfl) (by kernel_rfl) (fun _ _ _ h => h) (Or.inl ⟨by rfl, ?_⟩) hHeld ?_
                  rotate_left
                  · intro w' hSw
                    obtain ⟨s0, s1, s2, s3⟩ := hSw
                    go_simp
                    try with_reducible rfl
                    try omega
                  simp only [Act.put, List.setIfInBounds_toArray, List.set_cons_zero, List.set_cons_succ]
                  refine wpAnyH_take (i := 27) (oi := ⟨some 192, _, _, _, _, _⟩) (v := ?_) rfl (by kernel_rfl) (by kernel_rfl) (by kernel_rfl) (fun _ _ _ h => h) (Or.inl ⟨by rfl, ?_⟩) hHeld ?_
                  rotate_left
                  · intro w' hSw
                    obtain ⟨s0, s1, s2, s3⟩ := hSw
                    go_simp
                    try with_reducible rfl
                    try omega
                  simp only [Act.put, List.setIfInBounds_toArray, List.set_cons_zero, List.set_cons_succ]
                  refine wpAnyH_take (i := 28) (oi := ⟨some 29, _, _, _, _, _⟩) (v := ?_) rfl (by kernel_rfl) (by kernel_rfl) (by kernel_rfl) (fun _ _ _ h => h) (Or.inl ⟨by rfl, ?_⟩) hHeld ?_
                  rotate_left
                  · intro w' hSw
                    obtain ⟨s0, s1, s2, s3⟩ := hSw
                    go_simp
                    try with_reducible rfl
                    try omega
                  simp only [Act.put, List.setIfInBounds_toArray, List.set_cons_zero, List.set_cons_succ]
                  clear hHeld
                  refine wpAnyH_done (by kernel_rfl) ?_ _
                  go_wp2_with fail
                  go_roundw
                  case rel => exact ⟨k + 1, by omega, rfl, false, rfl, hnext.out false (fun h => h) (fun _ h => by rw [hpg.out] at h; cases h), HBz⟩
                  case measure => simp [intOf]; omega
                | true =>
                  have hpg := Lib.hid hpgb
                  clear hpgb
                  by_cases hst : x.2 = st
                  · have hstq : (x.2 == st) = true := by simpa using hst
                    replace hst := Lib.hid hst
                    refine wp_region_held_drew (S := FdS g g2 w9.heap.size k x P) (by kernel_rfl) hS0 (fun hHeld => ?_)
                    clear hS0
                    refine wpAnyH_take (i := 0) (oi := ⟨some 165, _, _, _, _, _⟩) (v := ?_) rfl (by kernel_rfl) (by kernel_rfl) (by kernel_rfl) (fun _ _ _ h => h) (Or.inl ⟨by rfl, ?_⟩) hHeld ?_
                    rotate_left
                    · intro w' hSw
                      obtain ⟨s0, s1, s2, s3⟩ := hSw
                      go_simp
                      try with_reducible rfl
                      try omega
                    simp only [Act.put, List.setIfInBounds_toArray, List.set_cons_zero, List.set_cons_succ]
                    refine wpAnyH_take (i := 1) (oi := ⟨some 166, _, _, _, _, _⟩) (v := ?_) rfl (by kernel_rfl) (by kernel_rfl) (by kernel_rfl) (fun _ _ _ h => h) (Or.inl ⟨by rfl, ?_⟩) hHeld ?_
                    rotate_left
                    · intro w' hSw
                      obtain ⟨s0, s1, s2, s3⟩ := hSw
                      go_simp
                      try with_reducible rfl
                      try omega
                    simp only [Act.put, List.setIfInBounds_toArray, List.set_cons_zero, List.set_cons_succ]
                    refine wpAnyH_take (i := 2) (oi := ⟨some 167, _, _, _, _, _⟩) (v := ?_) rfl (by kernel_rfl) (by kernel_rfl) (by kernel_rfl) (fun _ _ _ h => h) (Or.inl ⟨by rfl, ?_⟩) hHeld ?_
                    rotate_left
                    · intro w' hSw
                      obtain ⟨s0, s1, s2, s3⟩ := hSw
                      go_simp
                      try with_reducible rfl
                      try omega
                    simp only [Act.put, List.setIfInBounds_toArray, List.set_cons_zero, List.set_cons_succ]
                    refine wpAnyH_take (i := 3) (oi := ⟨some 168, _, _, _, _, _⟩) (v := ?_) rfl (by kernel_rfl) (by kernel_rfl) (by kernel_rfl) (fun _ _ _ h => h) (Or.inl ⟨by rfl, ?_⟩) hHeld ?_
                    rotate_left
                    · intro w' hSw
                      obtain ⟨s0, s1, s2, s3⟩ := hSw
                      go_simp
                      try with_reducible rfl
                      try omega
                    simp only [Act.put, List.setIfInBounds_toArray, List.set_cons_zero, List.set_cons_succ]
                    refine wpAnyH_take (i := 4) (oi := ⟨some 169, _, _, _, _, _⟩) (v := .pointer (some ⟨g, k * 19, none⟩)) rfl (by kernel_rfl) (by kernel_rfl) (by kernel_rfl) (fun _ _ _ h => h) (Or.inl ⟨by rfl, ?_⟩) hHeld ?_
                    · intro w' hSw
                      obtain ⟨s0, s1, s2, s3⟩ := hSw
                      go_simp
                      try with_reducible rfl
                      try omega
                    simp only [Act.put, List.setIfInBounds_toArray, List.set_cons_zero, List.set_cons_succ]
                    refine wpAnyH_take (i := 5) (oi := ⟨some 170, _, _, _, _, _⟩) (v := .pointer (some ⟨g, k * 19 + 1, none⟩)) rfl (by kernel_rfl) (by kernel_rfl) (by kernel_rfl) (fun _ _ _ h => h) (Or.inl ⟨by rfl, ?_⟩) hHeld ?_
                    · intro w' hSw
                      obtain ⟨s0, s1, s2, s3⟩ := hSw
                      go_simp
                      try with_reducible rfl
                      try omega
                    simp only [Act.put, List.setIfInBounds_toArray, List.set_cons_zero, List.set_cons_succ]
                    refine wpAnyH_take (i := 6) (oi := ⟨some 171, _, _, _, _, _⟩) (v := ?_) rfl (by kernel_rfl) (by kernel_rfl) (by kernel_rfl) (fun _ _ _ h => h) (Or.inl ⟨by rfl, ?_⟩) hHeld ?_
                    rotate_left
                    · intro w' hSw
                      obtain ⟨s0, s1, s2, s3⟩ := hSw
                      go_simp
                      try with_reducible rfl
                      try omega
                    simp only [Act.put, List.setIfInBounds_toArray, List.set_cons_zero, List.set_cons_succ]
                    refine wpAnyH_take (i := 7) (oi := ⟨some 172, _, _, _, _, _⟩) (v := ?_) rfl (by kernel_rfl) (by kernel_rfl) (by kernel_rfl) (fun _ _ _ h => h) (Or.inl ⟨by rfl, ?_⟩) hHeld ?_
                    rotate_left
                    · intro w' hSw
                      obtain ⟨s0, s1, s2, s3⟩ := hSw
                      go_simp
                      try with_reducible rfl
                      try omega
                    simp only [Act.put, List.setIfInBounds_toArray, List.set_cons_zero, List.set_cons_succ]
                    refine wpAnyH_take (i := 8) (oi := ⟨some 173, _, _, _, _, _⟩) (v := .bool true) rfl (by kernel_rfl) (by kernel_rfl) (by kernel_rfl) (fun _ _ _ h => h) (Or.inl ⟨by rfl, ?_⟩) hHeld ?_
                    · intro w' hSw
                      obtain ⟨s0, s1, s2, s3⟩ := hSw
                      go_simp
                      try with_reducible rfl
                      try omega
                    simp only [Act.put, List.setIfInBounds_toArray, List.set_cons_zero, List.set_cons_succ]
                    refine wpAnyH_take (i := 9) (oi := ⟨some 174, _, _, _, _, _⟩) (v := ?_) rfl (by kernel_rfl) (by kernel_rfl) (by kernel_rfl) (fun _ _ _ h => h) (Or.inl ⟨by rfl, ?_⟩) hHeld ?_
                    rotate_left
                    · intro w' hSw
                      obtain ⟨s0, s1, s2, s3⟩ := hSw
                      go_simp
                      try with_reducible rfl
                      try omega
                    simp only [Act.put, List.setIfInBounds_toArray, List.set_cons_zero, List.set_cons_succ]
                    refine wpAnyH_take (i := 10) (oi := ⟨some 175, _, _, _, _, _⟩) (v := ?_) rfl (by kernel_rfl) (by kernel_rfl) (by kernel_rfl) (fun _ _ _ h => h) (Or.inl ⟨by rfl, ?_⟩) hHeld ?_
                    rotate_left
                    · intro w' hSw
                      obtain ⟨s0, s1, s2, s3⟩ := hSw
                      go_simp
                      try with_reducible rfl
                      try omega
                    simp only [Act.put, List.setIfInBounds_toArray, List.set_cons_zero, List.set_cons_succ]
                    refine wpAnyH_take (i := 11) (oi := ⟨some 176, _, _, _, _, _⟩) (v := ?_) rfl (by kernel_rfl) (by kernel_rfl) (by kernel_rfl) (fun _ _ _ h => h) (Or.inl ⟨by rfl, ?_⟩) hHeld ?_
                    rotate_left
                    · intro w' hSw
                      obtain ⟨s0, s1, s2, s3⟩ := hSw
                      go_simp
                      try with_reducible rfl
                      try omega
                    simp only [Act.put, List.setIfInBounds_toArray, List.set_cons_zero, List.set_cons_succ]
                    refine wpAnyH_take (i := 12) (oi := ⟨some 177, _, _, _, _, _⟩) (v := .pointer (some ⟨g, k * 19, none⟩)) rfl (by kernel_rfl) (by kernel_rfl) (by kernel_rfl) (fun _ _ _ h => h) (Or.inl ⟨by rfl, ?_⟩) hHeld ?_
                    · intro w' hSw
                      obtain ⟨s0, s1, s2, s3⟩ := hSw
                      go_simp
                      try with_reducible rfl
                      try omega
                    simp only [Act.put, List.setIfInBounds_toArray, List.set_cons_zero, List.set_cons_succ]
                    refine wpAnyH_take (i := 13) (oi := ⟨some 178, _, _, _, _, _⟩) (v := .pointer (some ⟨g, k * 19 + 2, none⟩)) rfl (by kernel_rfl) (by kernel_rfl) (by kernel_rfl) (fun _ _ _ h => h) (Or.inl ⟨by rfl, ?_⟩) hHeld ?_
                    · intro w' hSw
                      obtain ⟨s0, s1, s2, s3⟩ := hSw
                      go_simp
                      try with_reducible rfl
                      try omega
                    simp only [Act.put, List.setIfInBounds_toArray, List.set_cons_zero, List.set_cons_succ]
                    refine wpAnyH_take (i := 14) (oi := ⟨some 179, _, _, _, _, _⟩) (v := .agg (pgC x.1.pg)) rfl (by kernel_rfl) (by kernel_rfl) (by kernel_rfl) (fun _ _ _ h => h) (yieldsIf_load_mid (by rfl) _ _ rfl g (k * 19 + 2) rfl (pgC x.1.pg).toList _ (fun _ h => h.2.1) Tryd.underlying41 rfl (by kernel_rfl)) hHeld ?_
                    simp only [Act.put, List.setIfInBounds_toArray, List.set_cons_zero, List.set_cons_succ]
                    refine wpAnyH_take (i := 15) (oi := ⟨some 180, _, _, _, _, _⟩) (v := .agg (pgC P)) rfl (by kernel_rfl) (by kernel_rfl) (by kernel_rfl) (fun _ _ _ h => h) (yieldsIf_load_mid (by rfl) _ _ rfl w9.heap.size 0 rfl (pgC P).toList _ (fun _ h => range_of h.2.2.2) Tryd.underlying41 rfl (by kernel_rfl)) hHeld ?_
                    simp only [Act.put, List.setIfInBounds_toArray, List.set_cons_zero, List.set_cons_succ]
                    refine wpAnyH_take (i := 16) (oi := ⟨some 181, _, _, _, _, _⟩) (v := .bool true) rfl (by kernel_rfl) (by kernel_rfl) (by kernel_rfl) (fun _ _ _ h => h) (Or.inl ⟨by rfl, fun w' _ => run_eq_op _ _ _ rfl x.1.pg P true hpg.out rfl rfl w'⟩) hHeld ?_
                    simp only [Act.put, List.setIfInBounds_toArray, List.set_cons_zero, List.set_cons_succ]
                    refine wpAnyH_take (i := 17) (oi := ⟨some 182, _, _, _, _, _⟩) (v := ?_) rfl (by kernel_rfl) (by kernel_rfl) (by kernel_rfl) (fun _ _ _ h => h) (Or.inl ⟨by rfl, ?_⟩) hHeld ?_
                    rotate_left
                    · intro w' hSw
                      obtain ⟨s0, s1, s2, s3⟩ := hSw
                      go_simp
                      try with_reducible rfl
                      try omega
                    simp only [Act.put, List.setIfInBounds_toArray, List.set_cons_zero, List.set_cons_succ]
                    refine wpAnyH_take (i := 18) (oi := ⟨some 183, _, _, _, _, _⟩) (v := ?_) rfl (by kernel_rfl) (by kernel_rfl) (by kernel_rfl) (fun _ _ _ h => h) (Or.inl ⟨by rfl, ?_⟩) hHeld ?_
                    rotate_left
                    · intro w' hSw
                      obtain ⟨s0, s1, s2, s3⟩ := hSw
                      go_simp
                      try with_reducible rfl
                      try omega
                    simp only [Act.put, List.setIfInBounds_toArray, List.set_cons_zero, List.set_cons_succ]
                    refine wpAnyH_take (i := 19) (oi := ⟨some 184, _, _, _, _, _⟩) (v := ?_) rfl (by kernel_rfl) (by kernel_rfl) (by kernel_rfl) (fun _ _ _ h => h) (Or.inl ⟨by rfl, ?_⟩) hHeld ?_
                    rotate_left
                    · intro w' hSw
                      obtain ⟨s0, s1, s2, s3⟩ := hSw
                      go_simp
                      try with_reducible rfl
                      try omega
                    simp only [Act.put, List.setIfInBounds_toArray, List.set_cons_zero, List.set_cons_succ]
                    refine wpAnyH_take (i := 20) (oi := ⟨some 185, _, _, _, _, _⟩) (v := ?_) rfl (by kernel_rfl) (by kernel_rfl) (by kernel_rfl) (fun _ _ _ h => h) (Or.inl ⟨by rfl, ?_⟩) hHeld ?_
                    rotate_left
                    · intro w' hSw
                      obtain ⟨s0, s1, s2, s3⟩ := hSw
                      go_simp
                      try with_reducible rfl
                      try omega
                    simp only [Act.put, List.setIfInBounds_toArray, List.set_cons_zero, List.set_cons_succ]
                    refine wpAnyH_take (i := 21) (oi := ⟨some 186, _, _, _, _, _⟩) (v := .pointer (some ⟨g2, k, none⟩)) rfl (by kernel_rfl) (by kernel_rfl) (by kernel_rfl) (fun _ _ _ h => h) (Or.inl ⟨by rfl, ?_⟩) hHeld ?_
                    · intro w' hSw
                      obtain ⟨s0, s1, s2, s3⟩ := hSw
                      go_simp
                      try with_reducible rfl
                      try omega
                    simp only [Act.put, List.setIfInBounds_toArray, List.set_cons_zero, List.set_cons_succ]
                    refine wpAnyH_take (i := 22) (oi := ⟨some 187, _, _, _, _, _⟩) (v := ?_) rfl (by kernel_rfl) (by kernel_rfl) (by kernel_rfl) (fun _ _ _ h => h) (Or.inl ⟨by rfl, ?_⟩) hHeld ?_
                    rotate_left
                    · intro w' hSw
                      obtain ⟨s0, s1, s2, s3⟩ := hSw
                      go_simp
                      try with_reducible rfl
                      try omega
                    simp only [Act.put, List.setIfInBounds_toArray, List.set_cons_zero, List.set_cons_succ]
                    refine wpAnyH_take (i := 23) (oi := ⟨some 188, _, _, _, _, _⟩) (v := .int .u64 x.2) rfl (by kernel_rfl) (by kernel_rfl) (by kernel_rfl) (fun _ _ _ h => h) (Or.inl ⟨by rfl, ?_⟩) hHeld ?_
                    · intro w' hSw
                      obtain ⟨s0, s1, s2, s3⟩ := hSw
                      go_simp
                      try with_reducible rfl
                      try omega
                    simp only [Act.put, List.setIfInBounds_toArray, List.set_cons_zero, List.set_cons_succ]
                    refine wpAnyH_take (i := 24) (oi := ⟨some 189, _, _, _, _, _⟩) (v := ?_) rfl (by kernel_rfl) (by kernel_rfl) (by kernel_rfl) (fun _ _ _ h => h) (Or.inl ⟨by rfl, ?_⟩) hHeld ?_
                    rotate_left
                    · intro w' hSw
                      obtain ⟨s0, s1, s2, s3⟩ := hSw
                      go_simp
                      try with_reducible rfl
                      try omega
                    simp only [Act.put, List.setIfInBounds_toArray, List.set_cons_zero, List.set_cons_succ]
                    refine wpAnyH_take (i := 25) (oi := ⟨some 190, _, _, _, _, _⟩) (v := .bool true) rfl (by kernel_rfl) (by kernel_rfl) (by kernel_rfl) (fun _ _ _ h => h) (Or.inl ⟨by rfl, ?_⟩) hHeld ?_
                    · intro w' hSw
                      obtain ⟨s0, s1, s2, s3⟩ := hSw
                      go_simp
                      try with_reducible rfl
                      try omega
                    simp only [Act.put, List.setIfInBounds_toArray, List.set_cons_zero, List.set_cons_succ]
                    refine wpAnyH_take (i := 26) (oi := ⟨some 191, _, _, _, _, _⟩) (v := ?_) rfl (by kernel_rfl) (by kernel_rfl) (by kernel_rfl) (fun _ _ _ h => h) (Or.inl ⟨by rfl, ?_⟩) hHeld ?_
                    rotate_left
                    · intro w' hSw
                      obtain ⟨s0, s1, s2, s3⟩ := hSw
                      go_simp
                      try with_reducible rfl
                      try omega
                    simp only [Act.put, List.setIfInBounds_toArray, List.set_cons_zero, List.set_cons_succ]
                    refine wpAnyH_take (i := 27) (oi := ⟨some 192, _, _, _, _, _⟩) (v := ?_) rfl (by kernel_rfl) (by kernel_rfl) (by kernel_rfl) (fun _ _ _ h => h) (Or.inl ⟨by rfl, ?_⟩) hHeld ?_
                    rotate_left
                    · intro w' hSw
                      obtain ⟨s0, s1, s2, s3⟩ := hSw
                      go_simp
                      try with_reducible rfl
                      try omega
                    simp only [Act.put, List.setIfInBounds_toArray, List.set_cons_zero, List.set_cons_succ]
                    refine wpAnyH_take (i := 28) (oi := ⟨some 29, _, _, _, _, _⟩) (v := ?_) rfl (by kernel_rfl) (by kernel_rfl) (by kernel_rfl) (fun _ _ _ h => h) (Or.inl ⟨by rfl, ?_⟩) hHeld ?_
                    rotate_left
                    · intro w' hSw
                      obtain ⟨s0, s1, s2, s3⟩ := hSw
                      go_simp
                      try with_reducible rfl
                      try omega
                    simp only [Act.put, List.setIfInBounds_toArray, List.set_cons_zero, List.set_cons_succ]
                    clear hHeld
                    refine wpAnyH_done (by kernel_rfl) ?_ _
                    go_wp2_with fail
                    go_roundw
                    case rel => exact ⟨k + 1, by omega, rfl, true, rfl, .inl rfl, HBz⟩
                    case measure => simp [intOf]; omega
                  · have hstq : (x.2 == st) = false := by simpa using hst
                    replace hst := Lib.hid hst
                    refine wp_region_held_drew (S := FdS g g2 w9.heap.size k x P) (by kernel_rfl) hS0 (fun hHeld => ?_)
                    clear hS0
                    refine wpAnyH_take (i := 0) (oi := ⟨some 165, _, _, _, _, _⟩) (v := ?_) rfl (by kernel_rfl) (by kernel_rfl) (by kernel_rfl) (fun _ _ _ h => h) (Or.inl ⟨by rfl, ?_⟩) hHeld ?_
                    rotate_left
                    · intro w' hSw
                      obtain ⟨s0, s1, s2, s3⟩ := hSw
                      go_simp
                      try with_reducible rfl
                      try omega
                    simp only [Act.put, List.setIfInBounds_toArray, List.set_cons_zero, List.set_cons_succ]
                    refine wpAnyH_take (i := 1) (oi := ⟨some 166, _, _, _, _, _⟩) (v := ?_) rfl (by kernel_rfl) (by kernel_rfl) (by kernel_rfl) (fun _ _ _ h => h) (Or.inl ⟨by rfl, ?_⟩) hHeld ?_
                    rotate_left
                    · intro w' hSw
                      obtain ⟨s0, s1, s2, s3⟩ := hSw
                      go_simp
                      try with_reducible rfl
                      try omega
                    simp only [Act.put, List.setIfInBounds_toArray, List.set_cons_zero, List.set_cons_succ]
                    refine wpAnyH_take (i := 2) (oi := ⟨some 167, _, _, _, _, _⟩) (v := ?_) rfl (by kernel_rfl) (by kernel_rfl) (by kernel_rfl) (fun _ _ _ h => h) (Or.inl ⟨by rfl, ?_⟩) hHeld ?_
                    rotate_left
                    · intro w' hSw
                      obtain ⟨s0, s1, s2, s3⟩ := hSw
                      go_simp
                      try with_reducible rfl
                      try omega
                    simp only [Act.put, List.setIfInBounds_toArray, List.set_cons_zero, List.set_cons_succ]
                    refine wpAnyH_take (i := 3) (oi := ⟨some 168, _, _, _, _, _⟩) (v := ?_) rfl (by kernel_rfl) (by kernel_rfl) (by kernel_rfl) (fun _ _ _ h => h) (Or.inl ⟨by rfl, ?_⟩) hHeld ?_
                    rotate_left
                    · intro w' hSw
                      obtain ⟨s0, s1, s2, s3⟩ := hSw
                      go_simp
                      try with_reducible rfl
                      try omega
                    simp only [Act.put, List.setIfInBounds_toArray, List.set_cons_zero, List.set_cons_succ]
                    refine wpAnyH_take (i := 4) (oi := ⟨some 169, _, _, _, _, _⟩) (v := .pointer (some ⟨g, k * 19, none⟩)) rfl (by kernel_rfl) (by kernel_rfl) (by kernel_rfl) (fun _ _ _ h => h) (Or.inl ⟨by rfl, ?_⟩) hHeld ?_
                    · intro w' hSw
                      obtain ⟨s0, s1, s2, s3⟩ := hSw
                      go_simp
                      try with_reducible rfl
                      try omega
                    simp only [Act.put, List.setIfInBounds_toArray, List.set_cons_zero, List.set_cons_succ]
                    refine wpAnyH_take (i := 5) (oi := ⟨some 170, _, _, _, _, _⟩) (v := .pointer (some ⟨g, k * 19 + 1, none⟩)) rfl (by kernel_rfl) (by kernel_rfl) (by kernel_rfl) (fun _ _ _ h => h) (Or.inl ⟨by rfl, ?_⟩) hHeld ?_
                    · intro w' hSw
                      obtain ⟨s0, s1, s2, s3⟩ := hSw
                      go_simp
                      try with_reducible rfl
                      try omega
                    simp only [Act.put, List.setIfInBounds_toArray, List.set_cons_zero, List.set_cons_succ]
                    refine wpAnyH_take (i := 6) (oi := ⟨some 171, _, _, _, _, _⟩) (v := ?_) rfl (by kernel_rfl) (by kernel_rfl) (by kernel_rfl) (fun _ _ _ h => h) (Or.inl ⟨by rfl, ?_⟩) hHeld ?_
                    rotate_left
                    · intro w' hSw
                      obtain ⟨s0, s1, s2, s3⟩ := hSw
                      go_simp
                      try with_reducible rfl
                      try omega
                    simp only [Act.put, List.setIfInBounds_toArray, List.set_cons_zero, List.set_cons_succ]
                    refine wpAnyH_take (i := 7) (oi := ⟨some 172, _, _, _, _, _⟩) (v := ?_) rfl (by kernel_rfl) (by kernel_rfl) (by kernel_rfl) (fun _ _ _ h => h) (Or.inl ⟨by rfl, ?_⟩) hHeld ?_
                    rotate_left
                    · intro w' hSw
                      obtain ⟨s0, s1, s2, s3⟩ := hSw
                      go_simp
                      try with_reducible rfl
                      try omega
                    simp only [Act.put, List.setIfInBounds_toArray, List.set_cons_zero, List.set_cons_succ]
                    refine wpAnyH_take (i := 8) (oi := ⟨some 173, _, _, _, _, _⟩) (v := .bool true) rfl (by kernel_rfl) (by kernel_rfl) (by kernel_rfl) (fun _ _ _ h => h) (Or.inl ⟨by rfl, ?_⟩) hHeld ?_
                    · intro w' hSw
                      obtain ⟨s0, s1, s2, s3⟩ := hSw
                      go_simp
                      try with_reducible rfl
                      try omega
                    simp only [Act.put, List.setIfInBounds_toArray, List.set_cons_zero, List.set_cons_succ]
                    refine wpAnyH_take (i := 9) (oi := ⟨some 174, _, _, _, _, _⟩) (v := ?_) rfl (by kernel_rfl) (by kernel_rfl) (by kernel_rfl) (fun _ _ _ h => h) (Or.inl ⟨by rfl, ?_⟩) hHeld ?_
                    rotate_left
                    · intro w' hSw
                      obtain ⟨s0, s1, s2, s3⟩ := hSw
                      go_simp
                      try with_reducible rfl
                      try omega
                    simp only [Act.put, List.setIfInBounds_toArray, List.set_cons_zero, List.set_cons_succ]
                    refine wpAnyH_take (i := 10) (oi := ⟨some 175, _, _, _, _, _⟩) (v := ?_) rfl (by kernel_rfl) (by kernel_rfl) (by kernel_rfl) (fun _ _ _ h => h) (Or.inl ⟨by rfl, ?_⟩) hHeld ?_
                    rotate_left
                    · intro w' hSw
                      obtain ⟨s0, s1, s2, s3⟩ := hSw
                      go_simp
                      try with_reducible rfl
                      try omega
                    simp only [Act.put, List.setIfInBounds_toArray, List.set_cons_zero, List.set_cons_succ]
                    refine wpAnyH_take (i := 11) (oi := ⟨some 176, _, _, _, _, _⟩) (v := ?_) rfl (by kernel_rfl) (by kernel_rfl) (by kernel_rfl) (fun _ _ _ h => h) (Or.inl ⟨by rfl, ?_⟩) hHeld ?_
                    rotate_left
                    · intro w' hSw
                      obtain ⟨s0, s1, s2, s3⟩ := hSw
                      go_simp
                      try with_reducible rfl
                      try omega
                    simp only [Act.put, List.setIfInBounds_toArray, List.set_cons_zero, List.set_cons_succ]
                    refine wpAnyH_take (i := 12) (oi := ⟨some 177, _, _, _, _, _⟩) (v := .pointer (some ⟨g, k * 19, none⟩)) rfl (by kernel_rfl) (by kernel_rfl) (by kernel_rfl) (fun _ _ _ h => h) (Or.inl ⟨by rfl, ?_⟩) hHeld ?_
                    · intro w' hSw
                      obtain ⟨s0, s1, s2, s3⟩ := hSw
                      go_simp
                      try with_reducible rfl
                      try omega
                    simp only [Act.put, List.setIfInBounds_toArray, List.set_cons_zero, List.set_cons_succ]
                    refine wpAnyH_take (i := 13) (oi := ⟨some 178, _, _, _, _, _⟩) (v := .pointer (some ⟨g, k * 19 + 2, none⟩)) rfl (by kernel_rfl) (by kernel_rfl) (by kernel_rfl) (fun _ _ _ h => h) (Or.inl ⟨by rfl, ?_⟩) hHeld ?_
                    · intro w' hSw
                      obtain ⟨s0, s1, s2, s3⟩ := hSw
                      go_simp
                      try with_reducible rfl
                      try omega
                    simp only [Act.put, List.setIfInBounds_toArray, List.set_cons_zero, List.set_cons_succ]
                    refine wpAnyH_take (i := 14) (oi := ⟨some 179, _, _, _, _, _⟩) (v := .agg (pgC x.1.pg)) rfl (by kernel_rfl) (by kernel_rfl) (by kernel_rfl) (fun _ _ _ h => h) (yieldsIf_load_mid (by rfl) _ _ rfl g (k * 19 + 2) rfl (pgC x.1.pg).toList _ (fun _ h => h.2.1) Tryd.underlying41 rfl (by kernel_rfl)) hHeld ?_
                    simp only [Act.put, List.setIfInBounds_toArray, List.set_cons_zero, List.set_cons_succ]
                    refine wpAnyH_take (i := 15) (oi := ⟨some 180, _, _, _, _, _⟩) (v := .agg (pgC P)) rfl (by kernel_rfl) (by kernel_rfl) (by kernel_rfl) (fun _ _ _ h => h) (yieldsIf_load_mid (by rfl) _ _ rfl w9.heap.size 0 rfl (pgC P).toList _ (fun _ h => range_of h.2.2.2) Tryd.underlying41 rfl (by kernel_rfl)) hHeld ?_
                    simp only [Act.put, List.setIfInBounds_toArray, List.set_cons_zero, List.set_cons_succ]
                    refine wpAnyH_take (i := 16) (oi := ⟨some 181, _, _, _, _, _⟩) (v := .bool true) rfl (by kernel_rfl) (by kernel_rfl) (by kernel_rfl) (fun _ _ _ h => h) (Or.inl ⟨by rfl, fun w' _ => run_eq_op _ _ _ rfl x.1.pg P true hpg.out rfl rfl w'⟩) hHeld ?_
                    simp only [Act.put, List.setIfInBounds_toArray, List.set_cons_zero, List.set_cons_succ]
                    refine wpAnyH_take (i := 17) (oi := ⟨some 182, _, _, _, _, _⟩) (v := ?_) rfl (by kernel_rfl) (by kernel_rfl) (by kernel_rfl) (fun _ _ _ h => h) (Or.inl ⟨by rfl, ?_⟩) hHeld ?_
                    rotate_left
                    · intro w' hSw
                      obtain ⟨s0, s1, s2, s3⟩ := hSw
                      go_simp
                      try with_reducible rfl
                      try omega
                    simp only [Act.put, List.setIfInBounds_toArray, List.set_cons_zero, List.set_cons_succ]
                    refine wpAnyH_take (i := 18) (oi := ⟨some 183, _, _, _, _, _⟩) (v := ?_) rfl (by kernel_rfl) (by kernel_rfl) (by kernel_rfl) (fun _ _ _ h => h) (Or.inl ⟨by rfl, ?_⟩) hHeld ?_
                    rotate_left
                    · intro w' hSw
                      obtain ⟨s0, s1, s2, s3⟩ := hSw
                      go_simp
                      try with_reducible rfl
                      try omega
                    simp only [Act.put, List.setIfInBounds_toArray, List.set_cons_zero, List.set_cons_succ]
                    refine wpAnyH_take (i := 19) (oi := ⟨some 184, _, _, _, _, _⟩) (v := ?_) rfl (by kernel_rfl) (by kernel_rfl) (by kernel_rfl) (fun _ _ _ h => h) (Or.inl ⟨by rfl, ?_⟩) hHeld ?_
                    rotate_left
                    · intro w' hSw
                      obtain ⟨s0, s1, s2, s3⟩ := hSw
                      go_simp
                      try with_reducible rfl
                      try omega
                    simp only [Act.put, List.setIfInBounds_toArray, List.set_cons_zero, List.set_cons_succ]
                    refine wpAnyH_take (i := 20) (oi := ⟨some 185, _, _, _, _, _⟩) (v := ?_) rfl (by kernel_rfl) (by kernel_rfl) (by kernel_rfl) (fun _ _ _ h => h) (Or.inl ⟨by rfl, ?_⟩) hHeld ?_
                    rotate_left
                    · intro w' hSw
                      obtain ⟨s0, s1, s2, s3⟩ := hSw
                      go_simp
                      try with_reducible rfl
                      try omega
                    simp only [Act.put, List.setIfInBounds_toArray, List.set_cons_zero, List.set_cons_succ]
                    refine wpAnyH_take (i := 21) (oi := ⟨some 186, _, _, _, _, _⟩) (v := .pointer (some ⟨g2, k, none⟩)) rfl (by kernel_rfl) (by kernel_rfl) (by kernel_rfl) (fun _ _ _ h => h) (Or.inl ⟨by rfl, ?_⟩) hHeld ?_
                    · intro w' hSw
                      obtain ⟨s0, s1, s2, s3⟩ := hSw
                      go_simp
                      try with_reducible rfl
                      try omega
                    simp only [Act.put, List.setIfInBounds_toArray, List.set_cons_zero, List.set_cons_succ]
                    refine wpAnyH_take (i := 22) (oi := ⟨some 187, _, _, _, _, _⟩) (v := ?_) rfl (by kernel_rfl) (by kernel_rfl) (by kernel_rfl) (fun _ _ _ h => h) (Or.inl ⟨by rfl, ?_⟩) hHeld ?_
                    rotate_left
                    · intro w' hSw
                      obtain ⟨s0, s1, s2, s3⟩ := hSw
                      go_simp
                      try with_reducible rfl
                      try omega
                    simp only [Act.put, List.setIfInBounds_toArray, List.set_cons_zero, List.set_cons_succ]
                    refine wpAnyH_take (i := 23) (oi := ⟨some 188, _, _, _, _, _⟩) (v := .int .u64 x.2) rfl (by kernel_rfl) (by kernel_rfl) (by kernel_rfl) (fun _ _ _ h => h) (Or.inl ⟨by rfl, ?_⟩) hHeld ?_
                    · intro w' hSw
                      obtain ⟨s0, s1, s2, s3⟩ := hSw
                      go_simp
                      try with_reducible rfl
                      try omega
                    simp only [Act.put, List.setIfInBounds_toArray, List.set_cons_zero, List.set_cons_succ]
                    refine wpAnyH_take (i := 24) (oi := ⟨some 189, _, _, _, _, _⟩) (v := ?_) rfl (by kernel_rfl) (by kernel_rfl) (by kernel_rfl) (fun _ _ _ h => h) (Or.inl ⟨by rfl, ?_⟩) hHeld ?_
                    rotate_left
                    · intro w' hSw
                      obtain ⟨s0, s1, s2, s3⟩ := hSw
                      go_simp
                      try with_reducible rfl
                      try omega
                    simp only [Act.put, List.setIfInBounds_toArray, List.set_cons_zero, List.set_cons_succ]
                    refine wpAnyH_take (i := 25) (oi := ⟨some 190, _, _, _, _, _⟩) (v := .bool false) rfl (by kernel_rfl) (by kernel_rfl) (by kernel_rfl) (fun _ _ _ h => h) (Or.inl ⟨by rfl, ?_⟩) hHeld ?_
                    · intro w' hSw
                      obtain ⟨s0, s1, s2, s3⟩ := hSw
                      go_simp
                      try with_reducible rfl
                      try omega
                    simp only [Act.put, List.setIfInBounds_toArray, List.set_cons_zero, List.set_cons_succ]
                    refine wpAnyH_take (i := 26) (oi := ⟨some 191, _, _, _, _, _⟩) (v := ?_) rfl (by kernel_rfl) (by kernel_rfl) (by kernel_rfl) (fun _ _ _ h => h) (Or.inl ⟨by rfl, ?_⟩) hHeld ?_
                    rotate_left
                    · intro w' hSw
                      obtain ⟨s0, s1, s2, s3⟩ := hSw
                      go_simp
                      try with_reducible rfl
                      try omega
                    simp only [Act.put, List.setIfInBounds_toArray, List.set_cons_zero, List.set_cons_succ]
                    refine wpAnyH_take (i := 27) (oi := ⟨some 192, _, _, _, _, _⟩) (v := ?_) rfl (by kernel_rfl) (by kernel_rfl) (by kernel_rfl) (fun _ _ _ h => h) (Or.inl ⟨by rfl, ?_⟩) hHeld ?_
                    rotate_left
                    · intro w' hSw
                      obtain ⟨s0, s1, s2, s3⟩ := hSw
                      go_simp
                      try with_reducible rfl
                      try omega
                    simp only [Act.put, List.setIfInBounds_toArray, List.set_cons_zero, List.set_cons_succ]
                    refine wpAnyH_take (i := 28) (oi := ⟨some 29, _, _, _, _, _⟩) (v := ?_) rfl (by kernel_rfl) (by kernel_rfl) (by kernel_rfl) (fun _ _ _ h => h) (Or.inl ⟨by rfl, ?_⟩) hHeld ?_
                    rotate_left
                    · intro w' hSw
                      obtain ⟨s0, s1, s2, s3⟩ := hSw
                      go_simp
                      try with_reducible rfl
                      try omega
                    simp only [Act.put, List.setIfInBounds_toArray, List.set_cons_zero, List.set_cons_succ]
                    clear hHeld
                    refine wpAnyH_done (by kernel_rfl) ?_ _
                    go_wp2_with fail
                    go_roundw
                    case rel => exact ⟨k + 1, by omega, rfl, false, rfl, hnext.out false (fun h => h) (fun _ _ h => absurd h hst.out), HBz⟩
                    case measure => simp [intOf]; omega
            · obtain rfl : k = m := by omega
              obtain rfl : b = true := by
                rcases hb.out with h | h
                · exact h
                · omega
              have hkI : ¬ (k : Int) < k := by omega
              obtain ⟨ke, e0, hke, hee⟩ := HK2.out
              have hkem : ke < mE := by rw [← hmE.out]; exact (List.getElem?_eq_some_iff.1 hke).1
              have HKE := Lib.hid (And.intro hke hee)
              have HBk := Lib.hid HBy.out
              clear hb HK1 HK2 hke hee hk
              go_wp2_with fail
              go_loopw [196, 31] (fun y lg wy => ∃ (k2 : Nat), k2 ≤ mE ∧ y = .int .i64 k2 ∧ ∃ b : Bool, lg = .bool b ∧ Hid (b = true ∨ k2 ≤ ke) ∧ Hid (Below wa.heap.size wa wy)) (fun y _ _ => mE - (intOf y).toNat)
              case atStart => exact ⟨0, by omega, rfl, false, rfl, .inr (Nat.zero_le _), HBk⟩
              case round =>
                clear HBk HBy
                obtain ⟨k2, hk, rfl, b, rfl, hb, HBy⟩ := hrel
                by_cases hkm2 : k2 < mE
                · have hk2I : (k2 : Int) < mE := by omega
                  have hk20 : (0 : Int) ≤ k2 := by omega
                  have hk2w : IntKind.i64.wrap ((k2 : Int) + 1) = (k2 : Int) + 1 := by have := hmb.out; rw [IntKind.wrap_i64]; omega
                  obtain ⟨x, hx⟩ : ∃ x, E[k2]? = some x := ⟨_, List.getElem?_eq_getElem (by rw [hmE.out]; omega)⟩
                  have hEy := HE7.out.keep (Keeps.of_below (fun _ => False) (bT HBa.out HBy.out)) (fun _ _ h => h)
                  obtain ⟨g3, rfl⟩ := hEy.addr (by omega)
                  have hR : wr.rangeAt g3 (k2 * 2) [Value.int .i64 x.1, Value.string x.2] := fun j v hj => by
                    have hgt := recV_get E k2
                    rw [hx] at hgt
                    have h2 : (recV E)[2 * k2 + j]? = some v := by
                      match j, hj with
                      | 0, hj => rw [Nat.add_zero, hgt.1]; exact hj
                      | 1, hj => rw [hgt.2]; exact hj
                      | j + 2, hj => simp at hj
                    have := World.ownsRow.cells hEy (g := g3) rfl (2 * k2 + j) v h2
                    rw [Addr.add_mid, Nat.zero_add] at this
                    rw [Nat.mul_comm k2 2]
                    exact this
                  have HR := Lib.hid hR
                  have hx2 : 0 ≤ x.1 ∧ x.1 ≤ 10000 := hEb.out k2 x hx
                  have hxw : IntKind.u64.wrap x.1 = x.1 := by rw [IntKind.wrap_u64]; omega
                  have hnext : Hid (∀ b' : Bool, (b = true → b' = true) → (x.1 = st → b' = true) → b' = true ∨ k2 + 1 ≤ ke) := fun b' h1 h2 => by
                    rcases hb.out with h | h
                    · exact .inl (h1 h)
                    · rcases Nat.lt_or_ge k2 ke with h3 | h3
                      · exact .inr h3
                      · have : k2 = ke := by omega
                        subst this
                        obtain ⟨y1, y2⟩ := HKE.out
                        rw [hx] at y1
                        injection y1 with y1
                        subst y1
                        exact .inl (h2 y2)
                  have HNe : Hid ((wr.alloc (.cells #[.int .i64 0, .string .empty] 70)).heap[wr.heap.size]? = some (.cells #[.int .i64 0, .string .empty] 70 (0, 0))) := hN rfl
                  replace hb := Lib.hid hb
                  replace hk := Lib.hid hk
                  replace hx := Lib.hid hx
                  clear hR hEy
                  go_upto_region 52 with (first
                    | (refine wpList_load_mid rfl 70 _ rfl g3 (k2 * 2) rfl [Value.int .i64 x.1, Value.string x.2] _ HR.out Tryd.underlying70 rfl (by kernel_rfl) ?_)
                    | (refine wpList_store_whole rfl 70 _ _ rfl _ #[Value.int .i64 x.1, Value.string x.2] rfl rfl _ _ HNe.out rfl (by kernel_rfl) (by simp [Value.oneCell']) ?_; intro wb HCb Kb; (have HBb : Hid (Below wa.heap.size wa wb) := bT HBy.out (((Keeps.refl (fun _ => False) wr).alloc _).trans Kb.out (fun q hq e => by omega)).below); (have cb := cell_at HCb.out 0); clear HNe Kb HBy))
                  cases b with
                  | true =>
                    go_wp2_with fail
                    go_roundw
                    case rel => exact ⟨k2 + 1, by omega, rfl, true, rfl, .inl rfl, HBb⟩
                    case measure => simp [intOf]; omega
                  | false =>
                    by_cases hst : x.1 = st
                    · have hstq : (x.1 == st) = true := by simpa using hst
                      replace hst := Lib.hid hst
                      go_wp2_with fail
                      go_roundw
                      case rel => exact ⟨k2 + 1, by omega, rfl, true, rfl, .inl rfl, HBb⟩
                      case measure => simp [intOf]; omega
                    · have hstq : (x.1 == st) = false := by simpa using hst
                      replace hst := Lib.hid hst
                      go_wp2_with fail
                      go_roundw
                      case rel => exact ⟨k2 + 1, by omega, rfl, false, rfl, hnext.out false (fun h => h) (fun h => absurd h hst.out), HBb⟩
                      case measure => simp [intOf]; omega
                · obtain rfl : k2 = mE := by omega
                  obtain rfl : b = true := by
                    rcases hb.out with h | h
                    · exact h
                    · omega
                  have hk2I : ¬ (k2 : Int) < k2 := by omega
                  have HBq := Lib.hid (bT HBa.out HBy.out)
                  clear hb hk
                  go_wp2_with fail
                  go_roundw
                  case rel => exact ⟨q + 1, by omega, rfl, HBq⟩
                  case measure => simp [intOf]; omega
end Go.Proofs.YtdkilpjebmhkkaaDoor
