import Derived.Test.YtimomjheanfbmaaGreatDoorMbt
import Derived.Test.YtimomjheanfbmaaGreatDoorMbu
import Derived.BigRegion
import Derived.BigQuiet
import Derived.Great.BuildSlice
import Derived.Test.YtimomjheanfbmaaGreatDoorMbi
import Derived.WideShapes
set_option linter.unusedSimpArgs false
set_option linter.unusedVariables false
namespace Go.Proofs.YtimomjheanfbmaaGreatDoor
open Go.RowKit

/-! ### the document's pages -/
structure Mx (w : World) (m g : Nat) (f : Nat → Pg) : Prop where
  blkm : ∃ C, w.heap[m]? = some (.cells C 57 (0, 0)) ∧ C[6]? = some (.slice (some ⟨g, 0, none⟩) 6 6)
  row : OwnS w 49 16 (.slice (some ⟨g, 0, none⟩) 6 6) 6 (pgRow f 6)
  nd : m ≠ g
theorem Mx.cell {w : World} {m g : Nat} {f : Nat → Pg} (h : Mx w m g f) : w.cell? ⟨m, 6, none⟩ = some (.slice (some ⟨g, 0, none⟩) 6 6) := by
  obtain ⟨C, h1, h2⟩ := h.blkm
  rw [cell_at h1, h2]
theorem Mx.hm {w : World} {m g : Nat} {f : Nat → Pg} (h : Mx w m g f) : m < w.heap.size := by
  obtain ⟨C, h1, h2⟩ := h.blkm
  exact block_lt h1
theorem Mx.lt {w : World} {m g : Nat} {f : Nat → Pg} (h : Mx w m g f) : ∀ q ∈ [m, g], q < w.heap.size := fun q hq => by
  simp only [List.mem_cons, List.not_mem_nil, or_false] at hq
  rcases hq with rfl | rfl
  · exact h.hm
  · exact h.row.lt (by simp [blk, Value.ownBlock])
theorem Mx.keep {S : Nat → Prop} {w w' : World} {m g : Nat} {f : Nat → Pg} (h : Mx w m g f) (hk : Keeps S w w') (hS : ∀ q ∈ [m, g], ¬ S q) : Mx w' m g f :=
  ⟨by obtain ⟨C, h1, h2⟩ := h.blkm; exact ⟨C, hk.keep h1 (hS m (by simp)), h2⟩, h.row.keep hk (fun q hq => hS q (by simp [blk, Value.ownBlock] at hq; simp [hq])), h.nd⟩
theorem Mx.later {w w' : World} {m g : Nat} {f : Nat → Pg} (h : Mx w m g f) (hb : Below w.heap.size w w') : Mx w' m g f := h.keep (Keeps.of_below (fun _ => False) hb) (fun _ _ h => h)
theorem kp_set (w : World) (b j : Nat) (v : Value) : Keeps (· = b) w (w.setCell ⟨b, j, none⟩ v) := (Keeps.refl _ _).setCell _ _ (.inl rfl)
set_option maxRecDepth 100000 in
set_option maxHeartbeats 400000 in
theorem mx_new (a b c : Int) (w : World) : Calls Tryz.prog 11 #[.int .i64 a, .int .i64 b, .int .i64 c, .int .i64 6] w fun e w' => ∃ m g, e = .returned (.pointer (some ⟨m, 0, none⟩)) ∧ Mx w' m g (fun _ => pageZ) ∧ Below w.heap.size w w' ∧ w.heap.size ≤ m ∧ w.heap.size ≤ g := by
  obtain ⟨i0, hi, hz0, hz1, hz2⟩ := info_parts Tryz.info_page
  go_enter Tryz.func11, Tryz.ntmps11
  go_wp2_with (at_make; refine wpList_make_full _ rfl _ _ 55 rfl w.heap.size 49 i0 (.agg (pgC pageZ)) 16 Tryz.underlying55 hi hz0 hz1 _ _ _ _ 6 rfl rfl rfl rfl (by rw [hz2]; omega) (by unfold maxLen; omega) (Nat.le_refl _) ?_; rintro w1 hown hg; (have HO : Hid (OwnS w1 49 16 (.slice (some ⟨w.heap.size, 0, none⟩) 6 6) 6 (pgRow (fun i => (M0 i).1) 6)) := (by rw [← made_row 6]; exact OwnS.of hown)); (have HB2 : Hid (Below w.heap.size w w1) := (bR).grown hg (Nat.le_refl _) (by simp)); clear hown hg)
  go_ret
  have hlt := HO.out.lt (k := w.heap.size) (by simp [blk, Value.ownBlock])
  refine ⟨w1.heap.size, w.heap.size, rfl, ⟨⟨_, hN rfl, rfl⟩, HO.out.keep ((Keeps.refl (fun _ => False) w1).alloc _) (fun _ _ h => h), by omega⟩, bA HB2.out, HB2.out.size, Nat.le_refl _⟩
theorem step_buildSlice {P : Program} {ops : Array Oper} {o : Oper} {a : Act} {w : World} {K : Act → World → Prop} {Q : Exit → Act → World → Prop} {E : Prop} (hgd : o.guard = none) (t e : TypeId) (len : Nat) (parts : Array (Nat × Operand)) (ho : o.op = .buildSlice t len parts)
    (cells : Array Value) (ie : TypeInfo) (z : Value)
    (hu : P.underlying t = some (.slice e)) (hie : P.info? e = some ie) (hz : ie.zero = some z) (hsmall : ¬ len * ie.size > 2 ^ 24) (hpos : ¬ len * ie.size = 0)
    (hf : Instr.fill (fun i => some (i * ie.size, ie.size)) ((Array.range (len * ie.size)).map (z.cells[· % z.cells.size]!)) (parts.map fun (i, x) => (i, a.eval x)).toList = some cells)
    (h : K (a.put o.dst (.slice (some ⟨w.heap.size, 0, none⟩) len len)) (w.alloc (.cells cells e))) : if Region.wanted o (yielded ops a.tmps) = true then Oper.wp P o a w K Q else E := by
  have hw : Region.wanted o (yielded ops a.tmps) = true := by simp [Region.wanted, hgd]
  rw [if_pos hw]
  exact wp_buildSlice t e len parts ho cells ie z hu hie hz hsmall hpos hf h
/-- what image's last region reads -/
def ImS (ub pb : Nat) (U : Array Value) (Q : Pg) (w : World) : Prop := w.heap[ub]? = some (.cells U 42 (0, 0)) ∧ w.heap[pb]? = some (.cells (pgC Q) 49 (0, 0))
/-! ### calls -/
structure LCall where
  kind : Int
  x : Int
  page : Int
  slot : Int
  st : Int
  dt : ByteArray
  more : Int
  n : Int
def lcL (c : LCall) : List Value := [.int .i64 c.kind, .int .i64 c.x, .int .i64 c.page, .int .i64 c.slot, .int .i64 c.st, .string c.dt, .int .i64 c.more, .int .i64 c.n]
def pos6 (v : Int) : Nat := ((wrap64 (v.tmod 6 + 6)).tmod 6).toNat
theorem pos6_eq (v : Int) : (wrap64 (v.tmod 6 + 6)).tmod 6 = (pos6 v : Int) ∧ pos6 v < 6 := by
  have h1 : -6 < v.tmod 6 ∧ v.tmod 6 < 6 := ⟨Int.lt_tmod_of_pos v (by omega), Int.tmod_lt_of_pos v (by omega)⟩
  have h2 : wrap64 (v.tmod 6 + 6) = v.tmod 6 + 6 := by unfold wrap64; omega
  unfold pos6
  rw [h2, Int.tmod_eq_emod_of_nonneg (by omega)]
  omega
def kindC (P : Pg) : Pg := { P with kind := 3 }
def imgU (f : Nat → Pg) (c : LCall) : Un := { uk := 1, us := 0, up := pos6 c.page, ul := pos6 c.slot, key := ⟨#[]⟩, bs := (f (pos6 c.page)).st (pos6 c.slot), bd := (f (pos6 c.page)).dt (pos6 c.slot) }
def imgP (f : Nat → Pg) (c : LCall) : Pg := setCl (kindC (f (pos6 c.page))) (pos6 c.slot) c.st c.dt
theorem pgC_kind (P : Pg) : (pgC P).setIfInBounds 0 (.int .i64 3) = pgC (kindC P) := rfl
theorem pg_cell (P : Pg) (k : Nat) (hk : k < 6) {w : World} {b : Nat} {T : TypeId} (h : w.heap[b]? = some (.cells (pgC P) T (0, 0))) : w.rangeAt b (4 + k * 2) [.int .i64 (P.st k), .string (P.dt k)] := fun j v hj => by
  rw [cell_at h]
  match k, hk with
  | 0, _ => match j with | 0 => exact hj | 1 => exact hj | j + 2 => simp at hj
  | 1, _ => match j with | 0 => exact hj | 1 => exact hj | j + 2 => simp at hj
  | 2, _ => match j with | 0 => exact hj | 1 => exact hj | j + 2 => simp at hj
  | 3, _ => match j with | 0 => exact hj | 1 => exact hj | j + 2 => simp at hj
  | 4, _ => match j with | 0 => exact hj | 1 => exact hj | j + 2 => simp at hj
  | 5, _ => match j with | 0 => exact hj | 1 => exact hj | j + 2 => simp at hj
set_option maxRecDepth 100000 in
set_option maxHeartbeats 400000 in
theorem mx_image {w : World} {m g : Nat} {f : Nat → Pg} (h : Mx w m g f) (c : LCall) :
    Calls Tryz.prog 14 #[.pointer (some ⟨m, 0, none⟩), .agg (lcL c).toArray] w fun e w' => ∃ ib, e = .returned (.tuple #[.agg (unL (imgU f c)).toArray, .slice (some ⟨ib, 0, none⟩) 1 1]) ∧
      w'.heap[ib]? = some (.cells (imA ((pos6 c.page : Int), imgP f c)) 51 (0, 0)) ∧ Below w.heap.size w w' ∧ w.heap.size ≤ ib := by
  obtain ⟨ck, cx, cp, cs, cst, cdt, cm, cn⟩ := c
  unfold imgU imgP lcL
  dsimp only
  obtain ⟨e1, l1⟩ := pos6_eq cp
  obtain ⟨e2, l2⟩ := pos6_eq cs
  generalize pos6 cp = pi at *
  generalize pos6 cs = ki at *
  have HM := Lib.hid h
  clear h
  obtain ⟨P, hP⟩ : ∃ P, f pi = P := ⟨_, rfl⟩
  rw [hP]
  replace hP := Lib.hid hP
  go_enter Tryz.func14, Tryz.ntmps14
  go_upto_region 1 with fail
  go_quiet (fail)
  obtain ⟨w1, hw1⟩ : ∃ x, World.drewN ((w.alloc (.cells #[.int .i64 ck, .int .i64 cx, .int .i64 cp, .int .i64 cs, .int .i64 cst, .string cdt, .int .i64 cm, .int .i64 cn] 35)).alloc (.cells #[.int .i64 0, .int .i64 0, .int .i64 0, .int .i64 0, .string ⟨#[]⟩, .int .i64 0, .string ⟨#[]⟩] 42)) nq = x := ⟨_, rfl⟩
  rw [hw1]
  have HC1 : Hid (w1.heap[w.heap.size]? = some (.cells #[.int .i64 ck, .int .i64 cx, .int .i64 cp, .int .i64 cs, .int .i64 cst, .string cdt, .int .i64 cm, .int .i64 cn] 35 (0, 0))) := hw1 ▸ (show (World.drewN _ nq).heap[w.heap.size]? = _ from hO (hN rfl))
  have HU1 : Hid (w1.heap[w.heap.size + 1]? = some (.cells #[.int .i64 0, .int .i64 0, .int .i64 0, .int .i64 0, .string ⟨#[]⟩, .int .i64 0, .string ⟨#[]⟩] 42 (0, 0))) := hw1 ▸ (show (World.drewN _ nq).heap[w.heap.size + 1]? = _ from hN (by simp))
  have HB1 : Hid (Below w.heap.size w w1) := hw1 ▸ bDN (bA (bA bR)) nq
  have hs1 : Hid (w.heap.size + 1 < w1.heap.size) := block_lt HU1.out
  clear hw1
  have HM1 := Lib.hid (HM.out.later HB1.out)
  have C6 := HM1.out.cell
  have HR1 := Lib.hid (row_at HM1.out.row pi l1)
  have hpi : (pi : Int) < 6 := by omega
  have hki : (ki : Int) < 6 := by omega
  have hpi0 : (0 : Int) ≤ pi := by omega
  have hki0 : (0 : Int) ≤ ki := by omega
  rw [hP.out] at HR1
  have HN1 : Hid ((w1.alloc (.cells (pgC pageZ) 49)).heap[w1.heap.size]? = some (.cells (pgC pageZ) 49 (0, 0))) := hN rfl
  have hPs : Hid ((Tryz.prog.info? 49).map (·.size) = some (pgC P).size) := by show _ = _; kernel_rfl
  have hl2 := Lib.hid l2
  clear hP l1 l2 e1 e2 HM HM1
  go_upto_region 3 with (first
    | (refine wpList_load_arr rfl 49 _ rfl g (pi * 16) rfl (pgC P) _ HR1.out Tryz.underlying49 rfl hPs.out ?_)
    | (refine wpList_store_whole rfl 49 _ _ rfl _ (pgC P) rfl rfl _ (pgC pageZ) HN1.out rfl (by kernel_rfl) (pgC_one _) ?_; intro w2 HP2 K2; (have hk2' : Hid (Keeps (fun _ => False) w1 w2) := ((Keeps.refl (fun _ => False) w1).alloc _).trans K2.out (fun q hq e => by omega)); clear K2 HN1))
  have K0 : w2.cell? ⟨w1.heap.size, 0, none⟩ = some (.int .i64 P.kind) := cell_at HP2.out 0
  have F0 : w2.frozen? ⟨w1.heap.size, 0, none⟩ = false := free_at HP2.out 0
  go_upto_region 4 with fail
  clear K0 F0
  obtain ⟨w3, hw3⟩ : ∃ x, w2.setCell ⟨w1.heap.size, 0, none⟩ (.int .i64 3) = x := ⟨_, rfl⟩
  try simp only [hw3]
  have HP3 : Hid (w3.heap[w1.heap.size]? = some (.cells (pgC (kindC P)) 49 (0, 0))) := hw3 ▸ heap_set HP2.out 0 (.int .i64 3)
  have hk3 : Hid (Keeps (fun _ => False) w1 w3) := hk2'.out.trans (hw3 ▸ kp_set w2 w1.heap.size 0 (.int .i64 3)) (fun q hq e => by omega)
  have hs3 : Hid (w1.heap.size < w3.heap.size) := block_lt HP3.out
  clear hw3 HP2 hk2'
  have HC3 := Lib.hid (hk3.out.keep HC1.out (fun h => h))
  have HU3 := Lib.hid (hk3.out.keep HU1.out (fun h => h))
  have HB3 := Lib.hid (bT HB1.out hk3.out.below)
  clear HC1 HU1 HB1 hk3
  have HR3 : Hid (w3.rangeAt w1.heap.size (4 + ki * 2) [.int .i64 (P.st ki), .string (P.dt ki)]) := pg_cell (kindC P) ki hl2.out HP3.out
  go_upto_region 5 with (first
    | (refine wpList_load_mid rfl 33 _ rfl w1.heap.size (4 + ki * 2) rfl [.int .i64 (P.st ki), .string (P.dt ki)] _ HR3.out Tryz.underlying33 rfl (by kernel_rfl) ?_))
  obtain ⟨w4, hw4⟩ : ∃ x, w3.alloc (.cells #[.int .i64 1, .int .i64 0, .int .i64 pi, .int .i64 ki, .string ⟨#[]⟩, .int .i64 (P.st ki), .string (P.dt ki)] 42) = x := ⟨_, rfl⟩
  rw [hw4]
  have HV4 : Hid (w4.heap[w3.heap.size]? = some (.cells #[.int .i64 1, .int .i64 0, .int .i64 pi, .int .i64 ki, .string ⟨#[]⟩, .int .i64 (P.st ki), .string (P.dt ki)] 42 (0, 0))) := hw4 ▸ hN rfl
  have HP4 : Hid (w4.heap[w1.heap.size]? = some (.cells (pgC (kindC P)) 49 (0, 0))) := hw4 ▸ hO HP3.out
  have HC4 := Lib.hid (hw4 ▸ hO HC3.out : w4.heap[w.heap.size]? = some (.cells #[.int .i64 ck, .int .i64 cx, .int .i64 cp, .int .i64 cs, .int .i64 cst, .string cdt, .int .i64 cm, .int .i64 cn] 35 (0, 0)))
  have HU4 := Lib.hid (hw4 ▸ hO HU3.out : w4.heap[w.heap.size + 1]? = some (.cells #[.int .i64 0, .int .i64 0, .int .i64 0, .int .i64 0, .string ⟨#[]⟩, .int .i64 0, .string ⟨#[]⟩] 42 (0, 0)))
  have HB4 : Hid (Below w.heap.size w w4) := hw4 ▸ bA HB3.out
  have HR4 : Hid (w4.rangeAt w.heap.size 4 [.int .i64 cst, .string cdt]) := World.rangeAt_of_block HC4.out 4 2
  clear hw4 HP3 HC3 HU3 HB3 HR3
  go_upto_region 6 with (first
    | (refine wpList_load_mid rfl 33 _ rfl w.heap.size 4 rfl [.int .i64 cst, .string cdt] _ HR4.out Tryz.underlying33 rfl (by kernel_rfl) ?_)
    | (refine wpList_store_cl rfl _ _ rfl w1.heap.size ki (kindC P) cst cdt _ rfl rfl HP4.out hl2.out ?_; intro w5 HP5 K5; (have HV5 := Lib.hid (K5.out.keep HV4.out (fun e => by have := hs3.out; omega))); (have HU5 := Lib.hid (K5.out.keep HU4.out (fun e => by have := hs1.out; omega))); (have HB5 : Hid (Below w.heap.size w w5) := (Keeps.of_below (fun _ => False) HB4.out |>.trans K5.out (fun q hq e => by have := hs1.out; omega)).below); clear K5 HP4 HV4 HU4 HB4))
  clear HR4 HC4
  obtain ⟨Q, hQ⟩ : ∃ Q, setCl (kindC P) ki cst cdt = Q := ⟨_, rfl⟩
  rw [hQ] at HP5
  have hS0 : ImS w3.heap.size w1.heap.size #[.int .i64 1, .int .i64 0, .int .i64 pi, .int .i64 ki, .string ⟨#[]⟩, .int .i64 (P.st ki), .string (P.dt ki)] Q w5.drew := ⟨hDr HV5.out, hDr HP5.out⟩
  have HBd : Hid (Below w.heap.size w w5.drew) := bD HB5.out
  have HUd : Hid (w5.drew.heap[w.heap.size + 1]? = some (.cells #[.int .i64 0, .int .i64 0, .int .i64 0, .int .i64 0, .string ⟨#[]⟩, .int .i64 0, .string ⟨#[]⟩] 42 (0, 0))) := hDr HU5.out
  obtain ⟨j0, hj, hjz, hj1, hj2⟩ := info_parts Tryz.info_img
  refine wp_region_held_drew (S := ImS w3.heap.size w1.heap.size #[.int .i64 1, .int .i64 0, .int .i64 pi, .int .i64 ki, .string ⟨#[]⟩, .int .i64 (P.st ki), .string (P.dt ki)] Q) (by kernel_rfl) hS0 (fun hHeld => ?_)
  clear hS0 HV5 HU5 HP5 HB5
  refine wpAnyH_take (i := 0) (oi := ⟨some 40, _, _, _, _, _⟩) (v := .agg #[.int .i64 1, .int .i64 0, .int .i64 pi, .int .i64 ki, .string ⟨#[]⟩, .int .i64 (P.st ki), .string (P.dt ki)]) rfl (by kernel_rfl) (by kernel_rfl) (by kernel_rfl) (fun _ _ _ h => h) (yieldsIf_load_mid (by rfl) _ _ rfl w3.heap.size 0 rfl [.int .i64 1, .int .i64 0, .int .i64 pi, .int .i64 ki, .string ⟨#[]⟩, .int .i64 (P.st ki), .string (P.dt ki)] _ (fun _ h => range_of h.1) Tryz.underlying42 rfl (by kernel_rfl)) hHeld ?_
  simp only [Act.put, List.setIfInBounds_toArray, List.set_cons_zero, List.set_cons_succ]
  refine wpAnyH_take (i := 1) (oi := ⟨some 41, _, _, _, _, _⟩) (v := .int .i64 pi) rfl (by kernel_rfl) (by kernel_rfl) (by kernel_rfl) (fun _ _ _ h => h) (Or.inl ⟨by rfl, fun _ _ => rfl⟩) hHeld ?_
  simp only [Act.put, List.setIfInBounds_toArray, List.set_cons_zero, List.set_cons_succ]
  refine wpAnyH_take (i := 2) (oi := ⟨some 42, _, _, _, _, _⟩) (v := .agg (pgC Q)) rfl (by kernel_rfl) (by kernel_rfl) (by kernel_rfl) (fun _ _ _ h => h) (yieldsIf_load_mid (by rfl) _ _ rfl w1.heap.size 0 rfl (pgC Q).toList _ (fun _ h => range_of h.2) Tryz.underlying49 rfl (by kernel_rfl)) hHeld ?_
  simp only [Act.put, List.setIfInBounds_toArray, List.set_cons_zero, List.set_cons_succ]
  refine wpAnyH_take (i := 3) (oi := ⟨some 43, _, _, _, _, _⟩) (v := .agg (imA ((pi : Int), Q))) rfl (by kernel_rfl) (by kernel_rfl) (by kernel_rfl) (fun _ _ _ h => h) (Or.inl ⟨by rfl, ?_⟩) hHeld ?_
  · intro w' hSw
    have hpc : pgC Q = #[.int .i64 Q.kind, .int .i64 Q.level, .int .i64 Q.store, .int .i64 Q.next, .int .i64 (Q.st 0), .string (Q.dt 0), .int .i64 (Q.st 1), .string (Q.dt 1), .int .i64 (Q.st 2), .string (Q.dt 2), .int .i64 (Q.st 3), .string (Q.dt 3), .int .i64 (Q.st 4), .string (Q.dt 4), .int .i64 (Q.st 5), .string (Q.dt 5)] := rfl
    unfold imA imL
    rw [hpc]
    go_simp
    try rfl
  simp only [Act.put, List.setIfInBounds_toArray, List.set_cons_zero, List.set_cons_succ]
  refine wpAnyH_ready (rs := [4, 5]) (by kernel_rfl) (by simp) ?_
  have hsD : Hid (w.heap.size + 1 < w5.drew.heap.size) := block_lt HUd.out
  have hsD2 : Hid (w1.heap.size < w5.drew.heap.size) := block_lt hHeld.2
  have hsD3 : Hid (w3.heap.size < w5.drew.heap.size) := block_lt hHeld.1
  have hsz : Hid (w.heap.size ≤ w5.drew.heap.size) := HBd.out.size
  replace hQ := Lib.hid hQ
  refine AllReadyH.cons (o := ⟨some 44, _, _, _, _, _⟩) rfl (fun K hK => ?_) (AllReadyH.cons (o := ⟨none, _, _, _, _, _⟩) rfl (fun K hK => ?_) AllReadyH.nil)
  · refine step_buildSlice rfl 43 51 1 _ rfl (imA ((pi : Int), Q)) j0 _ Tryz.underlying43 hj hjz (by rw [hj1]; decide) (by rw [hj1]; decide) (by rw [hj1]; kernel_rfl) ?_
    have hH2 := hHeld
    refine hK.out _ _ ⟨hO hHeld.1, hO hHeld.2⟩ (fun hHeld => ?_)
    clear hK K
    try simp only [Act.put, List.setIfInBounds_toArray, List.set_cons_zero, List.set_cons_succ]
    refine wpAnyH_ready (rs := [5]) (by kernel_rfl) (by simp) ?_
    refine AllReadyH.cons (o := ⟨none, _, _, _, _, _⟩) rfl (fun K hK => ?_) AllReadyH.nil
    refine step_store_whole rfl 42 _ _ rfl (w.heap.size + 1) #[.int .i64 1, .int .i64 0, .int .i64 pi, .int .i64 ki, .string ⟨#[]⟩, .int .i64 (P.st ki), .string (P.dt ki)] rfl rfl 42 _ (hO HUd.out) rfl (by kernel_rfl) (by simp [Value.oneCell']) ?_
    intro w6 HUW K6
    have HIW : Hid (w6.heap[w5.drew.heap.size]? = some (.cells (imA ((pi : Int), Q)) 51 (0, 0))) := K6.out.keep (hN rfl) (fun e => by have := hsD.out; omega)
    have HBW : Hid (Below w.heap.size w w6) := ((Keeps.of_below (fun _ => False) (bA HBd.out)).trans K6.out (fun q hq e => by omega)).below
    refine hK.out _ _ ⟨K6.out.keep hHeld.1 (fun e => by have := hs1.out; have := hs3.out; omega), K6.out.keep hHeld.2 (fun e => by have := hs1.out; omega)⟩ (fun hHeld => ?_)
    clear hK K K6 hH2
    try simp only [Act.put, List.setIfInBounds_toArray, List.set_cons_zero, List.set_cons_succ]
    refine wpAnyH_take (i := 6) (oi := ⟨some 5, _, _, _, _, _⟩) (v := .slice (some ⟨w5.drew.heap.size, 0, none⟩) 1 1) rfl (by kernel_rfl) (by kernel_rfl) (by kernel_rfl) (fun _ _ _ h => h) (Or.inl ⟨by rfl, fun _ _ => rfl⟩) hHeld ?_
    simp only [Act.put, List.setIfInBounds_toArray, List.set_cons_zero, List.set_cons_succ]
    clear hHeld
    refine wpAnyH_done (by kernel_rfl) ?_ _
    go_wp2_with fail
    refine bodyPost_ret (results_row_one Tryz.results14 _ _ _ _ _ _ _ rfl HUW.out Tryz.underlying42 rfl (by kernel_rfl)) rfl ?_
    exact ⟨w5.drew.heap.size, rfl, by rw [hQ.out]; exact HIW.out, HBW.out, hsz.out⟩
  · refine step_store_whole rfl 42 _ _ rfl (w.heap.size + 1) #[.int .i64 1, .int .i64 0, .int .i64 pi, .int .i64 ki, .string ⟨#[]⟩, .int .i64 (P.st ki), .string (P.dt ki)] rfl rfl 42 _ HUd.out rfl (by kernel_rfl) (by simp [Value.oneCell']) ?_
    intro w6 HUW K6
    have hs6 : Hid (w6.heap.size = w5.drew.heap.size ∨ True) := .inr trivial
    refine hK.out _ _ ⟨K6.out.keep hHeld.1 (fun e => by have := hs1.out; have := hs3.out; omega), K6.out.keep hHeld.2 (fun e => by have := hs1.out; omega)⟩ (fun hHeld => ?_)
    clear hK K
    try simp only [Act.put, List.setIfInBounds_toArray, List.set_cons_zero, List.set_cons_succ]
    refine wpAnyH_ready (rs := [4]) (by kernel_rfl) (by simp) ?_
    refine AllReadyH.cons (o := ⟨some 44, _, _, _, _, _⟩) rfl (fun K hK => ?_) AllReadyH.nil
    refine step_buildSlice rfl 43 51 1 _ rfl (imA ((pi : Int), Q)) j0 _ Tryz.underlying43 hj hjz (by rw [hj1]; decide) (by rw [hj1]; decide) (by rw [hj1]; kernel_rfl) ?_
    have HBW : Hid (Below w.heap.size w (w6.alloc (.cells (imA ((pi : Int), Q)) 51))) := bA ((Keeps.of_below (fun _ => False) HBd.out).trans K6.out (fun q hq e => by omega)).below
    have hsz : Hid (w.heap.size ≤ w6.heap.size) := by have := K6.out.size; have := hsz.out; show _ ≤ _; omega
    replace HUW : Hid ((w6.alloc (.cells (imA ((pi : Int), Q)) 51)).heap[w.heap.size + 1]? = _) := hO HUW.out
    have HIW : Hid ((w6.alloc (.cells (imA ((pi : Int), Q)) 51)).heap[w6.heap.size]? = some (.cells (imA ((pi : Int), Q)) 51 (0, 0))) := hN rfl
    refine hK.out _ _ ⟨hO hHeld.1, hO hHeld.2⟩ (fun hHeld => ?_)
    clear hK K K6
    try simp only [Act.put, List.setIfInBounds_toArray, List.set_cons_zero, List.set_cons_succ]
    refine wpAnyH_take (i := 6) (oi := ⟨some 5, _, _, _, _, _⟩) (v := .slice (some ⟨w6.heap.size, 0, none⟩) 1 1) rfl (by kernel_rfl) (by kernel_rfl) (by kernel_rfl) (fun _ _ _ h => h) (Or.inl ⟨by rfl, fun _ _ => rfl⟩) hHeld ?_
    simp only [Act.put, List.setIfInBounds_toArray, List.set_cons_zero, List.set_cons_succ]
    clear hHeld
    refine wpAnyH_done (by kernel_rfl) ?_ _
    go_wp2_with fail
    refine bodyPost_ret (results_row_one Tryz.results14 _ _ _ _ _ _ _ rfl HUW.out Tryz.underlying42 rfl (by kernel_rfl)) rfl ?_
    exact ⟨w6.heap.size, rfl, by rw [hQ.out]; exact HIW.out, HBW.out, hsz.out⟩
end Go.Proofs.YtimomjheanfbmaaGreatDoor

namespace Go.Proofs.YtimomjheanfbmaaGreatDoor
open Go.RowKit

/-! ### what holds of a chain, call after call -/
theorem lenL_next {rs : List ByteArray} {j : Nat} {s : ByteArray} (h : rs[j]? = some s) : lenL (rs.take (j + 1)) = lenL (rs.take j) + (2 + s.size) := by
  rw [List.take_add_one, h, lenL_append]; simp [lenL]
/-- a transaction's records lead back to its first -/
inductive Lnk (recs : List Rc) (x first : Int) : Int → Nat → Prop
  | nil : Lnk recs x first 0 0
  | step {t : Int} {R : Rc} {n : Nat} : AtR recs t R → R.xct = x → 0 ≤ R.prev → R.prev < t → (R.prev = 0 → t = first) → Lnk recs x first R.prev n → Lnk recs x first t (n + 1)
theorem Lnk.more {recs : List Rc} {x first t : Int} {n : Nat} (Q : Rc) (h : Lnk recs x first t n) : Lnk (recs ++ [Q]) x first t n := by
  induction h with
  | nil => exact .nil
  | step h1 h2 h3 h4 h5 _ ih => exact .step h1.more h2 h3 h4 h5 ih
theorem AtR.gap {recs : List Rc} {t t' : Int} {R R' : Rc} (h : AtR recs t R) (h' : AtR recs t' R') (hok : RcOk R') (hlt : t' < t) : t' + 39 ≤ t := by
  obtain ⟨i, h1, h2⟩ := h
  obtain ⟨j, h3, h4⟩ := h'
  have hji : j < i := by
    rcases Nat.lt_or_ge j i with h | h
    · exact h
    · have := lenL_up (recs.map rcS) h; omega
  have h5 := lenL_next (rs := recs.map rcS) (j := j) (s := rcS R') (by rw [List.getElem?_map, h3]; rfl)
  have h6 := lenL_up (recs.map rcS) (show j + 1 ≤ i by omega)
  have h7 := rcS_size hok
  omega
theorem Lnk.top {recs : List Rc} {x first t : Int} {n : Nat} (h : Lnk recs x first t n) : (t = 0 ∧ n = 0) ∨ ∃ R m, n = m + 1 ∧ AtR recs t R ∧ R.xct = x ∧ 0 ≤ R.prev ∧ R.prev < t ∧ (R.prev = 0 → t = first) ∧ Lnk recs x first R.prev m := by
  cases h with
  | nil => exact .inl ⟨rfl, rfl⟩
  | step h1 h2 h3 h4 h5 h6 => exact .inr ⟨_, _, rfl, h1, h2, h3, h4, h5, h6⟩
theorem Lnk.cnt {recs : List Rc} {x first t : Int} {n : Nat} (hz : ∀ R ∈ recs, RcOk R) (h : Lnk recs x first t n) : 39 * (n : Int) ≤ t := by
  induction h with
  | nil => simp
  | @step t R n h1 h2 h3 h4 h5 h6 ih =>
    have h54 := h1.lo.1
    rcases h6.top with ⟨_, rfl⟩ | ⟨R', m, rfl, g1, _⟩
    · simp; omega
    · have := h1.gap g1 (hz _ g1.mem) h4
      push_cast at ih ⊢
      omega
theorem Stk.head {recs : List Rc} {u : Int} {l : List (Int × Rc)} (h : Stk recs u l) : ∀ {t : Int} {R : Rc} {rest : List (Int × Rc)}, l = (t, R) :: rest → AtR recs t R ∧ 0 ≤ R.prev ∧ R.prev < t ∧ t ≤ u ∧ Stk recs R.prev rest := by
  induction h with
  | nil => intro t R rest e; cases e
  | clr h1 h2 h3 h4 _ ih =>
    intro t R rest e
    obtain ⟨a, b, c, d, e⟩ := ih e
    exact ⟨a, b, c, by omega, e⟩
  | upd h1 h2 h3 h4 h5 ih =>
    intro t R rest e
    simp only [List.cons.injEq, Prod.mk.injEq] at e
    obtain ⟨⟨rfl, rfl⟩, rfl⟩ := e
    exact ⟨h1, h3, h4, Int.le_refl _, h5⟩
theorem und_stk {x : Int} {i : Nat} {σ σ' : CS} {done : List (Int × Rc)} (h : Und x i σ done σ') : ∀ {rest : List (Int × Rc)} {s : Lv} {n : Nat}, σ.lives[i]? = some s → s.1 = x → Stk σ.recs s.2.2 (done ++ rest) → Lnk σ.recs x s.2.1 s.2.2 n → (s.2.1 = 0 ↔ s.2.2 = 0) →
    ∃ s' n', σ'.lives[i]? = some s' ∧ s'.1 = x ∧ s'.2.1 = s.2.1 ∧ Stk σ'.recs s'.2.2 rest ∧ Lnk σ'.recs x s'.2.1 s'.2.2 n' ∧ (s'.2.1 = 0 ↔ s'.2.2 = 0) := by
  induction h with
  | nil => intro rest s n h1 h2 h3 h4 h5; exact ⟨s, n, h1, h2, rfl, h3, h4, h5⟩
  | @snoc σ1 l t R s1 P hu hs hx hP ih =>
    intro rest s n h1 h2 h3 h4 h5
    rw [List.append_assoc, List.singleton_append] at h3
    obtain ⟨s2, n2, g1, g2, g3, g4, g5, g6⟩ := ih h1 h2 h3 h4 h5
    rw [hs] at g1
    injection g1 with g1
    subst g1
    obtain ⟨k1, k2, k3, k4, k5⟩ := g4.head rfl
    have hlo := g4.lo
    have hil := (List.getElem?_eq_some_iff.1 hs).1
    have hat : AtR (σ1.undone x i s1 R P).recs (σ1.fin : Int) (clrR x s1.2.2 R P) := AtR.last σ1.recs _
    have hfin : (σ1.fin : Int) = ((54 + lenL (σ1.recs.map rcS) : Nat) : Int) := rfl
    have h54 := k1.lo
    refine ⟨(s1.1, s1.2.1, (σ1.fin : Int)), n2 + 1, List.getElem?_set_self hil, hx, g3, ?_, ?_, ?_⟩
    · exact .clr hat rfl k2 (by show R.prev < (σ1.fin : Int); omega) (k5.more _)
    · exact .step hat rfl (by show 0 ≤ s1.2.2; omega) (by show s1.2.2 < (σ1.fin : Int); omega) (fun h => by have : s1.2.2 = 0 := h; omega) (g5.more _)
    · show s1.2.1 = 0 ↔ (σ1.fin : Int) = 0
      constructor
      · intro h; have := g6.1 h; omega
      · intro h; omega
/-- a transaction that lives -/
def GoodL (pg : Nat) (σ : CS) (s : Lv) : Prop := ∃ l n, Stk σ.recs s.2.2 l ∧ (∀ y ∈ l, GoodU pg y.2) ∧ σ.B s.1 = (128 + 320 * l.length, l.length) ∧ Lnk σ.recs s.1 s.2.1 s.2.2 n ∧ (s.2.1 = 0 ↔ s.2.2 = 0) ∧ 1 ≤ s.1 ∧ s.1 < σ.fresh
structure Inv (pg : Nat) (σ : CS) : Prop where
  live : ∀ (i : Nat) (s : Lv), σ.lives[i]? = some s → GoodL pg σ s
  uniq : ∀ (i j : Nat) (s s' : Lv), σ.lives[i]? = some s → σ.lives[j]? = some s' → s.1 = s'.1 → i = j
  fresh : 1 ≤ σ.fresh
  zero : ∀ x, σ.fresh ≤ x → σ.B x = (0, 0)
  tk : σ.T.1 + lenL σ.rs ≤ 6912
theorem Inv.init (pg : Nat) (fresh : Int) (h : 1 ≤ fresh) : Inv pg (CS.init fresh) :=
  ⟨fun i s hs => by simp [CS.init] at hs, fun i j s s' hs => by simp [CS.init] at hs, h, fun _ _ => rfl, by show 0 + lenL [] ≤ 6912; rw [lenL]; omega⟩
theorem GoodL.more {pg : Nat} {σ σ' : CS} {s : Lv} (h : GoodL pg σ s) {q : List Rc} (hr : σ'.recs = σ.recs ++ q) (hB : σ'.B s.1 = σ.B s.1) (hf : σ.fresh ≤ σ'.fresh) : GoodL pg σ' s := by
  obtain ⟨l, n, h1, h2, h3, h4, h5, h6, h7⟩ := h
  have key : ∀ (q : List Rc) (recs : List Rc), Stk recs s.2.2 l → Lnk recs s.1 s.2.1 s.2.2 n → Stk (recs ++ q) s.2.2 l ∧ Lnk (recs ++ q) s.1 s.2.1 s.2.2 n := by
    intro q
    induction q with
    | nil => intro recs a b; rw [List.append_nil]; exact ⟨a, b⟩
    | cons y q ih =>
      intro recs a b
      have := ih (recs ++ [y]) (a.more y) (b.more y)
      rwa [List.append_assoc] at this
  obtain ⟨g1, g2⟩ := key q σ.recs h1 h4
  exact ⟨l, n, hr ▸ g1, h2, hB ▸ h3, hr ▸ g2, h5, h6, by omega⟩
theorem Inv.begun {pg : Nat} {σ : CS} (h : Inv pg σ) (hf : Fits 128 0 σ.T (σ.free 0) 1073741824) : Inv pg σ.begun := by
  have hlt : ∀ (i : Nat) (s : Lv), σ.lives[i]? = some s → s.1 < σ.fresh := fun i s hs => by
    obtain ⟨_, _, _, _, _, _, _, _, h⟩ := h.live i s hs; exact h
  have hcase : ∀ (i : Nat) (s : Lv), σ.begun.lives[i]? = some s → (i < σ.lives.length ∧ σ.lives[i]? = some s) ∨ (i = σ.lives.length ∧ s = (σ.fresh, 0, 0)) := fun i s hs => by
    have hs' : (σ.lives ++ [(σ.fresh, (0 : Int), (0 : Int))])[i]? = some s := hs
    rcases Nat.lt_trichotomy i σ.lives.length with h1 | h1 | h1
    · rw [List.getElem?_append_left h1] at hs'; exact .inl ⟨h1, hs'⟩
    · subst h1; rw [List.getElem?_concat_length] at hs'; exact .inr ⟨rfl, (Option.some.inj hs').symm⟩
    · rw [List.getElem?_eq_none (by simp; omega)] at hs'; cases hs'
  refine ⟨fun i s hs => ?_, fun i j s s' hs hs' he => ?_, by show 1 ≤ σ.fresh + 1; have := h.fresh; omega, fun x hx => ?_, ?_⟩
  · rcases hcase i s hs with ⟨_, h1⟩ | ⟨_, rfl⟩
    · refine (h.live i s h1).more (σ' := σ.begun) (q := []) (List.append_nil _).symm ?_ (by show σ.fresh ≤ σ.fresh + 1; omega)
      have := hlt i s h1
      exact if_neg (by omega)
    · refine ⟨[], 0, .nil, fun y hy => (by cases hy), ?_, .nil, Iff.rfl, h.fresh, by show σ.fresh < σ.fresh + 1; omega⟩
      have e : σ.begun.B σ.fresh = ((σ.B σ.fresh).1 + 128, (σ.B σ.fresh).2 + 0) := if_pos rfl
      show σ.begun.B σ.fresh = _
      rw [e, h.zero _ (Int.le_refl _)]; rfl
  · rcases hcase i s hs with ⟨h1, h2⟩ | ⟨h1, rfl⟩ <;> rcases hcase j s' hs' with ⟨h3, h4⟩ | ⟨h3, rfl⟩
    · exact h.uniq i j s s' h2 h4 he
    · have := hlt i s h2; have he' : s.1 = σ.fresh := he; omega
    · have := hlt j s' h4; have he' : σ.fresh = s'.1 := he; omega
    · omega
  · have hx' : σ.fresh + 1 ≤ x := hx
    have e : σ.begun.B x = σ.B x := if_neg (by omega)
    rw [e]; exact h.zero x (by omega)
  · have := hf.1
    unfold CS.free at this
    have htk := h.tk
    show σ.T.1 + 128 + lenL σ.rs ≤ 6912
    omega
theorem Inv.changed {pg : Nat} {σ : CS} (h : Inv pg σ) {x : Int} {i : Nat} {s : Lv} {u : Un} {ims : List (Int × Pg)} (hs : σ.lives[i]? = some s) (hx : s.1 = x) (hU : GoodU pg (chgR x s.2.2 u ims))
    (hf : Fits 320 1 σ.T (σ.free ((rcS (chgR x s.2.2 u ims)).size + 2)) 1073741824) : Inv pg (σ.changed x i s u ims) := by
  have hil := (List.getElem?_eq_some_iff.1 hs).1
  have hcase : ∀ (j : Nat) (s' : Lv), (σ.changed x i s u ims).lives[j]? = some s' → (j ≠ i ∧ σ.lives[j]? = some s') ∨ (j = i ∧ s' = setLast s (σ.fin : Int)) := fun j s' hs' => by
    have hs2 : (σ.lives.set i (setLast s (σ.fin : Int)))[j]? = some s' := hs'
    by_cases e : j = i
    · subst e; rw [List.getElem?_set_self hil] at hs2; exact .inr ⟨rfl, (Option.some.inj hs2).symm⟩
    · rw [List.getElem?_set_ne (fun h => e h.symm)] at hs2; exact .inl ⟨e, hs2⟩
  obtain ⟨l, n, g1, g2, g3, g4, g5, g6, g7⟩ := h.live i s hs
  subst hx
  have hat : AtR (σ.changed s.1 i s u ims).recs (σ.fin : Int) (chgR s.1 s.2.2 u ims) := AtR.last σ.recs _
  have hfin : (σ.fin : Int) = ((54 + lenL (σ.recs.map rcS) : Nat) : Int) := rfl
  have hlo := g1.lo
  refine ⟨fun j s' hs' => ?_, fun j k s' s'' hs' hs'' he => ?_, h.fresh, fun y hy => ?_, ?_⟩
  · rcases hcase j s' hs' with ⟨h1, h2⟩ | ⟨_, rfl⟩
    · refine (h.live j s' h2).more (σ' := σ.changed s.1 i s u ims) (q := [chgR s.1 s.2.2 u ims]) rfl ?_ (Int.le_refl _)
      exact if_neg (fun e => h1 (h.uniq j i s' s h2 hs e))
    · refine ⟨((σ.fin : Int), chgR s.1 s.2.2 u ims) :: l, n + 1, .upd hat rfl (by show 0 ≤ s.2.2; omega) (by show s.2.2 < (σ.fin : Int); omega) (g1.more _), fun y hy => ?_, ?_, ?_, ?_, g6, g7⟩
      · rcases List.mem_cons.1 hy with rfl | hy
        · exact hU
        · exact g2 y hy
      · have e : (σ.changed s.1 i s u ims).B s.1 = ((σ.B s.1).1 + 320, (σ.B s.1).2 + 1) := if_pos rfl
        show (σ.changed s.1 i s u ims).B s.1 = _
        rw [e, g3, List.length_cons]
        show (128 + 320 * l.length + 320, l.length + 1) = _
        exact Prod.ext (by show 128 + 320 * l.length + 320 = 128 + 320 * (l.length + 1); omega) rfl
      · refine .step hat rfl (by show 0 ≤ s.2.2; omega) (by show s.2.2 < (σ.fin : Int); omega) (fun h0 => ?_) ?_
        · have h0' : s.2.2 = 0 := h0
          show (σ.fin : Int) = if s.2.1 = 0 then (σ.fin : Int) else s.2.1
          rw [if_pos (g5.2 h0')]
        · by_cases h0 : s.2.1 = 0
          · have h2 := g5.1 h0
            show Lnk _ _ _ s.2.2 n
            rw [h2] at g4 ⊢
            cases g4 with
            | nil => exact .nil
            | step a => have := a.lo.1; omega
          · show Lnk _ s.1 (if s.2.1 = 0 then (σ.fin : Int) else s.2.1) s.2.2 n
            rw [if_neg h0]
            exact g4.more _
      · show (if s.2.1 = 0 then (σ.fin : Int) else s.2.1) = 0 ↔ (σ.fin : Int) = 0
        by_cases h0 : s.2.1 = 0
        · rw [if_pos h0]
        · rw [if_neg h0]; constructor
          · intro h; exact absurd h h0
          · intro h; omega
  · have hfst : ∀ (j : Nat) (s' : Lv), (σ.changed s.1 i s u ims).lives[j]? = some s' → ∃ s2, σ.lives[j]? = some s2 ∧ s2.1 = s'.1 := fun j s' hs' => by
      rcases hcase j s' hs' with ⟨_, h2⟩ | ⟨rfl, rfl⟩
      · exact ⟨s', h2, rfl⟩
      · exact ⟨s, hs, rfl⟩
    obtain ⟨a, a1, a2⟩ := hfst j s' hs'
    obtain ⟨b, b1, b2⟩ := hfst k s'' hs''
    exact h.uniq j k a b a1 b1 (by rw [a2, b2, he])
  · have hy' : σ.fresh ≤ y := hy
    have e : (σ.changed s.1 i s u ims).B y = σ.B y := if_neg (by omega)
    rw [e]; exact h.zero y hy'
  · have := hf.1
    unfold CS.free at this
    have htk := h.tk
    have hrs : (σ.changed s.1 i s u ims).rs = σ.rs ++ [rcS (chgR s.1 s.2.2 u ims)] := by unfold CS.rs CS.changed; rw [List.map_append]; rfl
    rw [hrs, lenL_append, lenL, lenL]
    show σ.T.1 + 320 + _ ≤ 6912
    omega
theorem Inv.undo {pg : Nat} {σ σ' : CS} (h : Inv pg σ) {x : Int} {i : Nat} {s : Lv} {done rest : List (Int × Rc)} (hs : σ.lives[i]? = some s) (hx : s.1 = x) (hS : Stk σ.recs s.2.2 (done ++ rest)) (hG : ∀ y ∈ rest, GoodU pg y.2)
    (hB : σ.B x = (128 + 320 * (done ++ rest).length, (done ++ rest).length)) (hu : Und x i σ done σ') (htk : σ'.T.1 + lenL σ'.rs ≤ 6912) : Inv pg σ' := by
  obtain ⟨l, n, g1, g2, g3, g4, g5, g6, g7⟩ := h.live i s hs
  obtain ⟨s', n', k1, k2, k3, k4, k5, k6⟩ := und_stk hu hs hx hS (hx ▸ g4) g5
  have hlen := und_len hu
  have hoth := und_other hu
  have hbx := und_B hu
  obtain ⟨q, hq⟩ := und_recs hu
  refine ⟨fun j s2 hs2 => ?_, fun j k a b ha hb he => ?_, by rw [hlen.2]; exact h.fresh, fun y hy => ?_, htk⟩
  · by_cases e : j = i
    · subst e
      rw [k1] at hs2
      injection hs2 with hs2
      subst hs2
      refine ⟨rest, n', k4, hG, ?_, k2 ▸ k5, k6, by omega, by rw [hlen.2]; omega⟩
      rw [k2]
      refine Prod.ext ?_ ?_
      · rw [hbx.1, hB, List.length_append]; show 128 + 320 * (done.length + rest.length) - _ = _; omega
      · rw [hbx.2, hB, List.length_append]; show done.length + rest.length - _ = _; omega
    · rw [hoth.1 j e] at hs2
      refine (h.live j s2 hs2).more hq (hoth.2 s2.1 (fun e2 => e (h.uniq j i s2 s hs2 hs (by rw [e2, hx])))) (by rw [hlen.2]; exact Int.le_refl _)
  · have hfst : ∀ (j : Nat) (a : Lv), σ'.lives[j]? = some a → ∃ a2, σ.lives[j]? = some a2 ∧ a2.1 = a.1 := fun j a ha => by
      by_cases e : j = i
      · subst e
        rw [k1] at ha
        injection ha with ha
        subst ha
        exact ⟨s, hs, by rw [hx, k2]⟩
      · rw [hoth.1 j e] at ha; exact ⟨a, ha, rfl⟩
    obtain ⟨a2, a3, a4⟩ := hfst j a ha
    obtain ⟨b2, b3, b4⟩ := hfst k b hb
    exact h.uniq j k a2 b2 a3 b3 (by rw [a4, b4, he])
  · rw [hlen.2] at hy
    rw [hoth.2 y (by omega)]
    exact h.zero y hy
end Go.Proofs.YtimomjheanfbmaaGreatDoor

namespace Go.Proofs.YtimomjheanfbmaaGreatDoor
open Go.RowKit

def qA18 : Pg := { pageZ with kind := 3, st := fun i => if i = 0 then 1 else 0, dt := fun i => if i = 0 then ⟨#[97]⟩ else ⟨#[]⟩ }
def uA18 : Un := { uk := 1, us := 0, up := 1, ul := 0, key := ⟨#[]⟩, bs := 0, bd := ⟨#[]⟩ }
def q318 : Pg := { pageZ with kind := 3 }
theorem chgA_ok : RcOk (chgR 1 0 uA18 [(1, qA18)]) := by decide
theorem chgA_size : (rcS (chgR 1 0 uA18 [(1, qA18)])).size = 265 := rcS_size chgA_ok
def sA18 : CS := (CS.init 1).begun.changed 1 0 (1, 0, 0) uA18 [((1 : Int), qA18)]
def lA18 : List (Int × Rc) := [((54 : Int), chgR 1 0 uA18 [((1 : Int), qA18)])]
theorem sA18_rev : Rev 6 sA18 1 0 (1, 54, 54) lA18 := by
  refine ⟨⟨rfl, rfl, fun j s' hj => absurd hj (by omega)⟩, ⟨by omega, by omega⟩, .upd ⟨0, rfl, rfl⟩ rfl (Int.le_refl _) (by show (0 : Int) < 54; omega) .nil, fun y hy => ?_, ⟨by decide, by decide⟩, ?_⟩
  · rw [List.mem_singleton.1 hy]
    exact ⟨rfl, ⟨by decide, by decide⟩, ⟨by decide, by decide⟩, by decide⟩
  · have h1 : sA18.T.1 = 448 := rfl
    have h2 : sA18.rs = [rcS (chgR 1 0 uA18 [((1 : Int), qA18)])] := rfl
    rw [h1, h2, lenL, lenL, chgA_size]; omega
theorem sA18_page : pgC (sA18.M 1).1 = pgC qA18 := rfl
theorem sA18_back : pgC (undoF (fun id => (sA18.M id).1) lA18 1) = pgC q318 := rfl
theorem CS.last_M (σ : CS) (kind x : Int) (s : Lv) : (σ.last kind x s).M = σ.M ∧ (σ.last kind x s).lives = σ.lives ∧ (σ.last kind x s).fresh = σ.fresh ∧ (σ.last kind x s).B = σ.B ∧ (σ.last kind x s).T = σ.T ∧ (σ.last kind x s).cnt = σ.cnt := by
  unfold CS.last
  split <;> exact ⟨rfl, rfl, rfl, rfl, rfl, rfl⟩
set_option maxRecDepth 100000 in
set_option maxHeartbeats 400000 in
theorem awake18 (w : World) : Calls Tryz.prog 9 #[] w fun e w' => e = .returned (.bool true) ∧ Below w.heap.size w w' := by
  have HM := Lib.hid (cx_made w w [] (fun k hk => by cases hk) bR 1 (by omega))
  go_enter Tryz.func9, Tryz.ntmps9
  go_wp2_with fail
  refine (HM.out).mono ?_
  rintro e w1 ⟨c, lp, p, dp, lb, mb, rfl, hx, -⟩
  have HBg := Lib.hid (cx_begin hx ⟨by show (1 : Int) ≤ 1; omega, by show (1 : Int) ≤ 2000000000; omega⟩ (by show 0 < 100000000000; omega))
  clear HM hx
  go_wp2_with fail
  refine (HBg.out).mono ?_
  rintro e w2 ⟨-, hr⟩
  obtain ⟨rfl, n2, lv2, hx⟩ : e = .returned (.tuple #[.int .i64 1, .int .i64 0]) ∧ ∃ n' lv', Cx w w2 [] c lp p dp 6 lb mb n' lv' (CS.init 1).begun := by
    rcases hr with ⟨h1, _⟩ | ⟨_, h1, _⟩ | ⟨_, _, h1, h2⟩
    · exact absurd h1 (by decide)
    · exact absurd ⟨by show 128 + 0 ≤ 6912 - lenL [] - 0; rw [lenL]; omega, by show 0 + 0 ≤ 1073741824; omega⟩ h1
    · exact ⟨h1, h2⟩
  have HX := Lib.hid hx
  clear hx hr HBg
  go_upto_region 5 with fail
  obtain ⟨w3, hw3⟩ : ∃ x, w2.alloc (.cells #[.int .i64 3, .int .i64 0, .int .i64 0, .int .i64 0, .int .i64 1, .string ⟨#[97]⟩, .int .i64 0, .string ⟨#[]⟩, .int .i64 0, .string ⟨#[]⟩, .int .i64 0, .string ⟨#[]⟩, .int .i64 0, .string ⟨#[]⟩, .int .i64 0, .string ⟨#[]⟩] 49) = x := ⟨_, rfl⟩
  rw [hw3]
  have HQ3 : Hid (w3.heap[w2.heap.size]? = some (.cells #[.int .i64 3, .int .i64 0, .int .i64 0, .int .i64 0, .int .i64 1, .string ⟨#[97]⟩, .int .i64 0, .string ⟨#[]⟩, .int .i64 0, .string ⟨#[]⟩, .int .i64 0, .string ⟨#[]⟩, .int .i64 0, .string ⟨#[]⟩, .int .i64 0, .string ⟨#[]⟩] 49 (0, 0))) := hw3 ▸ hN rfl
  have HX3 : Hid (Cx w w3 [w2.heap.size] c lp p dp 6 lb mb n2 lv2 (CS.init 1).begun) := hw3 ▸ HX.out.push (bA bR) _ (Nat.le_refl _) (by simp)
  clear hw3 HX
  obtain ⟨ji, hji, hy0, hy1, hy2⟩ := info_parts Tryz.info_img
  have HX4 : Hid (Cx w (w3.alloc (.cells (imA ((1 : Int), qA18)) 51)) [w3.heap.size, w2.heap.size] c lp p dp 6 lb mb n2 lv2 (CS.init 1).begun) := HX3.out.push (bA bR) _ (Nat.le_refl _) (by simp)
  have HI4 : Hid ((w3.alloc (.cells (imA ((1 : Int), qA18)) 51)).heap[w3.heap.size]? = some (.cells (imA ((1 : Int), qA18)) 51 (0, 0))) := hN rfl
  have HQ4 : Hid ((w3.alloc (.cells (imA ((1 : Int), qA18)) 51)).heap[w2.heap.size]? = some (.cells (pgC qA18) 49 (0, 0))) := hO HQ3.out
  have HCh := Lib.hid (cx_change HX4.out (by show 1 < 100000000000; omega) 1 ⟨by omega, by omega⟩ uA18 (by decide) (by show (0 : Nat) ≤ maxLen; omega) (by show (0 : Nat) ≤ maxLen; omega) [((1 : Int), qA18)] (by simp) (fun y hy => by rw [List.mem_singleton.1 hy]; show (1 : Int) < ((6 : Nat) : Int); omega) (fun y hy i hi => by
    rw [List.mem_singleton.1 hy]
    have h2 := (chgA_ok.2.1 (1, qA18) (by simp [chgR])).2.2 i hi
    have h3 : (qA18.dt i).size ≤ 34 := h2.2.2.1
    show (qA18.dt i).size ≤ maxLen
    unfold maxLen; omega) (.slice (some ⟨w3.heap.size, 0, none⟩) 1 1) (fun w' hk => sl_one (hk.keep HI4.out (fun h => h.2 (by simp)))))
  rw [show (unL uA18).toArray = #[.int .i64 1, .int .i64 0, .int .i64 1, .int .i64 0, .string ⟨#[]⟩, .int .i64 0, .string ⟨#[]⟩] from rfl] at HCh
  clear HX3
  go_wp2_with (first
    | (refine wpList_load_row rfl 49 _ rfl _ rfl 49 _ _ _ HQ3.out Tryz.underlying49 rfl (by kernel_rfl) ?_)
    | (refine wpList_buildSlice rfl 43 51 1 _ rfl (imA ((1 : Int), qA18)) ji _ Tryz.underlying43 hji hy0 (by rw [hy1]; decide) (by rw [hy1]; decide) (by rw [hy1]; kernel_rfl) ?_))
  refine (HCh.out).mono ?_
  rintro e w5 ⟨hk5, hr⟩
  obtain ⟨rfl, n5, hx5⟩ : e = .returned (.int .i64 0) ∧ ∃ n', Cx w w5 [w3.heap.size, w2.heap.size] c lp p dp 6 lb mb n' lv2 sA18 := by
    rcases hr with ⟨h1, _⟩ | ⟨i, s, h1, h2, h3, hr⟩
    · exact absurd rfl (h1 (1, 0, 0) (by show _ ∈ [((1 : Int), (0 : Int), (0 : Int))]; simp))
    · obtain ⟨rfl, rfl⟩ : i = 0 ∧ s = (1, 0, 0) := by
        have h1' : [((1 : Int), (0 : Int), (0 : Int))][i]? = some s := h1
        cases i with
        | zero => exact ⟨rfl, (Option.some.inj h1').symm⟩
        | succ i => simp at h1'
      rcases hr with ⟨h4, _⟩ | ⟨_, h4, _⟩ | ⟨_, _, h4, h5⟩
      · exact absurd chgA_ok h4
      · refine absurd ⟨?_, by decide⟩ h4
        rw [chgA_size]
        show 320 + 128 ≤ 6912 - lenL [] - 267
        rw [lenL]; omega
      · exact ⟨h4, h5⟩
  have HX5 := Lib.hid hx5
  have HQ5 := Lib.hid (hk5.keep HQ4.out (fun h => h.2 (by simp)))
  clear hx5 hk5 hr HCh HX4 HI4 HQ4 HQ3
  have HG5 := Lib.hid (kd_get HX5.out.kx 1)
  unfold pgV at HG5
  go_wp2_with fail
  refine (HG5.out).mono ?_
  rintro e w6 ⟨Q, cd, rfl, hq6, hk6, hr6⟩
  obtain ⟨rfl, hQ⟩ : cd = 0 ∧ pgC Q = pgC qA18 := by
    rcases hr6 with ⟨_, _, q3, q4⟩ | ⟨q1, _⟩
    · exact ⟨q3, q4.trans sA18_page⟩
    · omega
  rw [hQ]
  have HX6 : Hid (Cx w w6 [w3.heap.size, w2.heap.size] c lp p dp 6 lb mb n5 lv2 sA18) := ⟨HX5.out.ch.keep hk6 (fun q hq => own_ch hq), hq6, HX5.out.hi, HX5.out.most, HX5.out.ok, HX5.out.cn⟩
  have HQ6 := Lib.hid (hk6.keep HQ5.out (own_loc (by simp)))
  clear hq6 hk6 hr6 HG5 hQ HX5 HQ5
  have HN6 : Hid ((w6.alloc (.cells (pgC pageZ) 49)).heap[w6.heap.size]? = some (.cells (pgC pageZ) 49 (0, 0))) := hN rfl
  go_upto_region 7 with (refine wpList_store_whole rfl 49 _ _ rfl _ (pgC qA18) rfl rfl _ (pgC pageZ) HN6.out rfl (by kernel_rfl) (pgC_one _) ?_; intro w7 HA7 K7; (have hk7 : Hid (Keeps (fun _ => False) w6 w7) := ((Keeps.refl (fun _ => False) w6).alloc _).trans K7.out (fun q hq e => by omega)); (have HX7 : Hid (Cx w w7 [w6.heap.size, w3.heap.size, w2.heap.size] c lp p dp 6 lb mb n5 lv2 sA18) := HX6.out.push hk7.out.below _ (Nat.le_refl _) (block_lt HA7.out)); (have HQ7 := Lib.hid (hk7.out.keep HQ6.out (fun h => h))); clear HN6 K7 hk7 HX6 HQ6)
  have HAb := Lib.hid (cx_abort HX7.out sA18_rev (by show 2 < 10000000000; omega) (by omega))
  unfold kitV at HAb
  go_wp2_with fail
  refine (HAb.out).mono ?_
  rintro e w8 ⟨rfl, hk8, σ', s', n8, lv8, hu, hs', hx8⟩
  have hpg8 : Hid (pgC (((σ'.last 4 1 s').ended 0).M 1).1 = pgC q318) := by
    have h1 := und_pages (pg := 6) hu sA18_rev.good 1
    show pgC ((σ'.last 4 1 s').M 1).1 = _
    rw [(CS.last_M _ _ _ _).1]
    exact h1.trans sA18_back
  have hlv8 : Hid (((σ'.last 4 1 s').ended 0).lives = []) := by
    show ((σ'.last 4 1 s').lives).eraseIdx 0 = []
    rw [(CS.last_M _ _ _ _).2.1]
    have h1 := (und_len hu).1
    have h2 : σ'.lives.length = 1 := h1
    match hl : σ'.lives, h2 with
    | [a], _ => rfl
  obtain ⟨σ8, hσ8⟩ : ∃ x, (σ'.last 4 1 s').ended 0 = x := ⟨_, rfl⟩
  rw [hσ8] at hx8 hpg8 hlv8
  have HX8 := Lib.hid hx8
  have HA8 := Lib.hid (hk8.keep HA7.out (fun h => h.2 (by simp)))
  have HQ8 := Lib.hid (hk8.keep HQ7.out (fun h => h.2 (by simp)))
  clear hx8 hk8 hu hs' hσ8 HAb HX7 HA7 HQ7
  have HG8 := Lib.hid (kd_get HX8.out.kx 1)
  unfold pgV at HG8
  go_wp2_with fail
  refine (HG8.out).mono ?_
  rintro e w9 ⟨Q, cd, rfl, hq9, hk9, hr9⟩
  obtain ⟨rfl, hQ⟩ : cd = 0 ∧ pgC Q = pgC q318 := by
    rcases hr9 with ⟨_, _, q3, q4⟩ | ⟨q1, _⟩
    · exact ⟨q3, q4.trans hpg8.out⟩
    · omega
  rw [hQ]
  have HX9 : Hid (Cx w w9 [w6.heap.size, w3.heap.size, w2.heap.size] c lp p dp 6 lb mb n8 lv8 σ8) := ⟨HX8.out.ch.keep hk9 (fun q hq => own_ch hq), hq9, HX8.out.hi, HX8.out.most, HX8.out.ok, HX8.out.cn⟩
  have HQ9 := Lib.hid (hk9.keep HQ8.out (own_loc (by simp)))
  have HA9 := Lib.hid (hk9.keep HA8.out (own_loc (by simp)))
  clear hq9 hk9 hr9 HG8 hQ HX8 HQ8 HA8 hpg8
  have HN9 : Hid ((w9.alloc (.cells (pgC pageZ) 49)).heap[w9.heap.size]? = some (.cells (pgC pageZ) 49 (0, 0))) := hN rfl
  go_upto_region 9 with (refine wpList_store_whole rfl 49 _ _ rfl _ (pgC q318) rfl rfl _ (pgC pageZ) HN9.out rfl (by kernel_rfl) (pgC_one _) ?_; intro wa HBa Ka; (have hka : Hid (Keeps (fun _ => False) w9 wa) := ((Keeps.refl (fun _ => False) w9).alloc _).trans Ka.out (fun q hq e => by omega)); (have HXa : Hid (Cx w wa [w6.heap.size, w3.heap.size, w2.heap.size] c lp p dp 6 lb mb n8 lv8 σ8) := HX9.out.later hka.out.below); (have HQa := Lib.hid (hka.out.keep HQ9.out (fun h => h))); (have HAa := Lib.hid (hka.out.keep HA9.out (fun h => h))); clear HN9 Ka hka HX9 HQ9 HA9)
  have HL := Lib.hid (cx_lives HXa.out)
  rw [hlv8.out] at HL
  have e1 : eqPg qA18 qA18 = true := eqPg_same rfl
  have e2 : eqPg q318 q318 = true := eqPg_same rfl
  go_wp2_with (first
    | (refine wpList_load_want (by rfl) 49 _ rfl _ rfl 49 (pgC qA18) _ _ HAa.out Tryz.underlying49 rfl (by kernel_rfl) ?_)
    | (refine wpList_load_want (by rfl) 49 _ rfl _ rfl 49 (pgC qA18) _ _ HQa.out Tryz.underlying49 rfl (by kernel_rfl) ?_)
    | (refine wpList_load_want (by rfl) 49 _ rfl _ rfl 49 (pgC q318) _ _ HBa.out Tryz.underlying49 rfl (by kernel_rfl) ?_)
    | (refine wpList_eq_pg (by rfl) _ _ _ rfl qA18 qA18 true e1 rfl rfl ?_)
    | (refine wpList_eq_pg (by rfl) _ _ _ rfl q318 q318 true e2 rfl rfl ?_))
  refine (HL.out).mono ?_
  rintro e wb ⟨v', ho, hb, rfl, hbl⟩
  obtain ⟨a', c', hv⟩ := ho.form
  rw [List.length_nil] at hv
  subst hv
  have HB : Hid (Below w.heap.size w wb) := (HXa.out.later hbl).bel
  clear ho hb hbl HL
  go_wp2_with fail
  go_ret
  exact ⟨rfl, HB.out⟩
end Go.Proofs.YtimomjheanfbmaaGreatDoor

namespace Go.Proofs.YtimomjheanfbmaaGreatDoor
open Go.RowKit

/-! ### calls that are handed in -/
theorem lcL_length (c : LCall) : (lcL c).length = 8 := rfl
def LcOk (c : LCall) : Prop := c.dt.size ≤ maxLen ∧ RngK c.x ∧ RngK c.n ∧ RngK c.kind
def LcIs (w : World) (v : Value) (cs : List LCall) : Prop := Sl w v 8 (cs.map lcL) ∧ ∀ c ∈ cs, LcOk c
theorem LcIs.later {w w' : World} {v : Value} {cs : List LCall} (h : LcIs w v cs) (hb : Below w.heap.size w w') : LcIs w' v cs := ⟨h.1.later hb, h.2⟩
theorem LcIs.form {w : World} {v : Value} {cs : List LCall} (h : LcIs w v cs) : ∃ a c, v = .slice a cs.length c := by
  obtain ⟨⟨a, c, h1, -⟩, -⟩ := h
  exact ⟨a, c, by rw [h1, List.length_map]⟩
theorem LcIs.max {w : World} {v : Value} {cs : List LCall} (h : LcIs w v cs) : cs.length ≤ maxLen := by
  obtain ⟨⟨a, c, h1, h2, -⟩, -⟩ := h
  rwa [List.length_map] at h2
theorem LcIs.at {w : World} {a : Option Addr} {n cap : Nat} {cs : List LCall} (h : LcIs w (.slice a n cap) cs) (k : Nat) (c : LCall) (hc : cs[k]? = some c) :
    ∃ b off, a = some ⟨b, off, none⟩ ∧ b < w.heap.size ∧ w.rangeAt b (off + k * 8) (lcL c) ∧ LcOk c := by
  obtain ⟨⟨a', c', h1, h2, h3⟩, hok⟩ := h
  have hk : k < cs.length := (List.getElem?_eq_some_iff.1 hc).1
  obtain ⟨b, off, e1, e2, e3⟩ := h3 (by intro he; rw [List.map_eq_nil_iff] at he; subst he; simp at hk)
  simp only [Value.slice.injEq] at h1
  refine ⟨b, off, by rw [h1.1, e1], e2, fun j v hj => ?_, hok c (List.mem_of_getElem? hc)⟩
  have hjl : j < 8 := by
    have := (List.getElem?_eq_some_iff.1 hj).1
    rwa [lcL_length] at this
  rw [e3 k (by rw [List.length_map]; exact hk) j hjl, List.getElem?_map, hc]
  exact hj
theorem flatLCall : flat Tryz.prog 6 35 = some [.i .i64, .i .i64, .i .i64, .i .i64, .i .i64, .s, .i .i64, .i .i64] := by kernel_rfl
theorem lcall_of {H : Type} {enc : TypeId × Value → H} {W : World} {sp : Nat → Bool} {held : Bool} {x : List Value} (h : ∃ fuel y, DataW.trod enc Tryz.prog W 0 sp held fuel 35 x = some y) : ∃ b : LCall, x = lcL b ∧ LcOk b := by
  obtain ⟨fuel, y, hy⟩ := h
  have hf := fa_flat (enc := enc) (P := Tryz.prog) (W := W) (sp := sp) (held := held) 6 _ _ flatLCall fuel x y hy
  obtain ⟨_, r0, rfl, ⟨k, rfl, z0⟩, f0⟩ := fb1 hf
  obtain ⟨_, r1, rfl, ⟨xx, rfl, z1⟩, f1⟩ := fb1 f0
  obtain ⟨_, r2, rfl, ⟨pg, rfl, z2⟩, f2⟩ := fb1 f1
  obtain ⟨_, r3, rfl, ⟨sl, rfl, z3⟩, f3⟩ := fb1 f2
  obtain ⟨_, r4, rfl, ⟨st, rfl, z4⟩, f4⟩ := fb1 f3
  obtain ⟨_, r5, rfl, ⟨dt, rfl, z5⟩, f5⟩ := fb1 f4
  obtain ⟨_, r6, rfl, ⟨mo, rfl, z6⟩, f6⟩ := fb1 f5
  obtain ⟨_, r7, rfl, ⟨nn, rfl, z7⟩, f7⟩ := fb1 f6
  obtain rfl := fb0 f7
  exact ⟨⟨k, xx, pg, sl, st, dt, mo, nn⟩, rfl, z5, bounds_i64 z1, bounds_i64 z7, bounds_i64 z0⟩
set_option maxRecDepth 100000 in
theorem lcalls_of {H : Type} {enc : TypeId × Value → H} {W : World} {base : Nat} {v : Value} {d : DataW H} {p : List MemPlace} (hok : Value.okWide Tryz.prog W .any base 22 v)
    (h : DataW.Trod enc Tryz.prog W 0 (fun _ => true) true 22 v d p) : ∃ cs, LcIs W v cs := by
  obtain ⟨xs, hxs, hx⟩ := Sl_of (n := 8) Tryz.underlying22 (by kernel_rfl) (by decide) (Go.WideShapes.okWide_slice Tryz.underlying22 hok) h
  obtain ⟨cs, rfl, hz⟩ := list_of (fun x hm => lcall_of (hx x hm).2)
  exact ⟨cs, hxs, hz⟩
end Go.Proofs.YtimomjheanfbmaaGreatDoor

namespace Go.Proofs.YtimomjheanfbmaaGreatDoor
open Go.RowKit

section
variable {w0 w w' : World} {L : List Nat} {c lp p dp pg lb mb n : Nat} {lv : Value} {σ : CS}
set_option maxRecDepth 100000 in
theorem cx_back_none (h : Cx w0 w L c lp p dp pg lb mb n lv σ) (x tu : Int) (hx : ∀ s ∈ σ.lives, s.1 ≠ x) (kv : Value) :
    Calls Tryz.prog 13 #[.pointer (some ⟨c, 0, none⟩), .int .i64 x, .int .i64 tu, kv] w fun e w' => e = .returned (.int .i64 191) ∧ Below w.heap.size w w' := by
  have HFi := Lib.hid (ch_find h.ch x)
  clear h
  go_enter Tryz.func13, Tryz.ntmps13
  go_wp2_with fail
  refine (HFi.out).mono ?_
  rintro e w1 ⟨hr, hb1⟩
  obtain rfl : e = .returned (.int .i64 (-1)) := by
    rcases hr with ⟨j, s', e1, e2, e3, he⟩ | ⟨_, he⟩
    · exact absurd e2 (hx s' (List.mem_of_getElem? e1))
    · exact he
  have HB := Lib.hid hb1
  clear hr hb1 HFi hx
  go_wp2_with fail
  go_ret
  exact ⟨rfl, HB.out⟩
/-- going back keeps what holds -/
theorem cx_back_inv (h : Cx w0 w L c lp p dp 6 lb mb n lv σ) (hv : Inv 6 σ) (x tu : Int) (hf : σ.fresh ≤ 2000000000) (hcnt : σ.cnt < 10000000000) :
    Calls Tryz.prog 13 #[.pointer (some ⟨c, 0, none⟩), .int .i64 x, .int .i64 tu, kitV p] w fun e w' => ∃ cd n' σ', e = .returned (.int .i64 cd) ∧ Keeps (Own w0 L) w w' ∧ Cx w0 w' L c lp p dp 6 lb mb n' lv σ' ∧ Inv 6 σ' ∧ σ'.fresh = σ.fresh ∧ σ'.cnt ≤ σ.cnt + 100 := by
  by_cases hx : ∃ s ∈ σ.lives, s.1 = x
  · obtain ⟨s, hs, rfl⟩ := hx
    obtain ⟨i, hi⟩ := List.mem_iff_getElem?.1 hs
    obtain ⟨l, k, g1, g2, g3, g4, g5, g6, g7⟩ := hv.live i s hi
    have hle := (h.ch.lg.2.1.le s.1).1
    rw [g3] at hle
    have htk := hv.tk
    have hle' : 128 + 320 * l.length ≤ σ.T.1 := hle
    refine (cx_back h s.1 tu ⟨g6, by omega⟩ i s ⟨hi, rfl, fun j s' hj hs' he => by have := hv.uniq j i s' s hs' hi he; omega⟩ l g1 g2 ⟨by rw [g3]; show _ ≤ 128 + 320 * l.length; omega, by rw [g3]; exact Nat.le_refl _⟩ hv.tk hcnt (by omega)).mono ?_
    rintro e w' ⟨rfl, hk, σ', n', next, rest, hx', hb, hn⟩
    obtain ⟨done, hu, hd, -⟩ := hb.und
    subst hd
    have hc := hb.cnt
    exact ⟨0, n', σ', rfl, hk, hx', hv.undo hi rfl g1 hb.good g3 hu hb.tk, (und_len hu).2, by omega⟩
  · refine (cx_back_none h x tu (fun s hs he => hx ⟨s, hs, he⟩) (kitV p)).mono ?_
    rintro e w' ⟨rfl, hb⟩
    exact ⟨191, n, σ, rfl, Keeps.of_below _ hb, h.later hb, hv, rfl, by omega⟩
theorem cx_begin_inv (h : Cx w0 w L c lp p dp pg lb mb n lv σ) (hv : Inv pg σ) (hf : σ.fresh ≤ 2000000000) (hcnt : σ.cnt < 10000000000) :
    Calls Tryz.prog 12 #[.pointer (some ⟨c, 0, none⟩)] w fun e w' => ∃ a b n' lv' σ', e = .returned (.tuple #[.int .i64 a, .int .i64 b]) ∧ Keeps (Own w0 L) w w' ∧ Cx w0 w' L c lp p dp pg lb mb n' lv' σ' ∧ Inv pg σ' ∧ σ'.fresh ≤ σ.fresh + 1 ∧ σ'.cnt ≤ σ.cnt + 1 := by
  refine (cx_begin h ⟨hv.fresh, hf⟩ (by omega)).mono ?_
  rintro e w' ⟨hk, hr⟩
  rcases hr with ⟨_, rfl, hx⟩ | ⟨_, _, rfl, hx⟩ | ⟨_, hfit, rfl, n', lv', hx⟩
  · exact ⟨_, _, n, lv, σ, rfl, hk, hx, hv, by omega, by omega⟩
  · exact ⟨_, _, n, lv, σ, rfl, hk, hx, hv, by omega, by omega⟩
  · exact ⟨_, _, n', lv', σ.begun, rfl, hk, hx, hv.begun hfit, Int.le_refl _, Nat.le_refl _⟩
theorem imgP_dt {f : Nat → Pg} (hok : ∀ i, i < 6 → PgOk (f i)) {y : LCall} (hy : y.dt.size ≤ maxLen) : ∀ i, i < 6 → ((imgP f y).dt i).size ≤ maxLen := fun i hi => by
  show (if i = pos6 y.slot then y.dt else (f (pos6 y.page)).dt i).size ≤ maxLen
  split
  · exact hy
  · have h1 := ((hok (pos6 y.page) (pos6_eq _).2).2 i hi).2.2.1
    unfold maxLen; omega
theorem imgU_good {f : Nat → Pg} (hok : ∀ i, i < 6 → PgOk (f i)) (y : LCall) (x last : Int) (ims : List (Int × Pg)) : GoodU 6 (chgR x last (imgU f y) ims) := by
  have h1 := (pos6_eq y.page).2
  have h2 := (pos6_eq y.slot).2
  exact ⟨rfl, ⟨by show (0 : Int) ≤ (pos6 y.page : Int); omega, by show (pos6 y.page : Int) < ((6 : Nat) : Int); omega⟩, ⟨by show (0 : Int) ≤ (pos6 y.slot : Int); omega, by show (pos6 y.slot : Int) < 6; omega⟩, (hok _ h1).2 _ h2⟩
theorem cx_change_inv (h : Cx w0 w L c lp p dp 6 lb mb n lv σ) (hv : Inv 6 σ) (hcnt : σ.cnt < 10000000000) {f : Nat → Pg} (hok : ∀ i, i < 6 → PgOk (f i)) (x : Int) (hx : RngK x) (y : LCall) (hy : y.dt.size ≤ maxLen) (ib : Nat) (hib : ib ∈ L)
    (hi : w.heap[ib]? = some (.cells (imA ((pos6 y.page : Int), imgP f y)) 51 (0, 0))) :
    Calls Tryz.prog 15 #[.pointer (some ⟨c, 0, none⟩), .int .i64 x, .agg (unL (imgU f y)).toArray, .slice (some ⟨ib, 0, none⟩) 1 1, .int .i64 0] w fun e w' => ∃ cd n' σ', e = .returned (.int .i64 cd) ∧ Keeps (Own w0 L) w w' ∧ Cx w0 w' L c lp p dp 6 lb mb n' lv σ' ∧ Inv 6 σ' ∧ σ'.fresh = σ.fresh ∧ σ'.cnt ≤ σ.cnt + 1 ∧ (cd = 0 → PgOk (imgP f y)) := by
  have hl := (pos6_eq y.page).2
  refine (cx_change h (by omega) x hx (imgU f y) (by show (1 : Int) ≠ 0; omega) (by show (0 : Nat) ≤ maxLen; omega) ?_ [((pos6 y.page : Int), imgP f y)] (by simp) ?_ ?_ _ (fun w' hk => sl_one (hk.keep hi (fun h => h.2 hib)))).mono ?_
  · have h1 := ((hok (pos6 y.page) hl).2 (pos6 y.slot) (pos6_eq _).2).2.2.1
    show ((f (pos6 y.page)).dt (pos6 y.slot)).size ≤ maxLen
    unfold maxLen; omega
  · intro z hz
    rw [List.mem_singleton.1 hz]
    show (pos6 y.page : Int) < ((6 : Nat) : Int)
    omega
  · intro z hz i hi
    rw [List.mem_singleton.1 hz]
    exact imgP_dt hok hy i hi
  · rintro e w' ⟨hk, hr⟩
    rcases hr with ⟨_, rfl, hx'⟩ | ⟨i, s, h1, h2, h3, hr⟩
    · exact ⟨_, n, σ, rfl, hk, hx', hv, rfl, by omega, fun h => by omega⟩
    · rcases hr with ⟨_, rfl, hx'⟩ | ⟨_, _, rfl, hx'⟩ | ⟨h4, h5, rfl, n', hx'⟩
      · exact ⟨_, n, σ, rfl, hk, hx', hv, rfl, by omega, fun h => by omega⟩
      · exact ⟨_, n, σ, rfl, hk, hx', hv, rfl, by omega, fun h => by omega⟩
      · exact ⟨0, n', _, rfl, hk, hx', hv.changed h1 h2 (imgU_good hok y x s.2.2 _) h5, rfl, Nat.le_refl _, fun _ => (h4.2.1 _ (List.mem_singleton.2 rfl)).2⟩
end
end Go.Proofs.YtimomjheanfbmaaGreatDoor
