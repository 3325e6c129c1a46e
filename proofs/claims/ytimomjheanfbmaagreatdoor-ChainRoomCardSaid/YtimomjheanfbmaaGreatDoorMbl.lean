import Derived.Test.YtimomjheanfbmaaGreatDoorMao
import Derived.Test.YtimomjheanfbmaaGreatDoorMai
import Derived.Test.YtimomjheanfbmaaGreatDoorMbk
import Derived.Deep.DeepCutAuto
import Derived.Deep.CutBlock
import Derived.BigRegion
set_option linter.unusedSimpArgs false
set_option linter.unusedVariables false
namespace Go.Proofs.YtimomjheanfbmaaGreatDoor
open Go.RowKit

/-! ### a chain over its log and its pool -/
structure CS where
  recs : List Rc
  M : Nat → Pg × Int
  lives : List Lv
  fresh : Int
  B : Int → Nat × Nat
  T : Nat × Nat
  cnt : Nat
def CS.rs (σ : CS) : List ByteArray := σ.recs.map rcS
/-- the place of the next record -/
def CS.fin (σ : CS) : Nat := 54 + lenL σ.rs
def tk : Int → Bool := fun _ => true
structure Cx (w0 w : World) (L : List Nat) (c lp p dp pg lb mb n : Nat) (lv : Value) (σ : CS) : Prop where
  ch : ChAt w c lp p lb mb n lv σ.lives σ.fresh σ.B σ.T
  kx : Kx w0 w (chL c lb mb lv ++ L) p lp dp σ.rs σ.M (4 * σ.recs.length) (DirtyIn pg 4 tk)
  hi : ∀ q ∈ chL c lb mb lv, w0.heap.size ≤ q ∧ q ∉ L
  most : MostOk σ.T
  ok : ∀ R ∈ σ.recs, RcOk R
  cn : n ≤ σ.cnt
theorem roomOf (rs : List ByteArray) (i0 : Nat) : (mkLg 0 128 1 P0 rs i0).room = 6912 - (lenL rs : Int) := by
  have h1 : P0.size = 0 := rfl
  show ((128 : Nat) : Int) * 54 - (((54 * 1 + P0.size + lenL rs : Nat) : Int) - ((54 * 1 : Nat) : Int)) = _
  omega
def Full (rs : List ByteArray) (s : ByteArray) : Prop := 6912 < lenL rs + (2 + s.size)
theorem refuses_iff {rs : List ByteArray} {s : ByteArray} (h0 : s.size ≠ 0) (h1 : s.size ≤ 65535) : refuses rs s = true ↔ Full rs s := by
  unfold refuses Lg.refuse Full
  rw [if_neg h0, if_neg (by omega), roomOf]
  by_cases h : (6912 - (lenL rs : Int)) < 2 + (s.size : Int)
  · rw [if_pos h]; exact ⟨fun _ => by omega, fun _ => rfl⟩
  · rw [if_neg h]; exact ⟨fun h => by simp at h, fun h' => by omega⟩
theorem rc_sizes {R : Rc} (h : RcOk R) : (rcS R).size ≠ 0 ∧ (rcS R).size ≤ 65535 := by
  have h1 := rcS_size h
  obtain ⟨-, -, -, -, -, -, -, -, -, k1, -, k2, k3, k4⟩ := h.1
  omega
/-- images go into pages -/
def putIms (M : Nat → Pg × Int) (l : List (Int × Pg)) (st : Int) : Nat → Pg × Int := l.foldl (fun M x => upd M x.1.toNat (x.2, st)) M
section
variable {w0 w w' : World} {L : List Nat} {c lp p dp pg lb mb n : Nat} {lv : Value} {σ : CS}
theorem Cx.later (h : Cx w0 w L c lp p dp pg lb mb n lv σ) (hb : Below w.heap.size w w') : Cx w0 w' L c lp p dp pg lb mb n lv σ :=
  ⟨h.ch.later hb, h.kx.later hb, h.hi, h.most, h.ok, h.cn⟩
theorem Cx.more (h : Cx w0 w L c lp p dp pg lb mb n lv σ) (hb : Below w.heap.size w w') (L' : List Nat) (hl : ∀ k ∈ L', k < w'.heap.size) (hn : ∀ k ∈ L', k ∈ L ∨ w.heap.size ≤ k) : Cx w0 w' L' c lp p dp pg lb mb n lv σ :=
  ⟨h.ch.later hb, h.kx.more hb _ (fun k hk => by
    rcases List.mem_append.1 hk with hk | hk
    · exact Nat.lt_of_lt_of_le (h.ch.lt k hk) hb.size
    · exact hl k hk) (fun k hk => by
    rcases List.mem_append.1 hk with hk | hk
    · exact .inl (List.mem_append_left _ hk)
    · exact (hn k hk).imp (fun h => List.mem_append_right _ h) (fun h => h)), fun q hq => ⟨(h.hi q hq).1, fun h' => by
    rcases hn q h' with h2 | h2
    · exact (h.hi q hq).2 h2
    · have := h.ch.lt q hq; omega⟩, h.most, h.ok, h.cn⟩
theorem Cx.less (h : Cx w0 w L c lp p dp pg lb mb n lv σ) (L' : List Nat) (hn : ∀ k ∈ L', k ∈ L) : Cx w0 w L' c lp p dp pg lb mb n lv σ :=
  ⟨h.ch, h.kx.less _ (fun k hk => by
    rcases List.mem_append.1 hk with hk | hk
    · exact List.mem_append_left _ hk
    · exact List.mem_append_right _ (hn k hk)), fun q hq => ⟨(h.hi q hq).1, fun h' => (h.hi q hq).2 (hn q h')⟩, h.most, h.ok, h.cn⟩
theorem Cx.bel (h : Cx w0 w L c lp p dp pg lb mb n lv σ) : Below w0.heap.size w0 w := h.kx.bel
theorem Cx.count (h : Cx w0 w L c lp p dp pg lb mb n lv σ) : σ.recs.length ≤ 2304 ∧ lenL σ.rs ≤ 6912 := by
  have := h.kx.count
  unfold CS.rs at this ⊢
  rw [List.length_map] at this
  exact ⟨this.1, this.2.1⟩
theorem Kx.loc {L : List Nat} {rs : List ByteArray} {M : Nat → Pg × Int} {N : Nat} {F : Pl → Prop} (h : Kx w0 w L p lp dp rs M N F) : ∀ k ∈ L, k < w.heap.size := by
  obtain ⟨i0, X, sv, S, Sl, Sd, D, h1, _⟩ := h
  exact h1.loc
theorem Kx.push {A L : List Nat} {rs : List ByteArray} {M : Nat → Pg × Int} {N : Nat} {F : Pl → Prop} (h : Kx w0 w (A ++ L) p lp dp rs M N F) (hb : Below w.heap.size w w') (q : Nat) (h1 : w.heap.size ≤ q) (h2 : q < w'.heap.size) : Kx w0 w' (A ++ (q :: L)) p lp dp rs M N F :=
  h.more hb _ (fun k hk => by
    rcases List.mem_append.1 hk with hk | hk
    · exact Nat.lt_of_lt_of_le (h.loc k (List.mem_append_left _ hk)) hb.size
    · rcases List.mem_cons.1 hk with rfl | hk
      · exact h2
      · exact Nat.lt_of_lt_of_le (h.loc k (List.mem_append_right _ hk)) hb.size) (fun k hk => by
    rcases List.mem_append.1 hk with hk | hk
    · exact .inl (List.mem_append_left _ hk)
    · rcases List.mem_cons.1 hk with rfl | hk
      · exact .inr h1
      · exact .inl (List.mem_append_right _ hk))
theorem Kx.pop {A L : List Nat} {q : Nat} {rs : List ByteArray} {M : Nat → Pg × Int} {N : Nat} {F : Pl → Prop} (h : Kx w0 w (A ++ (q :: L)) p lp dp rs M N F) : Kx w0 w (A ++ L) p lp dp rs M N F :=
  h.less _ (fun k hk => by
    rcases List.mem_append.1 hk with hk | hk
    · exact List.mem_append_left _ hk
    · exact List.mem_append_right _ (List.mem_cons_of_mem _ hk))
theorem Cx.push (h : Cx w0 w L c lp p dp pg lb mb n lv σ) (hb : Below w.heap.size w w') (q : Nat) (h1 : w.heap.size ≤ q) (h2 : q < w'.heap.size) : Cx w0 w' (q :: L) c lp p dp pg lb mb n lv σ :=
  ⟨h.ch.later hb, h.kx.push hb q h1 h2, fun k hk => ⟨(h.hi k hk).1, fun h' => by
    rcases List.mem_cons.1 h' with rfl | h'
    · have := h.ch.lt _ hk; omega
    · exact (h.hi k hk).2 h'⟩, h.most, h.ok, h.cn⟩
theorem Cx.pop {q : Nat} (h : Cx w0 w (q :: L) c lp p dp pg lb mb n lv σ) : Cx w0 w L c lp p dp pg lb mb n lv σ := h.less _ (fun k hk => List.mem_cons_of_mem _ hk)
theorem own_cons {A L : List Nat} {q : Nat} {a b : World} (h : Keeps (Own w0 (A ++ (q :: L))) a b) : Keeps (Own w0 (A ++ L)) a b := h.mono (fun k _ hk => ⟨hk.1, fun h' => hk.2 (by
  rcases List.mem_append.1 h' with h' | h'
  · exact List.mem_append_left _ h'
  · exact List.mem_append_right _ (List.mem_cons_of_mem _ h'))⟩)
theorem putIms_take {M : Nat → Pg × Int} {l : List (Int × Pg)} {st : Int} {j : Nat} (h : j < l.length) : putIms M (l.take (j + 1)) st = upd (putIms M (l.take j) st) (l[j]).1.toNat ((l[j]).2, st) := by
  unfold putIms
  rw [List.take_succ_eq_append_getElem h, List.foldl_append]
  rfl
theorem own_ch {q : Nat} (hq : q ∈ chL c lb mb lv) : ¬ Own w0 (chL c lb mb lv ++ L) q := fun h => h.2 (List.mem_append_left _ hq)
theorem own_loc {q : Nat} (hq : q ∈ L) : ¬ Own w0 (chL c lb mb lv ++ L) q := fun h => h.2 (List.mem_append_right _ hq)
end
/-- what a record's copy and an image's copy are -/
def ChW (rb xb c lp p : Nat) (A : Array Value) (x : Int × Pg) (w : World) : Prop := w.cell? ⟨c, 1, none⟩ = some (.pointer (some ⟨p, 0, none⟩)) ∧ w.heap[xb]? = some (.cells (imA x) 51 (0, 0))
theorem chw_cells {rb xb c lp p : Nat} {A : Array Value} {x : Int × Pg} {w : World} (h : ChW rb xb c lp p A x w) : w.cell? ⟨c, 1, none⟩ = some (.pointer (some ⟨p, 0, none⟩)) ∧ w.cell? ⟨xb, 0, none⟩ = some (.int .i64 x.1) ∧ True :=
  ⟨h.1, (cell_at h.2 0).trans rfl, trivial⟩
set_option maxRecDepth 100000 in
set_option maxHeartbeats 1600000 in
theorem cx_write {w0 w : World} {L : List Nat} {c lp p dp pg lb mb n : Nat} {lv : Value} {σ : CS} (h : Cx w0 w L c lp p dp pg lb mb n lv σ) (R : Rc) (hok : RcOk R) (hi1 : R.ims.length ≤ 1) (hpg : ∀ x ∈ R.ims, x.1 < (pg : Int)) (iv lw : Value)
    (hR : ∀ w', Keeps (Own w0 (chL c lb mb lv ++ L)) w w' → RcSl w' R iv lw) :
    Calls Tryz.prog 57 #[.pointer (some ⟨c, 0, none⟩), .agg (rcC R iv lw)] w fun e w' => ((Full σ.rs (rcS R) ∧ ∃ cd, cd ≠ 0 ∧ e = .returned (.tuple #[.int .i64 0, .int .i64 cd]) ∧ Cx w0 w' L c lp p dp pg lb mb n lv σ) ∨
      (¬ Full σ.rs (rcS R) ∧ e = .returned (.tuple #[.int .i64 (σ.fin : Int), .int .i64 0]) ∧ Cx w0 w' L c lp p dp pg lb mb n lv { σ with recs := σ.recs ++ [R], M := putIms σ.M R.ims (σ.fin : Int) })) ∧ Keeps (Own w0 (chL c lb mb lv ++ L)) w w' := by
  have hsz := rc_sizes hok
  have hfu := Lib.hid (refuses_iff (rs := σ.rs) hsz.1 hsz.2)
  have hmx : Hid ((rcS R).size ≤ maxLen) := by show _ ≤ _; unfold maxLen; omega
  have HE := Lib.hid (fun w' (hk : Keeps (Own w0 (chL c lb mb lv ++ L)) w w') => rc_encode_ok R iv lw w' (hR w' hk) hok)
  have HR := Lib.hid hR
  have H := Lib.hid h
  obtain ⟨RB, hRB⟩ : ∃ S, rcS R = S := ⟨_, rfl⟩
  rw [hRB] at HE hmx hfu ⊢
  replace hRB := Lib.hid hRB
  have hol := (hR w (Keeps.refl _ _))
  obtain ⟨a, m, cap, rfl, hm, hmm, hsl⟩ := sl_open hol.1
  rw [List.length_map] at hm
  have hones := Lib.hid (rcC_one (R := R) (iv := .slice a m cap) (lv := lw) rfl (by obtain ⟨a', m', c', rfl, _⟩ := sl_open hol.2.1; rfl))
  have hm1 : Hid (m ≤ 1 ∧ m = R.ims.length) := ⟨by omega, hm⟩
  replace hok := Lib.hid hok
  replace hpg := Lib.hid hpg
  have HQ : Hid ((w.alloc (.cells (rcC R (.slice a m cap) lw) 65)).heap[w.heap.size]? = some (.cells (rcC R (.slice a m cap) lw) 65 (0, 0))) := hN rfl
  have HE0 := Lib.hid (HE.out (w.alloc (.cells (rcC R (.slice a m cap) lw) 65)) ((Keeps.refl _ _).alloc _))
  have hwl := Lib.hid h.bel.size
  obtain ⟨fin, hfin⟩ : ∃ f, σ.fin = f := ⟨_, rfl⟩
  have hfn : Hid (fin = 54 + lenL σ.rs) := hfin.symm
  have hcount := Lib.hid h.count
  rw [hfin]
  clear h hR hol hsl hm hmm hsz HE hfin
  go_enter Tryz.func57, Tryz.ntmps57
  go_wp2_with (refine wpList_load_row rfl 65 _ rfl _ rfl 65 _ _ _ HQ.out Tryz.underlying65 rfl (by kernel_rfl) ?_)
  refine (HE0.out).mono ?_
  rintro e w1 ⟨rfl, hb1⟩
  have HK1 : Hid (Keeps (Own w0 (chL c lb mb lv ++ L)) w w1) := ((Keeps.refl _ _).alloc _).trans (Keeps.of_below (fun _ => False) hb1) (fun _ _ h => h.elim)
  have HQ1 := Lib.hid (hBs hb1 HQ.out)
  have HX1 := Lib.hid (H.out.push (bT (bA bR) hb1) w.heap.size (Nat.le_refl _) (block_lt HQ1.out))
  clear hb1 HE0 HQ
  have HAp := Lib.hid (kx_append HX1.out.kx RB hmx.out)
  have C0 : w1.cell? ⟨c, 0, none⟩ = some (.pointer (some ⟨lp, 0, none⟩)) := cell_at HX1.out.ch.cell 0
  go_wp2_with fail
  refine (HAp.out).mono ?_
  rintro e w2 ⟨hres, hk2⟩
  have hrb : w.heap.size ∈ w.heap.size :: L := by simp
  have HQ2 := Lib.hid (hk2.keep HQ1.out (own_loc hrb))
  have HC2 := Lib.hid (HX1.out.ch.keep hk2 (fun q hq => own_ch hq))
  have HK2 : Hid (Keeps (Own w0 (chL c lb mb lv ++ L)) w w2) := HK1.out.trans (own_cons hk2) (fun k _ h => h)
  have HB2 := Lib.hid (hk2.belowB (by have := HX1.out.bel.size; exact this) (fun k hk => hk.1))
  clear C0 hk2 HAp
  rcases hres with ⟨hrf, cd, hcd, rfl, hkx⟩ | ⟨hrf, rfl, hkx⟩
  · have HX2 : Hid (Cx w0 w2 L c lp p dp pg lb mb n lv σ) := (Cx.pop (q := w.heap.size) ⟨HC2.out, hkx, HX1.out.hi, HX1.out.most, HX1.out.ok, HX1.out.cn⟩)
    have d1 : (cd == 0) = false := by simpa using hcd
    have d2 : (cd != 0) = true := by simpa using hcd
    have hF := Lib.hid (hfu.out.1 hrf)
    replace hcd := Lib.hid hcd
    clear hkx hrf HX1 HQ1 HB2
    go_wp2_with fail
    go_ret2
    exact ⟨.inl ⟨hF.out, cd, hcd.out, rfl, HX2.out⟩, HK2.out⟩
  have hF : Hid (¬ Full σ.rs RB) := fun h => by rw [hfu.out.2 h] at hrf; cases hrf
  have HX2 := Lib.hid hkx
  have hXr := Lib.hid (And.intro HX1.out.hi (And.intro HX1.out.most (And.intro HX1.out.ok HX1.out.cn)))
  rw [← hfn.out]
  have C11 : w2.cell? ⟨w.heap.size, 11, none⟩ = some (.slice a m cap) := cell_at HQ2.out 11
  clear hkx hrf HX1 HQ1 HB2 hrb
  go_wp2_with fail
  go_loopw [35] (fun y wr => ∃ j : Nat, j ≤ m ∧ y = .int .i64 j ∧ Hid (Kx w0 wr (chL c lb mb lv ++ (w.heap.size :: L)) p lp dp (σ.rs ++ [RB]) (putIms σ.M (R.ims.take j) (fin : Int)) (4 * (σ.recs.length + j)) (DirtyIn pg 4 tk)) ∧ Hid (ChAt wr c lp p lb mb n lv σ.lives σ.fresh σ.B σ.T) ∧ Hid (Keeps (Own w0 (chL c lb mb lv ++ L)) w wr)) (fun y _ => m - (intOf y).toNat)
  case atStart => exact ⟨0, by omega, rfl, HX2, HC2, HK2⟩
  case round =>
    obtain ⟨j, hj, rfl, HX, HC, HK⟩ := hrel
    by_cases hjm : j < m
    · have hj1 : j < R.ims.length := by have := hm1.out.2; omega
      obtain ⟨x, hx⟩ : ∃ x, R.ims[j] = x := ⟨_, rfl⟩
      have hxm : x ∈ R.ims := by rw [← hx]; exact List.getElem_mem hj1
      have hRS := HR.out wr HK.out
      obtain ⟨a', m', c', hv, -, -, hsl⟩ := sl_open hRS.1
      injection hv with hv1 hv2 hv3
      subst hv1 hv2 hv3
      obtain ⟨g, off, rfl, hgl, hrg⟩ := hsl.elem imL_length hj1
      rw [hx] at hrg
      have HRg := Lib.hid hrg
      have hxk := Lib.hid (hok.out.2.1 x hxm)
      have hxp := Lib.hid (hpg.out x hxm)
      have hdt := Lib.hid (hRS.2.2.2.2 x hxm)
      have hput := Lib.hid (putIms_take (M := σ.M) (st := (fin : Int)) hj1)
      rw [hx] at hput
      have hjI : (j : Int) < m := by omega
      have hj0 : (0 : Int) ≤ j := by omega
      have hjw : IntKind.i64.wrap ((j : Int) + 1) = (j : Int) + 1 := by have := hm1.out.1; rw [IntKind.wrap_i64]; omega
      have hiL : Hid ((Tryz.prog.info? 51).map (·.size) = some (imL x).length) := by show _ = _; kernel_rfl
      have hiA : Hid ((Tryz.prog.info? 51).map (·.size) = some (imA x).size) := by show _ = _; kernel_rfl
      have hio := Lib.hid (imA_one x)
      have hiz : Hid ((imA (0, pageZ)).size = (imA x).size) := rfl
      have HN : Hid ((wr.alloc (.cells (imA (0, pageZ)) 51)).heap[wr.heap.size]? = some (.cells (imA (0, pageZ)) 51 (0, 0))) := hN rfl
      have hfb : Hid (fin ≤ 7000) := by show _ ≤ _; rw [hfn.out]; have := hcount.out.2; omega
      have hjm1 : Hid (j < m) := hjm
      clear hsl hrg hRS hxm hgl hx hj1 C11
      go_upto_region 10 with (first
        | (refine wpList_load_mid rfl 51 _ rfl g (off + j * 17) rfl (imL x) _ HRg.out Tryz.underlying51 rfl hiL.out ?_)
        | (refine wpList_store_whole rfl 51 _ _ rfl _ (imA x) rfl rfl _ _ HN.out hiz.out hiA.out hio.out ?_; intro w3 HI3 K3; (have hk3 : Hid (Keeps (fun _ => False) wr w3) := ((Keeps.refl (fun _ => False) wr).alloc _).trans K3.out (fun q hq e => by omega)); clear HN K3))
      have HX3 : Hid (Kx w0 w3.drew (chL c lb mb lv ++ (wr.heap.size :: w.heap.size :: L)) p lp dp (σ.rs ++ [RB]) (putIms σ.M (R.ims.take j) (fin : Int)) (4 * (σ.recs.length + j)) (DirtyIn pg 4 tk)) := (HX.out.push hk3.out.below wr.heap.size (Nat.le_refl _) (block_lt HI3.out)).later (bD bR)
      have HC3 : Hid (ChAt w3.drew c lp p lb mb n lv σ.lives σ.fresh σ.B σ.T) := (HC.out.keep hk3.out (fun _ _ h => h)).later (bD bR)
      have HK3 : Hid (Keeps (Own w0 (chL c lb mb lv ++ L)) w w3.drew) := (HK.out.trans hk3.out (fun _ _ h => h.elim)).drew
      have hS0 : ChW w.heap.size wr.heap.size c lp p (imA x) x w3.drew := ⟨cell_at HC3.out.cell 1, hDr HI3.out⟩
      clear HX HC HK hk3
      refine wp_region_held_drew (S := ChW w.heap.size wr.heap.size c lp p (imA x) x) (by kernel_rfl) hS0 (fun hHeld => ?_)
      refine wpAnyH_take (i := 0) (oi := ⟨some 39, _, _, _, _, _⟩) (v := ?_) rfl (by kernel_rfl) (by kernel_rfl) (by kernel_rfl) (fun _ _ _ h => h) (Or.inl ⟨by rfl, ?_⟩) hHeld ?_
      rotate_left
      · intro w' hSw
        obtain ⟨s1, s2, s3⟩ := chw_cells hSw
        go_simp
        try with_reducible rfl
        try omega
      simp only [Act.put, List.setIfInBounds_toArray, List.set_cons_zero, List.set_cons_succ]
      refine wpAnyH_take (i := 1) (oi := ⟨some 40, _, _, _, _, _⟩) (v := ?_) rfl (by kernel_rfl) (by kernel_rfl) (by kernel_rfl) (fun _ _ _ h => h) (Or.inl ⟨by rfl, ?_⟩) hHeld ?_
      rotate_left
      · intro w' hSw
        obtain ⟨s1, s2, s3⟩ := chw_cells hSw
        go_simp
        try with_reducible rfl
        try omega
      simp only [Act.put, List.setIfInBounds_toArray, List.set_cons_zero, List.set_cons_succ]
      refine wpAnyH_take (i := 2) (oi := ⟨some 41, _, _, _, _, _⟩) (v := ?_) rfl (by kernel_rfl) (by kernel_rfl) (by kernel_rfl) (fun _ _ _ h => h) (Or.inl ⟨by rfl, ?_⟩) hHeld ?_
      rotate_left
      · intro w' hSw
        obtain ⟨s1, s2, s3⟩ := chw_cells hSw
        go_simp
        try with_reducible rfl
        try omega
      simp only [Act.put, List.setIfInBounds_toArray, List.set_cons_zero, List.set_cons_succ]
      refine wpAnyH_take (i := 3) (oi := ⟨some 42, _, _, _, _, _⟩) (v := ?_) rfl (by kernel_rfl) (by kernel_rfl) (by kernel_rfl) (fun _ _ _ h => h) (Or.inl ⟨by rfl, ?_⟩) hHeld ?_
      rotate_left
      · intro w' hSw
        obtain ⟨s1, s2, s3⟩ := chw_cells hSw
        go_simp
        try with_reducible rfl
        try omega
      simp only [Act.put, List.setIfInBounds_toArray, List.set_cons_zero, List.set_cons_succ]
      refine wpAnyH_take (i := 4) (oi := ⟨some 43, _, _, _, _, _⟩) (v := ?_) rfl (by kernel_rfl) (by kernel_rfl) (by kernel_rfl) (fun _ _ _ h => h) (Or.inl ⟨by rfl, ?_⟩) hHeld ?_
      rotate_left
      · intro w' hSw
        obtain ⟨s1, s2, s3⟩ := chw_cells hSw
        go_simp
        try with_reducible rfl
        try omega
      simp only [Act.put, List.setIfInBounds_toArray, List.set_cons_zero, List.set_cons_succ]
      refine wpAnyH_take (i := 5) (oi := ⟨some 44, _, _, _, _, _⟩) (v := ?_) rfl (by kernel_rfl) (by kernel_rfl) (by kernel_rfl) (fun _ _ _ h => h) (Or.inl ⟨by rfl, ?_⟩) hHeld ?_
      rotate_left
      · intro w' hSw
        obtain ⟨s1, s2, s3⟩ := chw_cells hSw
        go_simp
        try with_reducible rfl
        try omega
      simp only [Act.put, List.setIfInBounds_toArray, List.set_cons_zero, List.set_cons_succ]
      refine wpAnyH_take (i := 6) (oi := ⟨some 45, _, _, _, _, _⟩) (v := ?_) rfl (by kernel_rfl) (by kernel_rfl) (by kernel_rfl) (fun _ _ _ h => h) (Or.inl ⟨by rfl, ?_⟩) hHeld ?_
      rotate_left
      · intro w' hSw
        obtain ⟨s1, s2, s3⟩ := chw_cells hSw
        go_simp
        try with_reducible rfl
        try omega
      simp only [Act.put, List.setIfInBounds_toArray, List.set_cons_zero, List.set_cons_succ]
      refine wpAnyH_take (i := 7) (oi := ⟨some 46, _, _, _, _, _⟩) (v := .agg (pgC x.2)) rfl (by kernel_rfl) (by kernel_rfl) (by kernel_rfl) (fun _ _ _ h => h) (yieldsIf_load_mid (by rfl) _ _ rfl wr.heap.size 1 rfl (pgC x.2).toList _ (fun _ h => im_page h.2) Tryz.underlying49 rfl (by kernel_rfl)) hHeld ?_
      simp only [Act.put, List.setIfInBounds_toArray, List.set_cons_zero, List.set_cons_succ]
      refine wpAnyH_take (i := 8) (oi := ⟨some 47, _, _, _, _, _⟩) (v := ?_) rfl (by kernel_rfl) (by kernel_rfl) (by kernel_rfl) (fun _ _ _ h => h) (Or.inl ⟨by rfl, ?_⟩) hHeld ?_
      rotate_left
      · intro w' hSw
        obtain ⟨s1, s2, s3⟩ := chw_cells hSw
        go_simp
        try with_reducible rfl
        try omega
      simp only [Act.put, List.setIfInBounds_toArray, List.set_cons_zero, List.set_cons_succ]
      refine wpAnyH_ready (rs := [9]) (by kernel_rfl) (by simp) ?_
      refine AllReadyH.cons (o := ⟨some 48, _, _, _, _, _⟩) rfl (fun K hK => ?_) AllReadyH.nil
      go_simp
      go_at_call 27
      have HPt := Lib.hid (kd_put HX3.out (by rw [List.length_append, List.length_singleton]; unfold CS.rs; rw [List.length_map]; have := hjm1.out; have := hm1.out.1; omega) x.1 x.2 hdt.out (fin : Int) (by have := hfb.out; omega))
      unfold pgV at HPt
      refine (HPt.out).mono ?_
      rintro e w4 ⟨cd, M1, rfl, hk4, hres⟩
      obtain ⟨rfl, rfl, hkx⟩ : cd = 0 ∧ M1 = putIms σ.M (R.ims.take (j + 1)) (fin : Int) ∧ Kx w0 w4 (chL c lb mb lv ++ (wr.heap.size :: w.heap.size :: L)) p lp dp (σ.rs ++ [RB]) M1 (4 * (σ.recs.length + j) + 4) (DirtyIn pg 4 tk) := by
        rcases hres with ⟨_, _, _, r4, r5, r6⟩ | ⟨hno, _⟩
        · exact ⟨r4, by rw [r5, hput.out], r6.imp (fun X hX => ⟨hX.1, hX.2.1, fun _ _ _ _ => rfl⟩)⟩
        · exact absurd ⟨hxk.out.1.1, hxp.out, hxk.out.2⟩ hno
      have HX4 : Hid (Kx w0 w4 (chL c lb mb lv ++ (w.heap.size :: L)) p lp dp (σ.rs ++ [RB]) (putIms σ.M (R.ims.take (j + 1)) (fin : Int)) (4 * (σ.recs.length + (j + 1))) (DirtyIn pg 4 tk)) := by
        have := hkx.pop
        rwa [show 4 * (σ.recs.length + j) + 4 = 4 * (σ.recs.length + (j + 1)) by omega] at this
      have HC4 := Lib.hid (HC3.out.keep hk4 (fun q hq => own_ch hq))
      have HK4 : Hid (Keeps (Own w0 (chL c lb mb lv ++ L)) w w4) := HK3.out.trans (own_cons (own_cons hk4)) (fun _ _ h => h)
      have hS4 : Hid (ChW w.heap.size wr.heap.size c lp p (imA x) x w4) := ⟨cell_at HC4.out.cell 1, hk4.keep hS0.2 (own_loc (by simp))⟩
      clear hres hkx hk4 HPt HX3 HC3 HK3 hS0
      go_wp2_with fail
      refine hK.out _ _ hS4.out (fun hHeld => ?_)
      clear hK K
      try simp only [Act.put, List.setIfInBounds_toArray, List.set_cons_zero, List.set_cons_succ]
      refine wpAnyH_take (i := 10) (oi := ⟨some 11, _, _, _, _, _⟩) (v := .int .i64 0) rfl (by kernel_rfl) (by kernel_rfl) (by kernel_rfl) (fun _ _ _ h => h) (Or.inl ⟨by rfl, ?_⟩) hHeld ?_
      · intro w' hSw
        clear hSw
        go_simp
        try with_reducible rfl
      simp only [Act.put, List.setIfInBounds_toArray, List.set_cons_zero, List.set_cons_succ]
      clear hHeld
      refine wpAnyH_done (by kernel_rfl) ?_ _
      go_wp2_with fail
      go_roundw
      case rel => exact ⟨j + 1, by have := hjm1.out; omega, rfl, HX4, HC4, HK4⟩
      case measure => simp [intOf]; have := hjm1.out; omega
    · obtain rfl : j = m := by omega
      have hlt : ¬ (j : Int) < j := by omega
      go_wp2_with fail
      go_ret2
      have hlen : ({ σ with recs := σ.recs ++ [R], M := putIms σ.M R.ims (fin : Int) } : CS).rs = σ.rs ++ [RB] := by unfold CS.rs; rw [List.map_append, ← hRB.out]; rfl
      have htk : R.ims.take j = R.ims := List.take_of_length_le (by have := hm1.out.2; omega)
      have hX := HX.out
      rw [htk] at hX
      refine ⟨.inr ⟨hF.out, rfl, HC.out, ?_, fun q hq => ⟨(hXr.out.1 q hq).1, fun h => (hXr.out.1 q hq).2 (List.mem_cons_of_mem _ h)⟩, hXr.out.2.1, fun Q hQ => ?_, hXr.out.2.2.2⟩, HK.out⟩
      · rw [hlen]
        have h1 := hm1.out.1
        refine (hX.pop).mono ?_ ?_
        · show _ ≤ 4 * (σ.recs ++ [R]).length; rw [List.length_append, List.length_singleton]; omega
        · show 4 * (σ.recs ++ [R]).length ≤ _; rw [List.length_append, List.length_append, List.length_singleton, List.length_singleton]; unfold CS.rs; rw [List.length_map]; omega
      · rcases List.mem_append.1 hQ with hQ | hQ
        · exact hXr.out.2.2.1 Q hQ
        · rw [List.mem_singleton.1 hQ]; exact hok.out
end Go.Proofs.YtimomjheanfbmaaGreatDoor

namespace Go.Proofs.YtimomjheanfbmaaGreatDoor
open Go.RowKit

theorem Kp.keep3 {w0 w w' : World} {L : List Nat} {p lp dp : Nat} {rs : List ByteArray} {i0 : Nat} {X : Pl} {sv : Value} {S Sl Sd : List Nat} {D : Dev} {M : Nat → Pg × Int} {N : Nat} {R : Nat → Prop} (h : Kp w0 w L p lp dp rs i0 X sv S Sl Sd D M N) (hk : Keeps R w w') (hR : ∀ k, R k → k ∈ L ∧ w0.heap.size ≤ k) : Kp w0 w' L p lp dp rs i0 X sv S Sl Sd D M N :=
  ⟨⟨h.pw.pool.keep hk (fun k hk' h' => (h.fr k (.inl hk')).2 (hR k h').1), h.pw.ws.keep hk (fun k hk' h' => (h.fr k (.inr (.inl hk'))).2 (hR k h').1) (fun k hk' h' => (h.fr k (.inr (.inr hk'))).2 (hR k h').1), h.pw.dl, h.pw.dd, h.pw.ring, h.pw.fit⟩, h.inv, h.up, h.pot, h.nN, h.fr, fun k hk' => Nat.lt_of_lt_of_le (h.loc k hk') hk.size, h.bel.trans (hk.belowB h.bel.size (fun k hk => (hR k hk).2)), h.b128⟩
theorem Kx.keep3 {w0 w w' : World} {L : List Nat} {p lp dp : Nat} {rs : List ByteArray} {M : Nat → Pg × Int} {N : Nat} {F : Pl → Prop} {R : Nat → Prop} (h : Kx w0 w L p lp dp rs M N F) (hk : Keeps R w w') (hR : ∀ k, R k → k ∈ L ∧ w0.heap.size ≤ k) : Kx w0 w' L p lp dp rs M N F :=
  let ⟨i0, X, sv, S, Sl, Sd, D, h1, h2⟩ := h
  ⟨i0, X, sv, S, Sl, Sd, D, h1.keep3 hk hR, h2⟩
theorem flB_gi : flB 1073741824 = 4742290407621132288 := by decide +kernel
theorem flB_one : flB 1 = 4607182418800017408 := by decide +kernel
theorem flB_clr : flB 320 = 4644337115725824000 := by decide +kernel
theorem flB_end : flB 128 = 4638707616191610880 := by decide +kernel
set_option maxRecDepth 100000 in
theorem ch_size (R : Rc) (iv lw : Value) (w : World) (h : ∀ w', Below w.heap.size w w' → RcSl w' R iv lw) (hok : RcOk R) : Calls Tryz.prog 59 #[.agg (rcC R iv lw)] w fun e w' => e = .returned (.int .i64 (((rcS R).size + 2 : Nat) : Int)) ∧ Below w.heap.size w w' := by
  have hsz := rc_sizes hok
  have HQ : Hid ((w.alloc (.cells (rcC R iv lw) 65)).heap[w.heap.size]? = some (.cells (rcC R iv lw) 65 (0, 0))) := hN rfl
  have HE := Lib.hid (rc_encode_ok R iv lw _ (h (w.alloc (.cells (rcC R iv lw) 65)) (bA bR)) hok)
  obtain ⟨S, hS⟩ : ∃ S, rcS R = S := ⟨_, rfl⟩
  rw [hS] at HE hsz ⊢
  have hw : IntKind.i64.wrap ((S.size : Int) + 2) = ((S.size + 2 : Nat) : Int) := by rw [IntKind.wrap_i64]; omega
  clear h hS
  go_enter Tryz.func59, Tryz.ntmps59
  go_wp2_with (refine wpList_load_row rfl 65 _ rfl _ rfl 65 _ _ _ HQ.out Tryz.underlying65 rfl (by kernel_rfl) ?_)
  refine (HE.out).mono ?_
  rintro e w1 ⟨rfl, hb⟩
  have HB := Lib.hid (bT (bA bR) hb)
  clear hb HE HQ
  go_wp2_with fail
  go_ret
  exact ⟨by first | rfl | simp, HB.out⟩
section
variable {w0 w w' : World} {L : List Nat} {c lp p dp pg lb mb n : Nat} {lv : Value} {σ : CS}
theorem Cx.room (h : Cx w0 w L c lp p dp pg lb mb n lv σ) : Calls Tryz.prog 50 #[.pointer (some ⟨lp, 0, none⟩)] w fun e w' => e = .returned (.int .i64 (6912 - (lenL σ.rs : Int))) ∧ Below w.heap.size w w' := by
  obtain ⟨i0, X, sv, S, Sl, Sd, D, hk, _⟩ := h.kx
  have := wal_room lp dp _ Sl w hk.pw.ws.log
  rw [roomOf] at this
  exact this
/-- what could be reserved -/
def CS.free (σ : CS) (bytes : Nat) : Nat := 6912 - lenL σ.rs - bytes
set_option maxRecDepth 100000 in
theorem cx_free (h : Cx w0 w L c lp p dp pg lb mb n lv σ) (bytes : Nat) (hb : bytes ≤ 70000) :
    Calls Tryz.prog 54 #[.pointer (some ⟨c, 0, none⟩), .int .i64 bytes] w fun e w' => e = .returned (.complex .f64 (flB (σ.free bytes)) (flB 1073741824)) ∧ Below w.heap.size w w' := by
  have HR := Lib.hid h.room
  have C0 : w.cell? ⟨c, 0, none⟩ = some (.pointer (some ⟨lp, 0, none⟩)) := cell_at h.ch.cell 0
  have hl := h.count.2
  obtain ⟨k, hk⟩ : ∃ k, σ.free bytes = k := ⟨_, rfl⟩
  obtain ⟨v, hv⟩ : ∃ v : Int, 6912 - (lenL σ.rs : Int) - (bytes : Int) = v := ⟨_, rfl⟩
  have hwr : IntKind.i64.wrap (6912 - (lenL σ.rs : Int) - (bytes : Int)) = v := by rw [IntKind.wrap_i64]; omega
  have hkv : max (0 : Int) v = (k : Int) := by unfold CS.free at hk; omega
  have hkv2 : (if (0 : Int) < v then v else 0) = (k : Int) := by unfold CS.free at hk; split <;> omega
  have hfo := fl_of_int k (by unfold CS.free at hk; omega)
  have hfo2 : FloatKind.f64.nearest (k : Int) = flB k := hfo
  rw [hk, flB_gi]
  obtain ⟨x, hx⟩ : ∃ x : Int, 6912 - (lenL σ.rs : Int) = x := ⟨_, rfl⟩
  rw [hx] at HR hwr
  clear h hk hv hl hx
  go_enter Tryz.func54, Tryz.ntmps54
  go_wp2_with fail
  refine (HR.out).mono ?_
  rintro e w1 ⟨rfl, hb1⟩
  have HB := Lib.hid hb1
  clear hb1 HR
  go_wp2_with fail
  go_ret
  exact ⟨rfl, HB.out⟩
set_option maxRecDepth 100000 in
theorem cx_reserved (h : Cx w0 w L c lp p dp pg lb mb n lv σ) :
    Calls Tryz.prog 33 #[.pointer (some ⟨c, 0, none⟩)] w fun e w' => e = .returned (.complex .f64 (flB σ.T.1) (flB σ.T.2)) ∧ Below w.heap.size w w' := by
  obtain ⟨m1, m2⟩ := h.most
  have HS := Lib.hid (lg_sum h.ch.lg ⟨by omega, by omega⟩)
  have C2 : w.cell? ⟨c, 2, none⟩ = some (.pointer (some ⟨lb, 0, none⟩)) := cell_at h.ch.cell 2
  clear h m1 m2
  go_enter Tryz.func33, Tryz.ntmps33
  go_wp2_with fail
  refine (HS.out).mono ?_
  rintro e w1 ⟨rfl, hb1⟩
  have HB := Lib.hid hb1
  clear hb1 HS
  go_wp2_with fail
  go_ret
  exact ⟨rfl, HB.out⟩
/-- a map's write keeps all but the chain -/
theorem Cx.book (h : Cx w0 w L c lp p dp pg lb mb n lv σ) {n' : Nat} {B' : Int → Nat × Nat} {T' : Nat × Nat} {q : Nat} (hl : LgAt w' lb mb n' B' T') (hk : Keeps (· = mb) w w') (hT : MostOk T') (hn : n' ≤ q) : Cx w0 w' L c lp p dp pg lb mb n' lv { σ with B := B', T := T', cnt := q } := by
  obtain ⟨d1, d2, d3⟩ : c ≠ mb ∧ lb ≠ mb ∧ mb ∉ blk lv := by
    have := h.ch.nd
    simp only [List.nodup_cons, List.mem_cons, not_or] at this
    exact ⟨this.1.2.1, this.2.1.1, this.2.2.1⟩
  refine ⟨⟨hk.keep h.ch.cell d1, h.ch.own.keep hk (fun q hq e => d3 (e ▸ hq)), hl, h.ch.len, h.ch.nd⟩, ?_, h.hi, hT, h.ok, hn⟩
  exact h.kx.keep3 hk (fun k e => by subst e; exact ⟨by simp [chL], (h.hi _ (by simp [chL])).1⟩)
set_option maxRecDepth 100000 in
theorem cx_drop (h : Cx w0 w L c lp p dp pg lb mb n lv σ) (x : Int) (hx : RngK x) :
    Calls Tryz.prog 34 #[.pointer (some ⟨c, 0, none⟩), .int .i64 x] w fun e w' => e = .returned (.tuple #[]) ∧
      (((∃ s ∈ σ.lives, s.1 = x) ∨ x = 0) ∧ Cx w0 w' L c lp p dp pg lb mb n lv σ ∧ Keeps (Own w0 L) w w' ∨
       ((∀ s ∈ σ.lives, s.1 ≠ x) ∧ x ≠ 0) ∧ Cx w0 w' L c lp p dp pg lb mb n lv { σ with B := delB σ.B x, T := (σ.T.1 - (σ.B x).1, σ.T.2 - (σ.B x).2) } ∧ Keeps (Own w0 L) w w') := by
  have HF := Lib.hid (ch_find h.ch x)
  have H := Lib.hid h
  have hx' := Lib.hid hx
  clear h hx
  go_enter Tryz.func34, Tryz.ntmps34
  go_wp2_with fail
  refine (HF.out).mono ?_
  rintro e w1 ⟨hr, hb⟩
  have HK1 : Hid (Keeps (Own w0 L) w w1) := Keeps.of_below _ hb
  have HX1 := Lib.hid (H.out.later hb)
  clear hb HF H
  rcases hr with ⟨i, s, e1, e2, e3, rfl⟩ | ⟨e1, rfl⟩
  · have hfin : Hid (∃ s ∈ σ.lives, s.1 = x) := ⟨s, List.mem_of_getElem? e1, e2⟩
    have hi0 : ¬ (i : Int) < 0 := by omega
    have hd : decide ((i : Int) < 0) = false := decide_eq_false hi0
    clear e1 e2 e3
    go_wp2_with fail
    exact bodyPost_end (results_none Tryz.results34 _ _ _) rfl ⟨rfl, .inl ⟨.inl hfin.out, HX1.out, HK1.out⟩⟩
  · have hfin := Lib.hid e1
    clear e1
    by_cases h0 : x = 0
    · have hd : (x == 0) = true := by simpa using h0
      have hd2 : (x != 0) = false := by simpa using h0
      replace h0 := Lib.hid h0
      go_wp2_with fail
      exact bodyPost_end (results_none Tryz.results34 _ _ _) rfl ⟨rfl, .inl ⟨.inr h0.out, HX1.out, HK1.out⟩⟩
    · have hd : (x == 0) = false := by simpa using h0
      have hd2 : (x != 0) = true := by simpa using h0
      replace h0 := Lib.hid h0
      have C2 : w1.cell? ⟨c, 2, none⟩ = some (.pointer (some ⟨lb, 0, none⟩)) := cell_at HX1.out.ch.cell 2
      have HD := Lib.hid (lg_drop HX1.out.ch.lg x hx'.out)
      go_wp2_with fail
      refine (HD.out).mono ?_
      rintro e w2 ⟨rfl, hl, hk⟩
      have HX2 := Lib.hid (HX1.out.book hl hk ⟨by have := HX1.out.most.1; show _ - _ ≤ _; omega, by have := HX1.out.most.2; show _ - _ ≤ _; omega⟩ HX1.out.cn)
      have HK2 : Hid (Keeps (Own w0 L) w w2) := HK1.out.trans hk (fun k _ e => ⟨by subst e; exact (HX1.out.hi _ (by simp [chL])).1, fun h' => (HX1.out.hi k (by subst e; simp [chL])).2 h'⟩)
      clear hl hk HD C2 HX1
      go_wp2_with fail
      exact bodyPost_end (results_none Tryz.results34 _ _ _) rfl ⟨rfl, .inr ⟨⟨hfin.out, h0.out⟩, HX2.out, HK2.out⟩⟩
end
end Go.Proofs.YtimomjheanfbmaaGreatDoor
