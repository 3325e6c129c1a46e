import Derived.Test.YtimomjheanfbmaaGreatDoorMbn
import Derived.Test.YtimomjheanfbmaaGreatDoorMav
set_option linter.unusedSimpArgs false
set_option linter.unusedVariables false
namespace Go.Proofs.YtimomjheanfbmaaGreatDoor
open Go.RowKit

/-- a page with one cell otherwise -/
def setCl (P : Pg) (k : Nat) (bs : Int) (bd : ByteArray) : Pg := { P with st := fun i => if i = k then bs else P.st i, dt := fun i => if i = k then bd else P.dt i }
theorem setCl_cells (P : Pg) (k : Nat) (hk : k < 6) (bs : Int) (bd : ByteArray) : ((pgC P).setIfInBounds (4 + k * 2) (.int .i64 bs)).setIfInBounds (4 + k * 2 + 1) (.string bd) = pgC (setCl P k bs bd) := by
  match k, hk with
  | 0, _ => rfl
  | 1, _ => rfl
  | 2, _ => rfl
  | 3, _ => rfl
  | 4, _ => rfl
  | 5, _ => rfl
theorem setCl_congr {P Q : Pg} (h : pgC P = pgC Q) (k : Nat) (hk : k < 6) (bs : Int) (bd : ByteArray) : pgC (setCl P k bs bd) = pgC (setCl Q k bs bd) := by rw [← setCl_cells P k hk, ← setCl_cells Q k hk, h]
/-- a cell goes into a page -/
theorem wpList_store_cl {ops : Array Oper} {rest : List Oper} {op : Oper} {a : Act} {w : World} {Q : Exit → Act → World → Prop} (hgd : op.guard = none) (x y : Operand) (ho : op.op = .store 33 x y)
    (b k : Nat) (P : Pg) (bs : Int) (bd : ByteArray) (T : TypeId) (hx : a.eval x = .pointer (some ⟨b, 4 + k * 2, none⟩)) (hy : a.eval y = .agg #[.int .i64 bs, .string bd]) (H : w.heap[b]? = some (.cells (pgC P) T (0, 0))) (hk : k < 6)
    (h : ∀ w', Hid (w'.heap[b]? = some (.cells (pgC (setCl P k bs bd)) T (0, 0))) → Hid (Keeps (· = b) w w') → wpList Tryz.prog ops Q rest (a.put op.dst undef) w') : wpList Tryz.prog ops Q (op :: rest) a w := by
  refine wpList_store_mid hgd 33 x y ho b (4 + k * 2) #[.int .i64 bs, .string bd] hx hy (fun j hj => ⟨?_, free_at H _⟩) (by show _ = some 2; kernel_rfl) (by simp [Value.oneCell']) ?_
  · have hj2 : j < 2 := hj
    rw [cell_at H]
    have hz : (4 + k * 2 + j) < (pgC P).size := by show _ < 16; omega
    rw [Array.getElem?_eq_getElem hz]; rfl
  · have h1 := heap_set H (4 + k * 2) (.int .i64 bs)
    have h2 := heap_set h1 (4 + k * 2 + 1) (.string bd)
    rw [setCl_cells P k hk] at h2
    exact h _ h2 (Keeps.setCells (S := fun x => x = b) (a := w) (b := b) (.inl rfl) _ _ (Keeps.refl _ _))
section
variable {w0 w w' : World} {L : List Nat} {c lp p dp pg lb mb n : Nat} {lv : Value} {σ : CS}
set_option maxRecDepth 100000 in
set_option maxHeartbeats 800000 in
theorem cx_restore (h : Cx w0 w L c lp p dp pg lb mb n lv σ) (u : Un) (hk1 : u.uk = 1) (up k : Nat) (hup : u.up = up) (hul : u.ul = k) (h6 : up < pg) (hk : k < 6) (hbd : u.bd.size ≤ maxLen) :
    Calls Tryz.prog 213 #[.agg #[.pointer (some ⟨p, 0, none⟩)], .agg (unL u).toArray] w fun e w' => ∃ (ib : Nat) (Q : Pg), pgC Q = pgC (σ.M up).1 ∧ e = .returned (.tuple #[.slice (some ⟨ib, 0, none⟩) 1 1, .int .i64 0]) ∧
      w'.heap[ib]? = some (.cells (imA ((up : Int), setCl Q k u.bs u.bd)) 51 (0, 0)) ∧ Cx w0 w' (ib :: L) c lp p dp pg lb mb n lv σ ∧ Keeps (Own w0 (chL c lb mb lv ++ L)) w w' := by
  obtain ⟨uk, us, uq, ul, key, bs, bd⟩ := u
  dsimp only at hk1 hup hul hbd ⊢
  subst hk1 hup hul
  have hU : (unL { uk := 1, us := us, up := (up : Int), ul := (k : Int), key := key, bs := bs, bd := bd }).toArray = #[.int .i64 1, .int .i64 us, .int .i64 up, .int .i64 k, .string key, .int .i64 bs, .string bd] := rfl
  rw [hU]
  clear hU
  have HU0 : Hid (((w.alloc (.cells #[.pointer (some ⟨p, 0, none⟩)] 40)).alloc (.cells #[.int .i64 1, .int .i64 us, .int .i64 up, .int .i64 k, .string key, .int .i64 bs, .string bd] 42)).heap[w.heap.size + 1]? = some (.cells #[.int .i64 1, .int .i64 us, .int .i64 up, .int .i64 k, .string key, .int .i64 bs, .string bd] 42 (0, 0))) := hN (by simp)
  have HX0 : Hid (Cx w0 ((w.alloc (.cells #[.pointer (some ⟨p, 0, none⟩)] 40)).alloc (.cells #[.int .i64 1, .int .i64 us, .int .i64 up, .int .i64 k, .string key, .int .i64 bs, .string bd] 42)) ((w.heap.size + 1) :: L) c lp p dp pg lb mb n lv σ) := h.push (bA (bA bR)) (w.heap.size + 1) (by omega) (by simp)
  have HG := Lib.hid (kd_get HX0.out.kx (up : Int))
  unfold pgV at HG
  have HK0 : Hid (Keeps (Own w0 (chL c lb mb lv ++ L)) w ((w.alloc (.cells #[.pointer (some ⟨p, 0, none⟩)] 40)).alloc (.cells #[.int .i64 1, .int .i64 us, .int .i64 up, .int .i64 k, .string key, .int .i64 bs, .string bd] 42))) := ((Keeps.refl _ _).alloc _).alloc _
  have hk2 := Lib.hid hk
  have hki : (k : Int) < 6 := by omega
  have hk0 : (0 : Int) ≤ k := by omega
  clear h
  go_enter Tryz.func213, Tryz.ntmps213
  go_wp2_with fail
  refine (HG.out).mono ?_
  rintro e w1 ⟨Q, cd, rfl, hq1, hk1, hr1⟩
  obtain ⟨rfl, hQ⟩ : cd = 0 ∧ pgC Q = pgC (σ.M up).1 := by
    rcases hr1 with ⟨_, _, q3, q4⟩ | ⟨q1, _⟩
    · exact ⟨q3, by rw [q4, Int.toNat_natCast]⟩
    · omega
  have HU1 := Lib.hid (hk1.keep HU0.out (own_loc (by simp)))
  have HX1 : Hid (Cx w0 w1 ((w.heap.size + 1) :: L) c lp p dp pg lb mb n lv σ) := ⟨HX0.out.ch.keep hk1 (fun q hq => own_ch hq), hq1, HX0.out.hi, HX0.out.most, HX0.out.ok, HX0.out.cn⟩
  have HK1 : Hid (Keeps (Own w0 (chL c lb mb lv ++ L)) w w1) := HK0.out.trans (own_cons hk1) (fun _ _ h => h)
  have HN1 : Hid ((w1.alloc (.cells (pgC pageZ) 49)).heap[w1.heap.size]? = some (.cells (pgC pageZ) 49 (0, 0))) := hN rfl
  have hlt1 : Hid (w.heap.size + 1 < w1.heap.size) := block_lt HU1.out
  have hQ2 := Lib.hid hQ
  clear hq1 hk1 hr1 HU0 HX0 HK0 HG hQ hk h6
  go_upto_region 2 with (refine wpList_store_whole rfl 49 _ _ rfl _ (pgC Q) rfl rfl _ (pgC pageZ) HN1.out rfl (by kernel_rfl) (pgC_one _) ?_; intro w2 HP2 K2; (have hk2' : Keeps (fun _ => False) w1 w2 := ((Keeps.refl (fun _ => False) w1).alloc _).trans K2.out (fun q hq e => by omega)); (have HU2 := Lib.hid (hk2'.keep HU1.out (fun h => h))); (have HKe := Lib.hid hk2'); (have HK2 : Hid (Keeps (Own w0 (chL c lb mb lv ++ L)) w w2) := HK1.out.trans hk2' (fun _ _ h => h.elim)); clear K2 hk2' HN1)
  have U0 : w2.cell? ⟨w.heap.size + 1, 0, none⟩ = some (.int .i64 1) := cell_at HU2.out 0
  have U3 : w2.cell? ⟨w.heap.size + 1, 3, none⟩ = some (.int .i64 k) := cell_at HU2.out 3
  have U5 : Hid (w2.rangeAt (w.heap.size + 1) 5 [.int .i64 bs, .string bd]) := World.rangeAt_of_block HU2.out 5 2
  clear HU1
  go_upto_region 5 with (first
    | (refine wpList_load_mid rfl 33 _ rfl (w.heap.size + 1) 5 rfl [.int .i64 bs, .string bd] _ U5.out Tryz.underlying33 rfl (by kernel_rfl) ?_)
    | (refine wpList_store_cl rfl _ _ rfl w1.heap.size k Q bs bd _ rfl rfl HP2.out hk2.out ?_; intro w3 HP3 K3; (have hk3' := K3.out); (have HU3 := Lib.hid (hk3'.keep HU2.out (fun e => by have := hlt1.out; omega))); clear K3 HP2))
  obtain ⟨P', hP'⟩ : ∃ P, setCl Q k bs bd = P := ⟨_, rfl⟩
  rw [hP'] at HP3
  have U2 : w3.cell? ⟨w.heap.size + 1, 2, none⟩ = some (.int .i64 up) := cell_at HU3.out 2
  have hk13 : Keeps (fun _ => False) w1 w3 := HKe.out.trans hk3' (fun q hq e => by omega)
  have HX3 : Hid (Cx w0 w3 L c lp p dp pg lb mb n lv σ) := HX1.out.pop.later hk13.below
  have HK3 : Hid (Keeps (Own w0 (chL c lb mb lv ++ L)) w w3) := HK1.out.trans hk13 (fun _ _ h => h.elim)
  have hpc : pgC P' = #[.int .i64 P'.kind, .int .i64 P'.level, .int .i64 P'.store, .int .i64 P'.next, .int .i64 (P'.st 0), .string (P'.dt 0), .int .i64 (P'.st 1), .string (P'.dt 1), .int .i64 (P'.st 2), .string (P'.dt 2), .int .i64 (P'.st 3), .string (P'.dt 3), .int .i64 (P'.st 4), .string (P'.dt 4), .int .i64 (P'.st 5), .string (P'.dt 5)] := rfl
  replace hpc := Lib.hid hpc
  clear hk3' hk13 HX1 HK1 HK2 HKe U0 U3 HU2 HU3
  go_wp2_with (refine wpList_load_row rfl 49 _ rfl _ rfl 49 _ _ _ HP3.out Tryz.underlying49 rfl (by kernel_rfl) ?_; (have hpc' := hpc.out); clear HP3)
  go_ret2
  refine ⟨w3.heap.size, Q, hQ2.out, rfl, ?_, HX3.out.push (bA bR) _ (Nat.le_refl _) (by simp), HK3.out.alloc _⟩
  rw [hP']
  exact hN rfl
end
end Go.Proofs.YtimomjheanfbmaaGreatDoor

namespace Go.Proofs.YtimomjheanfbmaaGreatDoor
open Go.RowKit

set_option maxRecDepth 100000 in
theorem find_cmp (x : Int) (s : ByteArray) (t : Int) (hx : 0 ≤ x ∧ x ≤ 1152921504606846976) (ht : 0 ≤ t ∧ t ≤ 1152921504606846976) (w : World) :
    Calls Tryz.prog 107 #[.agg #[.int .i64 x, .string s], .int .i64 t] w fun e w' => e = .returned (.int .i64 (x - t)) ∧ Below w.heap.size w w' := by
  have hw : IntKind.i64.wrap (x - t) = x - t := by rw [IntKind.wrap_i64]; omega
  go_enter Tryz.func107, Tryz.ntmps107
  go_wp2_with fail
  go_ret
  exact ⟨rfl, bA bR⟩
set_option maxRecDepth 100000 in
set_option maxHeartbeats 800000 in
theorem ent_search (v : Value) (L : List (Int × ByteArray)) (t : Int) (hL : L.length ≤ 221184) (hx : ∀ x ∈ L, 0 ≤ x.1 ∧ x.1 ≤ 1152921504606846976) (hs : ∀ i j, i < j → j < L.length → (L.getD i (0, ⟨#[]⟩)).1 < (L.getD j (0, ⟨#[]⟩)).1) (ht : 0 ≤ t ∧ t ≤ 1152921504606846976) (fv : Value) (w : World) (h : EntSl w v L) :
    Calls Tryz.prog 106 #[v, .int .i64 t, .func (.func 107) #[] #[]] w fun e w' => ∃ i, i ≤ L.length ∧ (∀ k, k < i → (L.getD k (0, ⟨#[]⟩)).1 < t) ∧ (∀ k, i ≤ k → k < L.length → t ≤ (L.getD k (0, ⟨#[]⟩)).1) ∧ e = .returned (.tuple #[.int .i64 (i : Int), .bool (decide (i < L.length) && decide ((L.getD i (0, ⟨#[]⟩)).1 = t))]) ∧ Below w.heap.size w w' := by
  obtain ⟨a, c, rfl⟩ := h.form
  obtain ⟨n, hn⟩ : ∃ n, L.length = n := ⟨_, rfl⟩
  rw [hn] at h hL ⊢
  replace hn := Lib.hid hn
  have h := Lib.hid h
  have hx := Lib.hid hx
  have hs := Lib.hid hs
  have ht := Lib.hid ht
  go_enter Tryz.func106, Tryz.ntmps106
  go_wp2_with fail
  go_loopw [9, 10] (fun x y wr => ∃ i j : Nat, i ≤ j ∧ j ≤ n ∧ x = .int .i64 (i : Int) ∧ y = .int .i64 (j : Int) ∧ Hid (∀ k, k < i → (L.getD k (0, ⟨#[]⟩)).1 < t) ∧ Hid (∀ k, j ≤ k → k < n → t ≤ (L.getD k (0, ⟨#[]⟩)).1) ∧ Hid (Below w.heap.size w wr)) (fun x y _ => (intOf y).toNat - (intOf x).toNat)
  case atStart => exact ⟨0, n, by omega, by omega, rfl, rfl, fun k hk => by omega, fun k hk hk2 => by omega, bR⟩
  case round =>
    obtain ⟨i, j, hij, hjn, rfl, rfl, hlo, hhi, HB⟩ := hrel
    by_cases hlt : i < j
    · have hltI : (i : Int) < j := by omega
      have w1 : IntKind.i64.wrap ((i : Int) + j) = (i : Int) + j := by rw [IntKind.wrap_i64]; omega
      have w2 : IntKind.u64.wrap ((i : Int) + j) = (i : Int) + j := wrap_u64_in _ (by omega) (by omega)
      obtain ⟨m, hm⟩ : ∃ m, (i + j) / 2 = m := ⟨_, rfl⟩
      have hmI : ((i : Int) + j) / 2 = (m : Int) := by omega
      have hm0 : (0 : Int) ≤ m := by omega
      have hmn : (m : Int) < n := by omega
      have hm1 : i ≤ m := by omega
      have hm2 : m < j := by omega
      have w3 : IntKind.i64.wrap ((m : Int) + 1) = (m : Int) + 1 := by rw [IntKind.wrap_i64]; omega
      obtain ⟨g, o, rfl, c1, c2⟩ := (h.out.later HB.out).at m (by rw [hn.out]; omega)
      have hmem : L.getD m (0, ⟨#[]⟩) ∈ L := by
        rw [List.getD_eq_getElem?_getD, List.getElem?_eq_getElem (by rw [hn.out]; omega)]; exact List.getElem_mem _
      obtain ⟨x1, x2⟩ := hx.out _ hmem
      obtain ⟨y, hy⟩ : ∃ y, (L.getD m (0, ⟨#[]⟩)).1 = y := ⟨_, rfl⟩
      rw [hy] at c1 x1 x2
      generalize (L.getD m (0, ⟨#[]⟩)).2 = z at c2
      have HC := Lib.hid (fun w' => find_cmp y z t ⟨x1, x2⟩ ⟨ht.out.1, ht.out.2⟩ w')
      replace hy := Lib.hid hy
      replace hm := Lib.hid hm
      replace hij := Lib.hid hij
      replace hjn := Lib.hid hjn
      replace hm1 := Lib.hid hm1
      replace hm2 := Lib.hid hm2
      replace hlt := Lib.hid hlt
      clear hmem
      go_wp2_with fail
      refine (HC.out _).mono ?_
      rintro e w5 ⟨rfl, hb⟩
      have HB5 := Lib.hid (bT HB.out hb)
      clear hb HC HB c1 c2
      by_cases hyt : y < t
      · have b1 : y - t < 0 := by omega
        replace hyt := Lib.hid hyt
        go_wp2_with fail
        go_roundw
        case rel => exact ⟨m + 1, j, hm2.out, hjn.out, rfl, rfl, fun k hk => by
          by_cases hk' : k = m
          · subst hk'; rw [hy.out]; exact hyt.out
          · have hlt2 := hs.out k m (by omega) (by rw [hn.out]; have := hm2.out; have := hjn.out; omega)
            rw [hy.out] at hlt2
            have := hyt.out
            omega, hhi, HB5⟩
        case measure => have := hm1.out; have := hm2.out; simp [intOf]; omega
      · have b1 : ¬ y - t < 0 := by omega
        replace hyt := Lib.hid hyt
        go_wp2_with fail
        go_roundw
        case rel => exact ⟨i, m, hm1.out, by have := hm2.out; have := hjn.out; omega, rfl, rfl, hlo, fun k hk hkn => by
          by_cases hk' : k = m
          · subst hk'; rw [hy.out]; have := hyt.out; omega
          · have hlt2 := hs.out m k (by omega) (by rw [hn.out]; omega)
            rw [hy.out] at hlt2
            have := hyt.out
            omega, HB5⟩
        case measure => have := hm1.out; have := hm2.out; simp [intOf]; omega
    · obtain rfl : i = j := by omega
      have hltI : ¬ (i : Int) < i := by omega
      by_cases hin : i < n
      · have hinI : (i : Int) < n := by omega
        have hi0 : (0 : Int) ≤ i := by omega
        obtain ⟨g, o, rfl, c1, c2⟩ := (h.out.later HB.out).at i (by rw [hn.out]; omega)
        have hmem : L.getD i (0, ⟨#[]⟩) ∈ L := by
          rw [List.getD_eq_getElem?_getD, List.getElem?_eq_getElem (by rw [hn.out]; omega)]; exact List.getElem_mem _
        obtain ⟨x1, x2⟩ := hx.out _ hmem
        obtain ⟨y, hy⟩ : ∃ y, (L.getD i (0, ⟨#[]⟩)).1 = y := ⟨_, rfl⟩
        rw [hy] at c1 x1 x2
        generalize (L.getD i (0, ⟨#[]⟩)).2 = z at c2
        have HC := Lib.hid (fun w' => find_cmp y z t ⟨x1, x2⟩ ⟨ht.out.1, ht.out.2⟩ w')
        replace hy := Lib.hid hy
        replace hin := Lib.hid hin
        clear hmem
        go_wp2_with fail
        refine (HC.out _).mono ?_
        rintro e w5 ⟨rfl, hb⟩
        have HB5 := Lib.hid (bT HB.out hb)
        clear hb HC HB c1 c2
        by_cases hyt : y = t
        · subst hyt
          have b1 : (y - y == 0) = true := by simp
          go_wp2_with fail
          go_ret2
          exact ⟨i, hjn, hlo.out, hhi.out, by rw [hy.out, show (decide (i < n) && decide (y = y)) = true by simp [hin.out]]; rfl, HB5.out⟩
        · have b1 : (y - t == 0) = false := by
            rw [beq_eq_false_iff_ne]; omega
          replace hyt := Lib.hid hyt
          go_wp2_with fail
          go_ret2
          exact ⟨i, hjn, hlo.out, hhi.out, by rw [hy.out, show (decide (i < n) && decide (y = t)) = false by simp [hyt.out]]; rfl, HB5.out⟩
      · have hinI : ¬ (i : Int) < n := by omega
        replace hin := Lib.hid hin
        go_wp2_with fail
        go_ret2
        exact ⟨i, hjn, hlo.out, hhi.out, by rw [show decide (i < n) = false by simp [hin.out]]; rfl, HB.out⟩
end Go.Proofs.YtimomjheanfbmaaGreatDoor
