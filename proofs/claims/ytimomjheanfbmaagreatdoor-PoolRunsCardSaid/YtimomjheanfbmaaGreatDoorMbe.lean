import Derived.Test.YtimomjheanfbmaaGreatDoorMbd
import Derived.Sort.OwnSortedInts
import Derived.Test.YtimomjheanfbmaaGreatDoorMav
import Derived.BigRegion
set_option linter.unusedSimpArgs false
set_option linter.unusedVariables false
namespace Go.Proofs.YtimomjheanfbmaaGreatDoor
open Go.RowKit Go.Sort

set_option maxRecDepth 100000 in
theorem len64_0 (w : World) : Calls Tryz.prog 163 #[.int .u64 0] w fun e w' => e = .returned (.int .i64 0) ∧ w' = w := by
  go_enter Tryz.func163, Tryz.ntmps163
  go_wp2
  go_ret
  exact ⟨congrArg (fun n => Ending.returned (Value.int .i64 n)) (show wrap64 (wrap64 (Lib.len8 0)) = 0 from by decide +kernel), rfl⟩
set_option maxRecDepth 100000 in
theorem len_0 (w : World) : Calls Tryz.prog 126 #[.int .u64 0] w fun e w' => e = .returned (.int .i64 0) ∧ w' = w := by
  go_enter Tryz.func126, Tryz.ntmps126
  go_wp2_with (first | (go_at_call 163; refine (len64_0 _).mono ?_; rintro e w' ⟨rfl, rfl⟩))
  go_ret
  exact ⟨rfl, rfl⟩
theorem insertion_0 (p : Option Addr) (cap : Nat) (w : World) : Calls Tryz.prog 153 #[.slice p 0 cap, .int .i64 0, .int .i64 0] w fun e w' => e = .returned (.tuple #[]) ∧ w' = w := by
  go_enter Tryz.func153, Tryz.ntmps153
  go_wp2
  refine wp_loop_rounds 1 ?_
  rw [rounds_succ]
  go_wp2
  go_end0
  exact ⟨rfl, rfl⟩
set_option maxRecDepth 100000 in
theorem pdq_0 (p : Option Addr) (cap : Nat) (w : World) : Calls Tryz.prog 125 #[.slice p 0 cap, .int .i64 0, .int .i64 0, .int .i64 0] w fun e w' => e = .returned (.tuple #[]) ∧ w' = w := by
  go_enter Tryz.func125, Tryz.ntmps125
  go_wp2
  refine wp_loop_rounds 1 ?_
  rw [rounds_succ]
  go_wp2_with (first | (go_at_call 153; refine (insertion_0 p cap _).mono ?_; rintro e w' ⟨rfl, rfl⟩))
  refine bodyPost_ret (results_none rfl _ _ _) rfl ?_
  exact ⟨rfl, rfl⟩
set_option maxRecDepth 100000 in
theorem sort_0 (p : Option Addr) (cap : Nat) (w : World) : Calls Tryz.prog 83 #[.slice p 0 cap] w fun e w' => e = .returned (.tuple #[]) ∧ w' = w := by
  go_enter Tryz.func83, Tryz.ntmps83
  go_wp2_with (first
    | (go_at_call 126; refine (len_0 _).mono ?_; rintro e w' ⟨rfl, rfl⟩)
    | (go_at_call 125; refine (pdq_0 p cap _).mono ?_; rintro e w' ⟨rfl, rfl⟩))
  go_end0
  exact ⟨rfl, rfl⟩
def sortI (l : List Int) : List Int := l.mergeSort fun x y => decide (x ≤ y)
/-- sorted in place, where the call owns the row -/
theorem sort_own {w : World} {v : Value} {l : List Int} (h : OwnS w 3 1 v l.length (l.map (Value.int .i64))) (hl : l.length ≤ 100000) :
    Calls Tryz.prog 83 #[v] w fun e w' => e = .returned (.tuple #[]) ∧ OwnS w' 3 1 v l.length ((sortI l).map (Value.int .i64)) ∧ Keeps (· ∈ blk v) w w' := by
  rcases h.2 with ⟨hv, h0⟩ | ⟨g, cap, cur, hv, hb, hg, hnc, hcm, hcs, htake⟩
  · have hn : l = [] := List.eq_nil_of_length_eq_zero h0
    subst hv hn
    refine (sort_0 none 0 w).mono ?_
    rintro e w' ⟨rfl, rfl⟩
    exact ⟨rfl, by rw [show sortI [] = [] from by unfold sortI; simp [List.mergeSort]]; exact h, Keeps.refl _ _⟩
  · subst hv
    have hH : Holds (Value.int .i64) w g 0 l.toArray := holds_of_blockI hg (by simpa using htake)
    refine (Tryz.slices_Sort_int g 0 cap l w hH (block_lt hg) (by omega)).mono ?_
    rintro e w' ⟨rfl, n, os, rfl⟩
    refine ⟨rfl, ?_, ?_⟩
    · exact OwnS.of (ownsRow_sortedI (base := 0) (by simp) (Nat.zero_le _) hg hnc hcm hcs)
    · have := grownBy_sortedI (w := w) (g := g) (n := n) (os := os) (l.mergeSort fun x y => decide (x ≤ y)).toArray
      exact (Keeps.refl _ _).grown this (fun k hk => .inl (by injection hk with hk; subst hk; simp [blk, Value.ownBlock]))
def dirtyL (l : List Slot) : List Int := (l.filter (·.dirty)).map (·.id)
theorem Tryz.info_int : (Tryz.prog.info? 3).map (fun i => (i.zero, i.size, i.bytes)) = some (some (.int .i64 0), 1, 8) := by kernel_rfl
set_option maxRecDepth 100000 in
set_option maxHeartbeats 400000 in
theorem pl_dirty {w : World} {p dp lp : Nat} {X : Pl} {sv : Value} {S : List Nat} (h : PoolAt w p dp lp X sv S) :
    Calls Tryz.prog 30 #[.pointer (some ⟨p, 0, none⟩)] w fun e w' => ∃ v, e = .returned v ∧ OwnS w' 3 1 v (dirtyL X.slots).length ((sortI (dirtyL X.slots)).map (Value.int .i64)) ∧ Below w.heap.size w w' ∧ ∀ k ∈ blk v, w.heap.size ≤ k := by
  obtain ⟨hok, g1, g2, -⟩ := h
  obtain ⟨-, -, -, -, o5, o6, -, -⟩ := hok
  obtain ⟨ji, hj, hy0, hy1, hy2⟩ := info_parts Tryz.info_int
  obtain ⟨sa, sc, rfl⟩ := g2.form
  have c5 : w.cell? ⟨p, 5, none⟩ = some (.slice sa X.slots.length sc) := cell_at g1 5
  have H2 := Lib.hid g2
  have hds : ∀ k, (dirtyL (X.slots.take k)).length ≤ k := fun k => by
    unfold dirtyL
    rw [List.length_map]
    refine Nat.le_trans (List.length_filter_le _ _) ?_
    rw [List.length_take]; omega
  replace hds := Lib.hid hds
  clear g1 g2
  obtain ⟨n, hn⟩ : ∃ n, X.slots.length = n := ⟨_, rfl⟩
  rw [hn] at c5 H2 o6
  replace hn := Lib.hid hn
  go_enter Tryz.func30, Tryz.ntmps30
  go_wp2_with fail
  go_loopw [13, 3] (fun x y wr => ∃ (k : Nat), k ≤ n ∧ x = .int .i64 k ∧ Hid (OwnS wr 3 1 y (dirtyL (X.slots.take k)).length ((dirtyL (X.slots.take k)).map (Value.int .i64))) ∧ Hid (Below w.heap.size w wr) ∧ Hid (∀ q ∈ blk y, w.heap.size ≤ q)) (fun x _ _ => n - (intOf x).toNat)
  case atStart => exact ⟨0, by omega, rfl, OwnS.nil _ _ _, bR, by simp [Hid, blk, Value.ownBlock]⟩
  case round =>
    obtain ⟨k, hk, rfl, HO, HB, HBk⟩ := hrel
    obtain ⟨ya, yc, hy⟩ := HO.out.form
    subst hy
    by_cases hkn : k < n
    · have hkI : (k : Int) < n := by omega
      have hk0 : (0 : Int) ≤ k := by omega
      obtain ⟨g, rfl⟩ := H2.out.addr (by omega)
      obtain ⟨s, hs⟩ : ∃ s, X.slots[k]? = some s := ⟨_, List.getElem?_eq_getElem (by rw [hn.out]; omega)⟩
      have HR := Lib.hid (slot_range (H2.out.keep (Keeps.of_below (fun _ => False) HB.out) (fun _ _ h => h)) k s hs)
      have hCl : Hid ((Tryz.prog.info? 166).map (·.size) = some (slC s).length) := by show _ = _; kernel_rfl
      have hCs : Hid ((Tryz.prog.info? 166).map (·.size) = some (slC s).toArray.size) := by show _ = _; kernel_rfl
      have hone : Hid (∀ v ∈ (slC s).toArray.toList, v.oneCell' = true) := fun v hv => slC_cells s v (by simpa using hv)
      have hsz : Hid ((slC { slBlank with id := 0 }).toArray.size = (slC s).toArray.size) := rfl
      have HN : Hid ((wr.alloc (.cells (slC { slBlank with id := 0 }).toArray 166)).heap[wr.heap.size]? = some (.cells (slC { slBlank with id := 0 }).toArray 166 (0, 0))) := hN rfl
      have htk : X.slots.take (k + 1) = X.slots.take k ++ [s] := by rw [List.take_add_one, hs]; rfl
      have hc18 : (slC s).toArray[18]? = some (.bool s.dirty) := rfl
      have hc0 : Hid ((slC s).toArray[0]? = some (.int .i64 s.id)) := rfl
      obtain ⟨C, hC⟩ : ∃ C, (slC s).toArray = C := ⟨_, rfl⟩
      obtain ⟨sid, hsid⟩ : ∃ i, s.id = i := ⟨_, rfl⟩
      rw [hsid] at hc0
      rw [hC] at hCs hone hsz hc18 hc0
      have hk1 : IntKind.i64.wrap ((k : Int) + 1) = (k : Int) + 1 := by rw [IntKind.wrap_i64]; omega
      have hdk := hds.out k
      replace hC := Lib.hid hC
      replace hsid := Lib.hid hsid
      replace hs := Lib.hid hs
      replace htk := Lib.hid htk
      replace hk := Lib.hid hk
      have hlC : Hid ((slC s).toArray = C) := hC
      obtain ⟨L, hL⟩ : ∃ L, slC s = L := ⟨_, rfl⟩
      rw [hL] at HR hCl
      have hLC : L.toArray = C := by rw [← hL]; exact hC.out
      replace hL := Lib.hid hL
      cases hdr : s.dirty with
      | false =>
        rw [hdr] at hc18
        replace hdr := Lib.hid hdr
        go_wp2_with (first
          | (refine wpList_load_mid rfl 166 _ rfl g (k * 20) rfl L _ HR.out Tryz.underlying166 rfl hCl.out ?_; rw [hLC])
          | (refine wpList_store_whole rfl 166 _ _ rfl _ C rfl rfl _ _ HN.out hsz.out hCs.out hone.out ?_; intro w5 HR5 K5; (have cd := (cell_at HR5.out 18).trans hc18)))
        go_roundw
        case rel =>
          have hdt : dirtyL (X.slots.take (k + 1)) = dirtyL (X.slots.take k) := by rw [htk.out]; unfold dirtyL; rw [List.filter_append, List.map_append]; simp [hdr.out]
          have hk5 : Keeps (fun _ => False) wr w5 := ((Keeps.refl (fun _ => False) wr).alloc _).trans K5.out (fun j hj e => by omega)
          exact ⟨k + 1, by omega, rfl, by rw [hdt]; exact HO.out.keep hk5 (fun _ _ h => h), HB.out.trans (hk5.below.mono HB.out.size), HBk⟩
        case measure => simp [intOf]; omega
      | true =>
        rw [hdr] at hc18
        replace hdr := Lib.hid hdr
        have hdt : Hid (dirtyL (X.slots.take (k + 1)) = dirtyL (X.slots.take k) ++ [sid]) := by
          show _ = _
          rw [htk.out]; unfold dirtyL; rw [List.filter_append, List.map_append]; simp [hdr.out, hsid.out]
        go_wp2_with (first
          | (refine wpList_load_mid rfl 166 _ rfl g (k * 20) rfl L _ HR.out Tryz.underlying166 rfl hCl.out ?_; rw [hLC])
          | (refine wpList_store_whole rfl 166 _ _ rfl _ C rfl rfl _ _ HN.out hsz.out hCs.out hone.out ?_; intro w5 HR5 K5; (have cd := (cell_at HR5.out 18).trans hc18); (have cid := (cell_at HR5.out 0).trans hc0.out); (have HK5 : Hid (Keeps (fun _ => False) wr w5) := ((Keeps.refl (fun _ => False) wr).alloc _).trans K5.out (fun j hj e => by omega)); (have HO6 := Lib.hid (OwnS.keep (w := wr) HO.out (HK5.out.alloc (.cells #[.int .i64 sid] 3)) (fun _ _ h => h))))
          | (at_builtin; go_must (refine wpList_append_frame _ rfl _ _ 54 rfl 3 ji (.int .i64 0) 1 8 Tryz.underlying54 hj hy0 hy1 hy2 rfl (by decide) _ _ _ rfl HO6.out ⟨w5.heap.size, 0, none⟩ 1 1 [.int .i64 sid] rfl rfl (cell_one_at _ _ _ _ _ rfl) (by simp [Value.oneCell']) (by unfold maxLen; omega) (by omega) ?_); rintro v6 w6 ho6 hk6 hb6 hn6; (have HO7 := Lib.hid ho6); (have HK6 := Lib.hid hk6); (have HB6 := Lib.hid hb6); clear ho6 hk6 hb6 hn6 HO6))
        have hK6 : Keeps (· ∈ blk (.slice ya (dirtyL (X.slots.take k)).length yc)) wr w6 := ((HK5.out.alloc _).mono (fun _ _ h => h.elim)).trans HK6.out (fun _ _ h => h)
        have hB6 : ∀ q ∈ blk v6, w.heap.size ≤ q := fun q hq => (HB6.out q hq).elim (fun h => HBk.out q h) (fun h => by
          have h1 := HB.out.size
          have h2 := HK5.out.size
          have h3 : (w5.alloc (.cells #[.int .i64 sid] 3)).heap.size = w5.heap.size + 1 := by simp
          rw [h3] at h
          omega)
        have hB7 : Below w.heap.size w w6 := HB.out.trans (hK6.belowB HB.out.size HBk.out)
        replace hK6 := Lib.hid hK6
        replace hB6 := Lib.hid hB6
        replace hB7 := Lib.hid hB7
        go_roundw
        case rel =>
          refine ⟨k + 1, by omega, rfl, ?_, hB7.out, hB6.out⟩
          rw [hdt.out, List.length_append, List.map_append]
          exact HO7.out
        case measure => simp [intOf]; omega
    · obtain rfl : k = n := by omega
      have htk : X.slots.take k = X.slots := List.take_of_length_le (by rw [hn.out]; omega)
      rw [htk] at HO HBk
      have hd2 := hds.out k
      rw [htk] at hd2 ⊢
      have HS := Lib.hid (sort_own HO.out (by omega))
      replace htk := Lib.hid htk
      go_wp2_with fail
      refine (HS.out).mono ?_
      rintro e w5 ⟨rfl, ho5, hk5⟩
      have HO5 := Lib.hid ho5
      have HB5 : Hid (Below w.heap.size w w5) := HB.out.trans (hk5.belowB HB.out.size HBk.out)
      clear ho5 hk5 HS
      go_wp2_with fail
      go_ret
      exact ⟨_, rfl, HO5.out, HB5.out, HBk.out⟩
end Go.Proofs.YtimomjheanfbmaaGreatDoor

namespace Go.Proofs.YtimomjheanfbmaaGreatDoor
open Go.RowKit

theorem fsec_size (b : ByteArray) (s : Int) (i : Nat) (h : b.size = 224) (hi : i < 4) : (sec b s i).size = 64 := by
  unfold sec; rw [bytes_size, ByteArray.size_extract, leS_size]; omega
theorem ext_size (b : ByteArray) (i j : Nat) (h : j ≤ b.size) (hij : i ≤ j) : (b.extract i j).size = j - i := by rw [ByteArray.size_extract]; omega
theorem sec_hd (b : ByteArray) (s : Int) (i : Nat) (h : b.size = 224) (hi : i < 4) : hd (sec b s i) = b.extract (56 * i) (56 * i + 56) := by
  unfold hd sec
  have := ext_size b (56 * i) (56 * i + 56) (by omega) (by omega)
  exact ByteArray.extract_append_eq_left (by omega)
theorem sec_tl (b : ByteArray) (s : Int) (i : Nat) (h : b.size = 224) (hi : i < 4) : tl (sec b s i) = leS s 8 := by
  unfold tl sec
  have := ext_size b (56 * i) (56 * i + 56) (by omega) (by omega)
  exact ByteArray.extract_append_eq_right (by omega) (by rw [leS_size]; omega)
theorem tlSame_eq (s t : ByteArray) : tlSame s t = ((tl s).toList == (tl t).toList) := rfl
theorem ext_join (b : ByteArray) (i j k : Nat) (hij : i ≤ j) (hjk : j ≤ k) : b.extract i j ++ b.extract j k = b.extract i k := by
  rw [ByteArray.extract_append_extract, Nat.min_eq_left hij, Nat.max_eq_right hjk]
theorem join4 (b : ByteArray) (h : b.size = 224) : b.extract 0 56 ++ b.extract 56 112 ++ b.extract 112 168 ++ b.extract 168 224 = b := by
  rw [ext_join b 0 56 112 (by omega) (by omega), ext_join b 0 112 168 (by omega) (by omega), ext_join b 0 168 224 (by omega) (by omega), ← h]
  exact ByteArray.extract_zero_size
theorem frOpen_sec (b : ByteArray) (s : Int) (h : b.size = 224) (h0 : 0 ≤ s) (h1 : s < 256 ^ 8) : frOpen (sec b s 0) (sec b s 1) (sec b s 2) (sec b s 3) = (b, s, 0) := by
  unfold frOpen
  rw [if_neg (by rw [fsec_size b s 0 h (by omega)]; omega), if_neg (by rw [fsec_size b s 1 h (by omega)]; omega), if_neg, if_neg (by rw [fsec_size b s 2 h (by omega)]; omega), if_neg, if_neg (by rw [fsec_size b s 3 h (by omega)]; omega), if_neg]
  · rw [sec_hd b s 0 h (by omega), sec_hd b s 1 h (by omega), sec_hd b s 2 h (by omega), sec_hd b s 3 h (by omega), sec_tl b s 0 h (by omega), valS_leS s 8 h0 h1]
    simp only [Nat.reduceMul, Nat.reduceAdd, join4 b h]
  · rw [tlSame_eq, sec_tl b s 3 h (by omega), sec_tl b s 0 h (by omega)]; simp
  · rw [tlSame_eq, sec_tl b s 2 h (by omega), sec_tl b s 0 h (by omega)]; simp
  · rw [tlSame_eq, sec_tl b s 1 h (by omega), sec_tl b s 0 h (by omega)]; simp

theorem leS_inj (m n : Int) (hm : 0 ≤ m ∧ m ≤ 18446744073709551615) (hn : 0 ≤ n ∧ n ≤ 18446744073709551615) (h : leS m 8 = leS n 8) : m = n := by
  have h1 := valS_leS m 8 hm.1 (by omega)
  have h2 := valS_leS n 8 hn.1 (by omega)
  rw [← h1, ← h2, h]
theorem frOpen_mix (b0 b1 b2 b3 : ByteArray) (s0 s1 s2 s3 : Int) (h0 : b0.size = 224) (h1 : b1.size = 224) (h2 : b2.size = 224) (h3 : b3.size = 224)
    (r0 : 0 ≤ s0 ∧ s0 ≤ 18446744073709551615) (r1 : 0 ≤ s1 ∧ s1 ≤ 18446744073709551615) (r2 : 0 ≤ s2 ∧ s2 ≤ 18446744073709551615) (r3 : 0 ≤ s3 ∧ s3 ≤ 18446744073709551615) :
    ((s1 = s0 ∧ s2 = s0 ∧ s3 = s0) → ∃ t, frOpen (sec b0 s0 0) (sec b1 s1 1) (sec b2 s2 2) (sec b3 s3 3) = (t, s0, 0)) ∧
    (¬ (s1 = s0 ∧ s2 = s0 ∧ s3 = s0) → frOpen (sec b0 s0 0) (sec b1 s1 1) (sec b2 s2 2) (sec b3 s3 3) = (⟨#[]⟩, 0, 30)) := by
  have z0 := fsec_size b0 s0 0 h0 (by omega)
  have z1 := fsec_size b1 s1 1 h1 (by omega)
  have z2 := fsec_size b2 s2 2 h2 (by omega)
  have z3 := fsec_size b3 s3 3 h3 (by omega)
  have t0 := sec_tl b0 s0 0 h0 (by omega)
  have t1 := sec_tl b1 s1 1 h1 (by omega)
  have t2 := sec_tl b2 s2 2 h2 (by omega)
  have t3 := sec_tl b3 s3 3 h3 (by omega)
  have key : ∀ (x y : ByteArray) (s t : Int), tl x = leS s 8 → tl y = leS t 8 → (0 ≤ s ∧ s ≤ 18446744073709551615) → (0 ≤ t ∧ t ≤ 18446744073709551615) → tlSame x y = decide (s = t) := by
    intro x y s t hx hy hs ht
    rw [tlSame_eq, hx, hy]
    by_cases h : s = t
    · subst h; simp
    · have : (leS s 8).toList ≠ (leS t 8).toList := by
        intro he
        apply h
        apply leS_inj s t hs ht
        rw [ByteArray.toList_eq, ByteArray.toList_eq] at he
        have := Array.toList_inj.1 he
        cases hA : leS s 8; cases hB : leS t 8; simp_all
      rw [beq_eq_false_iff_ne.2 this]; simp [h]
  have k1 := key _ _ _ _ t1 t0 r1 r0
  have k2 := key _ _ _ _ t2 t0 r2 r0
  have k3 := key _ _ _ _ t3 t0 r3 r0
  have hv := valS_leS s0 8 r0.1 (by omega)
  unfold frOpen
  constructor
  · rintro ⟨rfl, rfl, rfl⟩
    simp [z0, z1, z2, z3, k1, k2, k3, t0, hv]
  · intro hne
    by_cases e1 : s1 = s0 <;> by_cases e2 : s2 = s0 <;> by_cases e3 : s3 = s0 <;> simp_all
def byteL (s : ByteArray) : List Int := s.data.toList.map fun b => (b.toNat : Int)
/-- block B holds the bytes l, and may be written there -/
def BytesAt (w : World) (e : TypeId) (B : Nat) (l : List Int) : Prop :=
  ∃ (C : Array Value) (f : Nat × Nat), w.heap[B]? = some (.cells C e f) ∧ l.length ≤ C.size ∧ l.length ≤ f.1 ∧ ∀ j, j < l.length → C[j]? = some (.int .u8 (l.getD j 0))
theorem BytesAt.cell {w : World} {e : TypeId} {B : Nat} {l : List Int} (h : BytesAt w e B l) (j : Nat) (hj : j < l.length) : w.cell? ⟨B, j, none⟩ = some (.int .u8 (l.getD j 0)) := by
  obtain ⟨C, f, h1, h2, h3, h4⟩ := h
  rw [cell_at h1]; exact h4 j hj
theorem BytesAt.free {w : World} {e : TypeId} {B : Nat} {l : List Int} (h : BytesAt w e B l) (j : Nat) (hj : j < l.length) : w.frozen? ⟨B, j, none⟩ = false := by
  obtain ⟨C, f, h1, h2, h3, h4⟩ := h
  obtain ⟨a, b⟩ := f
  simp only [World.frozen?, h1]
  simp at h3 ⊢; omega
theorem BytesAt.set {w : World} {e : TypeId} {B : Nat} {l : List Int} (h : BytesAt w e B l) (j : Nat) (x : Int) : BytesAt (w.setCell ⟨B, j, none⟩ (.int .u8 x)) e B (l.set j x) := by
  obtain ⟨C, f, h1, h2, h3, h4⟩ := h
  refine ⟨C.setIfInBounds j (.int .u8 x), f, heap_set h1 j _, by simpa using h2, by simpa using h3, fun i hi => ?_⟩
  rw [List.length_set] at hi
  have := h4 i hi
  by_cases hij : j = i
  · subst hij
    rw [Array.getElem?_setIfInBounds_self]
    have hC : j < C.size := by omega
    simp [hC, List.getD, hi]
  · rw [Array.getElem?_setIfInBounds_ne hij, this]
    simp [List.getD, List.getElem?_set_ne hij]
theorem BytesAt.keep {S : Nat → Prop} {w w' : World} {e : TypeId} {B : Nat} {l : List Int} (h : BytesAt w e B l) (hk : Keeps S w w') (hS : ¬ S B) : BytesAt w' e B l := by
  obtain ⟨C, f, h1, h2⟩ := h
  exact ⟨C, f, hk.keep h1 hS, h2⟩
theorem BytesAt.str {P : Program} {w : World} {e : TypeId} {B : Nat} {l : List Int} (h : BytesAt w e B l) (src : TypeId) (hs : P.underlying src = some (.slice e)) (he : P.underlying e = some (.int .u8)) (len cap : Nat) (hl : l.length = len) :
    ∀ dst, P.underlying dst = some .string → (convert src dst (.slice (some ⟨B, 0, none⟩) len cap)).run P w = .ok (.string (strOfNums l)) w :=
  run_convert_bytes_arg (P := P) w src e hs he B 0 len cap l hl (fun i hi => by rw [Nat.zero_add]; exact h.cell i (by omega))
theorem bytesAt_new (w : World) (e : TypeId) (s : ByteArray) (cap : Nat) (hc : s.size ≤ cap) :
    BytesAt (w.alloc (.cells (bytesRow s cap) e ((bytesRow s cap).size, (bytesRow s cap).size + 1))) e w.heap.size (byteL s) := by
  have hl : (byteL s).length = s.size := by unfold byteL; rw [List.length_map, Array.length_toList]; rfl
  have hz : (bytesRow s cap).size = cap := by
    unfold bytesRow
    rw [Array.size_append, Array.size_map, Array.size_replicate]
    show s.size + (cap - s.size) = cap
    omega
  refine ⟨_, _, hN rfl, by omega, by show _ ≤ (bytesRow s cap).size; omega, ?_⟩
  intro j hj
  have hjs : j < s.data.size := by have : s.data.size = s.size := rfl; omega
  unfold bytesRow byteL
  rw [Array.getElem?_append_left (by simpa using hjs)]
  rw [Array.getElem?_map, List.getD_eq_getElem?_getD, List.getElem?_map, Array.getElem?_toList, Array.getElem?_eq_getElem hjs]
  rfl
theorem byteL_length (s : ByteArray) : (byteL s).length = s.size := by unfold byteL; rw [List.length_map, Array.length_toList]; rfl
/-- one byte set -/
def setB (s : ByteArray) (j : Nat) (x : Int) : ByteArray := strOfNums ((byteL s).set j x)
theorem setB_size (s : ByteArray) (j : Nat) (x : Int) : (setB s j x).size = s.size := by unfold setB; rw [strOfNums_size, List.length_set, byteL_length]
theorem setB_list (s : ByteArray) (j : Nat) (x : Int) : (setB s j x).data.toList = s.data.toList.set j (UInt8.ofNat x.toNat) := by
  unfold setB byteL
  rw [strOfNums_data]
  apply List.ext_getElem?
  intro i
  rw [List.getElem?_map, List.getElem?_set, List.getElem?_set, List.length_map]
  split
  · split <;> simp
  · rw [List.getElem?_map]
    cases s.data.toList[i]? <;> simp
theorem tl_list (s : ByteArray) : (tl s).toList = (s.data.toList.drop 56).take 8 := by
  unfold tl
  rw [ByteArray.toList_eq]
  simp
theorem xor_moves (c : Nat) (k : Nat) (hc : c < 256) (hk : k < 8) (m : Int) (hm : m = 2 ^ k) : bits .xor .u8 (c : Int) m ≠ (c : Int) ∧ 0 ≤ bits .xor .u8 (c : Int) m ∧ bits .xor .u8 (c : Int) m < 256 := by
  subst hm
  have key : ∀ c : Fin 256, ∀ k : Fin 8, bits .xor .u8 ((c.val : Nat) : Int) (2 ^ k.val) ≠ ((c.val : Nat) : Int) ∧ 0 ≤ bits .xor .u8 ((c.val : Nat) : Int) (2 ^ k.val) ∧ bits .xor .u8 ((c.val : Nat) : Int) (2 ^ k.val) < 256 := by decide +kernel
  exact key ⟨c, hc⟩ ⟨k, hk⟩
theorem tlSame_set (s t : ByteArray) (hs : s.size = 64) (p : Nat) (hp : p < 8) (x : Int) (hx0 : 0 ≤ x) (hx1 : x < 256) (ht : tl t = tl s) (hne : x ≠ (byteL s).getD (56 + p) 0) :
    tlSame (setB s (56 + p) x) t = false ∧ tlSame t (setB s (56 + p) x) = false := by
  have hl : s.data.toList.length = 64 := by rw [Array.length_toList]; exact hs
  have key : (tl (setB s (56 + p) x)).toList ≠ (tl t).toList := by
    intro h
    rw [ht, tl_list, tl_list, setB_list] at h
    have h2 := congrArg (fun l => l[p]?) h
    simp only [List.getElem?_take, List.getElem?_drop, hp, if_true, List.getElem?_set, hl] at h2
    rw [if_pos (by omega), List.getElem?_eq_getElem (by omega)] at h2
    have h3 := congrArg UInt8.toNat (Option.some.inj h2)
    rw [UInt8.toNat_ofNat'] at h3
    apply hne
    unfold byteL
    rw [List.getD_eq_getElem?_getD, List.getElem?_map, List.getElem?_eq_getElem (by omega)]
    simp only [Option.map_some, Option.getD_some]
    omega
  refine ⟨?_, ?_⟩
  · rw [tlSame_eq]; simpa using key
  · rw [tlSame_eq]; simpa using fun h => key h.symm
theorem frOpen_torn (b : ByteArray) (st : Int) (h : b.size = 224) (p : Nat) (hp : p < 8) (x : Int) (hx0 : 0 ≤ x) (hx1 : x < 256) :
    (x ≠ (byteL (sec b st 0)).getD (56 + p) 0 → frOpen (setB (sec b st 0) (56 + p) x) (sec b st 1) (sec b st 2) (sec b st 3) = (⟨#[]⟩, 0, 30)) ∧
    (x ≠ (byteL (sec b st 1)).getD (56 + p) 0 → frOpen (sec b st 0) (setB (sec b st 1) (56 + p) x) (sec b st 2) (sec b st 3) = (⟨#[]⟩, 0, 30)) ∧
    (x ≠ (byteL (sec b st 2)).getD (56 + p) 0 → frOpen (sec b st 0) (sec b st 1) (setB (sec b st 2) (56 + p) x) (sec b st 3) = (⟨#[]⟩, 0, 30)) ∧
    (x ≠ (byteL (sec b st 3)).getD (56 + p) 0 → frOpen (sec b st 0) (sec b st 1) (sec b st 2) (setB (sec b st 3) (56 + p) x) = (⟨#[]⟩, 0, 30)) := by
  have z0 := fsec_size b st 0 h (by omega)
  have z1 := fsec_size b st 1 h (by omega)
  have z2 := fsec_size b st 2 h (by omega)
  have z3 := fsec_size b st 3 h (by omega)
  have t0 := sec_tl b st 0 h (by omega)
  have t1 := sec_tl b st 1 h (by omega)
  have t2 := sec_tl b st 2 h (by omega)
  have t3 := sec_tl b st 3 h (by omega)
  have same : ∀ s t, tl s = tl t → tlSame s t = true := fun s t h => by rw [tlSame_eq, h]; simp
  refine ⟨fun hne => ?_, fun hne => ?_, fun hne => ?_, fun hne => ?_⟩
  · have := (tlSame_set (sec b st 0) (sec b st 1) z0 p hp x hx0 hx1 (by rw [t0, t1]) hne).2
    simp [frOpen, setB_size, z0, z1, z2, z3, this]
  · have := (tlSame_set (sec b st 1) (sec b st 0) z1 p hp x hx0 hx1 (by rw [t0, t1]) hne).1
    simp [frOpen, setB_size, z0, z1, z2, z3, this]
  · have := (tlSame_set (sec b st 2) (sec b st 0) z2 p hp x hx0 hx1 (by rw [t0, t2]) hne).1
    simp [frOpen, setB_size, z0, z1, z2, z3, this, same _ _ (t1.trans t0.symm)]
  · have := (tlSame_set (sec b st 3) (sec b st 0) z3 p hp x hx0 hx1 (by rw [t0, t3]) hne).1
    simp [frOpen, setB_size, z0, z1, z2, z3, this, same _ _ (t1.trans t0.symm), same _ _ (t2.trans t0.symm)]
end Go.Proofs.YtimomjheanfbmaaGreatDoor
