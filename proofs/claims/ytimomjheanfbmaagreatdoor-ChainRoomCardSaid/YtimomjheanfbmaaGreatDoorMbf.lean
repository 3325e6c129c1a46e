import Derived.Test.YtimomjheanfbmaaGreatDoorMbe
import Derived.Shelf.Sort.Plain
import Derived.Test.YtimomjheanfbmaaGreatDoorMac
import Derived.Sort.OwnSortedInts
set_option linter.unusedSimpArgs false
set_option linter.unusedVariables false
namespace Go.Proofs.YtimomjheanfbmaaGreatDoor
open Go.RowKit

set_option maxRecDepth 100000 in
set_option maxHeartbeats 400000 in
theorem pl_new_bad {w : World} (dp lp : Nat) (base pages frames : Int) (h : pages < 1 ∨ frames < 4 ∨ 256 < frames) (h2 : pages ≤ 1024) :
    Calls Tryz.prog 22 #[.pointer (some ⟨dp, 0, none⟩), .pointer (some ⟨lp, 0, none⟩), .int .i64 base, .int .i64 pages, .int .i64 frames] w fun e w' => e = .returned (.tuple #[.pointer none, .int .i64 1]) ∧ Below w.heap.size w w' := by
  by_cases h1 : pages < 1
  · have b1 : decide (pages < 1) = true := by simpa using h1
    clear h
    go_enter Tryz.func22, Tryz.ntmps22
    go_wp2_with fail
    go_ret2
    exact ⟨rfl, bR⟩
  have b1 : decide (pages < 1) = false := by simpa using h1
  have b2 : decide (1024 < pages) = false := by simpa using h2
  by_cases h3 : frames < 4
  · have b3 : decide (frames < 4) = true := by simpa using h3
    clear h
    go_enter Tryz.func22, Tryz.ntmps22
    go_wp2_with fail
    go_ret2
    exact ⟨rfl, bR⟩
  have b3 : decide (frames < 4) = false := by simpa using h3
  have h4 : 256 < frames := by omega
  have b4 : decide (256 < frames) = true := by simpa using h4
  clear h
  go_enter Tryz.func22, Tryz.ntmps22
  go_wp2_with fail
  go_ret2
  exact ⟨rfl, bR⟩
set_option maxRecDepth 100000 in
set_option maxHeartbeats 400000 in
theorem pl_new {w : World} {lp dp first n bb : Nat} {P : ByteArray} {rs : List ByteArray} {i0 : Nat} {Sl Sd : List Nat} {D : Dev} (h : Ws w lp dp first n bb P rs i0 Sl Sd D) (base pages frames : Nat) (h1 : 1 ≤ pages) (h2 : pages ≤ 1024) (h3 : 4 ≤ frames) (h4 : frames ≤ 256) (h5 : base + 4 * pages ≤ D.firm.length) (h6 : first + n ≤ base) :
    Calls Tryz.prog 22 #[.pointer (some ⟨dp, 0, none⟩), .pointer (some ⟨lp, 0, none⟩), .int .i64 base, .int .i64 pages, .int .i64 frames] w fun e w' => ∃ p, e = .returned (.tuple #[.pointer (some ⟨p, 0, none⟩), .int .i64 0]) ∧
      Pw w' p lp dp first n bb P rs i0 { base := base, pages := pages, room := frames, slots := [], hand := 0 } (.slice none 0 0) [p] Sl Sd D ∧ Below w.heap.size w w' ∧ w.heap.size ≤ p := by
  have hD := h.dsk.1.2.1
  have hS := Lib.hid (dsk_size dp D Sd w h.dsk)
  have b1 : decide ((pages : Int) < 1) = false := by apply decide_eq_false; omega
  have b2 : decide (1024 < (pages : Int)) = false := by apply decide_eq_false; omega
  have b3 : decide ((frames : Int) < 4) = false := by apply decide_eq_false; omega
  have b4 : decide (256 < (frames : Int)) = false := by apply decide_eq_false; omega
  have b5 : decide ((base : Int) < 0) = false := by apply decide_eq_false; omega
  have w1 : IntKind.i64.wrap ((pages : Int) * 4) = (pages : Int) * 4 := by rw [IntKind.wrap_i64]; omega
  have w2 : IntKind.i64.wrap ((D.firm.length : Int) - (pages : Int) * 4) = (D.firm.length : Int) - (pages : Int) * 4 := by rw [IntKind.wrap_i64]; omega
  have b6 : decide ((D.firm.length : Int) - (pages : Int) * 4 < (base : Int)) = false := by apply decide_eq_false; omega
  have HH := Lib.hid h
  replace h1 := Lib.hid h1
  replace h2 := Lib.hid h2
  replace h3 := Lib.hid h3
  replace h4 := Lib.hid h4
  replace h5 := Lib.hid h5
  replace h6 := Lib.hid h6
  clear h
  go_enter Tryz.func22, Tryz.ntmps22
  go_wp2_with fail
  refine (hS.out).mono ?_
  rintro e w5 ⟨rfl, rfl⟩
  clear hS
  go_wp2_with fail
  go_ret2
  have hb : Below w5.heap.size w5 (w5.alloc (.cells #[.pointer (some ⟨dp, 0, none⟩), .pointer (some ⟨lp, 0, none⟩), .int .i64 base, .int .i64 pages, .int .i64 frames, .slice none 0 0, .int .i64 0] 161)) := bA bR
  refine ⟨w5.heap.size, rfl, ⟨⟨⟨by show base ≤ 16384; have := h5.out; omega, h1.out, h2.out, h3.out, h4.out, Nat.zero_le _, by show 0 < frames; have := h3.out; omega, fun s hs => by cases hs⟩, hN rfl, OwnS.nil _ _ _, by simp [blk, Value.ownBlock], by simp⟩, HH.out.later hb, fun k hk h => ?_, fun k hk h => ?_, h6.out, h5.out⟩, hb, Nat.le_refl _⟩
  · have := HH.out.log.lt k h
    have := List.mem_singleton.1 hk
    omega
  · have := HH.out.dsk.lt k h
    have := List.mem_singleton.1 hk
    omega
end Go.Proofs.YtimomjheanfbmaaGreatDoor

namespace Go.Proofs.YtimomjheanfbmaaGreatDoor
open Go.Shelf Go.Sort Go.RowKit
def Tryz.lays189_ren : Go.Shelf.Ren := ⟨fun | 189 => 83 | 125 => 126 | 257 => 125 | 128 => 162 | 129 => 163 | 294 => 153 | 295 => 154 | 296 => 155 | 297 => 156 | 298 => 157 | 299 => 158 | 216 => 159 | 300 => 160 | 301 => 161 | 328 => 175 | 329 => 176 | 330 => 177 | 331 => 178 | 332 => 179 | 215 => 180 | 343 => 186 | n => n, fun | 28 => 54 | 3 => 3 | 46 => 206 | 0 => 0 | 51 => 248 | 53 => 147 | 4 => 4 | 183 => 260 | 182 => 259 | 131 => 108 | 5 => 5 | 9 => 9 | 218 => 280 | 222 => 284 | 228 => 287 | 229 => 105 | n => n, fun | n => n⟩
theorem Tryz.lays189 : Go.Proofs.Lays.n189 Tryz.prog Tryz.lays189_ren := {
  mixed := by kernel_rfl
  f125 := Tryz.func126.trans (congrArg some (by kernel_rfl))
  f128 := Tryz.func162.trans (congrArg some (by kernel_rfl))
  f129 := Tryz.func163.trans (congrArg some (by kernel_rfl))
  f189 := Tryz.func83.trans (congrArg some (by kernel_rfl))
  f215 := Tryz.func180.trans (congrArg some (by kernel_rfl))
  f216 := Tryz.func159.trans (congrArg some (by kernel_rfl))
  f257 := Tryz.func125.trans (congrArg some (by kernel_rfl))
  f294 := Tryz.func153.trans (congrArg some (by kernel_rfl))
  f295 := Tryz.func154.trans (congrArg some (by kernel_rfl))
  f296 := Tryz.func155.trans (congrArg some (by kernel_rfl))
  f297 := Tryz.func156.trans (congrArg some (by kernel_rfl))
  f298 := Tryz.func157.trans (congrArg some (by kernel_rfl))
  f299 := Tryz.func158.trans (congrArg some (by kernel_rfl))
  f300 := Tryz.func160.trans (congrArg some (by kernel_rfl))
  f301 := Tryz.func161.trans (congrArg some (by kernel_rfl))
  f328 := Tryz.func175.trans (congrArg some (by kernel_rfl))
  f329 := Tryz.func176.trans (congrArg some (by kernel_rfl))
  f330 := Tryz.func177.trans (congrArg some (by kernel_rfl))
  f331 := Tryz.func178.trans (congrArg some (by kernel_rfl))
  f332 := Tryz.func179.trans (congrArg some (by kernel_rfl))
  f343 := Tryz.func186.trans (congrArg some (by kernel_rfl))
  t0 := Tryz.underlying0
  a0 := Tryz.isAgg0
  z0 := Tryz.sizeOf0
  v0 := Tryz.zeroValue0
  t3 := Tryz.underlying3
  a3 := Tryz.isAgg3
  z3 := Tryz.sizeOf3
  v3 := Tryz.zeroValue3
  t4 := Tryz.underlying4
  a4 := Tryz.isAgg4
  z4 := Tryz.sizeOf4
  v4 := Tryz.zeroValue4
  t5 := Tryz.underlying5
  a5 := Tryz.isAgg5
  z5 := Tryz.sizeOf5
  v5 := Tryz.zeroValue5
  t9 := Tryz.underlying9
  a9 := Tryz.isAgg9
  z9 := Tryz.sizeOf9
  v9 := Tryz.zeroValue9
  t28 := Tryz.underlying54
  a28 := Tryz.isAgg54
  z28 := Tryz.sizeOf54
  v28 := Tryz.zeroValue54
  t46 := Tryz.underlying206
  a46 := Tryz.isAgg206
  z46 := Tryz.sizeOf206
  v46 := Tryz.zeroValue206
  t51 := Tryz.underlying248
  a51 := Tryz.isAgg248
  z51 := Tryz.sizeOf248
  v51 := Tryz.zeroValue248
  t53 := Tryz.underlying147
  a53 := Tryz.isAgg147
  z53 := Tryz.sizeOf147
  v53 := Tryz.zeroValue147
  t131 := Tryz.underlying108
  a131 := Tryz.isAgg108
  z131 := Tryz.sizeOf108
  v131 := Tryz.zeroValue108
  t182 := Tryz.underlying259
  a182 := Tryz.isAgg259
  z182 := Tryz.sizeOf259
  v182 := Tryz.zeroValue259
  t183 := Tryz.underlying260
  a183 := Tryz.isAgg260
  z183 := Tryz.sizeOf260
  v183 := Tryz.zeroValue260
  t218 := Tryz.underlying280
  a218 := Tryz.isAgg280
  z218 := Tryz.sizeOf280
  v218 := Tryz.zeroValue280
  t222 := Tryz.underlying284
  a222 := Tryz.isAgg284
  z222 := Tryz.sizeOf284
  v222 := Tryz.zeroValue284
  t228 := Tryz.underlying287
  a228 := Tryz.isAgg287
  z228 := Tryz.sizeOf287
  v228 := Tryz.zeroValue287
  t229 := Tryz.underlying105
  a229 := Tryz.isAgg105
  z229 := Tryz.sizeOf105
  v229 := Tryz.zeroValue105 }
open Go.Sort Go.RowKit in
theorem Tryz.slices_Sort_int (blk off cap : Nat) (zs : List Int) (w : World) (hH : Holds (Value.int .i64) w blk off zs.toArray) (hblk : blk < w.heap.size) (hsz : zs.length < 4611686018427387904) :
    Calls Tryz.prog 83 #[.slice (some ⟨blk, off, none⟩) zs.length cap] w fun e w' =>
      e = .returned (.tuple #[]) ∧ ∃ n os, w' = grow (putRow (Value.int .i64) (Sort.ahead w n) blk off (zs.mergeSort fun x y => decide (x ≤ y)).toArray) os := Any.slices_Sort_int Tryz.lays189 blk off cap zs w hH hblk hsz
end Go.Proofs.YtimomjheanfbmaaGreatDoor

namespace Go.Proofs.YtimomjheanfbmaaGreatDoor
open Go.RowKit Go.Sort

set_option maxRecDepth 100000 in
theorem len64_0 (w : World) : Calls Tryz.prog 163 #[.int .u64 0] w fun e w' => e = .returned (.int .i64 0) ∧ w' = w := by
  go_enter Tryz.func163, Tryz.ntmps163
  go_wp2
  go_ret
  exact ⟨congrArg (fun n => Ending.returned (Value.int .i64 n)) (show wrap64 (wrap64 (Lib.len8 0)) = 0 from by decide +kernel), rfl⟩
set_option maxRecDepth 100000 in
theorem len_0 (w : World) : Calls Tryz.prog 126 #[.int .u64 0] w fun e w' => e = .returned (.int .i64 0) ∧ w' = w := by
  go_enter Tryz.func126, Tryz.ntmps126
  go_wp2_with (first | (go_at_call 163; refine (len64_0 _).mono ?_; rintro e w' ⟨rfl, rfl⟩))
  go_ret
  exact ⟨rfl, rfl⟩
theorem insertion_0 (p : Option Addr) (cap : Nat) (w : World) : Calls Tryz.prog 153 #[.slice p 0 cap, .int .i64 0, .int .i64 0] w fun e w' => e = .returned (.tuple #[]) ∧ w' = w := by
  go_enter Tryz.func153, Tryz.ntmps153
  go_wp2
  refine wp_loop_rounds 1 ?_
  rw [rounds_succ]
  go_wp2
  go_end0
  exact ⟨rfl, rfl⟩
set_option maxRecDepth 100000 in
theorem pdq_0 (p : Option Addr) (cap : Nat) (w : World) : Calls Tryz.prog 125 #[.slice p 0 cap, .int .i64 0, .int .i64 0, .int .i64 0] w fun e w' => e = .returned (.tuple #[]) ∧ w' = w := by
  go_enter Tryz.func125, Tryz.ntmps125
  go_wp2
  refine wp_loop_rounds 1 ?_
  rw [rounds_succ]
  go_wp2_with (first | (go_at_call 153; refine (insertion_0 p cap _).mono ?_; rintro e w' ⟨rfl, rfl⟩))
  refine bodyPost_ret (results_none rfl _ _ _) rfl ?_
  exact ⟨rfl, rfl⟩
set_option maxRecDepth 100000 in
theorem sort_0 (p : Option Addr) (cap : Nat) (w : World) : Calls Tryz.prog 83 #[.slice p 0 cap] w fun e w' => e = .returned (.tuple #[]) ∧ w' = w := by
  go_enter Tryz.func83, Tryz.ntmps83
  go_wp2_with (first
    | (go_at_call 126; refine (len_0 _).mono ?_; rintro e w' ⟨rfl, rfl⟩)
    | (go_at_call 125; refine (pdq_0 p cap _).mono ?_; rintro e w' ⟨rfl, rfl⟩))
  go_end0
  exact ⟨rfl, rfl⟩
def sortI (l : List Int) : List Int := l.mergeSort fun x y => decide (x ≤ y)
/-- sorted in place, where the call owns the row -/
theorem sort_own {w : World} {v : Value} {l : List Int} (h : OwnS w 3 1 v l.length (l.map (Value.int .i64))) (hl : l.length ≤ 100000) :
    Calls Tryz.prog 83 #[v] w fun e w' => e = .returned (.tuple #[]) ∧ OwnS w' 3 1 v l.length ((sortI l).map (Value.int .i64)) ∧ Keeps (· ∈ blk v) w w' := by
  rcases h.2 with ⟨hv, h0⟩ | ⟨g, cap, cur, hv, hb, hg, hnc, hcm, hcs, htake⟩
  · have hn : l = [] := List.eq_nil_of_length_eq_zero h0
    subst hv hn
    refine (sort_0 none 0 w).mono ?_
    rintro e w' ⟨rfl, rfl⟩
    exact ⟨rfl, by rw [show sortI [] = [] from by unfold sortI; simp [List.mergeSort]]; exact h, Keeps.refl _ _⟩
  · subst hv
    have hH : Holds (Value.int .i64) w g 0 l.toArray := holds_of_blockI hg (by simpa using htake)
    refine (Tryz.slices_Sort_int g 0 cap l w hH (block_lt hg) (by omega)).mono ?_
    rintro e w' ⟨rfl, n, os, rfl⟩
    refine ⟨rfl, ?_, ?_⟩
    · exact OwnS.of (ownsRow_sortedI (base := 0) (by simp) (Nat.zero_le _) hg hnc hcm hcs)
    · have := grownBy_sortedI (w := w) (g := g) (n := n) (os := os) (l.mergeSort fun x y => decide (x ≤ y)).toArray
      exact (Keeps.refl _ _).grown this (fun k hk => .inl (by injection hk with hk; subst hk; simp [blk, Value.ownBlock]))
def dirtyL (l : List Slot) : List Int := (l.filter (·.dirty)).map (·.id)
theorem Tryz.info_int : (Tryz.prog.info? 3).map (fun i => (i.zero, i.size, i.bytes)) = some (some (.int .i64 0), 1, 8) := by kernel_rfl
set_option maxRecDepth 100000 in
set_option maxHeartbeats 400000 in
theorem pl_dirty {w : World} {p dp lp : Nat} {X : Pl} {sv : Value} {S : List Nat} (h : PoolAt w p dp lp X sv S) :
    Calls Tryz.prog 30 #[.pointer (some ⟨p, 0, none⟩)] w fun e w' => ∃ v, e = .returned v ∧ OwnS w' 3 1 v (dirtyL X.slots).length ((sortI (dirtyL X.slots)).map (Value.int .i64)) ∧ Below w.heap.size w w' ∧ ∀ k ∈ blk v, w.heap.size ≤ k := by
  obtain ⟨hok, g1, g2, -⟩ := h
  obtain ⟨-, -, -, -, o5, o6, -, -⟩ := hok
  obtain ⟨ji, hj, hy0, hy1, hy2⟩ := info_parts Tryz.info_int
  obtain ⟨sa, sc, rfl⟩ := g2.form
  have c5 : w.cell? ⟨p, 5, none⟩ = some (.slice sa X.slots.length sc) := cell_at g1 5
  have H2 := Lib.hid g2
  have hds : ∀ k, (dirtyL (X.slots.take k)).length ≤ k := fun k => by
    unfold dirtyL
    rw [List.length_map]
    refine Nat.le_trans (List.length_filter_le _ _) ?_
    rw [List.length_take]; omega
  replace hds := Lib.hid hds
  clear g1 g2
  obtain ⟨n, hn⟩ : ∃ n, X.slots.length = n := ⟨_, rfl⟩
  rw [hn] at c5 H2 o6
  replace hn := Lib.hid hn
  go_enter Tryz.func30, Tryz.ntmps30
  go_wp2_with fail
  go_loopw [13, 3] (fun x y wr => ∃ (k : Nat), k ≤ n ∧ x = .int .i64 k ∧ Hid (OwnS wr 3 1 y (dirtyL (X.slots.take k)).length ((dirtyL (X.slots.take k)).map (Value.int .i64))) ∧ Hid (Below w.heap.size w wr) ∧ Hid (∀ q ∈ blk y, w.heap.size ≤ q)) (fun x _ _ => n - (intOf x).toNat)
  case atStart => exact ⟨0, by omega, rfl, OwnS.nil _ _ _, bR, by simp [Hid, blk, Value.ownBlock]⟩
  case round =>
    obtain ⟨k, hk, rfl, HO, HB, HBk⟩ := hrel
    obtain ⟨ya, yc, hy⟩ := HO.out.form
    subst hy
    by_cases hkn : k < n
    · have hkI : (k : Int) < n := by omega
      have hk0 : (0 : Int) ≤ k := by omega
      obtain ⟨g, rfl⟩ := H2.out.addr (by omega)
      obtain ⟨s, hs⟩ : ∃ s, X.slots[k]? = some s := ⟨_, List.getElem?_eq_getElem (by rw [hn.out]; omega)⟩
      have HR := Lib.hid (slot_range (H2.out.keep (Keeps.of_below (fun _ => False) HB.out) (fun _ _ h => h)) k s hs)
      have hCl : Hid ((Tryz.prog.info? 166).map (·.size) = some (slC s).length) := by show _ = _; kernel_rfl
      have hCs : Hid ((Tryz.prog.info? 166).map (·.size) = some (slC s).toArray.size) := by show _ = _; kernel_rfl
      have hone : Hid (∀ v ∈ (slC s).toArray.toList, v.oneCell' = true) := fun v hv => slC_cells s v (by simpa using hv)
      have hsz : Hid ((slC { slBlank with id := 0 }).toArray.size = (slC s).toArray.size) := rfl
      have HN : Hid ((wr.alloc (.cells (slC { slBlank with id := 0 }).toArray 166)).heap[wr.heap.size]? = some (.cells (slC { slBlank with id := 0 }).toArray 166 (0, 0))) := hN rfl
      have htk : X.slots.take (k + 1) = X.slots.take k ++ [s] := by rw [List.take_add_one, hs]; rfl
      have hc18 : (slC s).toArray[18]? = some (.bool s.dirty) := rfl
      have hc0 : Hid ((slC s).toArray[0]? = some (.int .i64 s.id)) := rfl
      obtain ⟨C, hC⟩ : ∃ C, (slC s).toArray = C := ⟨_, rfl⟩
      obtain ⟨sid, hsid⟩ : ∃ i, s.id = i := ⟨_, rfl⟩
      rw [hsid] at hc0
      rw [hC] at hCs hone hsz hc18 hc0
      have hk1 : IntKind.i64.wrap ((k : Int) + 1) = (k : Int) + 1 := by rw [IntKind.wrap_i64]; omega
      have hdk := hds.out k
      replace hC := Lib.hid hC
      replace hsid := Lib.hid hsid
      replace hs := Lib.hid hs
      replace htk := Lib.hid htk
      replace hk := Lib.hid hk
      have hlC : Hid ((slC s).toArray = C) := hC
      obtain ⟨L, hL⟩ : ∃ L, slC s = L := ⟨_, rfl⟩
      rw [hL] at HR hCl
      have hLC : L.toArray = C := by rw [← hL]; exact hC.out
      replace hL := Lib.hid hL
      cases hdr : s.dirty with
      | false =>
        rw [hdr] at hc18
        replace hdr := Lib.hid hdr
        go_wp2_with (first
          | (refine wpList_load_mid rfl 166 _ rfl g (k * 20) rfl L _ HR.out Tryz.underlying166 rfl hCl.out ?_; rw [hLC])
          | (refine wpList_store_whole rfl 166 _ _ rfl _ C rfl rfl _ _ HN.out hsz.out hCs.out hone.out ?_; intro w5 HR5 K5; (have cd := (cell_at HR5.out 18).trans hc18)))
        go_roundw
        case rel =>
          have hdt : dirtyL (X.slots.take (k + 1)) = dirtyL (X.slots.take k) := by rw [htk.out]; unfold dirtyL; rw [List.filter_append, List.map_append]; simp [hdr.out]
          have hk5 : Keeps (fun _ => False) wr w5 := ((Keeps.refl (fun _ => False) wr).alloc _).trans K5.out (fun j hj e => by omega)
          exact ⟨k + 1, by omega, rfl, by rw [hdt]; exact HO.out.keep hk5 (fun _ _ h => h), HB.out.trans (hk5.below.mono HB.out.size), HBk⟩
        case measure => simp [intOf]; omega
      | true =>
        rw [hdr] at hc18
        replace hdr := Lib.hid hdr
        have hdt : Hid (dirtyL (X.slots.take (k + 1)) = dirtyL (X.slots.take k) ++ [sid]) := by
          show _ = _
          rw [htk.out]; unfold dirtyL; rw [List.filter_append, List.map_append]; simp [hdr.out, hsid.out]
        go_wp2_with (first
          | (refine wpList_load_mid rfl 166 _ rfl g (k * 20) rfl L _ HR.out Tryz.underlying166 rfl hCl.out ?_; rw [hLC])
          | (refine wpList_store_whole rfl 166 _ _ rfl _ C rfl rfl _ _ HN.out hsz.out hCs.out hone.out ?_; intro w5 HR5 K5; (have cd := (cell_at HR5.out 18).trans hc18); (have cid := (cell_at HR5.out 0).trans hc0.out); (have HK5 : Hid (Keeps (fun _ => False) wr w5) := ((Keeps.refl (fun _ => False) wr).alloc _).trans K5.out (fun j hj e => by omega)); (have HO6 := Lib.hid (OwnS.keep (w := wr) HO.out (HK5.out.alloc (.cells #[.int .i64 sid] 3)) (fun _ _ h => h))))
          | (at_builtin; go_must (refine wpList_append_frame _ rfl _ _ 54 rfl 3 ji (.int .i64 0) 1 8 Tryz.underlying54 hj hy0 hy1 hy2 rfl (by decide) _ _ _ rfl HO6.out ⟨w5.heap.size, 0, none⟩ 1 1 [.int .i64 sid] rfl rfl (cell_one_at _ _ _ _ _ rfl) (by simp [Value.oneCell']) (by unfold maxLen; omega) (by omega) ?_); rintro v6 w6 ho6 hk6 hb6 hn6; (have HO7 := Lib.hid ho6); (have HK6 := Lib.hid hk6); (have HB6 := Lib.hid hb6); clear ho6 hk6 hb6 hn6 HO6))
        have hK6 : Keeps (· ∈ blk (.slice ya (dirtyL (X.slots.take k)).length yc)) wr w6 := ((HK5.out.alloc _).mono (fun _ _ h => h.elim)).trans HK6.out (fun _ _ h => h)
        have hB6 : ∀ q ∈ blk v6, w.heap.size ≤ q := fun q hq => (HB6.out q hq).elim (fun h => HBk.out q h) (fun h => by
          have h1 := HB.out.size
          have h2 := HK5.out.size
          have h3 : (w5.alloc (.cells #[.int .i64 sid] 3)).heap.size = w5.heap.size + 1 := by simp
          rw [h3] at h
          omega)
        have hB7 : Below w.heap.size w w6 := HB.out.trans (hK6.belowB HB.out.size HBk.out)
        replace hK6 := Lib.hid hK6
        replace hB6 := Lib.hid hB6
        replace hB7 := Lib.hid hB7
        go_roundw
        case rel =>
          refine ⟨k + 1, by omega, rfl, ?_, hB7.out, hB6.out⟩
          rw [hdt.out, List.length_append, List.map_append]
          exact HO7.out
        case measure => simp [intOf]; omega
    · obtain rfl : k = n := by omega
      have htk : X.slots.take k = X.slots := List.take_of_length_le (by rw [hn.out]; omega)
      rw [htk] at HO HBk
      have hd2 := hds.out k
      rw [htk] at hd2 ⊢
      have HS := Lib.hid (sort_own HO.out (by omega))
      replace htk := Lib.hid htk
      go_wp2_with fail
      refine (HS.out).mono ?_
      rintro e w5 ⟨rfl, ho5, hk5⟩
      have HO5 := Lib.hid ho5
      have HB5 : Hid (Below w.heap.size w w5) := HB.out.trans (hk5.belowB HB.out.size HBk.out)
      clear ho5 hk5 HS
      go_wp2_with fail
      go_ret
      exact ⟨_, rfl, HO5.out, HB5.out, HBk.out⟩
end Go.Proofs.YtimomjheanfbmaaGreatDoor
