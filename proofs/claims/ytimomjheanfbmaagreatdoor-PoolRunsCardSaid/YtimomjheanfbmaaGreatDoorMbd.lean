import Derived.Test.YtimomjheanfbmaaGreatDoorMbc
import Derived.Shelf.Sort.Plain
import Derived.Test.YtimomjheanfbmaaGreatDoorMaf
set_option linter.unusedSimpArgs false
set_option linter.unusedVariables false
namespace Go.Proofs.YtimomjheanfbmaaGreatDoor
open Go.RowKit

/-- the first k slots are clean -/
inductive FsRel (first n bb : Nat) (P : ByteArray) (rs : List ByteArray) (X : Pl) (i0 : Nat) (D : Dev) : Nat → List Slot → Nat → Dev → Prop
  | zero : FsRel first n bb P rs X i0 D 0 X.slots i0 D
  | skip (k : Nat) (l : List Slot) (i1 : Nat) (D1 : Dev) (s : Slot) : FsRel first n bb P rs X i0 D k l i1 D1 → l[k]? = some s → s.dirty = false → FsRel first n bb P rs X i0 D (k + 1) l i1 D1
  | wrote (k : Nat) (l : List Slot) (i1 : Nat) (D1 : Dev) (s : Slot) (i2 : Nat) (D2 : Dev) : FsRel first n bb P rs X i0 D k l i1 D1 → l[k]? = some s → s.dirty = true → WrRel first n bb P rs X.base s i1 D1 i2 D2 0 →
      FsRel first n bb P rs X i0 D (k + 1) (l.set k { s with dirty := false }) i2 D2
inductive FlushRel (first n bb : Nat) (P : ByteArray) (rs : List ByteArray) (X : Pl) (i0 : Nat) (D : Dev) : Int → List Slot → Nat → Dev → Prop
  | fail (k : Nat) (l : List Slot) (i1 : Nat) (D1 : Dev) (s : Slot) (i2 : Nat) (D2 : Dev) : FsRel first n bb P rs X i0 D k l i1 D1 → l[k]? = some s → s.dirty = true → WrRel first n bb P rs X.base s i1 D1 i2 D2 20 → FlushRel first n bb P rs X i0 D 20 l i2 D2
  | done (l : List Slot) (i1 : Nat) (D1 : Dev) : FsRel first n bb P rs X i0 D X.slots.length l i1 D1 → DevOk D1 → FlushRel first n bb P rs X i0 D D1.barrier.2 l i1 D1.barrier.1
theorem Pw.barrier {w w' : World} {p lp dp first n bb : Nat} {P : ByteArray} {rs : List ByteArray} {i0 : Nat} {X : Pl} {sv : Value} {S Sl Sd Sd' : List Nat} {D : Dev} (h : Pw w p lp dp first n bb P rs i0 X sv S Sl Sd D)
    (hd : DiskAt w' dp D.barrier.1 Sd') (hk : Keeps (· ∈ Sd) w w') (hs : ∀ k ∈ Sd', k ∈ Sd ∨ w.heap.size ≤ k) : Pw w' p lp dp first n bb P rs i0 X sv S Sl Sd' D.barrier.1 := by
  have hof := off_barrier 0 D h.ws.dsk.1
  refine ⟨h.pool.keep hk (fun k hk h' => h.dd k hk h'), ⟨h.ws.log.keep hk (fun k hk h' => h.ws.dis k hk h'), hd, ⟨hd.1, by rw [hof.len]; exact h.ws.has.2.1, hof.all _ (fun p d hp _ => by omega) h.ws.has.2.2⟩, fun k hk h' => ?_, h.ws.rok, h.ws.le, h.ws.pre, h.ws.bbs, ?_⟩, h.dl, fun k hk h' => ?_, h.ring, by rw [hof.len]; exact h.fit⟩
  · rcases hs k h' with h2 | h2
    · exact h.ws.dis k hk h2
    · have := h.ws.log.lt k hk; omega
  · have hsf := barrier_soft D
    rcases h.ws.soft with h1 | ⟨h1, h2⟩
    · exact .inl (by omega)
    · rw [hof.dead h1]; exact .inr ⟨h1, h2⟩
  · rcases hs k h' with h2 | h2
    · exact h.dd k hk h2
    · have := h.pool.lt k hk; omega
theorem FsRel.len {first n bb : Nat} {P : ByteArray} {rs : List ByteArray} {X : Pl} {i0 : Nat} {D : Dev} {k : Nat} {l : List Slot} {i1 : Nat} {D1 : Dev} (h : FsRel first n bb P rs X i0 D k l i1 D1) : l.length = X.slots.length := by
  induction h with
  | zero => rfl
  | skip k l i1 D1 s h h1 h2 ih => exact ih
  | wrote k l i1 D1 s i2 D2 h h1 h2 h3 ih => rw [List.length_set]; exact ih
set_option maxRecDepth 100000 in
set_option maxHeartbeats 800000 in
theorem pl_flush {w : World} {p lp dp first n bb : Nat} {P : ByteArray} {rs : List ByteArray} {i0 : Nat} {X : Pl} {sv : Value} {S Sl Sd : List Nat} {D : Dev} (h : Pw w p lp dp first n bb P rs i0 X sv S Sl Sd D)
    (N : Nat) (hNb : N ≤ 2000000000000) (hsoft : SoftB N D) :
    Calls Tryz.prog 29 #[.pointer (some ⟨p, 0, none⟩)] w fun e w' => ∃ c l' i1 Sd' D', e = .returned (.int .i64 c) ∧ FlushRel first n bb P rs X i0 D c l' i1 D' ∧
      Pw w' p lp dp first n bb P rs i1 { X with slots := l' } sv S Sl Sd' D' ∧ Keeps (fun k => k ∈ S ∨ k ∈ Sl ∨ k ∈ Sd) w w' ∧ ∀ k ∈ Sd', k ∈ Sd ∨ w.heap.size ≤ k := by
  obtain ⟨⟨o1, o2, o3, o4, o5, o6, o7, o8⟩, g1, g2, gS, gSn⟩ := h.pool
  obtain ⟨sa, sc, rfl⟩ := g2.form
  have c5 : w.cell? ⟨p, 5, none⟩ = some (.slice sa X.slots.length sc) := cell_at g1 5
  have H1 := Lib.hid g1
  have H2 := Lib.hid g2
  replace gS := Lib.hid gS
  replace gSn := Lib.hid gSn
  clear o8 g1 g2
  have HH := Lib.hid h
  clear h
  go_enter Tryz.func29, Tryz.ntmps29
  go_wp2_with fail
  go_loopw [12] (fun x wr => ∃ (k : Nat) (l : List Slot) (i1 : Nat) (Sd1 : List Nat) (D1 : Dev), k ≤ X.slots.length ∧ x = .int .i64 k ∧ Hid (FsRel first n bb P rs X i0 D k l i1 D1) ∧ Hid (SoftB (N + 4 * k) D1) ∧ Hid (Pw wr p lp dp first n bb P rs i1 { X with slots := l } (.slice sa X.slots.length sc) S Sl Sd1 D1) ∧ Hid (Keeps (fun k => k ∈ S ∨ k ∈ Sl ∨ k ∈ Sd) w wr) ∧ Hid (∀ q ∈ Sd1, q ∈ Sd ∨ w.heap.size ≤ q)) (fun x _ => X.slots.length - (intOf x).toNat)
  case atStart => exact ⟨0, X.slots, i0, Sd, D, by omega, rfl, .zero, hsoft.mono (by omega), HH, Keeps.refl _ _, fun q hq => .inl hq⟩
  case round =>
    obtain ⟨k, l, i1, Sd1, D1, hk, rfl, HFs, HSB, HP, HK, HSd⟩ := hrel
    have hll := HFs.out.len
    obtain ⟨⟨-, -, -, -, -, -, -, q8⟩, p1, p2, -, -⟩ := HP.out.pool
    have x5 : wr.cell? ⟨p, 5, none⟩ = some (.slice sa X.slots.length sc) := cell_at p1 5
    have x0 : wr.cell? ⟨p, 0, none⟩ = some (.pointer (some ⟨dp, 0, none⟩)) := cell_at p1 0
    have p2 : OwnS wr 166 20 (.slice sa X.slots.length sc) X.slots.length (slV l) := hll ▸ p2
    replace q8 := Lib.hid q8
    by_cases hkn : k < X.slots.length
    · have hkI : (k : Int) < X.slots.length := by omega
      have hk0 : (0 : Int) ≤ k := by omega
      obtain ⟨g, rfl⟩ := H2.out.addr (by omega)
      obtain ⟨s, hs⟩ : ∃ s, l[k]? = some s := ⟨_, List.getElem?_eq_getElem (by omega)⟩
      obtain ⟨-, -, -, r3, -⟩ := slot_at p2 k s hs
      have hk1 : IntKind.i64.wrap ((k : Int) + 1) = (k : Int) + 1 := by rw [IntKind.wrap_i64]; omega
      clear p1 p2
      replace hk := Lib.hid hk
      cases hdr : s.dirty with
      | false =>
        rw [hdr] at r3
        replace hdr := Lib.hid hdr
        go_wp2_with fail
        go_roundw
        case rel => exact ⟨k + 1, l, i1, Sd1, D1, by omega, rfl, .skip k l i1 D1 s HFs.out hs hdr.out, HSB.out.mono (by omega), HP, HK, HSd⟩
        case measure => simp [intOf]; omega
      | true =>
        rw [hdr] at r3
        have HWr := Lib.hid (pl_write HP.out k s hs (q8.out s (List.mem_of_getElem? hs) hdr) (N + 4 * k) (by omega) HSB.out g sc (by rw [hll]))
        replace hdr := Lib.hid hdr
        go_wp2_with fail
        refine (HWr.out).mono ?_
        rintro e W2 ⟨cd, i2, Sd2, D2, rfl, hwr, hp2, hk2, hs2⟩
        have HWR := Lib.hid hwr
        have HP2 := Lib.hid hp2
        have HK2 : Hid (Keeps (fun k => k ∈ S ∨ k ∈ Sl ∨ k ∈ Sd) w W2) := HK.out.trans hk2 (fun k hk h => by
          rcases h with h | h | h
          · exact .inl h
          · exact .inr (.inl h)
          · rcases HSd.out k h with h2 | h2
            · exact .inr (.inr h2)
            · omega)
        have HS2 : Hid (∀ k ∈ Sd2, k ∈ Sd ∨ w.heap.size ≤ k) := fun k hk => by
          rcases hs2 k hk with h | h
          · exact HSd.out k h
          · exact .inr (Nat.le_trans HK.out.size h)
        have HSB2 := Lib.hid (HWR.out.softB HSB.out)
        clear hwr hp2 hk2 hs2 HWr
        by_cases hcd : cd = 0
        · subst hcd
          rw [if_pos rfl] at HP2
          go_wp2_with fail
          go_roundw
          case rel => exact ⟨k + 1, l.set k { s with dirty := false }, i2, Sd2, D2, by omega, rfl, .wrote k l i1 D1 s i2 D2 HFs.out hs hdr.out HWR.out, HSB2.out.mono (by omega), HP2, HK2, HS2⟩
          case measure => simp [intOf]; omega
        · have h20 : cd = 20 := by
            rcases HWR.out.code with ⟨h, _⟩ | ⟨h, _⟩
            · exact absurd h hcd
            · exact h
          subst h20
          rw [if_neg (by decide)] at HP2
          go_wp2_with fail
          go_ret
          exact ⟨20, l, i2, Sd2, D2, rfl, .fail k l i1 D1 s i2 D2 HFs.out hs hdr.out HWR.out, HP2.out, HK2.out, HS2.out⟩
    · obtain rfl : k = X.slots.length := by omega
      have HBa := Lib.hid (dsk_barrier dp D1 Sd1 wr HP.out.ws.dsk)
      clear p1 p2
      go_wp2_with fail
      refine (HBa.out).mono ?_
      rintro e W2 ⟨rfl, Sd2, hd2, hk2, hs2⟩
      have hp2 := HP.out.barrier hd2 hk2 hs2
      have hK2 : Keeps (fun k => k ∈ S ∨ k ∈ Sl ∨ k ∈ Sd) w W2 := HK.out.trans hk2 (fun k hk h => by
        rcases HSd.out k h with h2 | h2
        · exact .inr (.inr h2)
        · omega)
      have hS2 : ∀ k ∈ Sd2, k ∈ Sd ∨ w.heap.size ≤ k := fun k hk => by
        rcases hs2 k hk with h | h
        · exact HSd.out k h
        · exact .inr (Nat.le_trans HK.out.size h)
      have HP2 := Lib.hid hp2
      have HK2 := Lib.hid hK2
      have HS2 := Lib.hid hS2
      clear hp2 hK2 hS2 hd2 hk2 hs2
      go_wp2_with fail
      go_ret
      exact ⟨_, l, i1, Sd2, _, rfl, .done l i1 D1 HFs.out HP.out.ws.dsk.1, HP2.out, HK2.out, HS2.out⟩
end Go.Proofs.YtimomjheanfbmaaGreatDoor

namespace Go.Proofs.YtimomjheanfbmaaGreatDoor
open Go.RowKit

set_option maxRecDepth 100000 in
set_option maxHeartbeats 400000 in
theorem pl_new_bad {w : World} (dp lp : Nat) (base pages frames : Int) (h : pages < 1 ∨ frames < 4 ∨ 256 < frames) (h2 : pages ≤ 1024) :
    Calls Tryz.prog 22 #[.pointer (some ⟨dp, 0, none⟩), .pointer (some ⟨lp, 0, none⟩), .int .i64 base, .int .i64 pages, .int .i64 frames] w fun e w' => e = .returned (.tuple #[.pointer none, .int .i64 1]) ∧ Below w.heap.size w w' := by
  by_cases h1 : pages < 1
  · have b1 : decide (pages < 1) = true := by simpa using h1
    clear h
    go_enter Tryz.func22, Tryz.ntmps22
    go_wp2_with fail
    go_ret2
    exact ⟨rfl, bR⟩
  have b1 : decide (pages < 1) = false := by simpa using h1
  have b2 : decide (1024 < pages) = false := by simpa using h2
  by_cases h3 : frames < 4
  · have b3 : decide (frames < 4) = true := by simpa using h3
    clear h
    go_enter Tryz.func22, Tryz.ntmps22
    go_wp2_with fail
    go_ret2
    exact ⟨rfl, bR⟩
  have b3 : decide (frames < 4) = false := by simpa using h3
  have h4 : 256 < frames := by omega
  have b4 : decide (256 < frames) = true := by simpa using h4
  clear h
  go_enter Tryz.func22, Tryz.ntmps22
  go_wp2_with fail
  go_ret2
  exact ⟨rfl, bR⟩
set_option maxRecDepth 100000 in
set_option maxHeartbeats 400000 in
theorem pl_new {w : World} {lp dp first n bb : Nat} {P : ByteArray} {rs : List ByteArray} {i0 : Nat} {Sl Sd : List Nat} {D : Dev} (h : Ws w lp dp first n bb P rs i0 Sl Sd D) (base pages frames : Nat) (h1 : 1 ≤ pages) (h2 : pages ≤ 1024) (h3 : 4 ≤ frames) (h4 : frames ≤ 256) (h5 : base + 4 * pages ≤ D.firm.length) (h6 : first + n ≤ base) :
    Calls Tryz.prog 22 #[.pointer (some ⟨dp, 0, none⟩), .pointer (some ⟨lp, 0, none⟩), .int .i64 base, .int .i64 pages, .int .i64 frames] w fun e w' => ∃ p, e = .returned (.tuple #[.pointer (some ⟨p, 0, none⟩), .int .i64 0]) ∧
      Pw w' p lp dp first n bb P rs i0 { base := base, pages := pages, room := frames, slots := [], hand := 0 } (.slice none 0 0) [p] Sl Sd D ∧ Below w.heap.size w w' ∧ w.heap.size ≤ p := by
  have hD := h.dsk.1.2.1
  have hS := Lib.hid (dsk_size dp D Sd w h.dsk)
  have b1 : decide ((pages : Int) < 1) = false := by apply decide_eq_false; omega
  have b2 : decide (1024 < (pages : Int)) = false := by apply decide_eq_false; omega
  have b3 : decide ((frames : Int) < 4) = false := by apply decide_eq_false; omega
  have b4 : decide (256 < (frames : Int)) = false := by apply decide_eq_false; omega
  have b5 : decide ((base : Int) < 0) = false := by apply decide_eq_false; omega
  have w1 : IntKind.i64.wrap ((pages : Int) * 4) = (pages : Int) * 4 := by rw [IntKind.wrap_i64]; omega
  have w2 : IntKind.i64.wrap ((D.firm.length : Int) - (pages : Int) * 4) = (D.firm.length : Int) - (pages : Int) * 4 := by rw [IntKind.wrap_i64]; omega
  have b6 : decide ((D.firm.length : Int) - (pages : Int) * 4 < (base : Int)) = false := by apply decide_eq_false; omega
  have HH := Lib.hid h
  replace h1 := Lib.hid h1
  replace h2 := Lib.hid h2
  replace h3 := Lib.hid h3
  replace h4 := Lib.hid h4
  replace h5 := Lib.hid h5
  replace h6 := Lib.hid h6
  clear h
  go_enter Tryz.func22, Tryz.ntmps22
  go_wp2_with fail
  refine (hS.out).mono ?_
  rintro e w5 ⟨rfl, rfl⟩
  clear hS
  go_wp2_with fail
  go_ret2
  have hb : Below w5.heap.size w5 (w5.alloc (.cells #[.pointer (some ⟨dp, 0, none⟩), .pointer (some ⟨lp, 0, none⟩), .int .i64 base, .int .i64 pages, .int .i64 frames, .slice none 0 0, .int .i64 0] 161)) := bA bR
  refine ⟨w5.heap.size, rfl, ⟨⟨⟨by show base ≤ 16384; have := h5.out; omega, h1.out, h2.out, h3.out, h4.out, Nat.zero_le _, by show 0 < frames; have := h3.out; omega, fun s hs => by cases hs⟩, hN rfl, OwnS.nil _ _ _, by simp [blk, Value.ownBlock], by simp⟩, HH.out.later hb, fun k hk h => ?_, fun k hk h => ?_, h6.out, h5.out⟩, hb, Nat.le_refl _⟩
  · have := HH.out.log.lt k h
    have := List.mem_singleton.1 hk
    omega
  · have := HH.out.dsk.lt k h
    have := List.mem_singleton.1 hk
    omega
end Go.Proofs.YtimomjheanfbmaaGreatDoor

namespace Go.Proofs.YtimomjheanfbmaaGreatDoor
open Go.Shelf Go.Sort Go.RowKit
def Tryz.lays189_ren : Go.Shelf.Ren := ⟨fun | 189 => 83 | 125 => 126 | 257 => 125 | 128 => 162 | 129 => 163 | 294 => 153 | 295 => 154 | 296 => 155 | 297 => 156 | 298 => 157 | 299 => 158 | 216 => 159 | 300 => 160 | 301 => 161 | 328 => 175 | 329 => 176 | 330 => 177 | 331 => 178 | 332 => 179 | 215 => 180 | 343 => 186 | n => n, fun | 28 => 54 | 3 => 3 | 46 => 206 | 0 => 0 | 51 => 248 | 53 => 147 | 4 => 4 | 183 => 260 | 182 => 259 | 131 => 108 | 5 => 5 | 9 => 9 | 218 => 280 | 222 => 284 | 228 => 287 | 229 => 105 | n => n, fun | n => n⟩
theorem Tryz.lays189 : Go.Proofs.Lays.n189 Tryz.prog Tryz.lays189_ren := {
  mixed := by kernel_rfl
  f125 := Tryz.func126.trans (congrArg some (by kernel_rfl))
  f128 := Tryz.func162.trans (congrArg some (by kernel_rfl))
  f129 := Tryz.func163.trans (congrArg some (by kernel_rfl))
  f189 := Tryz.func83.trans (congrArg some (by kernel_rfl))
  f215 := Tryz.func180.trans (congrArg some (by kernel_rfl))
  f216 := Tryz.func159.trans (congrArg some (by kernel_rfl))
  f257 := Tryz.func125.trans (congrArg some (by kernel_rfl))
  f294 := Tryz.func153.trans (congrArg some (by kernel_rfl))
  f295 := Tryz.func154.trans (congrArg some (by kernel_rfl))
  f296 := Tryz.func155.trans (congrArg some (by kernel_rfl))
  f297 := Tryz.func156.trans (congrArg some (by kernel_rfl))
  f298 := Tryz.func157.trans (congrArg some (by kernel_rfl))
  f299 := Tryz.func158.trans (congrArg some (by kernel_rfl))
  f300 := Tryz.func160.trans (congrArg some (by kernel_rfl))
  f301 := Tryz.func161.trans (congrArg some (by kernel_rfl))
  f328 := Tryz.func175.trans (congrArg some (by kernel_rfl))
  f329 := Tryz.func176.trans (congrArg some (by kernel_rfl))
  f330 := Tryz.func177.trans (congrArg some (by kernel_rfl))
  f331 := Tryz.func178.trans (congrArg some (by kernel_rfl))
  f332 := Tryz.func179.trans (congrArg some (by kernel_rfl))
  f343 := Tryz.func186.trans (congrArg some (by kernel_rfl))
  t0 := Tryz.underlying0
  a0 := Tryz.isAgg0
  z0 := Tryz.sizeOf0
  v0 := Tryz.zeroValue0
  t3 := Tryz.underlying3
  a3 := Tryz.isAgg3
  z3 := Tryz.sizeOf3
  v3 := Tryz.zeroValue3
  t4 := Tryz.underlying4
  a4 := Tryz.isAgg4
  z4 := Tryz.sizeOf4
  v4 := Tryz.zeroValue4
  t5 := Tryz.underlying5
  a5 := Tryz.isAgg5
  z5 := Tryz.sizeOf5
  v5 := Tryz.zeroValue5
  t9 := Tryz.underlying9
  a9 := Tryz.isAgg9
  z9 := Tryz.sizeOf9
  v9 := Tryz.zeroValue9
  t28 := Tryz.underlying54
  a28 := Tryz.isAgg54
  z28 := Tryz.sizeOf54
  v28 := Tryz.zeroValue54
  t46 := Tryz.underlying206
  a46 := Tryz.isAgg206
  z46 := Tryz.sizeOf206
  v46 := Tryz.zeroValue206
  t51 := Tryz.underlying248
  a51 := Tryz.isAgg248
  z51 := Tryz.sizeOf248
  v51 := Tryz.zeroValue248
  t53 := Tryz.underlying147
  a53 := Tryz.isAgg147
  z53 := Tryz.sizeOf147
  v53 := Tryz.zeroValue147
  t131 := Tryz.underlying108
  a131 := Tryz.isAgg108
  z131 := Tryz.sizeOf108
  v131 := Tryz.zeroValue108
  t182 := Tryz.underlying259
  a182 := Tryz.isAgg259
  z182 := Tryz.sizeOf259
  v182 := Tryz.zeroValue259
  t183 := Tryz.underlying260
  a183 := Tryz.isAgg260
  z183 := Tryz.sizeOf260
  v183 := Tryz.zeroValue260
  t218 := Tryz.underlying280
  a218 := Tryz.isAgg280
  z218 := Tryz.sizeOf280
  v218 := Tryz.zeroValue280
  t222 := Tryz.underlying284
  a222 := Tryz.isAgg284
  z222 := Tryz.sizeOf284
  v222 := Tryz.zeroValue284
  t228 := Tryz.underlying287
  a228 := Tryz.isAgg287
  z228 := Tryz.sizeOf287
  v228 := Tryz.zeroValue287
  t229 := Tryz.underlying105
  a229 := Tryz.isAgg105
  z229 := Tryz.sizeOf105
  v229 := Tryz.zeroValue105 }
open Go.Sort Go.RowKit in
theorem Tryz.slices_Sort_int (blk off cap : Nat) (zs : List Int) (w : World) (hH : Holds (Value.int .i64) w blk off zs.toArray) (hblk : blk < w.heap.size) (hsz : zs.length < 4611686018427387904) :
    Calls Tryz.prog 83 #[.slice (some ⟨blk, off, none⟩) zs.length cap] w fun e w' =>
      e = .returned (.tuple #[]) ∧ ∃ n os, w' = grow (putRow (Value.int .i64) (Sort.ahead w n) blk off (zs.mergeSort fun x y => decide (x ≤ y)).toArray) os := Any.slices_Sort_int Tryz.lays189 blk off cap zs w hH hblk hsz
end Go.Proofs.YtimomjheanfbmaaGreatDoor
