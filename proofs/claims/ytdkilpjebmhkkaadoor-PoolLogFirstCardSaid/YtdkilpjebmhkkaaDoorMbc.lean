import Derived.Test.YtdkilpjebmhkkaaDoorMbb
import Derived.Shelf.Sort.Plain
import Derived.Test.YtdkilpjebmhkkaaDoorMag
import Derived.Sort.OwnSortedInts
set_option linter.unusedSimpArgs false
set_option linter.unusedVariables false
namespace Go.Proofs.YtdkilpjebmhkkaaDoor
open Go.RowKit

/-- the first k slots are clean -/
inductive FsRel (first n bb : Nat) (P : ByteArray) (rs : List ByteArray) (X : Pl) (i0 : Nat) (D : Dev) : Nat → List Slot → Nat → Dev → Prop
  | zero : FsRel first n bb P rs X i0 D 0 X.slots i0 D
  | skip (k : Nat) (l : List Slot) (i1 : Nat) (D1 : Dev) (s : Slot) : FsRel first n bb P rs X i0 D k l i1 D1 → l[k]? = some s → s.dirty = false → FsRel first n bb P rs X i0 D (k + 1) l i1 D1
  | wrote (k : Nat) (l : List Slot) (i1 : Nat) (D1 : Dev) (s : Slot) (i2 : Nat) (D2 : Dev) : FsRel first n bb P rs X i0 D k l i1 D1 → l[k]? = some s → s.dirty = true → WrRel first n bb P rs X.base s i1 D1 i2 D2 0 →
      FsRel first n bb P rs X i0 D (k + 1) (l.set k { s with dirty := false }) i2 D2
inductive FlushRel (first n bb : Nat) (P : ByteArray) (rs : List ByteArray) (X : Pl) (i0 : Nat) (D : Dev) : Int → List Slot → Nat → Dev → Prop
  | fail (k : Nat) (l : List Slot) (i1 : Nat) (D1 : Dev) (s : Slot) (i2 : Nat) (D2 : Dev) : FsRel first n bb P rs X i0 D k l i1 D1 → l[k]? = some s → s.dirty = true → WrRel first n bb P rs X.base s i1 D1 i2 D2 20 → FlushRel first n bb P rs X i0 D 20 l i2 D2
  | done (l : List Slot) (i1 : Nat) (D1 : Dev) : FsRel first n bb P rs X i0 D X.slots.length l i1 D1 → DevOk D1 → FlushRel first n bb P rs X i0 D D1.barrier.2 l i1 D1.barrier.1
theorem Pw.barrier {w w' : World} {p lp dp first n bb : Nat} {P : ByteArray} {rs : List ByteArray} {i0 : Nat} {X : Pl} {sv : Value} {S Sl Sd Sd' : List Nat} {D : Dev} (h : Pw w p lp dp first n bb P rs i0 X sv S Sl Sd D)
    (hd : DiskAt w' dp D.barrier.1 Sd') (hk : Keeps (· ∈ Sd) w w') (hs : ∀ k ∈ Sd', k ∈ Sd ∨ w.heap.size ≤ k) : Pw w' p lp dp first n bb P rs i0 X sv S Sl Sd' D.barrier.1 := by
  have hof := off_barrier 0 D h.ws.dsk.1
  refine ⟨h.pool.keep hk (fun k hk h' => h.dd k hk h'), ⟨h.ws.log.keep hk (fun k hk h' => h.ws.dis k hk h'), hd, ⟨hd.1, by rw [hof.len]; exact h.ws.has.2.1, hof.all _ (fun p d hp _ => by omega) h.ws.has.2.2⟩, fun k hk h' => ?_, h.ws.rok, h.ws.le, h.ws.pre, h.ws.bbs, ?_⟩, h.dl, fun k hk h' => ?_, h.ring, by rw [hof.len]; exact h.fit⟩
  · rcases hs k h' with h2 | h2
    · exact h.ws.dis k hk h2
    · have := h.ws.log.lt k hk; omega
  · have hsf := barrier_soft D
    rcases h.ws.soft with h1 | ⟨h1, h2⟩
    · exact .inl (by omega)
    · rw [hof.dead h1]; exact .inr ⟨h1, h2⟩
  · rcases hs k h' with h2 | h2
    · exact h.dd k hk h2
    · have := h.pool.lt k hk; omega
theorem FsRel.len {first n bb : Nat} {P : ByteArray} {rs : List ByteArray} {X : Pl} {i0 : Nat} {D : Dev} {k : Nat} {l : List Slot} {i1 : Nat} {D1 : Dev} (h : FsRel first n bb P rs X i0 D k l i1 D1) : l.length = X.slots.length := by
  induction h with
  | zero => rfl
  | skip k l i1 D1 s h h1 h2 ih => exact ih
  | wrote k l i1 D1 s i2 D2 h h1 h2 h3 ih => rw [List.length_set]; exact ih
set_option maxRecDepth 100000 in
set_option maxHeartbeats 800000 in
theorem pl_flush {w : World} {p lp dp first n bb : Nat} {P : ByteArray} {rs : List ByteArray} {i0 : Nat} {X : Pl} {sv : Value} {S Sl Sd : List Nat} {D : Dev} (h : Pw w p lp dp first n bb P rs i0 X sv S Sl Sd D)
    (N : Nat) (hNb : N ≤ 2000000000000) (hsoft : SoftB N D) :
    Calls Tryd.prog 14 #[.pointer (some ⟨p, 0, none⟩)] w fun e w' => ∃ c l' i1 Sd' D', e = .returned (.int .i64 c) ∧ FlushRel first n bb P rs X i0 D c l' i1 D' ∧
      Pw w' p lp dp first n bb P rs i1 { X with slots := l' } sv S Sl Sd' D' ∧ Keeps (fun k => k ∈ S ∨ k ∈ Sl ∨ k ∈ Sd) w w' ∧ ∀ k ∈ Sd', k ∈ Sd ∨ w.heap.size ≤ k := by
  obtain ⟨⟨o1, o2, o3, o4, o5, o6, o7, o8⟩, g1, g2, gS, gSn⟩ := h.pool
  obtain ⟨sa, sc, rfl⟩ := g2.form
  have c5 : w.cell? ⟨p, 5, none⟩ = some (.slice sa X.slots.length sc) := cell_at g1 5
  have H1 := Lib.hid g1
  have H2 := Lib.hid g2
  replace gS := Lib.hid gS
  replace gSn := Lib.hid gSn
  clear o8 g1 g2
  have HH := Lib.hid h
  clear h
  go_enter Tryd.func14, Tryd.ntmps14
  go_wp2_with fail
  go_loopw [12] (fun x wr => ∃ (k : Nat) (l : List Slot) (i1 : Nat) (Sd1 : List Nat) (D1 : Dev), k ≤ X.slots.length ∧ x = .int .i64 k ∧ Hid (FsRel first n bb P rs X i0 D k l i1 D1) ∧ Hid (SoftB (N + 4 * k) D1) ∧ Hid (Pw wr p lp dp first n bb P rs i1 { X with slots := l } (.slice sa X.slots.length sc) S Sl Sd1 D1) ∧ Hid (Keeps (fun k => k ∈ S ∨ k ∈ Sl ∨ k ∈ Sd) w wr) ∧ Hid (∀ q ∈ Sd1, q ∈ Sd ∨ w.heap.size ≤ q)) (fun x _ => X.slots.length - (intOf x).toNat)
  case atStart => exact ⟨0, X.slots, i0, Sd, D, by omega, rfl, .zero, hsoft.mono (by omega), HH, Keeps.refl _ _, fun q hq => .inl hq⟩
  case round =>
    obtain ⟨k, l, i1, Sd1, D1, hk, rfl, HFs, HSB, HP, HK, HSd⟩ := hrel
    have hll := HFs.out.len
    obtain ⟨⟨-, -, -, -, -, -, -, q8⟩, p1, p2, -, -⟩ := HP.out.pool
    have x5 : wr.cell? ⟨p, 5, none⟩ = some (.slice sa X.slots.length sc) := cell_at p1 5
    have x0 : wr.cell? ⟨p, 0, none⟩ = some (.pointer (some ⟨dp, 0, none⟩)) := cell_at p1 0
    have p2 : OwnS wr 92 20 (.slice sa X.slots.length sc) X.slots.length (slV l) := hll ▸ p2
    replace q8 := Lib.hid q8
    by_cases hkn : k < X.slots.length
    · have hkI : (k : Int) < X.slots.length := by omega
      have hk0 : (0 : Int) ≤ k := by omega
      obtain ⟨g, rfl⟩ := H2.out.addr (by omega)
      obtain ⟨s, hs⟩ : ∃ s, l[k]? = some s := ⟨_, List.getElem?_eq_getElem (by omega)⟩
      obtain ⟨-, -, -, r3, -⟩ := slot_at p2 k s hs
      have hk1 : IntKind.i64.wrap ((k : Int) + 1) = (k : Int) + 1 := by rw [IntKind.wrap_i64]; omega
      clear p1 p2
      replace hk := Lib.hid hk
      cases hdr : s.dirty with
      | false =>
        rw [hdr] at r3
        replace hdr := Lib.hid hdr
        go_wp2_with fail
        go_roundw
        case rel => exact ⟨k + 1, l, i1, Sd1, D1, by omega, rfl, .skip k l i1 D1 s HFs.out hs hdr.out, HSB.out.mono (by omega), HP, HK, HSd⟩
        case measure => simp [intOf]; omega
      | true =>
        rw [hdr] at r3
        have HWr := Lib.hid (pl_write HP.out k s hs (q8.out s (List.mem_of_getElem? hs) hdr) (N + 4 * k) (by omega) HSB.out g sc (by rw [hll]))
        replace hdr := Lib.hid hdr
        go_wp2_with fail
        refine (HWr.out).mono ?_
        rintro e W2 ⟨cd, i2, Sd2, D2, rfl, hwr, hp2, hk2, hs2⟩
        have HWR := Lib.hid hwr
        have HP2 := Lib.hid hp2
        have HK2 : Hid (Keeps (fun k => k ∈ S ∨ k ∈ Sl ∨ k ∈ Sd) w W2) := HK.out.trans hk2 (fun k hk h => by
          rcases h with h | h | h
          · exact .inl h
          · exact .inr (.inl h)
          · rcases HSd.out k h with h2 | h2
            · exact .inr (.inr h2)
            · omega)
        have HS2 : Hid (∀ k ∈ Sd2, k ∈ Sd ∨ w.heap.size ≤ k) := fun k hk => by
          rcases hs2 k hk with h | h
          · exact HSd.out k h
          · exact .inr (Nat.le_trans HK.out.size h)
        have HSB2 := Lib.hid (HWR.out.softB HSB.out)
        clear hwr hp2 hk2 hs2 HWr
        by_cases hcd : cd = 0
        · subst hcd
          rw [if_pos rfl] at HP2
          go_wp2_with fail
          go_roundw
          case rel => exact ⟨k + 1, l.set k { s with dirty := false }, i2, Sd2, D2, by omega, rfl, .wrote k l i1 D1 s i2 D2 HFs.out hs hdr.out HWR.out, HSB2.out.mono (by omega), HP2, HK2, HS2⟩
          case measure => simp [intOf]; omega
        · have h20 : cd = 20 := by
            rcases HWR.out.code with ⟨h, _⟩ | ⟨h, _⟩
            · exact absurd h hcd
            · exact h
          subst h20
          rw [if_neg (by decide)] at HP2
          go_wp2_with fail
          go_ret
          exact ⟨20, l, i2, Sd2, D2, rfl, .fail k l i1 D1 s i2 D2 HFs.out hs hdr.out HWR.out, HP2.out, HK2.out, HS2.out⟩
    · obtain rfl : k = X.slots.length := by omega
      have HBa := Lib.hid (dsk_barrier dp D1 Sd1 wr HP.out.ws.dsk)
      clear p1 p2
      go_wp2_with fail
      refine (HBa.out).mono ?_
      rintro e W2 ⟨rfl, Sd2, hd2, hk2, hs2⟩
      have hp2 := HP.out.barrier hd2 hk2 hs2
      have hK2 : Keeps (fun k => k ∈ S ∨ k ∈ Sl ∨ k ∈ Sd) w W2 := HK.out.trans hk2 (fun k hk h => by
        rcases HSd.out k h with h2 | h2
        · exact .inr (.inr h2)
        · omega)
      have hS2 : ∀ k ∈ Sd2, k ∈ Sd ∨ w.heap.size ≤ k := fun k hk => by
        rcases hs2 k hk with h | h
        · exact HSd.out k h
        · exact .inr (Nat.le_trans HK.out.size h)
      have HP2 := Lib.hid hp2
      have HK2 := Lib.hid hK2
      have HS2 := Lib.hid hS2
      clear hp2 hK2 hS2 hd2 hk2 hs2
      go_wp2_with fail
      go_ret
      exact ⟨_, l, i1, Sd2, _, rfl, .done l i1 D1 HFs.out HP.out.ws.dsk.1, HP2.out, HK2.out, HS2.out⟩
end Go.Proofs.YtdkilpjebmhkkaaDoor

namespace Go.Proofs.YtdkilpjebmhkkaaDoor
open Go.RowKit

set_option maxRecDepth 100000 in
set_option maxHeartbeats 400000 in
theorem pl_new_bad {w : World} (dp lp : Nat) (base pages frames : Int) (h : pages < 1 ∨ frames < 4 ∨ 256 < frames) (h2 : pages ≤ 1024) :
    Calls Tryd.prog 10 #[.pointer (some ⟨dp, 0, none⟩), .pointer (some ⟨lp, 0, none⟩), .int .i64 base, .int .i64 pages, .int .i64 frames] w fun e w' => e = .returned (.tuple #[.pointer none, .int .i64 1]) ∧ Below w.heap.size w w' := by
  by_cases h1 : pages < 1
  · have b1 : decide (pages < 1) = true := by simpa using h1
    clear h
    go_enter Tryd.func10, Tryd.ntmps10
    go_wp2_with fail
    go_ret2
    exact ⟨rfl, bR⟩
  have b1 : decide (pages < 1) = false := by simpa using h1
  have b2 : decide (1024 < pages) = false := by simpa using h2
  by_cases h3 : frames < 4
  · have b3 : decide (frames < 4) = true := by simpa using h3
    clear h
    go_enter Tryd.func10, Tryd.ntmps10
    go_wp2_with fail
    go_ret2
    exact ⟨rfl, bR⟩
  have b3 : decide (frames < 4) = false := by simpa using h3
  have h4 : 256 < frames := by omega
  have b4 : decide (256 < frames) = true := by simpa using h4
  clear h
  go_enter Tryd.func10, Tryd.ntmps10
  go_wp2_with fail
  go_ret2
  exact ⟨rfl, bR⟩
set_option maxRecDepth 100000 in
set_option maxHeartbeats 400000 in
theorem pl_new {w : World} {lp dp first n bb : Nat} {P : ByteArray} {rs : List ByteArray} {i0 : Nat} {Sl Sd : List Nat} {D : Dev} (h : Ws w lp dp first n bb P rs i0 Sl Sd D) (base pages frames : Nat) (h1 : 1 ≤ pages) (h2 : pages ≤ 1024) (h3 : 4 ≤ frames) (h4 : frames ≤ 256) (h5 : base + 4 * pages ≤ D.firm.length) (h6 : first + n ≤ base) :
    Calls Tryd.prog 10 #[.pointer (some ⟨dp, 0, none⟩), .pointer (some ⟨lp, 0, none⟩), .int .i64 base, .int .i64 pages, .int .i64 frames] w fun e w' => ∃ p, e = .returned (.tuple #[.pointer (some ⟨p, 0, none⟩), .int .i64 0]) ∧
      Pw w' p lp dp first n bb P rs i0 { base := base, pages := pages, room := frames, slots := [], hand := 0 } (.slice none 0 0) [p] Sl Sd D ∧ Below w.heap.size w w' ∧ w.heap.size ≤ p := by
  have hD := h.dsk.1.2.1
  have hS := Lib.hid (dsk_size dp D Sd w h.dsk)
  have b1 : decide ((pages : Int) < 1) = false := by apply decide_eq_false; omega
  have b2 : decide (1024 < (pages : Int)) = false := by apply decide_eq_false; omega
  have b3 : decide ((frames : Int) < 4) = false := by apply decide_eq_false; omega
  have b4 : decide (256 < (frames : Int)) = false := by apply decide_eq_false; omega
  have b5 : decide ((base : Int) < 0) = false := by apply decide_eq_false; omega
  have w1 : IntKind.i64.wrap ((pages : Int) * 4) = (pages : Int) * 4 := by rw [IntKind.wrap_i64]; omega
  have w2 : IntKind.i64.wrap ((D.firm.length : Int) - (pages : Int) * 4) = (D.firm.length : Int) - (pages : Int) * 4 := by rw [IntKind.wrap_i64]; omega
  have b6 : decide ((D.firm.length : Int) - (pages : Int) * 4 < (base : Int)) = false := by apply decide_eq_false; omega
  have HH := Lib.hid h
  replace h1 := Lib.hid h1
  replace h2 := Lib.hid h2
  replace h3 := Lib.hid h3
  replace h4 := Lib.hid h4
  replace h5 := Lib.hid h5
  replace h6 := Lib.hid h6
  clear h
  go_enter Tryd.func10, Tryd.ntmps10
  go_wp2_with fail
  refine (hS.out).mono ?_
  rintro e w5 ⟨rfl, rfl⟩
  clear hS
  go_wp2_with fail
  go_ret2
  have hb : Below w5.heap.size w5 (w5.alloc (.cells #[.pointer (some ⟨dp, 0, none⟩), .pointer (some ⟨lp, 0, none⟩), .int .i64 base, .int .i64 pages, .int .i64 frames, .slice none 0 0, .int .i64 0] 85)) := bA bR
  refine ⟨w5.heap.size, rfl, ⟨⟨⟨by show base ≤ 16384; have := h5.out; omega, h1.out, h2.out, h3.out, h4.out, Nat.zero_le _, by show 0 < frames; have := h3.out; omega, fun s hs => by cases hs⟩, hN rfl, OwnS.nil _ _ _, by simp [blk, Value.ownBlock], by simp⟩, HH.out.later hb, fun k hk h => ?_, fun k hk h => ?_, h6.out, h5.out⟩, hb, Nat.le_refl _⟩
  · have := HH.out.log.lt k h
    have := List.mem_singleton.1 hk
    omega
  · have := HH.out.dsk.lt k h
    have := List.mem_singleton.1 hk
    omega
end Go.Proofs.YtdkilpjebmhkkaaDoor

namespace Go.Proofs.YtdkilpjebmhkkaaDoor
open Go.Shelf Go.Sort Go.RowKit
def Tryd.lays189_ren : Go.Shelf.Ren := ⟨fun | 189 => 45 | 125 => 65 | 257 => 64 | 128 => 84 | 129 => 85 | 294 => 75 | 295 => 76 | 296 => 77 | 297 => 78 | 298 => 79 | 299 => 80 | 216 => 81 | 300 => 82 | 301 => 83 | 328 => 95 | 329 => 96 | 330 => 97 | 331 => 98 | 332 => 99 | 215 => 100 | 343 => 105 | n => n, fun | 28 => 26 | 3 => 3 | 46 => 111 | 0 => 0 | 51 => 142 | 53 => 64 | 4 => 4 | 183 => 159 | 182 => 158 | 131 => 164 | 5 => 5 | 9 => 9 | 218 => 178 | 222 => 182 | 228 => 188 | 229 => 189 | n => n, fun | n => n⟩
theorem Tryd.lays189 : Go.Proofs.Lays.n189 Tryd.prog Tryd.lays189_ren := {
  mixed := by kernel_rfl
  f125 := Tryd.func65.trans (congrArg some (by kernel_rfl))
  f128 := Tryd.func84.trans (congrArg some (by kernel_rfl))
  f129 := Tryd.func85.trans (congrArg some (by kernel_rfl))
  f189 := Tryd.func45.trans (congrArg some (by kernel_rfl))
  f215 := Tryd.func100.trans (congrArg some (by kernel_rfl))
  f216 := Tryd.func81.trans (congrArg some (by kernel_rfl))
  f257 := Tryd.func64.trans (congrArg some (by kernel_rfl))
  f294 := Tryd.func75.trans (congrArg some (by kernel_rfl))
  f295 := Tryd.func76.trans (congrArg some (by kernel_rfl))
  f296 := Tryd.func77.trans (congrArg some (by kernel_rfl))
  f297 := Tryd.func78.trans (congrArg some (by kernel_rfl))
  f298 := Tryd.func79.trans (congrArg some (by kernel_rfl))
  f299 := Tryd.func80.trans (congrArg some (by kernel_rfl))
  f300 := Tryd.func82.trans (congrArg some (by kernel_rfl))
  f301 := Tryd.func83.trans (congrArg some (by kernel_rfl))
  f328 := Tryd.func95.trans (congrArg some (by kernel_rfl))
  f329 := Tryd.func96.trans (congrArg some (by kernel_rfl))
  f330 := Tryd.func97.trans (congrArg some (by kernel_rfl))
  f331 := Tryd.func98.trans (congrArg some (by kernel_rfl))
  f332 := Tryd.func99.trans (congrArg some (by kernel_rfl))
  f343 := Tryd.func105.trans (congrArg some (by kernel_rfl))
  t0 := Tryd.underlying0
  a0 := Tryd.isAgg0
  z0 := Tryd.sizeOf0
  v0 := Tryd.zeroValue0
  t3 := Tryd.underlying3
  a3 := Tryd.isAgg3
  z3 := Tryd.sizeOf3
  v3 := Tryd.zeroValue3
  t4 := Tryd.underlying4
  a4 := Tryd.isAgg4
  z4 := Tryd.sizeOf4
  v4 := Tryd.zeroValue4
  t5 := Tryd.underlying5
  a5 := Tryd.isAgg5
  z5 := Tryd.sizeOf5
  v5 := Tryd.zeroValue5
  t9 := Tryd.underlying9
  a9 := Tryd.isAgg9
  z9 := Tryd.sizeOf9
  v9 := Tryd.zeroValue9
  t28 := Tryd.underlying26
  a28 := Tryd.isAgg26
  z28 := Tryd.sizeOf26
  v28 := Tryd.zeroValue26
  t46 := Tryd.underlying111
  a46 := Tryd.isAgg111
  z46 := Tryd.sizeOf111
  v46 := Tryd.zeroValue111
  t51 := Tryd.underlying142
  a51 := Tryd.isAgg142
  z51 := Tryd.sizeOf142
  v51 := Tryd.zeroValue142
  t53 := Tryd.underlying64
  a53 := Tryd.isAgg64
  z53 := Tryd.sizeOf64
  v53 := Tryd.zeroValue64
  t131 := Tryd.underlying164
  a131 := Tryd.isAgg164
  z131 := Tryd.sizeOf164
  v131 := Tryd.zeroValue164
  t182 := Tryd.underlying158
  a182 := Tryd.isAgg158
  z182 := Tryd.sizeOf158
  v182 := Tryd.zeroValue158
  t183 := Tryd.underlying159
  a183 := Tryd.isAgg159
  z183 := Tryd.sizeOf159
  v183 := Tryd.zeroValue159
  t218 := Tryd.underlying178
  a218 := Tryd.isAgg178
  z218 := Tryd.sizeOf178
  v218 := Tryd.zeroValue178
  t222 := Tryd.underlying182
  a222 := Tryd.isAgg182
  z222 := Tryd.sizeOf182
  v222 := Tryd.zeroValue182
  t228 := Tryd.underlying188
  a228 := Tryd.isAgg188
  z228 := Tryd.sizeOf188
  v228 := Tryd.zeroValue188
  t229 := Tryd.underlying189
  a229 := Tryd.isAgg189
  z229 := Tryd.sizeOf189
  v229 := Tryd.zeroValue189 }
open Go.Sort Go.RowKit in
theorem Tryd.slices_Sort_int (blk off cap : Nat) (zs : List Int) (w : World) (hH : Holds (Value.int .i64) w blk off zs.toArray) (hblk : blk < w.heap.size) (hsz : zs.length < 4611686018427387904) :
    Calls Tryd.prog 45 #[.slice (some ⟨blk, off, none⟩) zs.length cap] w fun e w' =>
      e = .returned (.tuple #[]) ∧ ∃ n os, w' = grow (putRow (Value.int .i64) (Sort.ahead w n) blk off (zs.mergeSort fun x y => decide (x ≤ y)).toArray) os := Any.slices_Sort_int Tryd.lays189 blk off cap zs w hH hblk hsz
end Go.Proofs.YtdkilpjebmhkkaaDoor

namespace Go.Proofs.YtdkilpjebmhkkaaDoor
open Go.RowKit Go.Sort

set_option maxRecDepth 100000 in
theorem len64_0 (w : World) : Calls Tryd.prog 85 #[.int .u64 0] w fun e w' => e = .returned (.int .i64 0) ∧ w' = w := by
  go_enter Tryd.func85, Tryd.ntmps85
  go_wp2
  go_ret
  exact ⟨congrArg (fun n => Ending.returned (Value.int .i64 n)) (show wrap64 (wrap64 (Lib.len8 0)) = 0 from by decide +kernel), rfl⟩
set_option maxRecDepth 100000 in
theorem len_0 (w : World) : Calls Tryd.prog 65 #[.int .u64 0] w fun e w' => e = .returned (.int .i64 0) ∧ w' = w := by
  go_enter Tryd.func65, Tryd.ntmps65
  go_wp2_with (first | (go_at_call 85; refine (len64_0 _).mono ?_; rintro e w' ⟨rfl, rfl⟩))
  go_ret
  exact ⟨rfl, rfl⟩
theorem insertion_0 (p : Option Addr) (cap : Nat) (w : World) : Calls Tryd.prog 75 #[.slice p 0 cap, .int .i64 0, .int .i64 0] w fun e w' => e = .returned (.tuple #[]) ∧ w' = w := by
  go_enter Tryd.func75, Tryd.ntmps75
  go_wp2
  refine wp_loop_rounds 1 ?_
  rw [rounds_succ]
  go_wp2
  go_end0
  exact ⟨rfl, rfl⟩
set_option maxRecDepth 100000 in
theorem pdq_0 (p : Option Addr) (cap : Nat) (w : World) : Calls Tryd.prog 64 #[.slice p 0 cap, .int .i64 0, .int .i64 0, .int .i64 0] w fun e w' => e = .returned (.tuple #[]) ∧ w' = w := by
  go_enter Tryd.func64, Tryd.ntmps64
  go_wp2
  refine wp_loop_rounds 1 ?_
  rw [rounds_succ]
  go_wp2_with (first | (go_at_call 75; refine (insertion_0 p cap _).mono ?_; rintro e w' ⟨rfl, rfl⟩))
  refine bodyPost_ret (results_none rfl _ _ _) rfl ?_
  exact ⟨rfl, rfl⟩
set_option maxRecDepth 100000 in
theorem sort_0 (p : Option Addr) (cap : Nat) (w : World) : Calls Tryd.prog 45 #[.slice p 0 cap] w fun e w' => e = .returned (.tuple #[]) ∧ w' = w := by
  go_enter Tryd.func45, Tryd.ntmps45
  go_wp2_with (first
    | (go_at_call 65; refine (len_0 _).mono ?_; rintro e w' ⟨rfl, rfl⟩)
    | (go_at_call 64; refine (pdq_0 p cap _).mono ?_; rintro e w' ⟨rfl, rfl⟩))
  go_end0
  exact ⟨rfl, rfl⟩
def sortI (l : List Int) : List Int := l.mergeSort fun x y => decide (x ≤ y)
/-- sorted in place, where the call owns the row -/
theorem sort_own {w : World} {v : Value} {l : List Int} (h : OwnS w 3 1 v l.length (l.map (Value.int .i64))) (hl : l.length ≤ 100000) :
    Calls Tryd.prog 45 #[v] w fun e w' => e = .returned (.tuple #[]) ∧ OwnS w' 3 1 v l.length ((sortI l).map (Value.int .i64)) ∧ Keeps (· ∈ blk v) w w' := by
  rcases h.2 with ⟨hv, h0⟩ | ⟨g, cap, cur, hv, hb, hg, hnc, hcm, hcs, htake⟩
  · have hn : l = [] := List.eq_nil_of_length_eq_zero h0
    subst hv hn
    refine (sort_0 none 0 w).mono ?_
    rintro e w' ⟨rfl, rfl⟩
    exact ⟨rfl, by rw [show sortI [] = [] from by unfold sortI; simp [List.mergeSort]]; exact h, Keeps.refl _ _⟩
  · subst hv
    have hH : Holds (Value.int .i64) w g 0 l.toArray := holds_of_blockI hg (by simpa using htake)
    refine (Tryd.slices_Sort_int g 0 cap l w hH (block_lt hg) (by omega)).mono ?_
    rintro e w' ⟨rfl, n, os, rfl⟩
    refine ⟨rfl, ?_, ?_⟩
    · exact OwnS.of (ownsRow_sortedI (base := 0) (by simp) (Nat.zero_le _) hg hnc hcm hcs)
    · have := grownBy_sortedI (w := w) (g := g) (n := n) (os := os) (l.mergeSort fun x y => decide (x ≤ y)).toArray
      exact (Keeps.refl _ _).grown this (fun k hk => .inl (by injection hk with hk; subst hk; simp [blk, Value.ownBlock]))
def dirtyL (l : List Slot) : List Int := (l.filter (·.dirty)).map (·.id)
theorem Tryd.info_int : (Tryd.prog.info? 3).map (fun i => (i.zero, i.size, i.bytes)) = some (some (.int .i64 0), 1, 8) := by kernel_rfl
set_option maxRecDepth 100000 in
set_option maxHeartbeats 400000 in
theorem pl_dirty {w : World} {p dp lp : Nat} {X : Pl} {sv : Value} {S : List Nat} (h : PoolAt w p dp lp X sv S) :
    Calls Tryd.prog 23 #[.pointer (some ⟨p, 0, none⟩)] w fun e w' => ∃ v, e = .returned v ∧ OwnS w' 3 1 v (dirtyL X.slots).length ((sortI (dirtyL X.slots)).map (Value.int .i64)) ∧ Below w.heap.size w w' ∧ ∀ k ∈ blk v, w.heap.size ≤ k := by
  obtain ⟨hok, g1, g2, -⟩ := h
  obtain ⟨-, -, -, -, o5, o6, -, -⟩ := hok
  obtain ⟨ji, hj, hy0, hy1, hy2⟩ := info_parts Tryd.info_int
  obtain ⟨sa, sc, rfl⟩ := g2.form
  have c5 : w.cell? ⟨p, 5, none⟩ = some (.slice sa X.slots.length sc) := cell_at g1 5
  have H2 := Lib.hid g2
  have hds : ∀ k, (dirtyL (X.slots.take k)).length ≤ k := fun k => by
    unfold dirtyL
    rw [List.length_map]
    refine Nat.le_trans (List.length_filter_le _ _) ?_
    rw [List.length_take]; omega
  replace hds := Lib.hid hds
  clear g1 g2
  obtain ⟨n, hn⟩ : ∃ n, X.slots.length = n := ⟨_, rfl⟩
  rw [hn] at c5 H2 o6
  replace hn := Lib.hid hn
  go_enter Tryd.func23, Tryd.ntmps23
  go_wp2_with fail
  go_loopw [13, 3] (fun x y wr => ∃ (k : Nat), k ≤ n ∧ x = .int .i64 k ∧ Hid (OwnS wr 3 1 y (dirtyL (X.slots.take k)).length ((dirtyL (X.slots.take k)).map (Value.int .i64))) ∧ Hid (Below w.heap.size w wr) ∧ Hid (∀ q ∈ blk y, w.heap.size ≤ q)) (fun x _ _ => n - (intOf x).toNat)
  case atStart => exact ⟨0, by omega, rfl, OwnS.nil _ _ _, bR, by simp [Hid, blk, Value.ownBlock]⟩
  case round =>
    obtain ⟨k, hk, rfl, HO, HB, HBk⟩ := hrel
    obtain ⟨ya, yc, hy⟩ := HO.out.form
    subst hy
    by_cases hkn : k < n
    · have hkI : (k : Int) < n := by omega
      have hk0 : (0 : Int) ≤ k := by omega
      obtain ⟨g, rfl⟩ := H2.out.addr (by omega)
      obtain ⟨s, hs⟩ : ∃ s, X.slots[k]? = some s := ⟨_, List.getElem?_eq_getElem (by rw [hn.out]; omega)⟩
      have HR := Lib.hid (slot_range (H2.out.keep (Keeps.of_below (fun _ => False) HB.out) (fun _ _ h => h)) k s hs)
      have hCl : Hid ((Tryd.prog.info? 92).map (·.size) = some (slC s).length) := by show _ = _; kernel_rfl
      have hCs : Hid ((Tryd.prog.info? 92).map (·.size) = some (slC s).toArray.size) := by show _ = _; kernel_rfl
      have hone : Hid (∀ v ∈ (slC s).toArray.toList, v.oneCell' = true) := fun v hv => slC_cells s v (by simpa using hv)
      have hsz : Hid ((slC { slBlank with id := 0 }).toArray.size = (slC s).toArray.size) := rfl
      have HN : Hid ((wr.alloc (.cells (slC { slBlank with id := 0 }).toArray 92)).heap[wr.heap.size]? = some (.cells (slC { slBlank with id := 0 }).toArray 92 (0, 0))) := hN rfl
      have htk : X.slots.take (k + 1) = X.slots.take k ++ [s] := by rw [List.take_add_one, hs]; rfl
      have hc18 : (slC s).toArray[18]? = some (.bool s.dirty) := rfl
      have hc0 : Hid ((slC s).toArray[0]? = some (.int .i64 s.id)) := rfl
      obtain ⟨C, hC⟩ : ∃ C, (slC s).toArray = C := ⟨_, rfl⟩
      obtain ⟨sid, hsid⟩ : ∃ i, s.id = i := ⟨_, rfl⟩
      rw [hsid] at hc0
      rw [hC] at hCs hone hsz hc18 hc0
      have hk1 : IntKind.i64.wrap ((k : Int) + 1) = (k : Int) + 1 := by rw [IntKind.wrap_i64]; omega
      have hdk := hds.out k
      replace hC := Lib.hid hC
      replace hsid := Lib.hid hsid
      replace hs := Lib.hid hs
      replace htk := Lib.hid htk
      replace hk := Lib.hid hk
      have hlC : Hid ((slC s).toArray = C) := hC
      obtain ⟨L, hL⟩ : ∃ L, slC s = L := ⟨_, rfl⟩
      rw [hL] at HR hCl
      have hLC : L.toArray = C := by rw [← hL]; exact hC.out
      replace hL := Lib.hid hL
      cases hdr : s.dirty with
      | false =>
        rw [hdr] at hc18
        replace hdr := Lib.hid hdr
        go_wp2_with (first
          | (refine wpList_load_mid rfl 92 _ rfl g (k * 20) rfl L _ HR.out Tryd.underlying92 rfl hCl.out ?_; rw [hLC])
          | (refine wpList_store_whole rfl 92 _ _ rfl _ C rfl rfl _ _ HN.out hsz.out hCs.out hone.out ?_; intro w5 HR5 K5; (have cd := (cell_at HR5.out 18).trans hc18)))
        go_roundw
        case rel =>
          have hdt : dirtyL (X.slots.take (k + 1)) = dirtyL (X.slots.take k) := by rw [htk.out]; unfold dirtyL; rw [List.filter_append, List.map_append]; simp [hdr.out]
          have hk5 : Keeps (fun _ => False) wr w5 := ((Keeps.refl (fun _ => False) wr).alloc _).trans K5.out (fun j hj e => by omega)
          exact ⟨k + 1, by omega, rfl, by rw [hdt]; exact HO.out.keep hk5 (fun _ _ h => h), HB.out.trans (hk5.below.mono HB.out.size), HBk⟩
        case measure => simp [intOf]; omega
      | true =>
        rw [hdr] at hc18
        replace hdr := Lib.hid hdr
        have hdt : Hid (dirtyL (X.slots.take (k + 1)) = dirtyL (X.slots.take k) ++ [sid]) := by
          show _ = _
          rw [htk.out]; unfold dirtyL; rw [List.filter_append, List.map_append]; simp [hdr.out, hsid.out]
        go_wp2_with (first
          | (refine wpList_load_mid rfl 92 _ rfl g (k * 20) rfl L _ HR.out Tryd.underlying92 rfl hCl.out ?_; rw [hLC])
          | (refine wpList_store_whole rfl 92 _ _ rfl _ C rfl rfl _ _ HN.out hsz.out hCs.out hone.out ?_; intro w5 HR5 K5; (have cd := (cell_at HR5.out 18).trans hc18); (have cid := (cell_at HR5.out 0).trans hc0.out); (have HK5 : Hid (Keeps (fun _ => False) wr w5) := ((Keeps.refl (fun _ => False) wr).alloc _).trans K5.out (fun j hj e => by omega)); (have HO6 := Lib.hid (OwnS.keep (w := wr) HO.out (HK5.out.alloc (.cells #[.int .i64 sid] 3)) (fun _ _ h => h))))
          | (at_builtin; go_must (refine wpList_append_frame _ rfl _ _ 26 rfl 3 ji (.int .i64 0) 1 8 Tryd.underlying26 hj hy0 hy1 hy2 rfl (by decide) _ _ _ rfl HO6.out ⟨w5.heap.size, 0, none⟩ 1 1 [.int .i64 sid] rfl rfl (cell_one_at _ _ _ _ _ rfl) (by simp [Value.oneCell']) (by unfold maxLen; omega) (by omega) ?_); rintro v6 w6 ho6 hk6 hb6 hn6; (have HO7 := Lib.hid ho6); (have HK6 := Lib.hid hk6); (have HB6 := Lib.hid hb6); clear ho6 hk6 hb6 hn6 HO6))
        have hK6 : Keeps (· ∈ blk (.slice ya (dirtyL (X.slots.take k)).length yc)) wr w6 := ((HK5.out.alloc _).mono (fun _ _ h => h.elim)).trans HK6.out (fun _ _ h => h)
        have hB6 : ∀ q ∈ blk v6, w.heap.size ≤ q := fun q hq => (HB6.out q hq).elim (fun h => HBk.out q h) (fun h => by
          have h1 := HB.out.size
          have h2 := HK5.out.size
          have h3 : (w5.alloc (.cells #[.int .i64 sid] 3)).heap.size = w5.heap.size + 1 := by simp
          rw [h3] at h
          omega)
        have hB7 : Below w.heap.size w w6 := HB.out.trans (hK6.belowB HB.out.size HBk.out)
        replace hK6 := Lib.hid hK6
        replace hB6 := Lib.hid hB6
        replace hB7 := Lib.hid hB7
        go_roundw
        case rel =>
          refine ⟨k + 1, by omega, rfl, ?_, hB7.out, hB6.out⟩
          rw [hdt.out, List.length_append, List.map_append]
          exact HO7.out
        case measure => simp [intOf]; omega
    · obtain rfl : k = n := by omega
      have htk : X.slots.take k = X.slots := List.take_of_length_le (by rw [hn.out]; omega)
      rw [htk] at HO HBk
      have hd2 := hds.out k
      rw [htk] at hd2 ⊢
      have HS := Lib.hid (sort_own HO.out (by omega))
      replace htk := Lib.hid htk
      go_wp2_with fail
      refine (HS.out).mono ?_
      rintro e w5 ⟨rfl, ho5, hk5⟩
      have HO5 := Lib.hid ho5
      have HB5 : Hid (Below w.heap.size w w5) := HB.out.trans (hk5.belowB HB.out.size HBk.out)
      clear ho5 hk5 HS
      go_wp2_with fail
      go_ret
      exact ⟨_, rfl, HO5.out, HB5.out, HBk.out⟩
end Go.Proofs.YtdkilpjebmhkkaaDoor
