import Derived.Test.YtblakognnfilaaaDoorRcB
import Derived.Test.YtblakognnfilaaaDoorPgArg
set_option linter.unusedSimpArgs false
set_option linter.unusedVariables false
namespace Go.Proofs.YtblakognnfilaaaDoor
open Go.RowKit

/-! ### a record that is handed in -/
def RcIs (w : World) (v : Value) (R : Rc) : Prop := ∃ iv lv, v = .agg (rcC R iv lv) ∧ RcSl w R iv lv
theorem flatRc : flat Tryd.prog 6 29 = some [.i .i64, .i .i64, .i .i64, .i .i64, .i .i64, .i .i64, .i .i64, .i .i64, .s, .i .i64, .s, .sl 26, .sl 27, .i .i64] := by kernel_rfl
theorem flatIm : flat Tryd.prog 6 62 = some [.i .i64, .i .i64, .i .i64, .i .i64, .i .i64, .i .i64, .s, .i .i64, .s, .i .i64, .s, .i .i64, .s, .i .i64, .s, .i .i64, .s] := by kernel_rfl
theorem flatLv : flat Tryd.prog 6 65 = some [.i .i64, .i .i64, .i .i64] := by kernel_rfl
theorem im_of {H : Type} {enc : TypeId × Value → H} {W : World} {sp : Nat → Bool} {held : Bool} {x : List Value} (h : ∃ fuel y, DataW.trod enc Tryd.prog W 0 sp held fuel 62 x = some y) : ∃ b : Int × Pg, x = imL b ∧ ∀ i, i < 6 → (b.2.dt i).size ≤ maxLen := by
  obtain ⟨fuel, y, hy⟩ := h
  have hf := fa_flat (enc := enc) (P := Tryd.prog) (W := W) (sp := sp) (held := held) 6 _ _ flatIm fuel x y hy
  obtain ⟨_, ra, rfl, ⟨a, rfl, _⟩, fa⟩ := fb1 hf
  obtain ⟨_, r0, rfl, ⟨n0, rfl, z0⟩, f0⟩ := fb1 fa
  obtain ⟨_, r1, rfl, ⟨n1, rfl, z1⟩, f1⟩ := fb1 f0
  obtain ⟨_, r2, rfl, ⟨n2, rfl, z2⟩, f2⟩ := fb1 f1
  obtain ⟨_, r3, rfl, ⟨n3, rfl, z3⟩, f3⟩ := fb1 f2
  obtain ⟨_, _, rfl, ⟨n4, rfl, z4⟩, f4⟩ := fb1 f3
  obtain ⟨_, _, rfl, ⟨n5, rfl, z5⟩, f5⟩ := fb1 f4
  obtain ⟨_, _, rfl, ⟨n6, rfl, z6⟩, f6⟩ := fb1 f5
  obtain ⟨_, _, rfl, ⟨n7, rfl, z7⟩, f7⟩ := fb1 f6
  obtain ⟨_, _, rfl, ⟨n8, rfl, z8⟩, f8⟩ := fb1 f7
  obtain ⟨_, _, rfl, ⟨n9, rfl, z9⟩, f9⟩ := fb1 f8
  obtain ⟨_, _, rfl, ⟨n10, rfl, z10⟩, f10⟩ := fb1 f9
  obtain ⟨_, _, rfl, ⟨n11, rfl, z11⟩, f11⟩ := fb1 f10
  obtain ⟨_, _, rfl, ⟨n12, rfl, z12⟩, f12⟩ := fb1 f11
  obtain ⟨_, _, rfl, ⟨n13, rfl, z13⟩, f13⟩ := fb1 f12
  obtain ⟨_, _, rfl, ⟨n14, rfl, z14⟩, f14⟩ := fb1 f13
  obtain ⟨_, _, rfl, ⟨n15, rfl, z15⟩, f15⟩ := fb1 f14
  obtain rfl := fb0 f15
  refine ⟨(a, ⟨n0, n1, n2, n3, fun i => match i with | 0 => n4 | 1 => n6 | 2 => n8 | 3 => n10 | 4 => n12 | _ => n14, fun i => match i with | 0 => n5 | 1 => n7 | 2 => n9 | 3 => n11 | 4 => n13 | _ => n15⟩), rfl, ?_⟩
  intro i _
  dsimp only
  split <;> assumption
theorem lv_of {H : Type} {enc : TypeId × Value → H} {W : World} {sp : Nat → Bool} {held : Bool} {x : List Value} (h : ∃ fuel y, DataW.trod enc Tryd.prog W 0 sp held fuel 65 x = some y) : ∃ b : Int × Int × Int, x = lvL b ∧ True := by
  obtain ⟨fuel, y, hy⟩ := h
  have hf := fa_flat (enc := enc) (P := Tryd.prog) (W := W) (sp := sp) (held := held) 6 _ _ flatLv fuel x y hy
  obtain ⟨_, ra, rfl, ⟨n0, rfl, z0⟩, f0⟩ := fb1 hf
  obtain ⟨_, rb, rfl, ⟨n1, rfl, z1⟩, f1⟩ := fb1 f0
  obtain ⟨_, rc, rfl, ⟨n2, rfl, z2⟩, f2⟩ := fb1 f1
  obtain rfl := fb0 f2
  exact ⟨(n0, n1, n2), rfl, trivial⟩
set_option maxRecDepth 100000 in
theorem rec_of {H : Type} {enc : TypeId × Value → H} {W : World} {base : Nat} {v : Value} {d : DataW H} {p : List MemPlace} (hok : Value.okWide Tryd.prog W .any base 29 v)
    (h : DataW.Trod enc Tryd.prog W 0 (fun _ => true) true 29 v d p) : ∃ R, RcIs W v R := by
  obtain ⟨cs, rfl, hf⟩ := agg_of 6 flatRc (by rw [Tryd.underlying29]) hok h
  obtain ⟨_, r0, e0, ⟨n0, rfl, z0⟩, f0⟩ := fb1 hf
  obtain ⟨_, r1, rfl, ⟨n1, rfl, z1⟩, f1⟩ := fb1 f0
  obtain ⟨_, r2, rfl, ⟨n2, rfl, z2⟩, f2⟩ := fb1 f1
  obtain ⟨_, r3, rfl, ⟨n3, rfl, z3⟩, f3⟩ := fb1 f2
  obtain ⟨_, r4, rfl, ⟨n4, rfl, z4⟩, f4⟩ := fb1 f3
  obtain ⟨_, r5, rfl, ⟨n5, rfl, z5⟩, f5⟩ := fb1 f4
  obtain ⟨_, r6, rfl, ⟨n6, rfl, z6⟩, f6⟩ := fb1 f5
  obtain ⟨_, r7, rfl, ⟨n7, rfl, z7⟩, f7⟩ := fb1 f6
  obtain ⟨_, r8, rfl, ⟨n8, rfl, z8⟩, f8⟩ := fb1 f7
  obtain ⟨_, r9, rfl, ⟨n9, rfl, z9⟩, f9⟩ := fb1 f8
  obtain ⟨_, r10, rfl, ⟨n10, rfl, z10⟩, f10⟩ := fb1 f9
  obtain ⟨iv, r11, rfl, ⟨hiv, di, pi, hti⟩, f11⟩ := fb1 f10
  obtain ⟨lv, r12, rfl, ⟨hlv, dl, pl, htl⟩, f12⟩ := fb1 f11
  obtain ⟨_, r13, rfl, ⟨n13, rfl, z13⟩, f13⟩ := fb1 f12
  obtain rfl := fb0 f13
  obtain ⟨xs, hxs, hx⟩ := Sl_of (n := 17) Tryd.underlying26 (by kernel_rfl) (by decide) hiv hti
  obtain ⟨ys, hys, hy⟩ := Sl_of (n := 3) Tryd.underlying27 (by kernel_rfl) (by decide) hlv htl
  obtain ⟨ims, rfl, himz⟩ := list_of (fun x hm => im_of (hx x hm).2)
  obtain ⟨lvs, rfl, -⟩ := list_of (fun x hm => lv_of (hy x hm).2)
  refine ⟨⟨n0, n1, n2, n3, n4, n5, n6, n7, n8, n9, n10, n13, ims, lvs⟩, iv, lv, ?_, hxs, hys, z8, z10, himz⟩
  congr 1
  rw [← Array.toList_inj, e0]
  rfl
end Go.Proofs.YtblakognnfilaaaDoor
