import Derived.Test.YtblakognnfilaaaDoorPg
import Derived.Test.YtblakognnfilaaaDoorLibF
set_option linter.unusedSimpArgs false
set_option linter.unusedVariables false
namespace Go.Proofs.YtblakognnfilaaaDoor
open Go.RowKit

/-! ### a page that is handed in -/
theorem fb1 {H : Type} {enc : TypeId × Value → H} {P : Program} {W : World} {sp : Nat → Bool} {held : Bool} {k : Kd} {ks : List Kd} {cs : List Value} (h : Fa enc P W sp held (k :: ks) cs) : ∃ c r, cs = c :: r ∧ KdOk enc P W sp held k c ∧ Fa enc P W sp held ks r := by
  match cs, h with
  | c :: r, h => exact ⟨c, r, rfl, h.1, h.2⟩
theorem fb0 {H : Type} {enc : TypeId × Value → H} {P : Program} {W : World} {sp : Nat → Bool} {held : Bool} {cs : List Value} (h : Fa enc P W sp held [] cs) : cs = [] := by
  match cs, h with
  | [], _ => rfl
def PgIs (v : Value) (P : Pg) : Prop := v = pgV P ∧ ∀ i, (P.dt i).size ≤ maxLen
theorem flatPg : flat Tryd.prog 6 60 = some [.i .i64, .i .i64, .i .i64, .i .i64, .i .i64, .s, .i .i64, .s, .i .i64, .s, .i .i64, .s, .i .i64, .s, .i .i64, .s] := by kernel_rfl
set_option maxRecDepth 100000 in
theorem page_of {H : Type} {enc : TypeId × Value → H} {W : World} {base : Nat} {v : Value} {d : DataW H} {p : List MemPlace} (hok : Value.okWide Tryd.prog W .any base 60 v)
    (h : DataW.Trod enc Tryd.prog W 0 (fun _ => true) true 60 v d p) : ∃ P, PgIs v P := by
  obtain ⟨cs, rfl, hf⟩ := agg_of 6 flatPg (by rw [Tryd.underlying60]) hok h
  obtain ⟨_, r0, e0, ⟨n0, rfl, z0⟩, f0⟩ := fb1 hf
  obtain ⟨_, r1, rfl, ⟨n1, rfl, z1⟩, f1⟩ := fb1 f0
  obtain ⟨_, r2, rfl, ⟨n2, rfl, z2⟩, f2⟩ := fb1 f1
  obtain ⟨_, r3, rfl, ⟨n3, rfl, z3⟩, f3⟩ := fb1 f2
  obtain ⟨_, r4, rfl, ⟨n4, rfl, z4⟩, f4⟩ := fb1 f3
  obtain ⟨_, r5, rfl, ⟨n5, rfl, z5⟩, f5⟩ := fb1 f4
  obtain ⟨_, r6, rfl, ⟨n6, rfl, z6⟩, f6⟩ := fb1 f5
  obtain ⟨_, r7, rfl, ⟨n7, rfl, z7⟩, f7⟩ := fb1 f6
  obtain ⟨_, r8, rfl, ⟨n8, rfl, z8⟩, f8⟩ := fb1 f7
  obtain ⟨_, r9, rfl, ⟨n9, rfl, z9⟩, f9⟩ := fb1 f8
  obtain ⟨_, r10, rfl, ⟨n10, rfl, z10⟩, f10⟩ := fb1 f9
  obtain ⟨_, r11, rfl, ⟨n11, rfl, z11⟩, f11⟩ := fb1 f10
  obtain ⟨_, r12, rfl, ⟨n12, rfl, z12⟩, f12⟩ := fb1 f11
  obtain ⟨_, r13, rfl, ⟨n13, rfl, z13⟩, f13⟩ := fb1 f12
  obtain ⟨_, r14, rfl, ⟨n14, rfl, z14⟩, f14⟩ := fb1 f13
  obtain ⟨_, r15, rfl, ⟨n15, rfl, z15⟩, f15⟩ := fb1 f14
  obtain rfl := fb0 f15
  refine ⟨⟨n0, n1, n2, n3, fun i => match i with | 0 => n4 | 1 => n6 | 2 => n8 | 3 => n10 | 4 => n12 | _ => n14, fun i => match i with | 0 => n5 | 1 => n7 | 2 => n9 | 3 => n11 | 4 => n13 | _ => n15⟩, ?_, ?_⟩
  · unfold pgV pgC
    congr 1
    rw [← Array.toList_inj, e0]
    rfl
  · intro i
    dsimp only
    split <;> assumption

def CellIs (v : Value) (c : Int × ByteArray) : Prop := v = .agg #[.int .i64 c.1, .string c.2] ∧ c.2.size ≤ maxLen
theorem flatCell : flat Tryd.prog 4 23 = some [.i .i64, .s] := by kernel_rfl
set_option maxRecDepth 100000 in
theorem cell_of {H : Type} {enc : TypeId × Value → H} {W : World} {base : Nat} {v : Value} {d : DataW H} {p : List MemPlace} (hok : Value.okWide Tryd.prog W .any base 23 v)
    (h : DataW.Trod enc Tryd.prog W 0 (fun _ => true) true 23 v d p) : ∃ c, CellIs v c := by
  obtain ⟨cs, rfl, hf⟩ := agg_of 4 flatCell (by rw [Tryd.underlying23]) hok h
  obtain ⟨c0, r0, e0, ⟨n0, rfl, z0⟩, f1⟩ := fb1 hf
  obtain ⟨c1, r1, rfl, ⟨s1, rfl, z1⟩, f2⟩ := fb1 f1
  obtain rfl := fb0 f2
  have : cs = #[.int .i64 n0, .string s1] := by rw [← Array.toList_inj, e0]
  exact ⟨(n0, s1), by rw [this], z1⟩
end Go.Proofs.YtblakognnfilaaaDoor
