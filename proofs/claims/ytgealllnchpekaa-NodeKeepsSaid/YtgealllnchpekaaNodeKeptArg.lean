import Derived.Test.YtgealllnchpekaaNodeKw
set_option linter.unusedSimpArgs false
set_option linter.unusedVariables false
namespace Go.Proofs.Ytgealllnchpekaa
open Go.RowKit

structure KeptA where
  page : Pg
  key : ByteArray
  val : ByteArray
  i : Int
def KeptIs (v : Value) (q : KeptA) : Prop := v = .agg (kpC q.page q.key q.val q.i) ∧ (∀ j, (q.page.dt j).size ≤ maxLen) ∧ q.key.size ≤ maxLen ∧ q.val.size ≤ maxLen
theorem flatKept : flat Try.prog 8 60 = some [.i .i64, .i .i64, .i .i64, .i .i64, .i .i64, .s, .i .i64, .s, .i .i64, .s, .i .i64, .s, .i .i64, .s, .i .i64, .s, .s, .s, .i .i64] := by kernel_rfl
theorem kept_of {H : Type} {enc : TypeId × Value → H} {W : World} {base : Nat} {v : Value} {d : DataW H} {p : List MemPlace} (hok : Value.okWide Try.prog W .any base 60 v)
    (h : DataW.Trod enc Try.prog W 0 (fun _ => true) true 60 v d p) : ∃ q, KeptIs v q := by
  obtain ⟨cs, rfl, hf⟩ := agg_of 8 flatKept (by rw [Try.underlying60]) hok h
  obtain ⟨_, r0, e0, ⟨n0, rfl, z0⟩, f0⟩ := fb1 hf
  obtain ⟨_, r1, rfl, ⟨n1, rfl, z1⟩, f1⟩ := fb1 f0
  obtain ⟨_, r2, rfl, ⟨n2, rfl, z2⟩, f2⟩ := fb1 f1
  obtain ⟨_, r3, rfl, ⟨n3, rfl, z3⟩, f3⟩ := fb1 f2
  obtain ⟨_, r4, rfl, ⟨n4, rfl, z4⟩, f4⟩ := fb1 f3
  obtain ⟨_, r5, rfl, ⟨n5, rfl, z5⟩, f5⟩ := fb1 f4
  obtain ⟨_, r6, rfl, ⟨n6, rfl, z6⟩, f6⟩ := fb1 f5
  obtain ⟨_, r7, rfl, ⟨n7, rfl, z7⟩, f7⟩ := fb1 f6
  obtain ⟨_, r8, rfl, ⟨n8, rfl, z8⟩, f8⟩ := fb1 f7
  obtain ⟨_, r9, rfl, ⟨n9, rfl, z9⟩, f9⟩ := fb1 f8
  obtain ⟨_, r10, rfl, ⟨n10, rfl, z10⟩, f10⟩ := fb1 f9
  obtain ⟨_, r11, rfl, ⟨n11, rfl, z11⟩, f11⟩ := fb1 f10
  obtain ⟨_, r12, rfl, ⟨n12, rfl, z12⟩, f12⟩ := fb1 f11
  obtain ⟨_, r13, rfl, ⟨n13, rfl, z13⟩, f13⟩ := fb1 f12
  obtain ⟨_, r14, rfl, ⟨n14, rfl, z14⟩, f14⟩ := fb1 f13
  obtain ⟨_, r15, rfl, ⟨n15, rfl, z15⟩, f15⟩ := fb1 f14
  obtain ⟨_, r16, rfl, ⟨n16, rfl, z16⟩, f16⟩ := fb1 f15
  obtain ⟨_, r17, rfl, ⟨n17, rfl, z17⟩, f17⟩ := fb1 f16
  obtain ⟨_, r18, rfl, ⟨n18, rfl, z18⟩, f18⟩ := fb1 f17
  obtain rfl := fb0 f18
  refine ⟨⟨⟨n0, n1, n2, n3, fun i => match i with | 0 => n4 | 1 => n6 | 2 => n8 | 3 => n10 | 4 => n12 | _ => n14, fun i => match i with | 0 => n5 | 1 => n7 | 2 => n9 | 3 => n11 | 4 => n13 | _ => n15⟩, n16, n17, n18⟩, ?_, ?_, z16, z17⟩
  · congr 1
    rw [← Array.toList_inj, e0]
    rfl
  · intro i
    dsimp only
    split <;> assumption
theorem nodeKeeps_walk (v : Value) (q : KeptA) (w : World) (h : KeptIs v q) :
    Calls Try.prog 8 #[v] w fun e w' => e = .returned (.bool true) ∧ Below w.heap.size w w' := by
  obtain ⟨rfl, h1, h2, h3⟩ := h
  exact nodeKeeps_run q.page q.key q.val q.i h1 h2 h3 w
end Go.Proofs.Ytgealllnchpekaa
