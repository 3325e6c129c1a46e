import Derived.Test.YtgealllnchpekaaNodeChg
set_option linter.unusedSimpArgs false
set_option linter.unusedVariables false
namespace Go.Proofs.Ytgealllnchpekaa
open Go.RowKit

def CellIs (v : Value) (c : Int × ByteArray) : Prop := v = cellV c ∧ c.2.size ≤ maxLen
theorem flatCell : flat Try.prog 4 23 = some [.i .i64, .s] := by kernel_rfl
theorem cell_of {H : Type} {enc : TypeId × Value → H} {W : World} {base : Nat} {v : Value} {d : DataW H} {p : List MemPlace} (hok : Value.okWide Try.prog W .any base 23 v)
    (h : DataW.Trod enc Try.prog W 0 (fun _ => true) true 23 v d p) : ∃ c, CellIs v c := by
  obtain ⟨cs, rfl, hf⟩ := agg_of 4 flatCell (by rw [Try.underlying23]) hok h
  obtain ⟨c0, r0, e0, ⟨n0, rfl, z0⟩, f1⟩ := fb1 hf
  obtain ⟨c1, r1, rfl, ⟨s1, rfl, z1⟩, f2⟩ := fb1 f1
  obtain rfl := fb0 f2
  have : cs = #[.int .i64 n0, .string s1] := by rw [← Array.toList_inj, e0]
  exact ⟨(n0, s1), by rw [this]; rfl, z1⟩
theorem nodeChanges_walk (v : Value) (P : Pg) (v' : Value) (c : Int × ByteArray) (i : Int) (hi : True) (w : World) (h : PgIs v P) (h' : CellIs v' c) :
    Calls Try.prog 7 #[v, v', .int .i64 i] w fun e w' => e = .returned (.bool true) ∧ Below w.heap.size w w' := by
  obtain ⟨rfl, h1⟩ := h
  obtain ⟨rfl, h2⟩ := h'
  exact nodeChanges_run P c.1 c.2 i h1 h2 w
end Go.Proofs.Ytgealllnchpekaa
