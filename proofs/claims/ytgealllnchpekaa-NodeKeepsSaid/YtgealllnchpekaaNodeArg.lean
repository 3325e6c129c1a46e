import Derived.Test.YtgealllnchpekaaNodeM
import Derived.Test.YtgealllnchpekaaLibF
set_option linter.unusedSimpArgs false
set_option linter.unusedVariables false
namespace Go.Proofs.Ytgealllnchpekaa
open Go.RowKit
theorem fa1 {H : Type} {enc : TypeId × Value → H} {P : Program} {W : World} {sp : Nat → Bool} {held : Bool} {k : Kd} {ks : List Kd} {cs : List Value} (h : Fa enc P W sp held (k :: ks) cs) : ∃ c r, cs = c :: r ∧ KdOk enc P W sp held k c ∧ Fa enc P W sp held ks r := by
  match cs, h with
  | c :: r, h => exact ⟨c, r, rfl, h.1, h.2⟩
theorem fa0 {H : Type} {enc : TypeId × Value → H} {P : Program} {W : World} {sp : Nat → Bool} {held : Bool} {cs : List Value} (h : Fa enc P W sp held [] cs) : cs = [] := by
  match cs, h with
  | [], _ => rfl
structure AskA where
  key : ByteArray
  val : ByteArray
  n : Int
  st : Int
  dt : ByteArray
def AskIs (v : Value) (q : AskA) : Prop := v = .agg #[.string q.key, .string q.val, .int .i64 q.n, .int .i64 q.st, .string q.dt] ∧ q.key.size ≤ maxLen ∧ q.val.size ≤ maxLen ∧ q.dt.size ≤ maxLen
theorem flatAsk : flat Try.prog 4 38 = some [.s, .s, .i .i64, .i .i64, .s] := by kernel_rfl
theorem ask_of {H : Type} {enc : TypeId × Value → H} {W : World} {base : Nat} {v : Value} {d : DataW H} {p : List MemPlace} (hok : Value.okWide Try.prog W .any base 38 v)
    (h : DataW.Trod enc Try.prog W 0 (fun _ => true) true 38 v d p) : ∃ q, AskIs v q := by
  obtain ⟨cs, rfl, hf⟩ := agg_of 4 flatAsk (by rw [Try.underlying38]) hok h
  obtain ⟨c0, r0, e0, ⟨s0, rfl, z0⟩, f1⟩ := fa1 hf
  obtain ⟨c1, r1, rfl, ⟨s1, rfl, z1⟩, f2⟩ := fa1 f1
  obtain ⟨c2, r2, rfl, ⟨n2, rfl, z2⟩, f3⟩ := fa1 f2
  obtain ⟨c3, r3, rfl, ⟨n3, rfl, z3⟩, f4⟩ := fa1 f3
  obtain ⟨c4, r4, rfl, ⟨s4, rfl, z4⟩, f5⟩ := fa1 f4
  obtain rfl := fa0 f5
  have : cs = #[.string s0, .string s1, .int .i64 n2, .int .i64 n3, .string s4] := by rw [← Array.toList_inj, e0]
  exact ⟨⟨s0, s1, n2, n3, s4⟩, by rw [this], z0, z1, z4⟩
theorem nodeCells_walk (v : Value) (q : AskA) (w : World) (h : AskIs v q) :
    Calls Try.prog 5 #[v] w fun e w' => e = .returned (.bool true) ∧ Below w.heap.size w w' := by
  obtain ⟨rfl, h1, h2, h3⟩ := h
  exact nodeCells_run q.key q.val q.n q.st q.dt h1 h2 h3 w
end Go.Proofs.Ytgealllnchpekaa
