import Derived.Test.YtgeoblejfkoldaaLawH
import Derived.Test.YtgeoblejfkoldaaLibF
set_option linter.unusedSimpArgs false
set_option linter.unusedVariables false
namespace Go.Proofs.Ytgeoblejfkoldaa
open Go.RowKit
theorem fa1 {H : Type} {enc : TypeId × Value → H} {P : Program} {W : World} {sp : Nat → Bool} {held : Bool} {k : Kd} {ks : List Kd} {cs : List Value} (h : Fa enc P W sp held (k :: ks) cs) : ∃ c r, cs = c :: r ∧ KdOk enc P W sp held k c ∧ Fa enc P W sp held ks r := by
  match cs, h with
  | c :: r, h => exact ⟨c, r, rfl, h.1, h.2⟩
theorem fa0 {H : Type} {enc : TypeId × Value → H} {P : Program} {W : World} {sp : Nat → Bool} {held : Bool} {cs : List Value} (h : Fa enc P W sp held [] cs) : cs = [] := by
  match cs, h with
  | [], _ => rfl
theorem flat4 : flat Try.prog 3 23 = some [.s, .s, .s, .s] := by kernel_rfl
theorem arr4_of {H : Type} {enc : TypeId × Value → H} {W : World} {base : Nat} {v : Value} {d : DataW H} {p : List MemPlace} (hok : Value.okWide Try.prog W .any base 23 v)
    (h : DataW.Trod enc Try.prog W 0 (fun _ => true) true 23 v d p) : ∃ q, Arr4 v q := by
  obtain ⟨cs, rfl, hf⟩ := agg_of 3 flat4 (by rw [Try.underlying23]) hok h
  obtain ⟨c0, r0, e0, ⟨s0, rfl, z0⟩, f1⟩ := fa1 hf
  obtain ⟨c1, r1, rfl, ⟨s1, rfl, z1⟩, f2⟩ := fa1 f1
  obtain ⟨c2, r2, rfl, ⟨s2, rfl, z2⟩, f3⟩ := fa1 f2
  obtain ⟨c3, r3, rfl, ⟨s3, rfl, z3⟩, f4⟩ := fa1 f3
  obtain rfl := fa0 f4
  have : cs = #[.string s0, .string s1, .string s2, .string s3] := by rw [← Array.toList_inj, e0]
  exact ⟨(s0, s1, s2, s3), by rw [this], z0, z1, z2, z3⟩
end Go.Proofs.Ytgeoblejfkoldaa
