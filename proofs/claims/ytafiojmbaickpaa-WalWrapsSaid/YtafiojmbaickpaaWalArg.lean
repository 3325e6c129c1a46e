import Derived.Test.YtafiojmbaickpaaWalV
import Derived.Test.YtafiojmbaickpaaLibF
set_option linter.unusedSimpArgs false
set_option linter.unusedVariables false
namespace Go.Proofs.Ytafiojmbaickpaa
open Go.RowKit

theorem bools_of_trod {H : Type} {enc : TypeId × Value → H} {W : World} {v : Value} {d : DataW H} {p : List MemPlace} (hok : ∃ a l c, v = .slice a l c)
    (h : DataW.Trod enc Try.prog W 0 (fun _ => true) true 38 v d p) : ∃ ks, BoolsAt W W.heap.size v ks := by
  obtain ⟨xs, hs, hd, hx⟩ := Sl_of2 Try.underlying38 (show Try.prog.cellsOf 4 = 1 by kernel_rfl) (by omega) hok h
  have : ∀ x ∈ xs, ∃ b : Bool, x = [Value.bool b] ∧ True := by
    intro x hxm
    obtain ⟨hl, fuel, y, hy⟩ := hx x hxm
    obtain ⟨c, rfl⟩ := len1 hl
    obtain ⟨a, e0, _⟩ := DataW.trod_bool Try.underlying4 hy
    simp at e0
    exact ⟨a, by rw [e0], trivial⟩
  obtain ⟨ks, rfl, -⟩ := list_of this
  exact ⟨ks, bools_at hs⟩
theorem fa1 {H : Type} {enc : TypeId × Value → H} {P : Program} {W : World} {sp : Nat → Bool} {held : Bool} {k : Kd} {ks : List Kd} {cs : List Value} (h : Fa enc P W sp held (k :: ks) cs) : ∃ c r, cs = c :: r ∧ KdOk enc P W sp held k c ∧ Fa enc P W sp held ks r := by
  match cs, h with
  | c :: r, h => exact ⟨c, r, rfl, h.1, h.2⟩
theorem fa0 {H : Type} {enc : TypeId × Value → H} {P : Program} {W : World} {sp : Nat → Bool} {held : Bool} {cs : List Value} (h : Fa enc P W sp held [] cs) : cs = [] := by
  match cs, h with
  | [], _ => rfl
theorem flatCr : flat Try.prog 3 40 = some [.sl 22, .sl 37, .i .i64, .sl 38, .i .i64, .sl 38] := by kernel_rfl
set_option maxRecDepth 100000 in
theorem crash_of {H : Type} {enc : TypeId × Value → H} {W : World} {base : Nat} {v : Value} {d : DataW H} {p : List MemPlace} (hok : Value.okWide Try.prog W .any base 40 v)
    (h : DataW.Trod enc Try.prog W 0 (fun _ => true) true 40 v d p) : ∃ x, CrAt W v x := by
  obtain ⟨cs, rfl, hfa⟩ := agg_of 3 flatCr (by rw [Try.underlying40]) hok h
  obtain ⟨c0, r0, e0, ⟨f0, d0, p0, t0⟩, g1⟩ := fa1 hfa
  obtain ⟨c1, r1, rfl, ⟨f1, d1, p1, t1⟩, g2⟩ := fa1 g1
  obtain ⟨c2, r2, rfl, ⟨n2, rfl, w2⟩, g3⟩ := fa1 g2
  obtain ⟨c3, r3, rfl, ⟨f3, d3, p3, t3⟩, g4⟩ := fa1 g3
  obtain ⟨c4, r4, rfl, ⟨n4, rfl, w4⟩, g5⟩ := fa1 g4
  obtain ⟨c5, r5, rfl, ⟨f5, d5, p5, t5⟩, g6⟩ := fa1 g5
  obtain rfl := fa0 g6
  have ec : cs = #[c0, c1, .int .i64 n2, c3, .int .i64 n4, c5] := by rw [← Array.toList_inj, e0]
  subst ec
  obtain ⟨ss, S0, -⟩ := strs_of Try.underlying22 Try.underlying9 (by kernel_rfl) f0 t0
  obtain ⟨ns, S1, -⟩ := ints_of Try.underlying37 Try.underlying3 (by kernel_rfl) f1 t1
  obtain ⟨ks, S3⟩ := bools_of_trod f3 t3
  obtain ⟨kt, S5⟩ := bools_of_trod f5 t5
  exact ⟨⟨c0, ss, c1, ns, n2, c3, ks, n4, c5, kt⟩, rfl, S0, S1, S3, S5, bounds_i64 w2, bounds_i64 w4⟩
end Go.Proofs.Ytafiojmbaickpaa
