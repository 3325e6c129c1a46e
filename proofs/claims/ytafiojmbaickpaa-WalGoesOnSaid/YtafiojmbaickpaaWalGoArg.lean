import Derived.Test.YtafiojmbaickpaaWalW
set_option linter.unusedSimpArgs false
set_option linter.unusedVariables false
namespace Go.Proofs.Ytafiojmbaickpaa
open Go.RowKit

theorem flatGo : flat Try.prog 3 53 = some [.sl 22, .sl 22, .i .i64, .sl 38, .sl 38] := by kernel_rfl
set_option maxRecDepth 100000 in
theorem goneOn_of {H : Type} {enc : TypeId × Value → H} {W : World} {base : Nat} {v : Value} {d : DataW H} {p : List MemPlace} (hok : Value.okWide Try.prog W .any base 53 v)
    (h : DataW.Trod enc Try.prog W 0 (fun _ => true) true 53 v d p) : ∃ x, GoAt W v x := by
  obtain ⟨cs, rfl, hfa⟩ := agg_of 3 flatGo (by rw [Try.underlying53]) hok h
  obtain ⟨c0, r0, e0, ⟨f0, d0, p0, t0⟩, g1⟩ := fa1 hfa
  obtain ⟨c1, r1, rfl, ⟨f1, d1, p1, t1⟩, g2⟩ := fa1 g1
  obtain ⟨c2, r2, rfl, ⟨n2, rfl, w2⟩, g3⟩ := fa1 g2
  obtain ⟨c3, r3, rfl, ⟨f3, d3, p3, t3⟩, g4⟩ := fa1 g3
  obtain ⟨c5, r5, rfl, ⟨f5, d5, p5, t5⟩, g6⟩ := fa1 g4
  obtain rfl := fa0 g6
  have ec : cs = #[c0, c1, .int .i64 n2, c3, c5] := by rw [← Array.toList_inj, e0]
  subst ec
  obtain ⟨ss, S0, -⟩ := strs_of Try.underlying22 Try.underlying9 (by kernel_rfl) f0 t0
  obtain ⟨tt, S1, -⟩ := strs_of Try.underlying22 Try.underlying9 (by kernel_rfl) f1 t1
  obtain ⟨ks, S3⟩ := bools_of_trod f3 t3
  obtain ⟨kt, S5⟩ := bools_of_trod f5 t5
  exact ⟨⟨c0, ss, c1, tt, n2, c3, ks, c5, kt⟩, rfl, S0, S1, S3, S5, bounds_i64 w2⟩
end Go.Proofs.Ytafiojmbaickpaa
