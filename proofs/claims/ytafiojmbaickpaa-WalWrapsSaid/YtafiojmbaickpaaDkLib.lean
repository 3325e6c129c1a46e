import Derived.Test.YtafiojmbaickpaaDkAwake
import Derived.WideShapes
set_option linter.unusedSimpArgs false
set_option linter.unusedVariables false
namespace Go.Proofs.Ytafiojmbaickpaa
open Go.RowKit

theorem bools_at {w : World} {v : Value} {ks : List Bool} (h : Sl w v 1 (ks.map fun b => [Value.bool b])) : BoolsAt w w.heap.size v ks := by
  obtain ⟨a, c, hv, hl, hx⟩ := h
  rw [List.length_map] at hv hl hx
  refine ⟨a, c, hv, hl, fun hne => ?_⟩
  obtain ⟨b, off, e, hb, hc⟩ := hx (by simpa using hne)
  refine ⟨b, off, e, hb, fun i hi => ?_⟩
  have := hc i hi 0 (by omega)
  rw [show off + i * 1 + 0 = off + i from by omega] at this
  rw [this]
  simp [List.getD_eq_getElem?_getD, List.getElem?_eq_getElem hi]
set_option maxRecDepth 100000 in
theorem bools_of {H : Type} {enc : TypeId × Value → H} {W : World} {base : Nat} {v : Value} {d : DataW H} {p : List MemPlace} (hok : Value.okWide Try.prog W .any base 38 v)
    (h : DataW.Trod enc Try.prog W 0 (fun _ => true) true 38 v d p) : ∃ ks, BoolsAt W W.heap.size v ks := by
  obtain ⟨xs, hs, hd, hx⟩ := Sl_of2 Try.underlying38 (show Try.prog.cellsOf 4 = 1 by kernel_rfl) (by omega) (Go.WideShapes.okWide_slice Try.underlying38 hok) h
  have : ∀ x ∈ xs, ∃ b : Bool, x = [Value.bool b] ∧ True := by
    intro x hxm
    obtain ⟨hl, fuel, y, hy⟩ := hx x hxm
    obtain ⟨c, rfl⟩ := len1 hl
    obtain ⟨a, e0, _⟩ := DataW.trod_bool Try.underlying4 hy
    simp at e0
    exact ⟨a, by rw [e0], trivial⟩
  obtain ⟨ks, rfl, -⟩ := list_of this
  exact ⟨ks, bools_at hs⟩
end Go.Proofs.Ytafiojmbaickpaa
