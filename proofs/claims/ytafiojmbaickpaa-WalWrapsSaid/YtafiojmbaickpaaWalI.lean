import Derived.Test.YtafiojmbaickpaaWalH
import Derived.Maps.OwnSet
import Derived.Maps.StringElems
set_option linter.unusedSimpArgs false
set_option linter.unusedVariables false
namespace Go.Proofs.Ytafiojmbaickpaa
open Go.RowKit
open Go.Maps (Keyed int_keyed keyOf_int_mk)

/-- block b is a map from numbers to texts: it holds M -/
def KMap (w : World) (b n : Nat) (M : Int → Option ByteArray) : Prop := ∃ D : DataW Unit, w.ownsMap Try.prog 3 (plainElem Try.prog 9) b n D ∧ ∀ i : Int, (M i = none → Maps.has D (.int .i64 i) = false) ∧ ∀ s, M i = some s → Maps.has D (.int .i64 i) = true ∧ D.atKey (.int .i64 i) (.lit (.string [])) = .lit (.string s.data.toList)
theorem KMap.made (w : World) : KMap (w.alloc (.map #[] 0)) w.heap.size 0 (fun _ => none) :=
  ⟨.map [], World.ownsMap_made _ _ _ _, fun i => ⟨fun _ => rfl, fun s h => by cases h⟩⟩
theorem KMap.keep {S : Nat → Prop} {w w' : World} {b n : Nat} {M : Int → Option ByteArray} (h : KMap w b n M) (hk : Keeps S w w') (hb : ¬ S b) : KMap w' b n M := by
  obtain ⟨D, ⟨es, clock, h1, h2⟩, h3⟩ := h
  exact ⟨D, ⟨es, clock, hk.keep h1 hb, h2⟩, h3⟩
theorem KMap.lt {w : World} {b n : Nat} {M : Int → Option ByteArray} (h : KMap w b n M) : b < w.heap.size := by
  obtain ⟨D, h1, _⟩ := h
  exact h1.lt
set_option maxRecDepth 100000 in
theorem KMap.put {w : World} {b n : Nat} {M : Int → Option ByteArray} (h : KMap w b n M) (hn : n < maxLen) (k : Int) (hk : -9223372036854775808 ≤ k ∧ k ≤ 9223372036854775807) (s : ByteArray) (hs : s.size ≤ maxLen) :
    ∃ w', (Instr.mapUpdate 98 (.map (some b)) (.int .i64 k) (.string s)).run Try.prog w = .ok () w' ∧ KMap w' b (n + 1) (fun i => if i = k then some s else M i) ∧ Keeps (· = b) w w' := by
  obtain ⟨D, h1, h2⟩ := h
  have hkey := keyOf_int_mk (P := Try.prog) (a := k) Try.underlying3 (WalkArith.wf_i64 (by omega))
  obtain ⟨w', hr, ho, hg⟩ := h1.update (t := 98) (int_keyed Try.underlying3) Try.underlying98 hn hkey (plainElem_string Try.underlying9 hs)
  refine ⟨w', hr, ⟨_, ho, fun i => ?_⟩, (Keeps.refl _ _).grown hg (fun j hj => .inl (by simpa [eq_comm] using hj))⟩
  have hkl : WideAt.IsKeyLit (.int .i64 k) := (int_keyed Try.underlying3).key hkey
  by_cases e : i = k
  · subst e
    refine ⟨fun h => by simp at h, fun s' h => ?_⟩
    have : s' = s := by simpa using h.symm
    subst this
    exact ⟨Maps.has_put_same h1.isMap hkl _, Maps.atKey_put_same h1.isMap hkl _ _⟩
  · have hne : (Lit.int .i64 i) ≠ (Lit.int .i64 k) := fun h => e (by injection h)
    simp only [if_neg e]
    rw [Maps.has_put_other hne]
    refine ⟨(h2 i).1, fun s' h => ?_⟩
    rw [Maps.atKey_put_other hne]
    exact (h2 i).2 s' h
set_option maxRecDepth 100000 in
theorem KMap.get {w : World} {b n : Nat} {M : Int → Option ByteArray} (h : KMap w b n M) (k : Int) (hk : -9223372036854775808 ≤ k ∧ k ≤ 9223372036854775807) :
    ∃ v : ByteArray, (Instr.lookup 98 (.map (some b)) (.int .i64 k) true).run Try.prog w = .ok (.tuple #[.string v, .bool (M k).isSome]) w ∧ ∀ s, M k = some s → v = s := by
  obtain ⟨D, h1, h2⟩ := h
  have hkey := keyOf_int_mk (P := Try.prog) (a := k) Try.underlying3 (WalkArith.wf_i64 (by omega))
  have hz : (zeroValue 9).run Try.prog w = .ok (.string ByteArray.empty) w := by kernel_rfl
  obtain ⟨v, ps, hr, hv⟩ := h1.look_ok (t := 98) (int_keyed Try.underlying3) Try.underlying98 hz (zd := .lit (.string [])) (zp := []) (plainElem_string Try.underlying9 (s := ByteArray.empty) (by simp)) hkey
  obtain ⟨s0, rfl, e0, _⟩ := plainElem_string_inv Try.underlying9 hv
  have e1 : D.atKey (.int .i64 k) (.lit (.string [])) = .lit (.string s0.data.toList) := congrArg Prod.fst e0
  refine ⟨s0, ?_, fun s hs => ?_⟩
  · rw [hr]
    congr 4
    cases hm : M k with
    | none => rw [(h2 k).1 hm]; rfl
    | some s => rw [((h2 k).2 s hm).1]; rfl
  · have e2 := ((h2 k).2 s hs).2
    rw [e1] at e2
    have e3 : s0.data.toList = s.data.toList := by injection e2 with e2; injection e2
    exact ByteArray.ext (Array.toList_inj.1 e3)
end Go.Proofs.Ytafiojmbaickpaa
