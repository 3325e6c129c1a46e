import Derived.WalkKit
import Derived.ProofKit
import Derived.OpenShut
import Derived.ShutString
import Derived.ChangeOld
import Derived.Below
import Derived.JoinedCond
set_option linter.unusedSimpArgs false
set_option linter.unusedVariables false
namespace Go.Proofs.YtimomjheanfbmaaGreatDoor
open Go.ChangeShapes Go.WideShapes Go.ChangeAt Go.RowKit
open Go.ChangeMaps (open_string shut_string)

/-- all arguments read behind the call as they read ahead of it -/
theorem trodAll_stays {H : Type} {enc : TypeId × Value → H} {P : Program} (hl : laidOutB P = true) {W W' : World} (hb : Below W.heap.size W W') :
    ∀ (ts : List TypeId) (hts : ∀ t ∈ ts, P.readableRec t = true ∧ t < P.types.size) {vs : List Value} {ds : List (DataW H)} {ps : List MemPlace}
      (h : DataW.TrodAll enc P W 0 (fun _ => true) true ts vs ds ps) (hlt : ∀ x ∈ ps, x.block < W.heap.size) (sp : Nat → Bool) (hs : ∀ p ∈ ps, sp p.block = true), DataW.TrodAll enc P W' 0 sp true ts vs ds ps
  | [], _, vs, ds, ps, h, _, _, _ => by
    obtain ⟨rfl, rfl, rfl⟩ := trodAll_nil h
    exact trodAll_mk0
  | t :: ts, hts, vs, ds, ps, h, hlt, sp, hs => by
    obtain ⟨v, vs', d, ds', p, q, rfl, rfl, rfl, h0, r⟩ := trodAll_cons h
    refine trodAll_cons_mk ?_ (trodAll_stays hl hb ts (fun t ht => hts t (List.mem_cons_of_mem _ ht)) r (fun x hx => hlt x (List.mem_append.2 (.inr hx))) sp (fun x hx => hs x (List.mem_append.2 (.inr hx))))
    obtain ⟨hr, hrow⟩ := hts t (List.mem_cons_self ..)
    exact WideElems.Trod_stays hl hr hrow h0 (fun x hx => hb.same (hlt x (List.mem_append.2 (.inl hx)))) (fun x hx => hs x (List.mem_append.2 (.inl hx)))

/-- THE END OF EVERY LAW: it returned true, and of what was there nothing has turned -/
theorem law_post {H : Type} {enc : TypeId × Value → H} {P : Program} (hl : laidOutB P = true) (f : Func) (s : ChangeSpec) (hts : ∀ t ∈ f.params.toList, P.readableRec t = true ∧ t < P.types.size)
    (B : TypeId) (hB : P.underlying B = some .bool) (hft : f.resultTypes = #[B]) (hvars : s.vars = []) {W W' : World} {args : Array Value} {ds gs : List (DataW H)} {before : List MemPlace}
    (hW : DataW.Whole enc P f.params.toList s.vars false W args.toList ds gs before) (hb : Below W.heap.size W W') (h1 : (s.fn H (ds ++ gs)).results = [.lit (.bool true)]) (h2 : (s.fn H (ds ++ gs)).args = ds) (h3 : (s.fn H (ds ++ gs)).vars = []) :
    s.post enc P f false true false false W args (.bool true) W' := by
  have hW' := hW
  obtain ⟨p, q, hA, hV, rfl, hfz, hnd⟩ := hW
  rw [hvars] at hV
  obtain ⟨rfl, rfl⟩ := trodVars_none hV
  have hlt : ∀ x ∈ p, x.block < W.heap.size := fun x hx => hW'.lt x (List.mem_append.2 (.inl hx))
  refine ⟨ds, [], p ++ [], [], p, [], hW', ?_, ?_, ?_, hb.frame _, fun h => by cases h⟩
  · rw [h1, hft]
    exact trodAll_cons_mk (shut_bool hB _) trodAll_mk0
  · rw [h2]
    refine trodAll_stays hl hb _ hts hA hlt _ ?_
    intro x hx
    exact decide_eq_true (hlt x hx)
  · rw [h3, hvars]
    rfl
end Go.Proofs.YtimomjheanfbmaaGreatDoor
