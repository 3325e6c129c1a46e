import Derived.Test.YtblakognnfilaaaDoorLib
set_option linter.unusedSimpArgs false
set_option linter.unusedVariables false
namespace Go.Proofs.YtblakognnfilaaaDoor
open Go.RowKit

/-! ### the end of a chain 'a || b || ..', once it is true: all that is left is passed over in one step -/
/-- K: the slots of which it is known that they hold 'true' -/
def skipOk (n : Nat) (ops : Array Oper) : List Nat → List Oper → Option (List Nat)
  | K, [] => some K
  | K, o :: r =>
    match o.dst with
    | none => none
    | some d =>
      if d < n then
        match o.guard with
        | some (j, false) =>
          match (ops[j]?).bind (·.dst) with
          | some s => if s ∈ K then skipOk n ops (K.filter (· != d)) r else none
          | none => none
        | some (_, true) => none
        | none =>
          match o.op with
          | .move (.tmp x) => if x ∈ K then skipOk n ops (d :: K) r else none
          | .pick (.tmp x) (.const (.bool true)) _ => if x ∈ K then skipOk n ops (d :: K) r else none
          | _ => none
      else none
def Tru (K : List Nat) (T : Array Value) : Prop := ∀ k ∈ K, T[k]? = some (.bool true)
theorem Tru.put {K : List Nat} {T : Array Value} (h : Tru K T) (d : Nat) : Tru (K.filter (· != d)) (T.setIfInBounds d undef) := fun k hk => by
  simp only [List.mem_filter, bne_iff_ne] at hk
  rw [Array.getElem?_setIfInBounds_ne (fun e => hk.2 e.symm)]
  exact h k hk.1
theorem Tru.add {K : List Nat} {T : Array Value} (h : Tru K T) (d : Nat) (hd : d < T.size) : Tru (d :: K) (T.setIfInBounds d (.bool true)) := fun k hk => by
  by_cases e : d = k
  · subst e
    rw [Array.getElem?_setIfInBounds_self_of_lt hd]
  · rw [Array.getElem?_setIfInBounds_ne e]
    exact h k ((List.mem_cons.1 hk).resolve_left (fun h => e h.symm))
theorem wpList_skipOk {P : Program} {ops : Array Oper} {Q : Exit → Act → World → Prop} {D : List Deferred} {w : World} {K' : List Nat} {n : Nat} : ∀ (l : List Oper) (K : List Nat) (T : Array Value), T.size = n → Tru K T → skipOk n ops K l = some K' →
    (∀ T' : Array Value, T'.size = n → Tru K' T' → Q .normal { tmps := T', defers := D } w) → wpList P ops Q l { tmps := T, defers := D } w
  | [], K, T, hs, hT, h, hQ => by
    simp only [skipOk, Option.some.injEq] at h
    subst h
    exact hQ T hs hT
  | o :: r, K, T, hs, hT, h, hQ => by
    refine wpList_step fun W hW => ?_
    unfold skipOk at h
    split at h
    · cases h
    · rename_i d hd
      split at h
      rotate_left
      · cases h
      rename_i hdn
      rw [← hs] at hdn
      split at h
      · rename_i j hg
        split at h
        · rename_i s hj
          split at h
          · rename_i hK
            have hw : Region.wanted o (yielded ops T) = false := by
              unfold Region.wanted yielded
              simp only [hg, hj, Option.bind_some, hT s hK]
              rfl
            rw [if_neg (by rw [hw]; decide)]
            refine hW _ _ ?_
            unfold Act.put
            rw [hd]
            exact wpList_skipOk r _ _ (by simp [hs]) (hT.put d) h hQ
          · cases h
        · cases h
      · cases h
      · rename_i hg
        have hw : Region.wanted o (yielded ops T) = true := by unfold Region.wanted; simp only [hg]
        rw [if_pos (by rw [hw])]
        split at h
        · rename_i x ho
          split at h
          · rename_i hK
            unfold Oper.wp execOp
            simp only [ho, Sem.run_pure, Oper.upon_value]
            refine hW _ _ ?_
            have hx := hT x hK
            have hev : ({ tmps := T, defers := D } : Act).eval (.tmp x) = .bool true := by
              show T.getD x undef = _
              rw [Array.getD_eq_getD_getElem?, hx]; rfl
            rw [hev]
            unfold Act.put
            rw [hd]
            exact wpList_skipOk r _ _ (by simp [hs]) (hT.add d hdn) h hQ
          · cases h
        · rename_i x y ho
          split at h
          · rename_i hK
            have hx := hT x hK
            have hev : ({ tmps := T, defers := D } : Act).eval (.tmp x) = .bool true := by
              show T.getD x undef = _
              rw [Array.getD_eq_getD_getElem?, hx]; rfl
            unfold Oper.wp execOp
            simp only [ho, hev, asBool, Sem.run_bind, Sem.run_pure, Result.andThen_ok, if_true, Oper.upon_value]
            refine hW _ _ ?_
            unfold Act.put
            rw [hd]
            exact wpList_skipOk r _ _ (by simp [hs]) (hT.add d hdn) h hQ
          · cases h
        · cases h
/-- one slot is known behind it; the others are named -/
theorem wpList_skip {P : Program} {ops : Array Oper} {Q : Exit → Act → World → Prop} {D : List Deferred} {w : World} {l : List Oper} {T : Array Value} (s p n : Nat) (hs : T.size = n) (hT : T[s]? = some (.bool true))
    (h : (skipOk n ops [s] l).map (fun K => decide (p ∈ K)) = some true) (hQ : ∀ V : Nat → Value, V p = .bool true → wpList P ops Q [] { tmps := ((List.range n).map V).toArray, defers := D } w) : wpList P ops Q l { tmps := T, defers := D } w := by
  cases e : skipOk n ops [s] l with
  | none => rw [e] at h; cases h
  | some K =>
    rw [e] at h
    simp only [Option.map_some, Option.some.injEq, decide_eq_true_eq] at h
    refine wpList_skipOk l [s] T hs (fun k hk => by rw [List.mem_singleton.1 hk]; exact hT) e (fun T' h1 h2 => ?_)
    have hT : T' = ((List.range n).map fun j => T'.getD j undef).toArray := by
      rw [← h1]
      apply Array.ext
      · simp
      · intro i h1 h2
        simp [Array.getD, h1]
    rw [hT]
    refine hQ (fun j => T'.getD j undef) ?_
    show T'.getD p undef = _
    rw [Array.getD_eq_getD_getElem?, h2 p h]; rfl
/-- ahead of it stands the first 'pick' that lets a 'true' in -/
theorem wpList_skip2 {P : Program} {ops : Array Oper} {Q : Exit → Act → World → Prop} {D : List Deferred} {w : World} {o : Oper} {r : List Oper} {T : Array Value} {x : Operand} (c y d p n : Nat) (ho : o.op = .pick (.tmp c) x (.tmp y)) (hg : o.guard = none) (hd : o.dst = some d) (hdn : decide (d < n) = true)
    (hs : T.size = n) (hc : T[c]? = some (.bool false)) (hy : T[y]? = some (.bool true))
    (h : (skipOk n ops [d] r).map (fun K => decide (p ∈ K)) = some true) (hQ : ∀ V : Nat → Value, V p = .bool true → wpList P ops Q [] { tmps := ((List.range n).map V).toArray, defers := D } w) : wpList P ops Q (o :: r) { tmps := T, defers := D } w := by
  refine wpList_plain hg fun W hW => ?_
  have h1 : ({ tmps := T, defers := D } : Act).eval (.tmp c) = .bool false := by
    show T.getD c undef = _
    rw [Array.getD_eq_getD_getElem?, hc]; rfl
  have h2 : ({ tmps := T, defers := D } : Act).eval (.tmp y) = .bool true := by
    show T.getD y undef = _
    rw [Array.getD_eq_getD_getElem?, hy]; rfl
  unfold Oper.wp execOp
  simp only [ho, h1, h2, asBool, Sem.run_bind, Sem.run_pure, Result.andThen_ok, if_false, Bool.false_eq_true, Oper.upon_value]
  refine hW _ _ ?_
  unfold Act.put
  rw [hd]
  have hdn' : d < n := of_decide_eq_true hdn
  refine wpList_skip d p n (by simpa using hs) ?_ h hQ
  exact Array.getElem?_setIfInBounds_self_of_lt (show d < T.size by omega)
end Go.Proofs.YtblakognnfilaaaDoor
