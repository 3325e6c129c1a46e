import Derived.Test.YtimomjheanfbmaaGreatDoorMaa
import Derived.Test.YtimomjheanfbmaaGreatDoorMac
import Derived.Test.YtimomjheanfbmaaGreatDoorMaf
import Derived.Deep.MidRow
set_option linter.unusedSimpArgs false
set_option linter.unusedVariables false
namespace Go.Proofs.YtimomjheanfbmaaGreatDoor
open Go.RowKit

/-! ### the end of a chain 'a || b || ..', once it is true: all that is left is passed over in one step -/
/-- K: the slots of which it is known that they hold 'true' -/
def skipOk (n : Nat) (ops : Array Oper) : List Nat → List Oper → Option (List Nat)
  | K, [] => some K
  | K, o :: r =>
    match o.dst with
    | none => none
    | some d =>
      if d < n then
        match o.guard with
        | some (j, false) =>
          match (ops[j]?).bind (·.dst) with
          | some s => if s ∈ K then skipOk n ops (K.filter (· != d)) r else none
          | none => none
        | some (_, true) => none
        | none =>
          match o.op with
          | .move (.tmp x) => if x ∈ K then skipOk n ops (d :: K) r else none
          | .pick (.tmp x) (.const (.bool true)) _ => if x ∈ K then skipOk n ops (d :: K) r else none
          | _ => none
      else none
def Tru (K : List Nat) (T : Array Value) : Prop := ∀ k ∈ K, T[k]? = some (.bool true)
theorem Tru.put {K : List Nat} {T : Array Value} (h : Tru K T) (d : Nat) : Tru (K.filter (· != d)) (T.setIfInBounds d undef) := fun k hk => by
  simp only [List.mem_filter, bne_iff_ne] at hk
  rw [Array.getElem?_setIfInBounds_ne (fun e => hk.2 e.symm)]
  exact h k hk.1
theorem Tru.add {K : List Nat} {T : Array Value} (h : Tru K T) (d : Nat) (hd : d < T.size) : Tru (d :: K) (T.setIfInBounds d (.bool true)) := fun k hk => by
  by_cases e : d = k
  · subst e
    rw [Array.getElem?_setIfInBounds_self_of_lt hd]
  · rw [Array.getElem?_setIfInBounds_ne e]
    exact h k ((List.mem_cons.1 hk).resolve_left (fun h => e h.symm))
theorem wpList_skipOk {P : Program} {ops : Array Oper} {Q : Exit → Act → World → Prop} {D : List Deferred} {w : World} {K' : List Nat} {n : Nat} : ∀ (l : List Oper) (K : List Nat) (T : Array Value), T.size = n → Tru K T → skipOk n ops K l = some K' →
    (∀ T' : Array Value, T'.size = n → Tru K' T' → Q .normal { tmps := T', defers := D } w) → wpList P ops Q l { tmps := T, defers := D } w
  | [], K, T, hs, hT, h, hQ => by
    simp only [skipOk, Option.some.injEq] at h
    subst h
    exact hQ T hs hT
  | o :: r, K, T, hs, hT, h, hQ => by
    refine wpList_step fun W hW => ?_
    unfold skipOk at h
    split at h
    · cases h
    · rename_i d hd
      split at h
      rotate_left
      · cases h
      rename_i hdn
      rw [← hs] at hdn
      split at h
      · rename_i j hg
        split at h
        · rename_i s hj
          split at h
          · rename_i hK
            have hw : Region.wanted o (yielded ops T) = false := by
              unfold Region.wanted yielded
              simp only [hg, hj, Option.bind_some, hT s hK]
              rfl
            rw [if_neg (by rw [hw]; decide)]
            refine hW _ _ ?_
            unfold Act.put
            rw [hd]
            exact wpList_skipOk r _ _ (by simp [hs]) (hT.put d) h hQ
          · cases h
        · cases h
      · cases h
      · rename_i hg
        have hw : Region.wanted o (yielded ops T) = true := by unfold Region.wanted; simp only [hg]
        rw [if_pos (by rw [hw])]
        split at h
        · rename_i x ho
          split at h
          · rename_i hK
            unfold Oper.wp execOp
            simp only [ho, Sem.run_pure, Oper.upon_value]
            refine hW _ _ ?_
            have hx := hT x hK
            have hev : ({ tmps := T, defers := D } : Act).eval (.tmp x) = .bool true := by
              show T.getD x undef = _
              rw [Array.getD_eq_getD_getElem?, hx]; rfl
            rw [hev]
            unfold Act.put
            rw [hd]
            exact wpList_skipOk r _ _ (by simp [hs]) (hT.add d hdn) h hQ
          · cases h
        · rename_i x y ho
          split at h
          · rename_i hK
            have hx := hT x hK
            have hev : ({ tmps := T, defers := D } : Act).eval (.tmp x) = .bool true := by
              show T.getD x undef = _
              rw [Array.getD_eq_getD_getElem?, hx]; rfl
            unfold Oper.wp execOp
            simp only [ho, hev, asBool, Sem.run_bind, Sem.run_pure, Result.andThen_ok, if_true, Oper.upon_value]
            refine hW _ _ ?_
            unfold Act.put
            rw [hd]
            exact wpList_skipOk r _ _ (by simp [hs]) (hT.add d hdn) h hQ
          · cases h
        · cases h
/-- one slot is known behind it; the others are named -/
theorem wpList_skip {P : Program} {ops : Array Oper} {Q : Exit → Act → World → Prop} {D : List Deferred} {w : World} {l : List Oper} {T : Array Value} (s p n : Nat) (hs : T.size = n) (hT : T[s]? = some (.bool true))
    (h : (skipOk n ops [s] l).map (fun K => decide (p ∈ K)) = some true) (hQ : ∀ V : Nat → Value, V p = .bool true → wpList P ops Q [] { tmps := ((List.range n).map V).toArray, defers := D } w) : wpList P ops Q l { tmps := T, defers := D } w := by
  cases e : skipOk n ops [s] l with
  | none => rw [e] at h; cases h
  | some K =>
    rw [e] at h
    simp only [Option.map_some, Option.some.injEq, decide_eq_true_eq] at h
    refine wpList_skipOk l [s] T hs (fun k hk => by rw [List.mem_singleton.1 hk]; exact hT) e (fun T' h1 h2 => ?_)
    have hT : T' = ((List.range n).map fun j => T'.getD j undef).toArray := by
      rw [← h1]
      apply Array.ext
      · simp
      · intro i h1 h2
        simp [Array.getD, h1]
    rw [hT]
    refine hQ (fun j => T'.getD j undef) ?_
    show T'.getD p undef = _
    rw [Array.getD_eq_getD_getElem?, h2 p h]; rfl
/-- ahead of it stands the first 'pick' that lets a 'true' in -/
theorem wpList_skip2 {P : Program} {ops : Array Oper} {Q : Exit → Act → World → Prop} {D : List Deferred} {w : World} {o : Oper} {r : List Oper} {T : Array Value} {x : Operand} (c y d p n : Nat) (ho : o.op = .pick (.tmp c) x (.tmp y)) (hg : o.guard = none) (hd : o.dst = some d) (hdn : decide (d < n) = true)
    (hs : T.size = n) (hc : T[c]? = some (.bool false)) (hy : T[y]? = some (.bool true))
    (h : (skipOk n ops [d] r).map (fun K => decide (p ∈ K)) = some true) (hQ : ∀ V : Nat → Value, V p = .bool true → wpList P ops Q [] { tmps := ((List.range n).map V).toArray, defers := D } w) : wpList P ops Q (o :: r) { tmps := T, defers := D } w := by
  refine wpList_plain hg fun W hW => ?_
  have h1 : ({ tmps := T, defers := D } : Act).eval (.tmp c) = .bool false := by
    show T.getD c undef = _
    rw [Array.getD_eq_getD_getElem?, hc]; rfl
  have h2 : ({ tmps := T, defers := D } : Act).eval (.tmp y) = .bool true := by
    show T.getD y undef = _
    rw [Array.getD_eq_getD_getElem?, hy]; rfl
  unfold Oper.wp execOp
  simp only [ho, h1, h2, asBool, Sem.run_bind, Sem.run_pure, Result.andThen_ok, if_false, Bool.false_eq_true, Oper.upon_value]
  refine hW _ _ ?_
  unfold Act.put
  rw [hd]
  have hdn' : d < n := of_decide_eq_true hdn
  refine wpList_skip d p n (by simpa using hs) ?_ h hQ
  exact Array.getElem?_setIfInBounds_self_of_lt (show d < T.size by omega)
end Go.Proofs.YtimomjheanfbmaaGreatDoor

namespace Go.Proofs.YtimomjheanfbmaaGreatDoor
open Go.RowKit

/-! ### a value's cells by their kinds, whatever structs and arrays lie between -/
inductive Kd where
  | b
  | i (k : IntKind)
  | s
  | sl (t : TypeId)
def flatAll (f : TypeId → Option (List Kd)) (P : Program) : Nat → List Field → Option (List Kd)
  | _, [] => some []
  | pos, fd :: r =>
    match f fd.type, flatAll f P (pos + P.cellsOf fd.type) r with
    | some ks, some ls => if fd.offset = pos ∧ ks.length = P.cellsOf fd.type then some (ks ++ ls) else none
    | _, _ => none
def flatRep (ks : List Kd) : Nat → List Kd
  | 0 => []
  | n + 1 => ks ++ flatRep ks n
def flat (P : Program) : Nat → TypeId → Option (List Kd)
  | 0, _ => none
  | n + 1, t =>
    match P.underlying t with
    | some .bool => some [.b]
    | some (.int k) => some [.i k]
    | some .string => some [.s]
    | some (.slice _) => some [.sl t]
    | some (.struct fs) => match flatAll (flat P n) P 0 fs.toList with
      | some ks => if ks.length = P.cellsOf t then some ks else none
      | none => none
    | some (.array m e) => match flat P n e with
      | some ks => if ks.length = P.cellsOf e ∧ P.cellsOf t = m * P.cellsOf e then some (flatRep ks m) else none
      | none => none
    | _ => none
section
variable {H : Type} (enc : TypeId × Value → H) (P : Program) (W : World) (sp : Nat → Bool) (held : Bool)
def KdOk : Kd → Value → Prop
  | .b, v => ∃ x, v = .bool x
  | .i k, v => ∃ n, v = .int k n ∧ (Lit.int k n).wf = true
  | .s, v => ∃ t : ByteArray, v = .string t ∧ t.size ≤ maxLen
  | .sl t, v => (∃ a l c, v = .slice a l c) ∧ ∃ d ps, DataW.Trod enc P W 0 sp held t v d ps
def Fa : List Kd → List Value → Prop
  | [], [] => True
  | k :: ks, v :: vs => KdOk enc P W sp held k v ∧ Fa ks vs
  | _, _ => False
variable {enc P W sp held}
theorem Fa.length : ∀ {ks : List Kd} {vs : List Value}, Fa enc P W sp held ks vs → ks.length = vs.length
  | [], [], _ => rfl
  | k :: ks, v :: vs, h => by simp [Fa.length h.2]
  | [], _ :: _, h => h.elim
  | _ :: _, [], h => h.elim
theorem Fa.append : ∀ {ks : List Kd} {vs : List Value} {ks' : List Kd} {vs' : List Value}, Fa enc P W sp held ks vs → Fa enc P W sp held ks' vs' → Fa enc P W sp held (ks ++ ks') (vs ++ vs')
  | [], [], _, _, _, h' => h'
  | k :: ks, v :: vs, _, _, h, h' => ⟨h.1, Fa.append h.2 h'⟩
  | [], _ :: _, _, _, h, _ => h.elim
  | _ :: _, [], _, _, h, _ => h.elim
theorem fa_flatAll {f : TypeId → Option (List Kd)} {n : Nat}
    (ih : ∀ t ks, f t = some ks → ∀ cs y, DataW.trod enc P W 0 sp held n t cs = some y → Fa enc P W sp held ks cs) :
    ∀ (fs : List Field) (pos : Nat) (ks : List Kd), flatAll f P pos fs = some ks → ∀ cs : List Value, cs.length = pos + ks.length →
      (∀ fd ∈ fs, ∃ y, DataW.trod enc P W 0 sp held n fd.type ((cs.drop fd.offset).take (P.cellsOf fd.type)) = some y) → Fa enc P W sp held ks (cs.drop pos)
  | [], pos, ks, h, cs, hl, _ => by
    simp [flatAll] at h; subst h
    have : cs.drop pos = [] := List.drop_eq_nil_of_le (by simp at hl; omega)
    rw [this]; trivial
  | fd :: r, pos, ks, h, cs, hl, ht => by
    unfold flatAll at h
    split at h
    · rename_i k1 k2 e1 e2
      split at h
      · rename_i hc
        obtain ⟨ho, hk⟩ := hc
        simp at h; subst h
        obtain ⟨y, hy⟩ := ht fd (by simp)
        have h1 := ih _ _ e1 _ _ hy
        rw [List.length_append] at hl
        have h2 := fa_flatAll ih r (pos + P.cellsOf fd.type) k2 e2 cs (by omega) (fun g hg => ht g (by simp [hg]))
        have e : cs.drop pos = (cs.drop pos).take (P.cellsOf fd.type) ++ cs.drop (pos + P.cellsOf fd.type) := by
          rw [← List.drop_drop, List.take_append_drop]
        rw [e]
        rw [ho] at h1
        exact h1.append h2
      · cases h
    · cases h
theorem fa_flatRep {n m : Nat} {e : TypeId} {ks : List Kd} (hk : ks.length = m) :
    ∀ (c : Nat) (cs : List Value), cs.length = c * m → (∀ i, i < c → Fa enc P W sp held ks ((cs.drop (i * m)).take m)) → Fa enc P W sp held (flatRep ks c) cs
  | 0, cs, hl, _ => by
    have : cs = [] := List.eq_nil_of_length_eq_zero (by omega)
    subst this; trivial
  | c + 1, cs, hl, h => by
    have h0 := h 0 (by omega)
    rw [Nat.zero_mul, List.drop_zero] at h0
    have hr := fa_flatRep (n := n) (e := e) hk c (cs.drop m) (by rw [List.length_drop, hl, Nat.add_mul]; omega) (fun i hi => by
      have := h (i + 1) (by omega)
      rw [List.drop_drop]
      rw [show m + i * m = (i + 1) * m from by rw [Nat.add_mul]; omega]
      exact this)
    have e : cs = cs.take m ++ cs.drop m := (List.take_append_drop m cs).symm
    rw [e]
    exact h0.append hr
theorem fa_flat : ∀ (n : Nat) (t : TypeId) (ks : List Kd), flat P n t = some ks → ∀ (fuel : Nat) (cs : List Value) (y : DataW H × List MemPlace), DataW.trod enc P W 0 sp held fuel t cs = some y → Fa enc P W sp held ks cs := by
  intro n
  induction n with
  | zero => intro t ks h; simp [flat] at h
  | succ n ih =>
    intro t ks h fuel cs y hy
    unfold flat at h
    split at h
    · rename_i hu; simp at h; subst h
      obtain ⟨b, hc, _⟩ := DataW.trod_bool hu hy
      subst hc
      exact ⟨⟨b, rfl⟩, trivial⟩
    · rename_i k hu; simp at h; subst h
      obtain ⟨a, hc, _, hw⟩ := DataW.trod_int hu hy
      subst hc
      exact ⟨⟨a, rfl, hw⟩, trivial⟩
    · rename_i hu; simp at h; subst h
      obtain ⟨a, hc, _, hw⟩ := DataW.trod_string hu hy
      subst hc
      exact ⟨⟨a, rfl, hw⟩, trivial⟩
    · rename_i e hu; simp at h; subst h
      have hform : ∃ a l c, cs = [.slice a l c] := by
        rcases Deep.open_slice hu hy with ⟨hcs, _⟩ | ⟨a, l, c, _, _, _, _, hcs, _⟩
        · exact ⟨_, _, _, hcs⟩
        · exact ⟨_, _, _, hcs⟩
      obtain ⟨a, l, c, rfl⟩ := hform
      exact ⟨⟨⟨a, l, c, rfl⟩, y.1, y.2, fuel, hy⟩, trivial⟩
    · rename_i fs hu
      split at h
      · rename_i ks1 e1
        split at h
        · rename_i hk
          simp at h; subst h
          obtain ⟨xs, m, rfl, _, hl, hlen, hf⟩ := DataW.trod_struct hu hy
          have := fa_flatAll (f := flat P n) (n := m) (fun t ks h cs y hy => ih t ks h m cs y hy) fs.toList 0 ks1 e1 cs (by omega) (fun fd hfd => by
            obtain ⟨i, hi, hfi⟩ := List.getElem_of_mem hfd
            have h1 := hf i fd (by rw [← Array.getElem?_toList, List.getElem?_eq_getElem hi, hfi])
            have hi' : i < xs.length := by rw [hlen]; simpa using hi
            exact ⟨xs[i], by rw [h1, List.getElem?_eq_getElem hi']⟩)
          simpa using this
        · cases h
      · cases h
    · rename_i m e hu
      split at h
      · rename_i k1 e1
        split at h
        · rename_i hk
          simp at h; subst h
          obtain ⟨xs, f', rfl, _, hl, hlen, hf⟩ := DataW.trod_array hu hy
          refine fa_flatRep (n := n) (e := e) hk.1 m cs (by rw [hl]; exact hk.2) (fun i hi => ?_)
          have h1 := hf i hi
          have hi' : i < xs.length := by omega
          rw [List.getElem?_eq_getElem hi'] at h1
          exact ih _ _ e1 _ _ _ h1
        · cases h
      · cases h
    · cases h
end
/-- a struct or an array that came in by value -/
theorem agg_of {H : Type} {enc : TypeId × Value → H} {P : Program} {W : World} {sp : Nat → Bool} {held : Bool} {r : Reach} {base : Nat} {t : TypeId} {v : Value} {d : DataW H} {ps : List MemPlace} {ks : List Kd} (n : Nat) (hf : flat P n t = some ks)
    (hagg : (match P.underlying t with | some (.struct _) | some (.array _ _) => true | _ => false) = true) (hok : Value.okWide P W r base t v) (h : DataW.Trod enc P W 0 sp held t v d ps) :
    ∃ cs : Array Value, v = .agg cs ∧ Fa enc P W sp held ks cs.toList := by
  have hv : ∃ cs : Array Value, v = .agg cs := by
    unfold Value.okWide at hok
    split at hok
    · obtain ⟨cs, h1, _⟩ := hok; exact ⟨cs, h1⟩
    · obtain ⟨cs, h1, _⟩ := hok; exact ⟨cs, h1⟩
    · rename_i h1 h2
      split at hagg
      · rename_i hh; exact (h1 _ hh).elim
      · rename_i hh; exact (h2 _ _ hh).elim
      · cases hagg
  obtain ⟨cs, rfl⟩ := hv
  obtain ⟨fuel, hfu⟩ := h
  exact ⟨cs, rfl, fa_flat n t ks hf fuel cs.toList (d, ps) hfu⟩
end Go.Proofs.YtimomjheanfbmaaGreatDoor

namespace Go.Proofs.YtimomjheanfbmaaGreatDoor
open Go.RowKit

/-! ### a record in memory -/
def imL (x : Int × Pg) : List Value := .int .i64 x.1 :: (pgC x.2).toList
def imA (x : Int × Pg) : Array Value := (imL x).toArray
def lvL (x : Int × Int × Int) : List Value := [.int .i64 x.1, .int .i64 x.2.1, .int .i64 x.2.2]
def rcC (R : Rc) (iv lv : Value) : Array Value := #[.int .i64 R.kind, .int .i64 R.xct, .int .i64 R.prev, .int .i64 R.next, .int .i64 R.uk, .int .i64 R.us, .int .i64 R.up, .int .i64 R.ul, .string R.key, .int .i64 R.bs, .string R.bd, iv, lv, .int .i64 R.fresh]
def RcSl (w : World) (R : Rc) (iv lv : Value) : Prop := Sl w iv 17 (R.ims.map imL) ∧ Sl w lv 3 (R.lvs.map lvL) ∧ R.key.size ≤ maxLen ∧ R.bd.size ≤ maxLen ∧ ∀ x ∈ R.ims, ∀ i, i < 6 → (x.2.dt i).size ≤ maxLen
theorem RcSl.later {w w' : World} {R : Rc} {iv lv : Value} (h : RcSl w R iv lv) (hb : Below w.heap.size w w') : RcSl w' R iv lv := ⟨h.1.later hb, h.2.1.later hb, h.2.2⟩
theorem imA_one (x : Int × Pg) : ∀ v ∈ (imA x).toList, v.oneCell' = true := by
  intro v hv
  simp only [imA, imL, List.toList_toArray, List.mem_cons] at hv
  rcases hv with rfl | h
  · rfl
  · exact pgC_one _ v h
/-- a slice of structs, its address opened -/
def SlAt (w : World) (a : Option Addr) (n : Nat) (xs : List (List Value)) : Prop := xs ≠ [] → ∃ b off, a = some ⟨b, off, none⟩ ∧ b < w.heap.size ∧ ∀ i, i < xs.length → ∀ j, j < n → w.cell? ⟨b, off + i * n + j, none⟩ = (xs[i]?.getD [])[j]?
theorem sl_open {w : World} {v : Value} {n : Nat} {xs : List (List Value)} (h : Sl w v n xs) : ∃ (a : Option Addr) (m cap : Nat), v = .slice a m cap ∧ m = xs.length ∧ m ≤ maxLen ∧ SlAt w a n xs := by
  obtain ⟨a, cap, h1, h2, h3⟩ := h
  exact ⟨a, _, cap, h1, rfl, h2, h3⟩
theorem SlAt.later {w w' : World} {a : Option Addr} {n : Nat} {xs : List (List Value)} (h : SlAt w a n xs) (hb : Below w.heap.size w w') : SlAt w' a n xs := fun hne => by
  obtain ⟨b, off, ha, hbk, hc⟩ := h hne
  exact ⟨b, off, ha, Nat.lt_of_lt_of_le hbk hb.size, fun i hi j hj => (hb.cell (p := ⟨b, off + i * n + j, none⟩) hbk).trans (hc i hi j hj)⟩
/-- one element of it -/
theorem SlAt.elem {α : Type} {f : α → List Value} {n : Nat} (hf : ∀ x, (f x).length = n) {w : World} {a : Option Addr} {l : List α} (h : SlAt w a n (l.map f)) {k : Nat} (hk : k < l.length) : ∃ b off, a = some ⟨b, off, none⟩ ∧ b < w.heap.size ∧ w.rangeAt b (off + k * n) (f l[k]) := by
  obtain ⟨b, off, ha, hb, hc⟩ := h (fun e => by have := congrArg List.length e; rw [List.length_map, List.length_nil] at this; omega)
  refine ⟨b, off, ha, hb, fun j v hv => ?_⟩
  have hj : j < n := by
    have := (List.getElem?_eq_some_iff.1 hv).1
    rw [hf] at this; exact this
  rw [hc k (by simpa using hk) j hj, List.getElem?_map, List.getElem?_eq_getElem hk]
  exact hv
theorem imL_length (x : Int × Pg) : (imL x).length = 17 := rfl
theorem lvL_length (x : Int × Int × Int) : (lvL x).length = 3 := rfl
theorem wpList_load_mid_want {P : Program} {ops : Array Oper} {rest : List Oper} {op : Oper} {a : Act} {w : World} {Q : Exit → Act → World → Prop} (hw : Region.wanted op (yielded ops a.tmps) = true) (ty : TypeId) (x : Operand) (ho : op.op = .load ty x)
    (b o : Nat) (hx : a.eval x = .pointer (some ⟨b, o, none⟩)) (cs : List Value) (d : TypeDesc) (hc : w.rangeAt b o cs)
    (hu : P.underlying ty = some d) (hd : d.isRow = true) (hi : (P.info? ty).map (·.size) = some cs.length)
    (h : wpList P ops Q rest (a.put op.dst (.agg cs.toArray)) w) : wpList P ops Q (op :: rest) a w :=
  wpList_want hw fun _ hK => wp_load_mid ty x ho b o hx cs d hc hu hd hi (hK _ _ h)
theorem im_page {w : World} {g : Nat} {x : Int × Pg} {T : TypeId} {f : Nat × Nat} (h : w.heap[g]? = some (.cells (imA x) T f)) : w.rangeAt g 1 (pgC x.2).toList := World.rangeAt_of_block h 1 16
theorem im_take {R : Rc} {k : Nat} (hk : k < R.ims.length) (h : ∀ x ∈ R.ims.take k, ImOk x) (hx : ImOk R.ims[k]) : ∀ x ∈ R.ims.take (k + 1), ImOk x := by
  intro x hm
  rw [List.take_succ_eq_append_getElem hk, List.mem_append, List.mem_singleton] at hm
  rcases hm with hm | rfl
  · exact h x hm
  · exact hx
theorem lv_take {R : Rc} {k : Nat} (hk : k < R.lvs.length) (h : ∀ x ∈ R.lvs.take k, LvOk x) (hx : LvOk R.lvs[k]) : ∀ x ∈ R.lvs.take (k + 1), LvOk x := by
  intro x hm
  rw [List.take_succ_eq_append_getElem hk, List.mem_append, List.mem_singleton] at hm
  rcases hm with hm | rfl
  · exact h x hm
  · exact hx
def wrongB (n m : Int) : Bool := decide (n < 0) || decide (m < n)
theorem wrong_iff (n m : Int) : wrongB n m = false ↔ inR n m := by
  unfold wrongB inR; simp
theorem wrong_yes {n m : Int} (h : wrongB n m = true) : ¬ inR n m := fun hh => by rw [(wrong_iff n m).2 hh] at h; cases h
theorem rc_wrong (n m : Int) (w : World) : Calls Tryz.prog 105 #[.int .i64 n, .int .i64 m] w fun e w' => e = .returned (.bool (wrongB n m)) ∧ w = w' := by
  by_cases h : n < 0
  · have e : wrongB n m = true := by unfold wrongB; simp [h]
    rw [e]
    clear e
    go_enter Tryz.func105, Tryz.ntmps105
    go_wp2_with fail
    go_ret
    exact ⟨rfl, rfl⟩
  · have e : wrongB n m = decide (m < n) := by unfold wrongB; simp [h]
    rw [e]
    clear e
    by_cases h2 : m < n
    · rw [decide_eq_true h2]
      go_enter Tryz.func105, Tryz.ntmps105
      go_wp2_with fail
      go_ret
      exact ⟨rfl, rfl⟩
    · rw [decide_eq_false h2]
      go_enter Tryz.func105, Tryz.ntmps105
      go_wp2_with fail
      go_ret
      exact ⟨rfl, rfl⟩
theorem rc_in (n m : Int) (w : World) : Calls Tryz.prog 95 #[.int .i64 n, .int .i64 m] w fun e w' => e = .returned (.bool (!wrongB n m)) ∧ w = w' := by
  by_cases h : n < 0
  · have e : wrongB n m = true := by unfold wrongB; simp [h]
    rw [e]
    clear e
    go_enter Tryz.func95, Tryz.ntmps95
    go_wp2_with fail
    go_ret
    exact ⟨rfl, rfl⟩
  · have h' : 0 ≤ n := by omega
    have e : wrongB n m = decide (m < n) := by unfold wrongB; simp [h]
    rw [e]
    clear e
    by_cases h2 : m < n
    · rw [decide_eq_true h2]
      have h3 : ¬ n ≤ m := by omega
      go_enter Tryz.func95, Tryz.ntmps95
      go_wp2_with fail
      go_ret
      exact ⟨rfl, rfl⟩
    · rw [decide_eq_false h2]
      have h3 : n ≤ m := by omega
      go_enter Tryz.func95, Tryz.ntmps95
      go_wp2_with fail
      go_ret
      exact ⟨rfl, rfl⟩
end Go.Proofs.YtimomjheanfbmaaGreatDoor
