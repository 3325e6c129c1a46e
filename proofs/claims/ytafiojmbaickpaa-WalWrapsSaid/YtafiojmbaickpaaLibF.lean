import Derived.Test.YtafiojmbaickpaaLibC
set_option linter.unusedSimpArgs false
set_option linter.unusedVariables false
namespace Go.Proofs.Ytafiojmbaickpaa
open Go.RowKit

/-! ### a value's cells by their kinds, whatever structs and arrays lie between -/
inductive Kd where
  | b
  | i (k : IntKind)
  | s
  | sl (t : TypeId)
def flatAll (f : TypeId → Option (List Kd)) (P : Program) : Nat → List Field → Option (List Kd)
  | _, [] => some []
  | pos, fd :: r =>
    match f fd.type, flatAll f P (pos + P.cellsOf fd.type) r with
    | some ks, some ls => if fd.offset = pos ∧ ks.length = P.cellsOf fd.type then some (ks ++ ls) else none
    | _, _ => none
def flatRep (ks : List Kd) : Nat → List Kd
  | 0 => []
  | n + 1 => ks ++ flatRep ks n
def flat (P : Program) : Nat → TypeId → Option (List Kd)
  | 0, _ => none
  | n + 1, t =>
    match P.underlying t with
    | some .bool => some [.b]
    | some (.int k) => some [.i k]
    | some .string => some [.s]
    | some (.slice _) => some [.sl t]
    | some (.struct fs) => match flatAll (flat P n) P 0 fs.toList with
      | some ks => if ks.length = P.cellsOf t then some ks else none
      | none => none
    | some (.array m e) => match flat P n e with
      | some ks => if ks.length = P.cellsOf e ∧ P.cellsOf t = m * P.cellsOf e then some (flatRep ks m) else none
      | none => none
    | _ => none
section
variable {H : Type} (enc : TypeId × Value → H) (P : Program) (W : World) (sp : Nat → Bool) (held : Bool)
def KdOk : Kd → Value → Prop
  | .b, v => ∃ x, v = .bool x
  | .i k, v => ∃ n, v = .int k n ∧ (Lit.int k n).wf = true
  | .s, v => ∃ t : ByteArray, v = .string t ∧ t.size ≤ maxLen
  | .sl t, v => (∃ a l c, v = .slice a l c) ∧ ∃ d ps, DataW.Trod enc P W 0 sp held t v d ps
def Fa : List Kd → List Value → Prop
  | [], [] => True
  | k :: ks, v :: vs => KdOk enc P W sp held k v ∧ Fa ks vs
  | _, _ => False
variable {enc P W sp held}
theorem Fa.length : ∀ {ks : List Kd} {vs : List Value}, Fa enc P W sp held ks vs → ks.length = vs.length
  | [], [], _ => rfl
  | k :: ks, v :: vs, h => by simp [Fa.length h.2]
  | [], _ :: _, h => h.elim
  | _ :: _, [], h => h.elim
theorem Fa.append : ∀ {ks : List Kd} {vs : List Value} {ks' : List Kd} {vs' : List Value}, Fa enc P W sp held ks vs → Fa enc P W sp held ks' vs' → Fa enc P W sp held (ks ++ ks') (vs ++ vs')
  | [], [], _, _, _, h' => h'
  | k :: ks, v :: vs, _, _, h, h' => ⟨h.1, Fa.append h.2 h'⟩
  | [], _ :: _, _, _, h, _ => h.elim
  | _ :: _, [], _, _, h, _ => h.elim
theorem fa_flatAll {f : TypeId → Option (List Kd)} {n : Nat}
    (ih : ∀ t ks, f t = some ks → ∀ cs y, DataW.trod enc P W 0 sp held n t cs = some y → Fa enc P W sp held ks cs) :
    ∀ (fs : List Field) (pos : Nat) (ks : List Kd), flatAll f P pos fs = some ks → ∀ cs : List Value, cs.length = pos + ks.length →
      (∀ fd ∈ fs, ∃ y, DataW.trod enc P W 0 sp held n fd.type ((cs.drop fd.offset).take (P.cellsOf fd.type)) = some y) → Fa enc P W sp held ks (cs.drop pos)
  | [], pos, ks, h, cs, hl, _ => by
    simp [flatAll] at h; subst h
    have : cs.drop pos = [] := List.drop_eq_nil_of_le (by simp at hl; omega)
    rw [this]; trivial
  | fd :: r, pos, ks, h, cs, hl, ht => by
    unfold flatAll at h
    split at h
    · rename_i k1 k2 e1 e2
      split at h
      · rename_i hc
        obtain ⟨ho, hk⟩ := hc
        simp at h; subst h
        obtain ⟨y, hy⟩ := ht fd (by simp)
        have h1 := ih _ _ e1 _ _ hy
        rw [List.length_append] at hl
        have h2 := fa_flatAll ih r (pos + P.cellsOf fd.type) k2 e2 cs (by omega) (fun g hg => ht g (by simp [hg]))
        have e : cs.drop pos = (cs.drop pos).take (P.cellsOf fd.type) ++ cs.drop (pos + P.cellsOf fd.type) := by
          rw [← List.drop_drop, List.take_append_drop]
        rw [e]
        rw [ho] at h1
        exact h1.append h2
      · cases h
    · cases h
theorem fa_flatRep {n m : Nat} {e : TypeId} {ks : List Kd} (hk : ks.length = m) :
    ∀ (c : Nat) (cs : List Value), cs.length = c * m → (∀ i, i < c → Fa enc P W sp held ks ((cs.drop (i * m)).take m)) → Fa enc P W sp held (flatRep ks c) cs
  | 0, cs, hl, _ => by
    have : cs = [] := List.eq_nil_of_length_eq_zero (by omega)
    subst this; trivial
  | c + 1, cs, hl, h => by
    have h0 := h 0 (by omega)
    rw [Nat.zero_mul, List.drop_zero] at h0
    have hr := fa_flatRep (n := n) (e := e) hk c (cs.drop m) (by rw [List.length_drop, hl, Nat.add_mul]; omega) (fun i hi => by
      have := h (i + 1) (by omega)
      rw [List.drop_drop]
      rw [show m + i * m = (i + 1) * m from by rw [Nat.add_mul]; omega]
      exact this)
    have e : cs = cs.take m ++ cs.drop m := (List.take_append_drop m cs).symm
    rw [e]
    exact h0.append hr
theorem fa_flat : ∀ (n : Nat) (t : TypeId) (ks : List Kd), flat P n t = some ks → ∀ (fuel : Nat) (cs : List Value) (y : DataW H × List MemPlace), DataW.trod enc P W 0 sp held fuel t cs = some y → Fa enc P W sp held ks cs := by
  intro n
  induction n with
  | zero => intro t ks h; simp [flat] at h
  | succ n ih =>
    intro t ks h fuel cs y hy
    unfold flat at h
    split at h
    · rename_i hu; simp at h; subst h
      obtain ⟨b, hc, _⟩ := DataW.trod_bool hu hy
      subst hc
      exact ⟨⟨b, rfl⟩, trivial⟩
    · rename_i k hu; simp at h; subst h
      obtain ⟨a, hc, _, hw⟩ := DataW.trod_int hu hy
      subst hc
      exact ⟨⟨a, rfl, hw⟩, trivial⟩
    · rename_i hu; simp at h; subst h
      obtain ⟨a, hc, _, hw⟩ := DataW.trod_string hu hy
      subst hc
      exact ⟨⟨a, rfl, hw⟩, trivial⟩
    · rename_i e hu; simp at h; subst h
      have hform : ∃ a l c, cs = [.slice a l c] := by
        rcases Deep.open_slice hu hy with ⟨hcs, _⟩ | ⟨a, l, c, _, _, _, _, hcs, _⟩
        · exact ⟨_, _, _, hcs⟩
        · exact ⟨_, _, _, hcs⟩
      obtain ⟨a, l, c, rfl⟩ := hform
      exact ⟨⟨⟨a, l, c, rfl⟩, y.1, y.2, fuel, hy⟩, trivial⟩
    · rename_i fs hu
      split at h
      · rename_i ks1 e1
        split at h
        · rename_i hk
          simp at h; subst h
          obtain ⟨xs, m, rfl, _, hl, hlen, hf⟩ := DataW.trod_struct hu hy
          have := fa_flatAll (f := flat P n) (n := m) (fun t ks h cs y hy => ih t ks h m cs y hy) fs.toList 0 ks1 e1 cs (by omega) (fun fd hfd => by
            obtain ⟨i, hi, hfi⟩ := List.getElem_of_mem hfd
            have h1 := hf i fd (by rw [← Array.getElem?_toList, List.getElem?_eq_getElem hi, hfi])
            have hi' : i < xs.length := by rw [hlen]; simpa using hi
            exact ⟨xs[i], by rw [h1, List.getElem?_eq_getElem hi']⟩)
          simpa using this
        · cases h
      · cases h
    · rename_i m e hu
      split at h
      · rename_i k1 e1
        split at h
        · rename_i hk
          simp at h; subst h
          obtain ⟨xs, f', rfl, _, hl, hlen, hf⟩ := DataW.trod_array hu hy
          refine fa_flatRep (n := n) (e := e) hk.1 m cs (by rw [hl]; exact hk.2) (fun i hi => ?_)
          have h1 := hf i hi
          have hi' : i < xs.length := by omega
          rw [List.getElem?_eq_getElem hi'] at h1
          exact ih _ _ e1 _ _ _ h1
        · cases h
      · cases h
    · cases h
end
/-- a struct or an array that came in by value -/
theorem agg_of {H : Type} {enc : TypeId × Value → H} {P : Program} {W : World} {sp : Nat → Bool} {held : Bool} {r : Reach} {base : Nat} {t : TypeId} {v : Value} {d : DataW H} {ps : List MemPlace} {ks : List Kd} (n : Nat) (hf : flat P n t = some ks)
    (hagg : (match P.underlying t with | some (.struct _) | some (.array _ _) => true | _ => false) = true) (hok : Value.okWide P W r base t v) (h : DataW.Trod enc P W 0 sp held t v d ps) :
    ∃ cs : Array Value, v = .agg cs ∧ Fa enc P W sp held ks cs.toList := by
  have hv : ∃ cs : Array Value, v = .agg cs := by
    unfold Value.okWide at hok
    split at hok
    · obtain ⟨cs, h1, _⟩ := hok; exact ⟨cs, h1⟩
    · obtain ⟨cs, h1, _⟩ := hok; exact ⟨cs, h1⟩
    · rename_i h1 h2
      split at hagg
      · rename_i hh; exact (h1 _ hh).elim
      · rename_i hh; exact (h2 _ _ hh).elim
      · cases hagg
  obtain ⟨cs, rfl⟩ := hv
  obtain ⟨fuel, hfu⟩ := h
  exact ⟨cs, rfl, fa_flat n t ks hf fuel cs.toList (d, ps) hfu⟩
end Go.Proofs.Ytafiojmbaickpaa
