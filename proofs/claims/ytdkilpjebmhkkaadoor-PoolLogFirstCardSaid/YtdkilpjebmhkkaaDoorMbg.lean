import Derived.Test.YtdkilpjebmhkkaaDoorMab
import Derived.Test.YtdkilpjebmhkkaaDoorMaq
import Derived.Test.YtdkilpjebmhkkaaDoorMbf
import Derived.WideShapes
set_option linter.unusedSimpArgs false
set_option linter.unusedVariables false
namespace Go.Proofs.YtdkilpjebmhkkaaDoor
open Go.RowKit

/-! ### a value's cells by their kinds, whatever structs and arrays lie between -/
inductive Kd where
  | b
  | i (k : IntKind)
  | s
  | sl (t : TypeId)
def flatAll (f : TypeId → Option (List Kd)) (P : Program) : Nat → List Field → Option (List Kd)
  | _, [] => some []
  | pos, fd :: r =>
    match f fd.type, flatAll f P (pos + P.cellsOf fd.type) r with
    | some ks, some ls => if fd.offset = pos ∧ ks.length = P.cellsOf fd.type then some (ks ++ ls) else none
    | _, _ => none
def flatRep (ks : List Kd) : Nat → List Kd
  | 0 => []
  | n + 1 => ks ++ flatRep ks n
def flat (P : Program) : Nat → TypeId → Option (List Kd)
  | 0, _ => none
  | n + 1, t =>
    match P.underlying t with
    | some .bool => some [.b]
    | some (.int k) => some [.i k]
    | some .string => some [.s]
    | some (.slice _) => some [.sl t]
    | some (.struct fs) => match flatAll (flat P n) P 0 fs.toList with
      | some ks => if ks.length = P.cellsOf t then some ks else none
      | none => none
    | some (.array m e) => match flat P n e with
      | some ks => if ks.length = P.cellsOf e ∧ P.cellsOf t = m * P.cellsOf e then some (flatRep ks m) else none
      | none => none
    | _ => none
section
variable {H : Type} (enc : TypeId × Value → H) (P : Program) (W : World) (sp : Nat → Bool) (held : Bool)
def KdOk : Kd → Value → Prop
  | .b, v => ∃ x, v = .bool x
  | .i k, v => ∃ n, v = .int k n ∧ (Lit.int k n).wf = true
  | .s, v => ∃ t : ByteArray, v = .string t ∧ t.size ≤ maxLen
  | .sl t, v => (∃ a l c, v = .slice a l c) ∧ ∃ d ps, DataW.Trod enc P W 0 sp held t v d ps
def Fa : List Kd → List Value → Prop
  | [], [] => True
  | k :: ks, v :: vs => KdOk enc P W sp held k v ∧ Fa ks vs
  | _, _ => False
variable {enc P W sp held}
theorem Fa.length : ∀ {ks : List Kd} {vs : List Value}, Fa enc P W sp held ks vs → ks.length = vs.length
  | [], [], _ => rfl
  | k :: ks, v :: vs, h => by simp [Fa.length h.2]
  | [], _ :: _, h => h.elim
  | _ :: _, [], h => h.elim
theorem Fa.append : ∀ {ks : List Kd} {vs : List Value} {ks' : List Kd} {vs' : List Value}, Fa enc P W sp held ks vs → Fa enc P W sp held ks' vs' → Fa enc P W sp held (ks ++ ks') (vs ++ vs')
  | [], [], _, _, _, h' => h'
  | k :: ks, v :: vs, _, _, h, h' => ⟨h.1, Fa.append h.2 h'⟩
  | [], _ :: _, _, _, h, _ => h.elim
  | _ :: _, [], _, _, h, _ => h.elim
theorem fa_flatAll {f : TypeId → Option (List Kd)} {n : Nat}
    (ih : ∀ t ks, f t = some ks → ∀ cs y, DataW.trod enc P W 0 sp held n t cs = some y → Fa enc P W sp held ks cs) :
    ∀ (fs : List Field) (pos : Nat) (ks : List Kd), flatAll f P pos fs = some ks → ∀ cs : List Value, cs.length = pos + ks.length →
      (∀ fd ∈ fs, ∃ y, DataW.trod enc P W 0 sp held n fd.type ((cs.drop fd.offset).take (P.cellsOf fd.type)) = some y) → Fa enc P W sp held ks (cs.drop pos)
  | [], pos, ks, h, cs, hl, _ => by
    simp [flatAll] at h; subst h
    have : cs.drop pos = [] := List.drop_eq_nil_of_le (by simp at hl; omega)
    rw [this]; trivial
  | fd :: r, pos, ks, h, cs, hl, ht => by
    unfold flatAll at h
    split at h
    · rename_i k1 k2 e1 e2
      split at h
      · rename_i hc
        obtain ⟨ho, hk⟩ := hc
        simp at h; subst h
        obtain ⟨y, hy⟩ := ht fd (by simp)
        have h1 := ih _ _ e1 _ _ hy
        rw [List.length_append] at hl
        have h2 := fa_flatAll ih r (pos + P.cellsOf fd.type) k2 e2 cs (by omega) (fun g hg => ht g (by simp [hg]))
        have e : cs.drop pos = (cs.drop pos).take (P.cellsOf fd.type) ++ cs.drop (pos + P.cellsOf fd.type) := by
          rw [← List.drop_drop, List.take_append_drop]
        rw [e]
        rw [ho] at h1
        exact h1.append h2
      · cases h
    · cases h
theorem fa_flatRep {n m : Nat} {e : TypeId} {ks : List Kd} (hk : ks.length = m) :
    ∀ (c : Nat) (cs : List Value), cs.length = c * m → (∀ i, i < c → Fa enc P W sp held ks ((cs.drop (i * m)).take m)) → Fa enc P W sp held (flatRep ks c) cs
  | 0, cs, hl, _ => by
    have : cs = [] := List.eq_nil_of_length_eq_zero (by omega)
    subst this; trivial
  | c + 1, cs, hl, h => by
    have h0 := h 0 (by omega)
    rw [Nat.zero_mul, List.drop_zero] at h0
    have hr := fa_flatRep (n := n) (e := e) hk c (cs.drop m) (by rw [List.length_drop, hl, Nat.add_mul]; omega) (fun i hi => by
      have := h (i + 1) (by omega)
      rw [List.drop_drop]
      rw [show m + i * m = (i + 1) * m from by rw [Nat.add_mul]; omega]
      exact this)
    have e : cs = cs.take m ++ cs.drop m := (List.take_append_drop m cs).symm
    rw [e]
    exact h0.append hr
theorem fa_flat : ∀ (n : Nat) (t : TypeId) (ks : List Kd), flat P n t = some ks → ∀ (fuel : Nat) (cs : List Value) (y : DataW H × List MemPlace), DataW.trod enc P W 0 sp held fuel t cs = some y → Fa enc P W sp held ks cs := by
  intro n
  induction n with
  | zero => intro t ks h; simp [flat] at h
  | succ n ih =>
    intro t ks h fuel cs y hy
    unfold flat at h
    split at h
    · rename_i hu; simp at h; subst h
      obtain ⟨b, hc, _⟩ := DataW.trod_bool hu hy
      subst hc
      exact ⟨⟨b, rfl⟩, trivial⟩
    · rename_i k hu; simp at h; subst h
      obtain ⟨a, hc, _, hw⟩ := DataW.trod_int hu hy
      subst hc
      exact ⟨⟨a, rfl, hw⟩, trivial⟩
    · rename_i hu; simp at h; subst h
      obtain ⟨a, hc, _, hw⟩ := DataW.trod_string hu hy
      subst hc
      exact ⟨⟨a, rfl, hw⟩, trivial⟩
    · rename_i e hu; simp at h; subst h
      have hform : ∃ a l c, cs = [.slice a l c] := by
        rcases Deep.open_slice hu hy with ⟨hcs, _⟩ | ⟨a, l, c, _, _, _, _, hcs, _⟩
        · exact ⟨_, _, _, hcs⟩
        · exact ⟨_, _, _, hcs⟩
      obtain ⟨a, l, c, rfl⟩ := hform
      exact ⟨⟨⟨a, l, c, rfl⟩, y.1, y.2, fuel, hy⟩, trivial⟩
    · rename_i fs hu
      split at h
      · rename_i ks1 e1
        split at h
        · rename_i hk
          simp at h; subst h
          obtain ⟨xs, m, rfl, _, hl, hlen, hf⟩ := DataW.trod_struct hu hy
          have := fa_flatAll (f := flat P n) (n := m) (fun t ks h cs y hy => ih t ks h m cs y hy) fs.toList 0 ks1 e1 cs (by omega) (fun fd hfd => by
            obtain ⟨i, hi, hfi⟩ := List.getElem_of_mem hfd
            have h1 := hf i fd (by rw [← Array.getElem?_toList, List.getElem?_eq_getElem hi, hfi])
            have hi' : i < xs.length := by rw [hlen]; simpa using hi
            exact ⟨xs[i], by rw [h1, List.getElem?_eq_getElem hi']⟩)
          simpa using this
        · cases h
      · cases h
    · rename_i m e hu
      split at h
      · rename_i k1 e1
        split at h
        · rename_i hk
          simp at h; subst h
          obtain ⟨xs, f', rfl, _, hl, hlen, hf⟩ := DataW.trod_array hu hy
          refine fa_flatRep (n := n) (e := e) hk.1 m cs (by rw [hl]; exact hk.2) (fun i hi => ?_)
          have h1 := hf i hi
          have hi' : i < xs.length := by omega
          rw [List.getElem?_eq_getElem hi'] at h1
          exact ih _ _ e1 _ _ _ h1
        · cases h
      · cases h
    · cases h
end
/-- a struct or an array that came in by value -/
theorem agg_of {H : Type} {enc : TypeId × Value → H} {P : Program} {W : World} {sp : Nat → Bool} {held : Bool} {r : Reach} {base : Nat} {t : TypeId} {v : Value} {d : DataW H} {ps : List MemPlace} {ks : List Kd} (n : Nat) (hf : flat P n t = some ks)
    (hagg : (match P.underlying t with | some (.struct _) | some (.array _ _) => true | _ => false) = true) (hok : Value.okWide P W r base t v) (h : DataW.Trod enc P W 0 sp held t v d ps) :
    ∃ cs : Array Value, v = .agg cs ∧ Fa enc P W sp held ks cs.toList := by
  have hv : ∃ cs : Array Value, v = .agg cs := by
    unfold Value.okWide at hok
    split at hok
    · obtain ⟨cs, h1, _⟩ := hok; exact ⟨cs, h1⟩
    · obtain ⟨cs, h1, _⟩ := hok; exact ⟨cs, h1⟩
    · rename_i h1 h2
      split at hagg
      · rename_i hh; exact (h1 _ hh).elim
      · rename_i hh; exact (h2 _ _ hh).elim
      · cases hagg
  obtain ⟨cs, rfl⟩ := hv
  obtain ⟨fuel, hfu⟩ := h
  exact ⟨cs, rfl, fa_flat n t ks hf fuel cs.toList (d, ps) hfu⟩
end Go.Proofs.YtdkilpjebmhkkaaDoor

namespace Go.Proofs.YtdkilpjebmhkkaaDoor
open Go.RowKit

/-! ### a page that is handed in -/
theorem fb1 {H : Type} {enc : TypeId × Value → H} {P : Program} {W : World} {sp : Nat → Bool} {held : Bool} {k : Kd} {ks : List Kd} {cs : List Value} (h : Fa enc P W sp held (k :: ks) cs) : ∃ c r, cs = c :: r ∧ KdOk enc P W sp held k c ∧ Fa enc P W sp held ks r := by
  match cs, h with
  | c :: r, h => exact ⟨c, r, rfl, h.1, h.2⟩
theorem fb0 {H : Type} {enc : TypeId × Value → H} {P : Program} {W : World} {sp : Nat → Bool} {held : Bool} {cs : List Value} (h : Fa enc P W sp held [] cs) : cs = [] := by
  match cs, h with
  | [], _ => rfl
def PgIs (v : Value) (P : Pg) : Prop := v = pgV P ∧ ∀ i, (P.dt i).size ≤ maxLen
theorem flatPg : flat Tryd.prog 6 41 = some [.i .i64, .i .i64, .i .i64, .i .i64, .i .i64, .s, .i .i64, .s, .i .i64, .s, .i .i64, .s, .i .i64, .s, .i .i64, .s] := by kernel_rfl
set_option maxRecDepth 100000 in
theorem page_of {H : Type} {enc : TypeId × Value → H} {W : World} {base : Nat} {v : Value} {d : DataW H} {p : List MemPlace} (hok : Value.okWide Tryd.prog W .any base 41 v)
    (h : DataW.Trod enc Tryd.prog W 0 (fun _ => true) true 41 v d p) : ∃ P, PgIs v P := by
  obtain ⟨cs, rfl, hf⟩ := agg_of 6 flatPg (by rw [Tryd.underlying41]) hok h
  obtain ⟨_, r0, e0, ⟨n0, rfl, z0⟩, f0⟩ := fb1 hf
  obtain ⟨_, r1, rfl, ⟨n1, rfl, z1⟩, f1⟩ := fb1 f0
  obtain ⟨_, r2, rfl, ⟨n2, rfl, z2⟩, f2⟩ := fb1 f1
  obtain ⟨_, r3, rfl, ⟨n3, rfl, z3⟩, f3⟩ := fb1 f2
  obtain ⟨_, r4, rfl, ⟨n4, rfl, z4⟩, f4⟩ := fb1 f3
  obtain ⟨_, r5, rfl, ⟨n5, rfl, z5⟩, f5⟩ := fb1 f4
  obtain ⟨_, r6, rfl, ⟨n6, rfl, z6⟩, f6⟩ := fb1 f5
  obtain ⟨_, r7, rfl, ⟨n7, rfl, z7⟩, f7⟩ := fb1 f6
  obtain ⟨_, r8, rfl, ⟨n8, rfl, z8⟩, f8⟩ := fb1 f7
  obtain ⟨_, r9, rfl, ⟨n9, rfl, z9⟩, f9⟩ := fb1 f8
  obtain ⟨_, r10, rfl, ⟨n10, rfl, z10⟩, f10⟩ := fb1 f9
  obtain ⟨_, r11, rfl, ⟨n11, rfl, z11⟩, f11⟩ := fb1 f10
  obtain ⟨_, r12, rfl, ⟨n12, rfl, z12⟩, f12⟩ := fb1 f11
  obtain ⟨_, r13, rfl, ⟨n13, rfl, z13⟩, f13⟩ := fb1 f12
  obtain ⟨_, r14, rfl, ⟨n14, rfl, z14⟩, f14⟩ := fb1 f13
  obtain ⟨_, r15, rfl, ⟨n15, rfl, z15⟩, f15⟩ := fb1 f14
  obtain rfl := fb0 f15
  refine ⟨⟨n0, n1, n2, n3, fun i => match i with | 0 => n4 | 1 => n6 | 2 => n8 | 3 => n10 | 4 => n12 | _ => n14, fun i => match i with | 0 => n5 | 1 => n7 | 2 => n9 | 3 => n11 | 4 => n13 | _ => n15⟩, ?_, ?_⟩
  · unfold pgV pgC
    congr 1
    rw [← Array.toList_inj, e0]
    rfl
  · intro i
    dsimp only
    split <;> assumption

def CellIs (v : Value) (c : Int × ByteArray) : Prop := v = .agg #[.int .i64 c.1, .string c.2] ∧ c.2.size ≤ maxLen
theorem flatCell : flat Tryd.prog 4 38 = some [.i .i64, .s] := by kernel_rfl
set_option maxRecDepth 100000 in
theorem cell_of {H : Type} {enc : TypeId × Value → H} {W : World} {base : Nat} {v : Value} {d : DataW H} {p : List MemPlace} (hok : Value.okWide Tryd.prog W .any base 38 v)
    (h : DataW.Trod enc Tryd.prog W 0 (fun _ => true) true 38 v d p) : ∃ c, CellIs v c := by
  obtain ⟨cs, rfl, hf⟩ := agg_of 4 flatCell (by rw [Tryd.underlying38]) hok h
  obtain ⟨c0, r0, e0, ⟨n0, rfl, z0⟩, f1⟩ := fb1 hf
  obtain ⟨c1, r1, rfl, ⟨s1, rfl, z1⟩, f2⟩ := fb1 f1
  obtain rfl := fb0 f2
  have : cs = #[.int .i64 n0, .string s1] := by rw [← Array.toList_inj, e0]
  exact ⟨(n0, s1), by rw [this], z1⟩
end Go.Proofs.YtdkilpjebmhkkaaDoor

namespace Go.Proofs.YtdkilpjebmhkkaaDoor
open Go.RowKit

/-! ### calls that are handed in -/
structure PCall where
  kind : Int
  id : Int
  pg : Pg
  rcd : ByteArray
def pcL (c : PCall) : List Value := .int .i64 c.kind :: .int .i64 c.id :: ((pgC c.pg).toList ++ [.string c.rcd])
theorem pcL_length (c : PCall) : (pcL c).length = 19 := rfl
def PcOk (c : PCall) : Prop := (∀ i, i < 6 → (c.pg.dt i).size ≤ maxLen) ∧ c.rcd.size ≤ maxLen
def CallsIs (w : World) (v : Value) (cs : List PCall) : Prop := Sl w v 19 (cs.map pcL) ∧ ∀ c ∈ cs, PcOk c
theorem CallsIs.later {w w' : World} {v : Value} {cs : List PCall} (h : CallsIs w v cs) (hb : Below w.heap.size w w') : CallsIs w' v cs := ⟨h.1.later hb, h.2⟩
theorem CallsIs.form {w : World} {v : Value} {cs : List PCall} (h : CallsIs w v cs) : ∃ a c, v = .slice a cs.length c := by
  obtain ⟨⟨a, c, h1, -⟩, -⟩ := h
  exact ⟨a, c, by rw [h1, List.length_map]⟩
theorem CallsIs.max {w : World} {v : Value} {cs : List PCall} (h : CallsIs w v cs) : cs.length ≤ maxLen := by
  obtain ⟨⟨a, c, h1, h2, -⟩, -⟩ := h
  rwa [List.length_map] at h2
theorem CallsIs.at {w : World} {a : Option Addr} {n cap : Nat} {cs : List PCall} (h : CallsIs w (.slice a n cap) cs) (k : Nat) (c : PCall) (hc : cs[k]? = some c) :
    ∃ b off, a = some ⟨b, off, none⟩ ∧ b < w.heap.size ∧ w.rangeAt b (off + k * 19) (pcL c) ∧ PcOk c := by
  obtain ⟨⟨a', c', h1, h2, h3⟩, hok⟩ := h
  have hk : k < cs.length := (List.getElem?_eq_some_iff.1 hc).1
  obtain ⟨b, off, e1, e2, e3⟩ := h3 (by intro he; rw [List.map_eq_nil_iff] at he; subst he; simp at hk)
  simp only [Value.slice.injEq] at h1
  refine ⟨b, off, by rw [h1.1, e1], e2, fun j v hj => ?_, hok c (List.mem_of_getElem? hc)⟩
  have hjl : j < 19 := by
    have := (List.getElem?_eq_some_iff.1 hj).1
    rwa [pcL_length] at this
  rw [e3 k (by rw [List.length_map]; exact hk) j hjl, List.getElem?_map, hc]
  exact hj
theorem flatCall : flat Tryd.prog 6 43 = some [.i .i64, .i .i64, .i .i64, .i .i64, .i .i64, .i .i64, .i .i64, .s, .i .i64, .s, .i .i64, .s, .i .i64, .s, .i .i64, .s, .i .i64, .s, .s] := by kernel_rfl
theorem pcall_of {H : Type} {enc : TypeId × Value → H} {W : World} {sp : Nat → Bool} {held : Bool} {x : List Value} (h : ∃ fuel y, DataW.trod enc Tryd.prog W 0 sp held fuel 43 x = some y) : ∃ b : PCall, x = pcL b ∧ PcOk b := by
  obtain ⟨fuel, y, hy⟩ := h
  have hf := fa_flat (enc := enc) (P := Tryd.prog) (W := W) (sp := sp) (held := held) 6 _ _ flatCall fuel x y hy
  obtain ⟨_, rk, rfl, ⟨a, rfl, _⟩, fk⟩ := fb1 hf
  obtain ⟨_, ra, rfl, ⟨b, rfl, _⟩, fa⟩ := fb1 fk
  obtain ⟨_, r0, rfl, ⟨n0, rfl, z0⟩, f0⟩ := fb1 fa
  obtain ⟨_, r1, rfl, ⟨n1, rfl, z1⟩, f1⟩ := fb1 f0
  obtain ⟨_, r2, rfl, ⟨n2, rfl, z2⟩, f2⟩ := fb1 f1
  obtain ⟨_, r3, rfl, ⟨n3, rfl, z3⟩, f3⟩ := fb1 f2
  obtain ⟨_, _, rfl, ⟨n4, rfl, z4⟩, f4⟩ := fb1 f3
  obtain ⟨_, _, rfl, ⟨n5, rfl, z5⟩, f5⟩ := fb1 f4
  obtain ⟨_, _, rfl, ⟨n6, rfl, z6⟩, f6⟩ := fb1 f5
  obtain ⟨_, _, rfl, ⟨n7, rfl, z7⟩, f7⟩ := fb1 f6
  obtain ⟨_, _, rfl, ⟨n8, rfl, z8⟩, f8⟩ := fb1 f7
  obtain ⟨_, _, rfl, ⟨n9, rfl, z9⟩, f9⟩ := fb1 f8
  obtain ⟨_, _, rfl, ⟨n10, rfl, z10⟩, f10⟩ := fb1 f9
  obtain ⟨_, _, rfl, ⟨n11, rfl, z11⟩, f11⟩ := fb1 f10
  obtain ⟨_, _, rfl, ⟨n12, rfl, z12⟩, f12⟩ := fb1 f11
  obtain ⟨_, _, rfl, ⟨n13, rfl, z13⟩, f13⟩ := fb1 f12
  obtain ⟨_, _, rfl, ⟨n14, rfl, z14⟩, f14⟩ := fb1 f13
  obtain ⟨_, _, rfl, ⟨n15, rfl, z15⟩, f15⟩ := fb1 f14
  obtain ⟨_, _, rfl, ⟨n16, rfl, z16⟩, f16⟩ := fb1 f15
  obtain rfl := fb0 f16
  refine ⟨⟨a, b, ⟨n0, n1, n2, n3, fun i => match i with | 0 => n4 | 1 => n6 | 2 => n8 | 3 => n10 | 4 => n12 | _ => n14, fun i => match i with | 0 => n5 | 1 => n7 | 2 => n9 | 3 => n11 | 4 => n13 | _ => n15⟩, n16⟩, rfl, ?_, z16⟩
  intro i _
  dsimp only
  split <;> assumption
set_option maxRecDepth 100000 in
theorem calls_of {H : Type} {enc : TypeId × Value → H} {W : World} {base : Nat} {v : Value} {d : DataW H} {p : List MemPlace} (hok : Value.okWide Tryd.prog W .any base 22 v)
    (h : DataW.Trod enc Tryd.prog W 0 (fun _ => true) true 22 v d p) : ∃ cs, CallsIs W v cs := by
  obtain ⟨xs, hxs, hx⟩ := Sl_of (n := 19) Tryd.underlying22 (by kernel_rfl) (by decide) (Go.WideShapes.okWide_slice Tryd.underlying22 hok) h
  obtain ⟨cs, rfl, hz⟩ := list_of (fun x hm => pcall_of (hx x hm).2)
  exact ⟨cs, hxs, hz⟩
end Go.Proofs.YtdkilpjebmhkkaaDoor

namespace Go.Proofs.YtdkilpjebmhkkaaDoor
open Go.RowKit

/-! ### what calls make of pages -/
open Classical in
noncomputable def putF (pg : Nat) (s : List ByteArray × (Nat → Pg × Int)) (c : PCall) : List ByteArray × (Nat → Pg × Int) :=
  if refuses s.1 c.rcd = true then s else (s.1 ++ [c.rcd], if 0 ≤ c.id ∧ c.id < pg ∧ PgOk c.pg then upd s.2 c.id.toNat (c.pg, ((54 + lenL s.1 : Nat) : Int)) else s.2)
theorem putF_no {pg : Nat} {s : List ByteArray × (Nat → Pg × Int)} {c : PCall} (h : refuses s.1 c.rcd = true) : putF pg s c = s := by unfold putF; rw [if_pos h]
theorem putF_ok {pg : Nat} {s : List ByteArray × (Nat → Pg × Int)} {c : PCall} (h : refuses s.1 c.rcd = false) (hok : 0 ≤ c.id ∧ c.id < pg ∧ PgOk c.pg) : putF pg s c = (s.1 ++ [c.rcd], upd s.2 c.id.toNat (c.pg, ((54 + lenL s.1 : Nat) : Int))) := by
  unfold putF; rw [if_neg (by rw [h]; decide), if_pos hok]
theorem putF_bad {pg : Nat} {s : List ByteArray × (Nat → Pg × Int)} {c : PCall} (h : refuses s.1 c.rcd = false) (hok : ¬ (0 ≤ c.id ∧ c.id < pg ∧ PgOk c.pg)) : putF pg s c = (s.1 ++ [c.rcd], s.2) := by
  unfold putF; rw [if_neg (by rw [h]; decide), if_neg hok]
noncomputable def runG (f : List ByteArray × (Nat → Pg × Int) → PCall → List ByteArray × (Nat → Pg × Int)) (cs : List PCall) : Nat → List ByteArray × (Nat → Pg × Int)
  | 0 => ([], M0)
  | k + 1 => match cs[k]? with
    | some c => f (runG f cs k) c
    | none => runG f cs k
theorem runG_next {f : List ByteArray × (Nat → Pg × Int) → PCall → List ByteArray × (Nat → Pg × Int)} {cs : List PCall} {k : Nat} {c : PCall} (h : cs[k]? = some c) : runG f cs (k + 1) = f (runG f cs k) c := by
  rw [runG, h]
def getM (pg : Nat) (M : Nat → Pg × Int) (id : Int) : Pg := if 0 ≤ id ∧ id < pg then (M id.toNat).1 else pageZ
theorem getM_in {pg : Nat} {M : Nat → Pg × Int} {id : Int} (h : 0 ≤ id ∧ id < pg) : getM pg M id = (M id.toNat).1 := by unfold getM; rw [if_pos h]
theorem getM_out {pg : Nat} {M : Nat → Pg × Int} {id : Int} (h : id < 0 ∨ (pg : Int) ≤ id) : getM pg M id = pageZ := by unfold getM; rw [if_neg (by omega)]
/-- the zero call -/
def pcZ : PCall := { kind := 0, id := 0, pg := pageZ, rcd := ⟨#[]⟩ }
theorem pcL_cells (c : PCall) : ∀ v ∈ pcL c, v.oneCell' = true := by
  intro v hv
  unfold pcL at hv
  simp only [List.mem_cons, List.mem_append, List.not_mem_nil, or_false] at hv
  rcases hv with rfl | rfl | hv | rfl
  · rfl
  · rfl
  · exact pgC_one _ v hv
  · rfl
/-- a call's own copy -/
theorem pc_at {w : World} {b : Nat} {c : PCall} {T : TypeId} (h : w.heap[b]? = some (.cells (pcL c).toArray T (0, 0))) : w.cell? ⟨b, 0, none⟩ = some (.int .i64 c.kind) ∧ w.cell? ⟨b, 1, none⟩ = some (.int .i64 c.id) ∧ w.rangeAt b 2 (pgC c.pg).toList ∧ w.cell? ⟨b, 18, none⟩ = some (.string c.rcd) := by
  refine ⟨(cell_at h 0).trans rfl, (cell_at h 1).trans rfl, fun j v hj => ?_, (cell_at h 18).trans rfl⟩
  have hjl : j < 16 := (List.getElem?_eq_some_iff.1 hj).1
  rw [cell_at h (2 + j), ← Array.getElem?_toList]
  show (pcL c)[2 + j]? = some v
  unfold pcL
  rw [show 2 + j = j + 1 + 1 by omega, List.getElem?_cons_succ, List.getElem?_cons_succ, List.getElem?_append_left (show j < (pgC c.pg).toList.length from hjl)]
  exact hj
end Go.Proofs.YtdkilpjebmhkkaaDoor
