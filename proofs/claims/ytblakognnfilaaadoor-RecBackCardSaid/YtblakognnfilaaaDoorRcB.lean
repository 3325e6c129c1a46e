import Derived.Test.YtblakognnfilaaaDoorRcA
import Derived.Test.YtblakognnfilaaaDoorSkip
import Derived.Test.YtblakognnfilaaaDoorLibF
import Derived.Deep.MidRow
set_option linter.unusedSimpArgs false
set_option linter.unusedVariables false
namespace Go.Proofs.YtblakognnfilaaaDoor
open Go.RowKit

/-! ### a record in memory -/
def imL (x : Int × Pg) : List Value := .int .i64 x.1 :: (pgC x.2).toList
def imA (x : Int × Pg) : Array Value := (imL x).toArray
def lvL (x : Int × Int × Int) : List Value := [.int .i64 x.1, .int .i64 x.2.1, .int .i64 x.2.2]
def rcC (R : Rc) (iv lv : Value) : Array Value := #[.int .i64 R.kind, .int .i64 R.xct, .int .i64 R.prev, .int .i64 R.next, .int .i64 R.uk, .int .i64 R.us, .int .i64 R.up, .int .i64 R.ul, .string R.key, .int .i64 R.bs, .string R.bd, iv, lv, .int .i64 R.fresh]
def RcSl (w : World) (R : Rc) (iv lv : Value) : Prop := Sl w iv 17 (R.ims.map imL) ∧ Sl w lv 3 (R.lvs.map lvL) ∧ R.key.size ≤ maxLen ∧ R.bd.size ≤ maxLen ∧ ∀ x ∈ R.ims, ∀ i, i < 6 → (x.2.dt i).size ≤ maxLen
theorem RcSl.later {w w' : World} {R : Rc} {iv lv : Value} (h : RcSl w R iv lv) (hb : Below w.heap.size w w') : RcSl w' R iv lv := ⟨h.1.later hb, h.2.1.later hb, h.2.2⟩
theorem imA_one (x : Int × Pg) : ∀ v ∈ (imA x).toList, v.oneCell' = true := by
  intro v hv
  simp only [imA, imL, List.toList_toArray, List.mem_cons] at hv
  rcases hv with rfl | h
  · rfl
  · exact pgC_one _ v h
/-- a slice of structs, its address opened -/
def SlAt (w : World) (a : Option Addr) (n : Nat) (xs : List (List Value)) : Prop := xs ≠ [] → ∃ b off, a = some ⟨b, off, none⟩ ∧ b < w.heap.size ∧ ∀ i, i < xs.length → ∀ j, j < n → w.cell? ⟨b, off + i * n + j, none⟩ = (xs[i]?.getD [])[j]?
theorem sl_open {w : World} {v : Value} {n : Nat} {xs : List (List Value)} (h : Sl w v n xs) : ∃ (a : Option Addr) (m cap : Nat), v = .slice a m cap ∧ m = xs.length ∧ m ≤ maxLen ∧ SlAt w a n xs := by
  obtain ⟨a, cap, h1, h2, h3⟩ := h
  exact ⟨a, _, cap, h1, rfl, h2, h3⟩
theorem SlAt.later {w w' : World} {a : Option Addr} {n : Nat} {xs : List (List Value)} (h : SlAt w a n xs) (hb : Below w.heap.size w w') : SlAt w' a n xs := fun hne => by
  obtain ⟨b, off, ha, hbk, hc⟩ := h hne
  exact ⟨b, off, ha, Nat.lt_of_lt_of_le hbk hb.size, fun i hi j hj => (hb.cell (p := ⟨b, off + i * n + j, none⟩) hbk).trans (hc i hi j hj)⟩
/-- one element of it -/
theorem SlAt.elem {α : Type} {f : α → List Value} {n : Nat} (hf : ∀ x, (f x).length = n) {w : World} {a : Option Addr} {l : List α} (h : SlAt w a n (l.map f)) {k : Nat} (hk : k < l.length) : ∃ b off, a = some ⟨b, off, none⟩ ∧ b < w.heap.size ∧ w.rangeAt b (off + k * n) (f l[k]) := by
  obtain ⟨b, off, ha, hb, hc⟩ := h (fun e => by have := congrArg List.length e; rw [List.length_map, List.length_nil] at this; omega)
  refine ⟨b, off, ha, hb, fun j v hv => ?_⟩
  have hj : j < n := by
    have := (List.getElem?_eq_some_iff.1 hv).1
    rw [hf] at this; exact this
  rw [hc k (by simpa using hk) j hj, List.getElem?_map, List.getElem?_eq_getElem hk]
  exact hv
theorem imL_length (x : Int × Pg) : (imL x).length = 17 := rfl
theorem lvL_length (x : Int × Int × Int) : (lvL x).length = 3 := rfl
theorem wpList_load_mid_want {P : Program} {ops : Array Oper} {rest : List Oper} {op : Oper} {a : Act} {w : World} {Q : Exit → Act → World → Prop} (hw : Region.wanted op (yielded ops a.tmps) = true) (ty : TypeId) (x : Operand) (ho : op.op = .load ty x)
    (b o : Nat) (hx : a.eval x = .pointer (some ⟨b, o, none⟩)) (cs : List Value) (d : TypeDesc) (hc : w.rangeAt b o cs)
    (hu : P.underlying ty = some d) (hd : d.isRow = true) (hi : (P.info? ty).map (·.size) = some cs.length)
    (h : wpList P ops Q rest (a.put op.dst (.agg cs.toArray)) w) : wpList P ops Q (op :: rest) a w :=
  wpList_want hw fun _ hK => wp_load_mid ty x ho b o hx cs d hc hu hd hi (hK _ _ h)
theorem im_page {w : World} {g : Nat} {x : Int × Pg} {T : TypeId} {f : Nat × Nat} (h : w.heap[g]? = some (.cells (imA x) T f)) : w.rangeAt g 1 (pgC x.2).toList := World.rangeAt_of_block h 1 16
theorem im_take {R : Rc} {k : Nat} (hk : k < R.ims.length) (h : ∀ x ∈ R.ims.take k, ImOk x) (hx : ImOk R.ims[k]) : ∀ x ∈ R.ims.take (k + 1), ImOk x := by
  intro x hm
  rw [List.take_succ_eq_append_getElem hk, List.mem_append, List.mem_singleton] at hm
  rcases hm with hm | rfl
  · exact h x hm
  · exact hx
theorem lv_take {R : Rc} {k : Nat} (hk : k < R.lvs.length) (h : ∀ x ∈ R.lvs.take k, LvOk x) (hx : LvOk R.lvs[k]) : ∀ x ∈ R.lvs.take (k + 1), LvOk x := by
  intro x hm
  rw [List.take_succ_eq_append_getElem hk, List.mem_append, List.mem_singleton] at hm
  rcases hm with hm | rfl
  · exact h x hm
  · exact hx
def wrongB (n m : Int) : Bool := decide (n < 0) || decide (m < n)
theorem wrong_iff (n m : Int) : wrongB n m = false ↔ inR n m := by
  unfold wrongB inR; simp
theorem wrong_yes {n m : Int} (h : wrongB n m = true) : ¬ inR n m := fun hh => by rw [(wrong_iff n m).2 hh] at h; cases h
theorem rc_wrong (n m : Int) (w : World) : Calls Tryd.prog 26 #[.int .i64 n, .int .i64 m] w fun e w' => e = .returned (.bool (wrongB n m)) ∧ w = w' := by
  by_cases h : n < 0
  · have e : wrongB n m = true := by unfold wrongB; simp [h]
    rw [e]
    clear e
    go_enter Tryd.func26, Tryd.ntmps26
    go_wp2_with fail
    go_ret
    exact ⟨rfl, rfl⟩
  · have e : wrongB n m = decide (m < n) := by unfold wrongB; simp [h]
    rw [e]
    clear e
    by_cases h2 : m < n
    · rw [decide_eq_true h2]
      go_enter Tryd.func26, Tryd.ntmps26
      go_wp2_with fail
      go_ret
      exact ⟨rfl, rfl⟩
    · rw [decide_eq_false h2]
      go_enter Tryd.func26, Tryd.ntmps26
      go_wp2_with fail
      go_ret
      exact ⟨rfl, rfl⟩
theorem rc_in (n m : Int) (w : World) : Calls Tryd.prog 28 #[.int .i64 n, .int .i64 m] w fun e w' => e = .returned (.bool (!wrongB n m)) ∧ w = w' := by
  by_cases h : n < 0
  · have e : wrongB n m = true := by unfold wrongB; simp [h]
    rw [e]
    clear e
    go_enter Tryd.func28, Tryd.ntmps28
    go_wp2_with fail
    go_ret
    exact ⟨rfl, rfl⟩
  · have h' : 0 ≤ n := by omega
    have e : wrongB n m = decide (m < n) := by unfold wrongB; simp [h]
    rw [e]
    clear e
    by_cases h2 : m < n
    · rw [decide_eq_true h2]
      have h3 : ¬ n ≤ m := by omega
      go_enter Tryd.func28, Tryd.ntmps28
      go_wp2_with fail
      go_ret
      exact ⟨rfl, rfl⟩
    · rw [decide_eq_false h2]
      have h3 : n ≤ m := by omega
      go_enter Tryd.func28, Tryd.ntmps28
      go_wp2_with fail
      go_ret
      exact ⟨rfl, rfl⟩
end Go.Proofs.YtblakognnfilaaaDoor
