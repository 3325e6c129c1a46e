import Derived.Test.YtgealllnchpekaaNodeZ
import Derived.Deep.MidRow
set_option linter.unusedSimpArgs false
set_option linter.unusedVariables false
namespace Go.Proofs.Ytgealllnchpekaa
open Go.RowKit

theorem range_of0 {w : World} {b : Nat} {C : Array Value} {T : TypeId} {f : Nat × Nat} (h : w.heap[b]? = some (.cells C T f)) : w.rangeAt b 0 C.toList := fun j v hv => by
  rw [Nat.zero_add, cell_at h]
  simpa using hv
theorem step_store_whole {P : Program} {ops : Array Oper} {o : Oper} {a : Act} {w : World} {K : Act → World → Prop} {Q : Exit → Act → World → Prop} {E : Prop} (hgd : o.guard = none) (ty : TypeId) (x y : Operand) (ho : o.op = .store ty x y)
    (g : Nat) (C : Array Value) (hx : a.eval x = .pointer (some ⟨g, 0, none⟩)) (hy : a.eval y = .agg C) (t : TypeId) (cur : Array Value) (hg : w.heap[g]? = some (.cells cur t (0, 0))) (hsz : cur.size = C.size)
    (hi : (P.info? ty).map (·.size) = some C.size) (h1 : ∀ v ∈ C.toList, v.oneCell' = true)
    (h : ∀ w', Hid (w'.heap[g]? = some (.cells C t (0, 0))) → Hid (Keeps (· = g) w w') → K (a.put o.dst undef) w') : if Region.wanted o (yielded ops a.tmps) = true then Oper.wp P o a w K Q else E := by
  have hw : Region.wanted o (yielded ops a.tmps) = true := by simp [Region.wanted, hgd]
  rw [if_pos hw]
  unfold Oper.wp execOp
  simp only [ho, hx, hy, Instr.storeAt, Instr.sureAddr, Sem.run_bind, Sem.run_pure, Result.andThen_ok, run_storeVar_whole w g t ty cur C hg hsz hi h1]
  exact h _ (setRow_heap w g _ _ t _ hg) ⟨rfl, rfl, rfl, by simp, fun j _ hj => setRow_other w g j _ hj⟩
theorem run_storeVar_part {P : Program} (w : World) (g o : Nat) (t ty : TypeId) (cur C : Array Value) (hg : w.heap[g]? = some (.cells cur t (0, 0))) (hsz : o + C.size ≤ cur.size)
    (hi : (P.info? ty).map (·.size) = some C.size) (h1 : ∀ v ∈ C.toList, v.oneCell' = true) : (storeVar ty ⟨g, o, none⟩ (.agg C)).run P w = .ok () (w.setRow g (cur.toList.take o ++ C.toList ++ cur.toList.drop (o + C.size)).toArray) := by
  have hst := run_storeCells_at P g o t C.toList 0 cur w hg (by simpa using hsz) h1
  cases hq : P.info? ty with
  | none => simp [hq] at hi
  | some i =>
    have hs : C.size = i.size := by simp [hq] at hi; omega
    simp only [Nat.add_zero, Array.length_toList] at hst
    simp [storeVar, sizeOf, typeInfo, hq, Value.cells, hs, hst]
theorem wpList_store_part {P : Program} {ops : Array Oper} {rest : List Oper} {o : Oper} {a : Act} {w : World} {Q : Exit → Act → World → Prop} (hgd : o.guard = none) (ty : TypeId) (x y : Operand) (ho : o.op = .store ty x y)
    (g off : Nat) (C : Array Value) (hx : a.eval x = .pointer (some ⟨g, off, none⟩)) (hy : a.eval y = .agg C) (t : TypeId) (cur : Array Value) (hg : w.heap[g]? = some (.cells cur t (0, 0))) (hsz : off + C.size ≤ cur.size)
    (hi : (P.info? ty).map (·.size) = some C.size) (h1 : ∀ v ∈ C.toList, v.oneCell' = true)
    (h : ∀ w', Hid (w'.heap[g]? = some (.cells (cur.toList.take off ++ C.toList ++ cur.toList.drop (off + C.size)).toArray t (0, 0))) → Hid (Keeps (· = g) w w') → wpList P ops Q rest (a.put o.dst undef) w') : wpList P ops Q (o :: rest) a w :=
  wpList_plain hgd fun K hK => by
    unfold Oper.wp execOp
    simp only [ho, hx, hy, Instr.storeAt, Instr.sureAddr, Sem.run_bind, Sem.run_pure, Result.andThen_ok, run_storeVar_part w g off t ty cur C hg hsz hi h1]
    exact hK _ _ (h _ (setRow_heap w g _ _ t _ hg) ⟨rfl, rfl, rfl, by simp, fun j _ hj => setRow_other w g j _ hj⟩)
theorem results_two_rows {P : Program} {fn : Func} {p q k l : Tmp} {ty : TypeId} (h : fn.results = #[.cell p ty, .cell q ty, .tmp k, .tmp l]) (tmps : Array Value) (w : World) (g g' : Nat) (t : TypeId) (cs cs' : Array Value) (fr : Nat × Nat) (d : TypeDesc)
    (hp : tmps.getD p undef = .pointer (some ⟨g, 0, none⟩)) (hg : w.heap[g]? = some (.cells cs t fr)) (hq : tmps.getD q undef = .pointer (some ⟨g', 0, none⟩)) (hg' : w.heap[g']? = some (.cells cs' t fr))
    (hu : P.underlying ty = some d) (hd : (match d with | .struct _ | .array _ _ => true | _ => false) = true) (hi : (P.info? ty).map (·.size) = some cs.size) (hi' : (P.info? ty).map (·.size) = some cs'.size) :
    (results fn tmps).run P w = .ok (.tuple #[.agg cs, .agg cs', tmps.getD k undef, tmps.getD l undef]) w := by
  have hp' : tmps[p]?.getD undef = .pointer (some ⟨g, 0, none⟩) := by simpa using hp
  have hq' : tmps[q]?.getD undef = .pointer (some ⟨g', 0, none⟩) := by simpa using hq
  simp [results, h, hp', hq', asAddr, run_loadVar_row w g t ty cs fr d hg hu hd hi, run_loadVar_row w g' t ty cs' fr d hg' hu hd hi']

/-! ### both halves -/
def lowPg (P : Pg) (h : Nat) : Pg := { P with st := fun j => if j < h then P.st j else 0, dt := fun j => if j < h then P.dt j else ⟨#[]⟩ }
def highPg (P : Pg) (h n : Nat) : Pg := { P with st := fun j => if h + j < n then P.st (h + j) else 0, dt := fun j => if h + j < n then P.dt (h + j) else ⟨#[]⟩ }
def highKey (P : Pg) (h n : Nat) (d : ByteArray) : Pg := { highPg P h n with dt := fun j => if j = 0 then d else (highPg P h n).dt j }
def zeroA : Array Value := #[.int .i64 0, .string ⟨#[]⟩, .int .i64 0, .string ⟨#[]⟩, .int .i64 0, .string ⟨#[]⟩, .int .i64 0, .string ⟨#[]⟩, .int .i64 0, .string ⟨#[]⟩, .int .i64 0, .string ⟨#[]⟩]
theorem zeroA_one : ∀ v ∈ zeroA.toList, v.oneCell' = true := by
  intro v hv
  simp only [zeroA, List.mem_cons, List.not_mem_nil, or_false] at hv
  rcases hv with h | h | h | h | h | h | h | h | h | h | h | h <;> (rw [h]; rfl)
def emptyPg (P : Pg) : Pg := { P with st := fun _ => 0, dt := fun _ => ⟨#[]⟩ }
theorem empty_cells (P : Pg) : ((pgC P).toList.take 4 ++ zeroA.toList ++ (pgC P).toList.drop (4 + zeroA.size)).toArray = pgC (emptyPg P) := rfl
theorem high_cells (P : Pg) (h n : Nat) (hh : h ≤ n) (hn : n ≤ 6) (h1 : 1 ≤ h) :
    ((pgC (emptyPg P)).toList.take 4 ++ segL P h (n - h) ++ (pgC (emptyPg P)).toList.drop (4 + (segL P h (n - h)).length)).toArray = pgC (highPg P h n) := by
  rw [segL_length]
  match n, hn, h, hh, h1 with
  | 0, _, h, hh, h1 => omega
  | 1, _, 1, _, _ => rfl
  | 2, _, 1, _, _ => rfl
  | 2, _, 2, _, _ => rfl
  | 3, _, 1, _, _ => rfl
  | 3, _, 2, _, _ => rfl
  | 3, _, 3, _, _ => rfl
  | 4, _, 1, _, _ => rfl
  | 4, _, 2, _, _ => rfl
  | 4, _, 3, _, _ => rfl
  | 4, _, 4, _, _ => rfl
  | 5, _, 1, _, _ => rfl
  | 5, _, 2, _, _ => rfl
  | 5, _, 3, _, _ => rfl
  | 5, _, 4, _, _ => rfl
  | 5, _, 5, _, _ => rfl
  | 6, _, 1, _, _ => rfl
  | 6, _, 2, _, _ => rfl
  | 6, _, 3, _, _ => rfl
  | 6, _, 4, _, _ => rfl
  | 6, _, 5, _, _ => rfl
  | 6, _, 6, _, _ => rfl
theorem key_cells (P : Pg) (h n : Nat) (d : ByteArray) : (pgC (highPg P h n)).setIfInBounds 5 (.string d) = pgC (highKey P h n d) := rfl
/-- cells from h to k gone -/
def cutPg (P : Pg) (h k : Nat) : Pg := { P with st := fun j => if h ≤ j ∧ j < k then 0 else P.st j, dt := fun j => if h ≤ j ∧ j < k then ⟨#[]⟩ else P.dt j }
theorem cut_start (P : Pg) (h : Nat) : pgC (cutPg P h h) = pgC P := by
  have : ∀ j, ¬ (h ≤ j ∧ j < h) := fun j => by omega
  simp [pgC, cutPg, this]
theorem cut_next (P : Pg) (h k : Nat) (hk : h ≤ k) (h6 : k < 6) : ((pgC (cutPg P h k)).setIfInBounds (4 + k * 2) (.int .i64 0)).setIfInBounds (4 + k * 2 + 1) (.string ⟨#[]⟩) = pgC (cutPg P h (k + 1)) := by
  have e : ∀ j, j ≠ k → ((h ≤ j ∧ j < k) ↔ (h ≤ j ∧ j < k + 1)) := fun j hj => by omega
  match k, h6, hk with
  | 0, _, hk => simp [pgC, cutPg, hk]
  | 1, _, hk => simp [pgC, cutPg, hk]
  | 2, _, hk => simp [pgC, cutPg, hk]
  | 3, _, hk => simp [pgC, cutPg, hk]
  | 4, _, hk => simp [pgC, cutPg, hk]
  | 5, _, hk => simp [pgC, cutPg, hk]
theorem cut_low (P : Pg) (h : Nat) : pgC (cutPg P h 6) = pgC (lowPg P h) := by
  have es : ∀ j, j < 6 → (cutPg P h 6).st j = (lowPg P h).st j := fun j hj => by
    simp only [cutPg, lowPg]
    by_cases c : j < h
    · rw [if_neg (by omega), if_pos c]
    · rw [if_pos (by omega), if_neg c]
  have ed : ∀ j, j < 6 → (cutPg P h 6).dt j = (lowPg P h).dt j := fun j hj => by
    simp only [cutPg, lowPg]
    by_cases c : j < h
    · rw [if_neg (by omega), if_pos c]
    · rw [if_pos (by omega), if_neg c]
  unfold pgC
  rw [es 0 (by omega), es 1 (by omega), es 2 (by omega), es 3 (by omega), es 4 (by omega), es 5 (by omega), ed 0 (by omega), ed 1 (by omega), ed 2 (by omega), ed 3 (by omega), ed 4 (by omega), ed 5 (by omega)]
  rfl
end Go.Proofs.Ytgealllnchpekaa
