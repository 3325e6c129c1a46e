import Derived.Test.YtgealllnchpekaaNodeT
import Derived.Test.YtgealllnchpekaaLibD
import Derived.Laws.CopyRow
import Derived.Laws.CopyOwn
import Derived.Deep.RegionHeld
set_option linter.unusedSimpArgs false
set_option linter.unusedVariables false
namespace Go.Proofs.Ytgealllnchpekaa
open Go.RowKit

/-! ### copy, of elements of k cells; a struct that is stored whole -/
theorem run_copy_rowk {P : Program} (w : World) (dT sT ty elem : TypeId) (k g o dLen dCap : Nat) (a : Addr) (sLen sCap : Nat) (cur : Array Value) (t : TypeId) (cs : List Value)
    (hu : P.underlying dT = some (.slice elem)) (hs : (P.info? elem).map (·.size) = some k)
    (hg : w.heap[g]? = some (.cells cur t (0, 0))) (hn : cs.length = Nat.min sLen dLen * k)
    (hsrc : ∀ j v, cs[j]? = some v → w.cell? (a.add j) = some v) (hfit : o + cs.length ≤ cur.size) (h1 : ∀ v ∈ cs, v.oneCell' = true) :
    (Builtin.copy_ #[dT, sT] ty #[.slice (some ⟨g, o, none⟩) dLen dCap, .slice (some a) sLen sCap]).run P w =
      .ok (goInt (Nat.min sLen dLen)) (w.setRow g (cur.toList.take o ++ cs ++ cur.toList.drop (o + cs.length)).toArray) := by
  have hl := run_loadCells_list (P := P) w a cs hsrc
  have hst := run_storeCells_at P g o t cs 0 cur w hg (by simpa using hfit) h1
  cases hq : P.info? elem with
  | none => simp [hq] at hs
  | some i =>
    have hi : i.size = k := by simpa [hq] using hs
    have hn' : (Nat.min sLen dLen) * k = cs.length := hn.symm
    simp [Builtin.copy_, run_underlying hu, Builtin.lenOf, Builtin.firstCells, sizeOf, typeInfo, hq, hi, hn', hl, hst]
theorem step_copy_rowk {P : Program} {ops : Array Oper} {o : Oper} {a : Act} {w : World} {K : Act → World → Prop} {Q : Exit → Act → World → Prop} {E : Prop} (hgd : o.guard = none) (d s : Operand) (dT sT : TypeId)
    (ho : o.op = .call { callee := .builtin .copy, args := #[d, s], argTypes := #[dT, sT] }) (elem : TypeId) (k : Nat) (hu : P.underlying dT = some (.slice elem)) (hsz : (P.info? elem).map (·.size) = some k)
    (g off dLen dCap : Nat) (ad : Addr) (sLen sCap : Nat) (hd : a.eval d = .slice (some ⟨g, off, none⟩) dLen dCap) (hs : a.eval s = .slice (some ad) sLen sCap)
    (cur : Array Value) (t : TypeId) (hg : w.heap[g]? = some (.cells cur t (0, 0))) (cs : List Value) (hn : cs.length = Nat.min sLen dLen * k)
    (hsrc : ∀ j v, cs[j]? = some v → w.cell? (ad.add j) = some v) (hfit : off + cs.length ≤ cur.size) (h1 : ∀ v ∈ cs, v.oneCell' = true)
    (h : ∀ w', Hid (w'.heap[g]? = some (.cells (cur.toList.take off ++ cs ++ cur.toList.drop (off + cs.length)).toArray t (0, 0))) → Hid (Keeps (· = g) w w') → K (a.put o.dst (goInt (Nat.min sLen dLen))) w') :
    if Region.wanted o (yielded ops a.tmps) = true then Oper.wp P o a w K Q else E := by
  have hw : Region.wanted o (yielded ops a.tmps) = true := by simp [Region.wanted, hgd]
  rw [if_pos hw]
  have hrun := run_copy_rowk (P := P) w dT sT o.type elem k g off dLen dCap ad sLen sCap cur t cs hu hsz hg hn hsrc hfit h1
  unfold Oper.wp execOp
  simp only [ho, resolve, invoke, builtin, Sem.run_bind, Sem.run_pure, Result.andThen_ok, List.map_toArray, List.map_cons, List.map_nil, hd, hs, hrun]
  exact h _ (setRow_heap w g _ _ t _ hg) ⟨rfl, rfl, rfl, by simp, fun j _ hj => setRow_other w g j _ hj⟩
theorem run_storeVar_whole {P : Program} (w : World) (g : Nat) (t ty : TypeId) (cur C : Array Value) (hg : w.heap[g]? = some (.cells cur t (0, 0))) (hsz : cur.size = C.size)
    (hi : (P.info? ty).map (·.size) = some C.size) (h1 : ∀ v ∈ C.toList, v.oneCell' = true) : (storeVar ty ⟨g, 0, none⟩ (.agg C)).run P w = .ok () (w.setRow g C) := by
  have hst := run_storeCells_at P g 0 t C.toList 0 cur w hg (by simp [hsz]) h1
  have e : (cur.toList.take (0 + 0) ++ C.toList ++ cur.toList.drop (0 + 0 + C.toList.length)).toArray = C := by
    rw [List.drop_of_length_le (by simp [hsz])]
    simp
  rw [e] at hst
  cases hq : P.info? ty with
  | none => simp [hq] at hi
  | some i =>
    have hs : C.size = i.size := by simp [hq] at hi; omega
    simp [storeVar, sizeOf, typeInfo, hq, Value.cells, hs, hst]
theorem wpList_store_whole {P : Program} {ops : Array Oper} {rest : List Oper} {o : Oper} {a : Act} {w : World} {Q : Exit → Act → World → Prop} (hgd : o.guard = none) (ty : TypeId) (x y : Operand) (ho : o.op = .store ty x y)
    (g : Nat) (C : Array Value) (hx : a.eval x = .pointer (some ⟨g, 0, none⟩)) (hy : a.eval y = .agg C) (t : TypeId) (cur : Array Value) (hg : w.heap[g]? = some (.cells cur t (0, 0))) (hsz : cur.size = C.size)
    (hi : (P.info? ty).map (·.size) = some C.size) (h1 : ∀ v ∈ C.toList, v.oneCell' = true)
    (h : ∀ w', Hid (w'.heap[g]? = some (.cells C t (0, 0))) → Hid (Keeps (· = g) w w') → wpList P ops Q rest (a.put o.dst undef) w') : wpList P ops Q (o :: rest) a w :=
  wpList_plain hgd fun K hK => by
    unfold Oper.wp execOp
    simp only [ho, hx, hy, Instr.storeAt, Instr.sureAddr, Sem.run_bind, Sem.run_pure, Result.andThen_ok, run_storeVar_whole w g t ty cur C hg hsz hi h1]
    exact hK _ _ (h _ (setRow_heap w g _ _ t _ hg) ⟨rfl, rfl, rfl, by simp, fun j _ hj => setRow_other w g j _ hj⟩)
theorem pgC_one (P : Pg) : ∀ v ∈ (pgC P).toList, v.oneCell' = true := by
  intro v hv
  simp only [pgC, List.mem_cons, List.not_mem_nil, or_false] at hv
  rcases hv with h | h | h | h | h | h | h | h | h | h | h | h | h | h | h | h <;> (rw [h]; rfl)

theorem Try.info_cellz : (Try.prog.info? 23).map (·.size) = some 2 := by kernel_rfl
theorem yieldsIf_slice {P : Program} {ops : Array Oper} {S : World → Prop} {oi : Oper} {a : Act} (hw : Region.wanted oi (yielded ops a.tmps) = true) (t : TypeId) (x lo hi : Operand) (ho : oi.op = .slice t x (some lo) (some hi) none)
    (X L H V : Value) (hx : a.eval x = X) (hl : a.eval lo = L) (hh : a.eval hi = H) (hrun : ∀ w, (Instr.sliceAt t X (some L) (some H) none).run P w = .ok V w) : YieldsIf P ops S oi V a :=
  .inl ⟨hw, fun w _ => by
    unfold execOp
    simp only [ho, Option.map_some, Option.map_none, hx, hl, hh, Sem.run_bind, Sem.run_pure, hrun, Result.andThen_ok]⟩
theorem Try.elem_cells : Try.prog.elem 24 = 23 := by kernel_rfl
theorem Try.len_cells : Try.prog.arrayLen 24 = 6 := by kernel_rfl
theorem run_slice_pg (b l h : Nat) (hl : l ≤ h) (hh : h ≤ 6) (w : World) : (Instr.sliceAt 24 (.pointer (some ⟨b, 4, none⟩)) (some (.int .i64 (l : Int))) (some (.int .i64 (h : Int))) none).run Try.prog w =
    .ok (.slice (some ⟨b, if l = 6 then 4 else 4 + l * 2, none⟩) (h - l) (6 - l)) w := by
  have hu : Try.prog.underlying 24 = some (.array (Try.prog.arrayLen 24) (Try.prog.elem 24)) := by rw [Try.elem_cells, Try.len_cells]; exact Try.underlying24
  rw [run_sliceAt_array_lh (P := Try.prog) (ht := hu) (h0 := by omega) (h1 := by omega) (h2 := by rw [Try.len_cells]; omega)]
  rw [Try.elem_cells, Try.len_cells]
  have hs : (sizeOf 23).run Try.prog w = .ok 2 w := by
    have := Try.info_cellz
    cases hq : Try.prog.info? 23 with
    | none => simp [hq] at this
    | some i =>
      have hi : i.size = 2 := by simpa [hq] using this
      simp [sizeOf, typeInfo, hq, hi]
  rw [hs]
  simp only [Result.andThen_ok, slicedAt, Int.toNat_natCast]
  by_cases h6 : l = 6
  · subst h6; simp
  · rw [if_neg (fun e => h6 e.symm), if_neg h6, show (⟨b, 4, none⟩ : Addr).add (l * 2) = ⟨b, 4 + l * 2, none⟩ by unfold Addr.add; split <;> simp_all]
/-! ### a cell more, a cell less -/
def segL (P : Pg) : Nat → Nat → List Value
  | _, 0 => []
  | i, m + 1 => .int .i64 (P.st i) :: .string (P.dt i) :: segL P (i + 1) m
theorem segL_length (P : Pg) : ∀ m i, (segL P i m).length = m * 2
  | 0, _ => rfl
  | m + 1, i => by rw [segL, List.length_cons, List.length_cons, segL_length P m]; omega
theorem segL_one (P : Pg) : ∀ m i, ∀ v ∈ segL P i m, v.oneCell' = true
  | 0, _ => fun v h => by cases h
  | m + 1, i => fun v h => by
    rw [segL] at h
    rcases List.mem_cons.1 h with rfl | h
    · rfl
    rcases List.mem_cons.1 h with rfl | h
    · rfl
    exact segL_one P m _ v h
theorem segL_get (P : Pg) : ∀ m i j, j < m → (segL P i m)[j * 2]? = some (.int .i64 (P.st (i + j))) ∧ (segL P i m)[j * 2 + 1]? = some (.string (P.dt (i + j)))
  | 0, i, j, h => by omega
  | m + 1, i, 0, _ => ⟨rfl, rfl⟩
  | m + 1, i, j + 1, h => by
    have := segL_get P m (i + 1) j (by omega)
    rw [show i + 1 + j = i + (j + 1) by omega] at this
    rw [segL, show (j + 1) * 2 = j * 2 + 2 by omega]
    exact this
theorem segL_src {w : World} {b : Nat} {P : Pg} {T : TypeId} {f : Nat × Nat} (h : w.heap[b]? = some (.cells (pgC P) T f)) (i m : Nat) (him : i + m ≤ 6) :
    ∀ j v, (segL P i m)[j]? = some v → w.cell? ((⟨b, 4 + i * 2, none⟩ : Addr).add j) = some v := by
  intro j v hj
  have hlt : j < m * 2 := by rw [← segL_length P m i]; exact (List.getElem?_eq_some_iff.1 hj).1
  have e : (⟨b, 4 + i * 2, none⟩ : Addr).add j = ⟨b, 4 + i * 2 + j, none⟩ := by unfold Addr.add; split <;> simp_all
  rw [e]
  obtain ⟨k, hk | hk⟩ : ∃ k, j = k * 2 ∨ j = k * 2 + 1 := ⟨j / 2, by omega⟩
  · subst hk
    rw [(segL_get P m i k (by omega)).1] at hj
    rw [← hj, show 4 + i * 2 + k * 2 = 4 + (i + k) * 2 by omega]
    exact (pg_at h (i + k) (by omega)).1
  · subst hk
    rw [(segL_get P m i k (by omega)).2] at hj
    rw [← hj, show 4 + i * 2 + (k * 2 + 1) = 4 + (i + k) * 2 + 1 by omega]
    exact (pg_at h (i + k) (by omega)).2
theorem segL_src' {w : World} {b : Nat} {P : Pg} {T : TypeId} {f : Nat × Nat} (h : w.heap[b]? = some (.cells (pgC P) T f)) (i m : Nat) (him : i + m ≤ 6) :
    ∀ j v, (segL P i m)[j]? = some v → w.cell? ((⟨b, if i = 6 then 4 else 4 + i * 2, none⟩ : Addr).add j) = some v := by
  by_cases h6 : i = 6
  · obtain rfl : m = 0 := by omega
    intro j v hj
    simp [segL] at hj
  · rw [if_neg h6]
    exact segL_src h i m him
def putPg (P : Pg) (i n : Nat) (s : Int) (d : ByteArray) : Pg :=
  { P with st := fun j => if j < i then P.st j else if j = i then s else if j ≤ n then P.st (j - 1) else P.st j, dt := fun j => if j < i then P.dt j else if j = i then d else if j ≤ n then P.dt (j - 1) else P.dt j }
theorem put_cells (P : Pg) (i n : Nat) (s : Int) (d : ByteArray) (hi : i ≤ n) (hn : n < 6) :
    (((((pgC P).toList.take (4 + (i + 1) * 2) ++ segL P i (n - i) ++ (pgC P).toList.drop (4 + (i + 1) * 2 + (segL P i (n - i)).length)).toArray).setIfInBounds (4 + i * 2) (.int .i64 s)).setIfInBounds (4 + i * 2 + 1) (.string d)) = pgC (putPg P i n s d) := by
  rw [segL_length]
  match n, hn, i, hi with
  | 0, _, 0, _ => rfl
  | 1, _, 0, _ => rfl
  | 1, _, 1, _ => rfl
  | 2, _, 0, _ => rfl
  | 2, _, 1, _ => rfl
  | 2, _, 2, _ => rfl
  | 3, _, 0, _ => rfl
  | 3, _, 1, _ => rfl
  | 3, _, 2, _ => rfl
  | 3, _, 3, _ => rfl
  | 4, _, 0, _ => rfl
  | 4, _, 1, _ => rfl
  | 4, _, 2, _ => rfl
  | 4, _, 3, _ => rfl
  | 4, _, 4, _ => rfl
  | 5, _, 0, _ => rfl
  | 5, _, 1, _ => rfl
  | 5, _, 2, _ => rfl
  | 5, _, 3, _ => rfl
  | 5, _, 4, _ => rfl
  | 5, _, 5, _ => rfl
theorem put_cells' (P : Pg) (i n : Nat) (s : Int) (d : ByteArray) (hi : i ≤ n) (hn : n < 6) :
    (((((pgC P).toList.take (if i + 1 = 6 then 4 else 4 + (i + 1) * 2) ++ segL P i (n - i) ++ (pgC P).toList.drop ((if i + 1 = 6 then 4 else 4 + (i + 1) * 2) + (segL P i (n - i)).length)).toArray).setIfInBounds (4 + i * 2) (.int .i64 s)).setIfInBounds (4 + i * 2 + 1) (.string d)) = pgC (putPg P i n s d) := by
  by_cases h : i + 1 = 6
  · obtain rfl : i = 5 := by omega
    obtain rfl : n = 5 := by omega
    rfl
  · rw [if_neg h]
    exact put_cells P i n s d hi hn
def takePg (P : Pg) (i n : Nat) : Pg :=
  { P with st := fun j => if j < i then P.st j else if j + 1 < n then P.st (j + 1) else if j < n then 0 else P.st j, dt := fun j => if j < i then P.dt j else if j + 1 < n then P.dt (j + 1) else if j < n then ⟨#[]⟩ else P.dt j }
theorem take_cells (P : Pg) (i n : Nat) (hi : i < n) (hn : n ≤ 6) :
    (((((pgC P).toList.take (4 + i * 2) ++ segL P (i + 1) (n - 1 - i) ++ (pgC P).toList.drop (4 + i * 2 + (segL P (i + 1) (n - 1 - i)).length)).toArray).setIfInBounds (4 + (n - 1) * 2) (.int .i64 0)).setIfInBounds (4 + (n - 1) * 2 + 1) (.string ⟨#[]⟩)) = pgC (takePg P i n) := by
  rw [segL_length]
  match n, hn, i, hi with
  | 1, _, 0, _ => rfl
  | 2, _, 0, _ => rfl
  | 2, _, 1, _ => rfl
  | 3, _, 0, _ => rfl
  | 3, _, 1, _ => rfl
  | 3, _, 2, _ => rfl
  | 4, _, 0, _ => rfl
  | 4, _, 1, _ => rfl
  | 4, _, 2, _ => rfl
  | 4, _, 3, _ => rfl
  | 5, _, 0, _ => rfl
  | 5, _, 1, _ => rfl
  | 5, _, 2, _ => rfl
  | 5, _, 3, _ => rfl
  | 5, _, 4, _ => rfl
  | 6, _, 0, _ => rfl
  | 6, _, 1, _ => rfl
  | 6, _, 2, _ => rfl
  | 6, _, 3, _ => rfl
  | 6, _, 4, _ => rfl
  | 6, _, 5, _ => rfl
end Go.Proofs.Ytgealllnchpekaa
