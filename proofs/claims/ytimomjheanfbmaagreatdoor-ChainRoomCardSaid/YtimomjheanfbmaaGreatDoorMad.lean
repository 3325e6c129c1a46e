import Derived.Test.YtimomjheanfbmaaGreatDoorMaa
import Derived.Test.YtimomjheanfbmaaGreatDoorMac
import Derived.Laws.StructEq
import Derived.Deep.MidRow
set_option linter.unusedSimpArgs false
set_option linter.unusedVariables false
namespace Go.Proofs.YtimomjheanfbmaaGreatDoor
open Go.RowKit

/-! ### pages -/
structure Pg where
  kind : Int
  level : Int
  store : Int
  next : Int
  st : Nat → Int
  dt : Nat → ByteArray
def pgC (P : Pg) : Array Value := #[.int .i64 P.kind, .int .i64 P.level, .int .i64 P.store, .int .i64 P.next, .int .i64 (P.st 0), .string (P.dt 0), .int .i64 (P.st 1), .string (P.dt 1), .int .i64 (P.st 2), .string (P.dt 2),
  .int .i64 (P.st 3), .string (P.dt 3), .int .i64 (P.st 4), .string (P.dt 4), .int .i64 (P.st 5), .string (P.dt 5)]
def pgV (P : Pg) : Value := .agg (pgC P)
theorem pg_at {w : World} {b : Nat} {P : Pg} {T : TypeId} {f : Nat × Nat} (h : w.heap[b]? = some (.cells (pgC P) T f)) (i : Nat) (hi : i < 6) :
    w.cell? ⟨b, 4 + i * 2, none⟩ = some (.int .i64 (P.st i)) ∧ w.cell? ⟨b, 4 + i * 2 + 1, none⟩ = some (.string (P.dt i)) := by
  rw [cell_at h, cell_at h]
  match i, hi with
  | 0, _ => exact ⟨rfl, rfl⟩
  | 1, _ => exact ⟨rfl, rfl⟩
  | 2, _ => exact ⟨rfl, rfl⟩
  | 3, _ => exact ⟨rfl, rfl⟩
  | 4, _ => exact ⟨rfl, rfl⟩
  | 5, _ => exact ⟨rfl, rfl⟩
def pgA (P : Pg) : Array Value := #[.int .i64 (P.st 0), .string (P.dt 0), .int .i64 (P.st 1), .string (P.dt 1), .int .i64 (P.st 2), .string (P.dt 2), .int .i64 (P.st 3), .string (P.dt 3), .int .i64 (P.st 4), .string (P.dt 4), .int .i64 (P.st 5), .string (P.dt 5)]
theorem run_index_pg (P : Pg) (k : Nat) (hk : k < 6) (w : World) : (Instr.index 47 (.agg (pgA P)) (.int .i64 k)).run Tryz.prog w = .ok (.agg #[.int .i64 (P.st k), .string (P.dt k)]) w := by
  match k, hk with
  | 0, _ => simp [Instr.index, asIntOf, go_sem, pgA]
  | 1, _ => simp [Instr.index, asIntOf, go_sem, pgA]
  | 2, _ => simp [Instr.index, asIntOf, go_sem, pgA]
  | 3, _ => simp [Instr.index, asIntOf, go_sem, pgA]
  | 4, _ => simp [Instr.index, asIntOf, go_sem, pgA]
  | 5, _ => simp [Instr.index, asIntOf, go_sem, pgA]

theorem run_storeVar_whole {P : Program} (w : World) (g : Nat) (t ty : TypeId) (cur C : Array Value) (hg : w.heap[g]? = some (.cells cur t (0, 0))) (hsz : cur.size = C.size)
    (hi : (P.info? ty).map (·.size) = some C.size) (h1 : ∀ v ∈ C.toList, v.oneCell' = true) : (storeVar ty ⟨g, 0, none⟩ (.agg C)).run P w = .ok () (w.setRow g C) := by
  have hst := run_storeCells_at P g 0 t C.toList 0 cur w hg (by simp [hsz]) h1
  have e : (cur.toList.take (0 + 0) ++ C.toList ++ cur.toList.drop (0 + 0 + C.toList.length)).toArray = C := by
    rw [List.drop_of_length_le (by simp [hsz])]
    simp
  rw [e] at hst
  cases hq : P.info? ty with
  | none => simp [hq] at hi
  | some i =>
    have hs : C.size = i.size := by simp [hq] at hi; omega
    simp [storeVar, sizeOf, typeInfo, hq, Value.cells, hs, hst]
theorem wpList_store_whole {P : Program} {ops : Array Oper} {rest : List Oper} {o : Oper} {a : Act} {w : World} {Q : Exit → Act → World → Prop} (hgd : o.guard = none) (ty : TypeId) (x y : Operand) (ho : o.op = .store ty x y)
    (g : Nat) (C : Array Value) (hx : a.eval x = .pointer (some ⟨g, 0, none⟩)) (hy : a.eval y = .agg C) (t : TypeId) (cur : Array Value) (hg : w.heap[g]? = some (.cells cur t (0, 0))) (hsz : cur.size = C.size)
    (hi : (P.info? ty).map (·.size) = some C.size) (h1 : ∀ v ∈ C.toList, v.oneCell' = true)
    (h : ∀ w', Hid (w'.heap[g]? = some (.cells C t (0, 0))) → Hid (Keeps (· = g) w w') → wpList P ops Q rest (a.put o.dst undef) w') : wpList P ops Q (o :: rest) a w :=
  wpList_plain hgd fun K hK => by
    unfold Oper.wp execOp
    simp only [ho, hx, hy, Instr.storeAt, Instr.sureAddr, Sem.run_bind, Sem.run_pure, Result.andThen_ok, run_storeVar_whole w g t ty cur C hg hsz hi h1]
    exact hK _ _ (h _ (setRow_heap w g _ _ t _ hg) ⟨rfl, rfl, rfl, by simp, fun j _ hj => setRow_other w g j _ hj⟩)
theorem pgC_one (P : Pg) : ∀ v ∈ (pgC P).toList, v.oneCell' = true := by
  intro v hv
  simp only [pgC, List.mem_cons, List.not_mem_nil, or_false] at hv
  rcases hv with h | h | h | h | h | h | h | h | h | h | h | h | h | h | h | h <;> (rw [h]; rfl)

theorem range_of {w : World} {b : Nat} {C : Array Value} {T : TypeId} {f : Nat × Nat} (h : w.heap[b]? = some (.cells C T f)) : w.rangeAt b 0 C.toList := fun j v hv => by
  rw [Nat.zero_add, cell_at h]
  simpa using hv
theorem wpList_want {P : Program} {ops : Array Oper} {rest : List Oper} {o : Oper} {a : Act} {w : World} {Q : Exit → Act → World → Prop} (hw : Region.wanted o (yielded ops a.tmps) = true)
    (h : ∀ K : Act → World → Prop, (∀ a w, wpList P ops Q rest a w → K a w) → o.wp P a w K Q) : wpList P ops Q (o :: rest) a w :=
  wpList_step fun K hK => by simp only [hw, if_true]; exact h K hK
theorem wpList_load_want {P : Program} {ops : Array Oper} {rest : List Oper} {o : Oper} {a : Act} {w : World} {Q : Exit → Act → World → Prop} (hw : Region.wanted o (yielded ops a.tmps) = true) (ty : TypeId) (x : Operand) (ho : o.op = .load ty x)
    (g : Nat) (hx : a.eval x = .pointer (some ⟨g, 0, none⟩)) (t : TypeId) (cs : Array Value) (fr : Nat × Nat) (d : TypeDesc) (hg : w.heap[g]? = some (.cells cs t fr))
    (hu : P.underlying ty = some d) (hd : (match d with | .struct _ | .array _ _ => true | _ => false) = true) (hi : (P.info? ty).map (·.size) = some cs.size)
    (h : wpList P ops Q rest (a.put o.dst (.agg cs)) w) : wpList P ops Q (o :: rest) a w :=
  wpList_want hw fun _ hK => wp_load_row ty x ho g hx t cs fr d hg hu hd hi (hK _ _ h)

/-! ### which pages may be written -/
def ClOk (s : Int) (d : ByteArray) : Prop := 0 ≤ s ∧ s ≤ 2 ∧ d.size ≤ 34 ∧ (s = 0 → d.size = 0)
instance (s : Int) (d : ByteArray) : Decidable (ClOk s d) := by unfold ClOk; exact inferInstance
def HdOk (P : Pg) : Prop := 0 ≤ P.kind ∧ P.kind ≤ 4 ∧ 0 ≤ P.level ∧ P.level ≤ 255 ∧ 0 ≤ P.store ∧ P.store ≤ 65535 ∧ 0 ≤ P.next ∧ P.next < 1024
instance (P : Pg) : Decidable (HdOk P) := by unfold HdOk; exact inferInstance
def PgOk (P : Pg) : Prop := HdOk P ∧ ∀ i, i < 6 → ClOk (P.st i) (P.dt i)
instance (P : Pg) : Decidable (PgOk P) := by unfold PgOk; exact inferInstance
theorem not_hd {P : Pg} (h : ¬ HdOk P) : ¬ PgOk P := fun n => h n.1
theorem not_cl {P : Pg} {k : Nat} (hk : k < 6) (h : ¬ ClOk (P.st k) (P.dt k)) : ¬ PgOk P := fun n => h (n.2 k hk)
theorem cl_more {P : Pg} {k : Nat} (h : ∀ j, j < k → ClOk (P.st j) (P.dt j)) (hk : ClOk (P.st k) (P.dt k)) : ∀ j, j < k + 1 → ClOk (P.st j) (P.dt j) := fun j hj => by
  by_cases e : j = k
  · subst e; exact hk
  · exact h j (by omega)
theorem hd_cases {P : Pg} (h : ¬ HdOk P) : P.kind < 0 ∨ (0 ≤ P.kind ∧ 4 < P.kind) ∨ (0 ≤ P.kind ∧ P.kind ≤ 4 ∧ P.level < 0) ∨ (0 ≤ P.kind ∧ P.kind ≤ 4 ∧ 0 ≤ P.level ∧ 255 < P.level) ∨ (0 ≤ P.kind ∧ P.kind ≤ 4 ∧ 0 ≤ P.level ∧ P.level ≤ 255 ∧ P.store < 0)
    ∨ (0 ≤ P.kind ∧ P.kind ≤ 4 ∧ 0 ≤ P.level ∧ P.level ≤ 255 ∧ 0 ≤ P.store ∧ 65535 < P.store) ∨ (0 ≤ P.kind ∧ P.kind ≤ 4 ∧ 0 ≤ P.level ∧ P.level ≤ 255 ∧ 0 ≤ P.store ∧ P.store ≤ 65535 ∧ P.next < 0)
    ∨ (0 ≤ P.kind ∧ P.kind ≤ 4 ∧ 0 ≤ P.level ∧ P.level ≤ 255 ∧ 0 ≤ P.store ∧ P.store ≤ 65535 ∧ 0 ≤ P.next ∧ 1024 ≤ P.next) := by unfold HdOk at h; omega
theorem cl_cases {s : Int} {d : ByteArray} (h : ¬ ClOk s d) : s < 0 ∨ (0 ≤ s ∧ 2 < s) ∨ (0 ≤ s ∧ s ≤ 2 ∧ 34 < d.size) ∨ (s = 0 ∧ d.size ≤ 34 ∧ d.size ≠ 0) := by
  unfold ClOk at h
  by_cases e : s = 0
  · subst e
    have : ¬ d.size ≤ 34 ∨ d.size ≠ 0 := by
      by_cases g : d.size ≤ 34
      · exact .inr fun e => h ⟨by omega, by omega, g, fun _ => e⟩
      · exact .inl g
    omega
  · have : ¬ (0 ≤ s ∧ s ≤ 2 ∧ d.size ≤ 34) := fun g => h ⟨g.1, g.2.1, g.2.2, fun h => absurd h e⟩
    omega
set_option maxRecDepth 100000 in
set_option maxHeartbeats 16000000 in
theorem pg_check (P : Pg) (hd : ∀ i, i < 6 → (P.dt i).size ≤ maxLen) (w : World) : Calls Tryz.prog 80 #[pgV P] w fun e w' => (e = .returned (.int .i64 0) ∧ PgOk P ∨ e = .returned (.int .i64 1) ∧ ¬ PgOk P) ∧ Below w.heap.size w w' := by
  have hpc : pgC P = #[.int .i64 P.kind, .int .i64 P.level, .int .i64 P.store, .int .i64 P.next, .int .i64 (P.st 0), .string (P.dt 0), .int .i64 (P.st 1), .string (P.dt 1), .int .i64 (P.st 2), .string (P.dt 2),
  .int .i64 (P.st 3), .string (P.dt 3), .int .i64 (P.st 4), .string (P.dt 4), .int .i64 (P.st 5), .string (P.dt 5)] := rfl
  replace hpc := Lib.hid hpc
  have hpa : Hid (pgA P = #[.int .i64 (P.st 0), .string (P.dt 0), .int .i64 (P.st 1), .string (P.dt 1), .int .i64 (P.st 2), .string (P.dt 2), .int .i64 (P.st 3), .string (P.dt 3), .int .i64 (P.st 4), .string (P.dt 4), .int .i64 (P.st 5), .string (P.dt 5)]) := rfl
  have HQ : Hid ((w.alloc (.cells (pgC P) 49)).heap[w.heap.size]? = some (.cells (pgC P) 49 (0, 0))) := hN rfl
  unfold pgV
  rw [hpc.out]
  by_cases hh : HdOk P
  rotate_left
  · have hbad := Lib.hid (not_hd hh)
    rcases hd_cases hh with h | ⟨h1, h⟩ | ⟨h1, h2, h⟩ | ⟨h1, h2, h3, h⟩ | ⟨h1, h2, h3, h4, h⟩ | ⟨h1, h2, h3, h4, h5, h⟩ | ⟨h1, h2, h3, h4, h5, h6, h⟩ | ⟨h1, h2, h3, h4, h5, h6, h7, h⟩
    all_goals
      clear hh HQ hpa hpc
      go_enter Tryz.func80, Tryz.ntmps80
      go_wp2_with fail
      go_ret
      exact ⟨.inr ⟨rfl, hbad.out⟩, bA bR⟩
  obtain ⟨h1, h2, h3, h4, h5, h6, h7, h8⟩ := hh
  have hH : Hid (HdOk P) := ⟨h1, h2, h3, h4, h5, h6, h7, h8⟩
  go_enter Tryz.func80, Tryz.ntmps80
  go_wp2_with fail
  clear h1 h2 h3 h4 h5 h6 h7 h8
  rw [← hpc.out]
  try rw [← hpa.out]
  clear hpc hpa
  go_loopw [45] (fun i wr => ∃ (k : Nat), k ≤ 6 ∧ i = .int .i64 k ∧ Hid (∀ j, j < k → ClOk (P.st j) (P.dt j)) ∧ Hid (wr.heap[w.heap.size]? = some (.cells (pgC P) 49 (0, 0))) ∧ Hid (Below w.heap.size w wr)) (fun i _ => 6 - (intOf i).toNat)
  case atStart => exact ⟨0, by omega, rfl, fun j h => by omega, HQ, bA bR⟩
  case round =>
    obtain ⟨k, hk, rfl, hstep, HQ, HBr⟩ := hrel
    by_cases hk6 : k < 6
    rotate_left
    · obtain rfl : k = 6 := by omega
      go_wp2_with fail
      go_ret
      exact ⟨.inl ⟨rfl, hH.out, hstep.out⟩, HBr.out⟩
    have hix := run_index_pg P k hk6
    obtain ⟨c0, c1⟩ := pg_at HQ.out k hk6
    have hqr := block_lt HQ.out
    obtain ⟨s, es⟩ : ∃ s, P.st k = s := ⟨_, rfl⟩
    obtain ⟨d, ed⟩ : ∃ d, P.dt k = d := ⟨_, rfl⟩
    have hdz : d.size ≤ maxLen := ed ▸ hd k hk6
    unfold maxLen at hdz
    have hiff := Lib.hid (cl_more hstep.out (k := k))
    have hno := Lib.hid (not_cl (P := P) hk6)
    rw [es, ed] at hix hiff hno
    rw [es] at c0
    rw [ed] at c1
    replace es := Lib.hid es
    replace ed := Lib.hid ed
    have hk6' : (k : Int) < 6 := by omega
    by_cases hc : ClOk s d
    · have hcl := Lib.hid (hiff.out hc)
      obtain ⟨h1, h2, h3, h4⟩ := hc
      by_cases e : s = 0
      · subst e
        obtain rfl := str_none (h4 rfl)
        clear hiff hno h1 h2 h3 h4 hdz
        go_wp2_with fail
        go_roundw
        case rel => exact ⟨k + 1, by omega, rfl, hcl.out, hO HQ.out, bA HBr.out⟩
        case measure => simp [intOf]; omega
      · have e' : (s == 0) = false := by simpa using e
        clear hiff hno h4
        go_wp2_with fail
        go_roundw
        case rel => exact ⟨k + 1, by omega, rfl, hcl.out, hO HQ.out, bA HBr.out⟩
        case measure => simp [intOf]; omega
    · have hbad := Lib.hid (hno.out hc)
      rcases cl_cases hc with h | ⟨h1, h⟩ | ⟨h1, h2, h⟩ | ⟨h1, h2, h⟩
      · clear hc hiff hno hstep
        go_wp2_with fail
        go_ret
        exact ⟨.inr ⟨rfl, hbad.out⟩, bA HBr.out⟩
      · clear hc hiff hno hstep
        go_wp2_with fail
        go_ret
        exact ⟨.inr ⟨rfl, hbad.out⟩, bA HBr.out⟩
      · clear hc hiff hno hstep
        go_wp2_with fail
        go_ret
        exact ⟨.inr ⟨rfl, hbad.out⟩, bA HBr.out⟩
      · subst h1
        obtain ⟨n1, n2⟩ := str_some h
        clear hc hiff hno hstep
        go_wp2_with fail
        go_ret
        exact ⟨.inr ⟨rfl, hbad.out⟩, bA HBr.out⟩
end Go.Proofs.YtimomjheanfbmaaGreatDoor

namespace Go.Proofs.YtimomjheanfbmaaGreatDoor
open Go.RowKit

/-! ### a page's bytes -/
theorem PgOk.small {P : Pg} (h : PgOk P) : ∀ i, i < 6 → (P.dt i).size ≤ 34 := fun i hi => (h.2 i hi).2.2.1
theorem pg_check_ok (P : Pg) (hok : PgOk P) (w : World) : Calls Tryz.prog 80 #[pgV P] w fun e w' => e = .returned (.int .i64 0) ∧ Below w.heap.size w w' :=
  (pg_check P (fun i hi => by have := hok.small i hi; unfold maxLen; omega) w).mono fun e w' ⟨h, hb⟩ => ⟨h.elim (fun h => h.1) (fun h => absurd hok h.2), hb⟩
def numP (P : Pg) : Nat → Int
  | 0 => P.kind
  | 1 => P.level
  | 2 => P.store
  | _ => P.next
def widP : Nat → Nat
  | 0 => 1
  | 1 => 1
  | 2 => 2
  | _ => 4
def headN (P : Pg) : Nat → List UInt8
  | 0 => []
  | k + 1 => headN P k ++ (leS (numP P k) (widP k)).data.toList
def cellL (s : Int) (d : ByteArray) : List UInt8 := ([UInt8.ofNat s.toNat] ++ (textS d).data.toList) ++ List.replicate (34 - d.size) 0
def bodyL (P : Pg) : Nat → List UInt8
  | 0 => headN P 4
  | n + 1 => bodyL P n ++ cellL (P.st n) (P.dt n)
def pageS (P : Pg) : ByteArray := ⟨(bodyL P 6).toArray⟩
theorem list_size (s : ByteArray) : s.data.toList.length = s.size := Array.length_toList
theorem headN_four (P : Pg) : (headN P 4).length = 8 := by simp [headN, list_size, leS_size, widP]
theorem headN_le (P : Pg) (k : Nat) (hk : k ≤ 4) : (headN P k).length ≤ 8 := by
  match k, hk with
  | 0, _ => simp [headN, list_size, leS_size, widP]
  | 1, _ => simp [headN, list_size, leS_size, widP]
  | 2, _ => simp [headN, list_size, leS_size, widP]
  | 3, _ => simp [headN, list_size, leS_size, widP]
  | 4, _ => simp [headN, list_size, leS_size, widP]
theorem textS_size (t : ByteArray) : (textS t).size = t.size + 1 := by
  unfold textS; rw [bytes_size, strOfNums_one]; omega
theorem cellL_length (s : Int) (d : ByteArray) (h : d.size ≤ 34) : (cellL s d).length = 36 := by
  simp [cellL, list_size, textS_size]; omega
theorem bodyL_length (P : Pg) : ∀ n, (∀ i, i < n → (P.dt i).size ≤ 34) → (bodyL P n).length = 8 + 36 * n
  | 0, _ => headN_four P
  | n + 1, h => by
    rw [bodyL, List.length_append, bodyL_length P n (fun i hi => h i (by omega)), cellL_length _ _ (h n (by omega))]; omega
theorem pageS_size {P : Pg} (h : PgOk P) : (pageS P).size = 224 := by
  show (bodyL P 6).toArray.size = 224
  rw [List.size_toArray, bodyL_length P 6 (fun i hi => (h.2 i hi).2.2.1)]
theorem pg_range {w : World} {b : Nat} {P : Pg} {T : TypeId} {f : Nat × Nat} (h : w.heap[b]? = some (.cells (pgC P) T f)) : w.rangeAt b 4 (pgA P).toList := World.rangeAt_of_block h 4 12
def hdA (a b c d : Int) : Array Value := #[.int .i64 a, .int .i64 1, .int .i64 b, .int .i64 1, .int .i64 c, .int .i64 2, .int .i64 d, .int .i64 4]
theorem run_index_hd (a b c d : Int) : (∀ w, (Instr.index 256 (.agg (hdA a b c d)) (.int .i64 0)).run Tryz.prog w = .ok (.agg #[.int .i64 a, .int .i64 1]) w) ∧ (∀ w, (Instr.index 256 (.agg (hdA a b c d)) (.int .i64 1)).run Tryz.prog w = .ok (.agg #[.int .i64 b, .int .i64 1]) w)
    ∧ (∀ w, (Instr.index 256 (.agg (hdA a b c d)) (.int .i64 2)).run Tryz.prog w = .ok (.agg #[.int .i64 c, .int .i64 2]) w) ∧ (∀ w, (Instr.index 256 (.agg (hdA a b c d)) (.int .i64 3)).run Tryz.prog w = .ok (.agg #[.int .i64 d, .int .i64 4]) w) := by
  refine ⟨fun w => ?_, fun w => ?_, fun w => ?_, fun w => ?_⟩ <;> simp [Instr.index, asIntOf, go_sem, hdA]
theorem pow_one : (2 : Int) ^ (8 * Int.toNat 1) = 256 := by decide
theorem pow_two : (2 : Int) ^ (8 * Int.toNat 2) = 65536 := by decide
theorem pow_four : (2 : Int) ^ (8 * Int.toNat 4) = 4294967296 := by decide
theorem fit_one {n : Int} (h0 : 0 ≤ n) (h : n ≤ 255) : n / 2 ^ (8 * Int.toNat 1) = 0 := by rw [pow_one]; omega
theorem fit_two {n : Int} (h0 : 0 ≤ n) (h : n ≤ 65535) : n / 2 ^ (8 * Int.toNat 2) = 0 := by rw [pow_two]; omega
theorem fit_four {n : Int} (h0 : 0 ≤ n) (h : n < 1024) : n / 2 ^ (8 * Int.toNat 4) = 0 := by rw [pow_four]; omega
/-- BdAt, and what lies below -/
theorem bB {B b : Nat} {w w1 w2 : World} (h : Below B w w1) (hb : B ≤ b) (k : Below b w1 w2) : Below B w w2 := h.trans (k.mono hb)
set_option maxRecDepth 100000 in
set_option maxHeartbeats 16000000 in
theorem pg_encode_no (P : Pg) (hd : ∀ i, i < 6 → (P.dt i).size ≤ maxLen) (hok : ¬ PgOk P) (w : World) : Calls Tryz.prog 123 #[pgV P] w fun e w' => e = .returned (.tuple #[.string ⟨#[]⟩, .int .i64 1]) ∧ Below w.heap.size w w' := by
  have HC := Lib.hid (fun w => pg_check P hd w)
  have HQc : Hid ((w.alloc (.cells (pgC P) 49)).heap[w.heap.size]? = some (.cells (pgC P) 49 (0, 0))) := hN rfl
  unfold pgV at *
  go_enter Tryz.func123, Tryz.ntmps123
  go_wp2_with (refine wpList_load_row rfl 49 _ rfl _ rfl 49 _ _ _ HQc.out Tryz.underlying49 rfl (by kernel_rfl) ?_)
  refine (HC.out _).mono ?_
  rintro e w1 ⟨h, hb⟩
  obtain rfl : e = .returned (.int .i64 1) := h.elim (fun h => absurd h.2 hok) (fun h => h.1)
  have HB1 := Lib.hid (bT (bA bR) hb)
  clear hb h
  go_wp2_with fail
  go_ret2
  exact ⟨rfl, HB1.out⟩
set_option maxRecDepth 100000 in
set_option maxHeartbeats 16000000 in
theorem pg_encode_ok (P : Pg) (hok : PgOk P) (w : World) : Calls Tryz.prog 123 #[pgV P] w fun e w' => e = .returned (.tuple #[.string (pageS P), .int .i64 0]) ∧ Below w.heap.size w w' := by
  have HC := Lib.hid (fun w => pg_check_ok P hok w)
  have HQc : Hid ((w.alloc (.cells (pgC P) 49)).heap[w.heap.size]? = some (.cells (pgC P) 49 (0, 0))) := hN rfl
  obtain ⟨⟨h1, h2, h3, h4, h5, h6, h7, h8⟩, hcl⟩ := hok
  replace hcl := Lib.hid hcl
  have hut := Lib.hid Tryz.underlying47
  have hi12 : Hid ((Tryz.prog.info? 47).map (·.size) = some (pgA P).toList.length) := (by kernel_rfl : (Tryz.prog.info? 47).map (·.size) = some (pgA P).toList.length)
  unfold pgV at *
  go_enter Tryz.func123, Tryz.ntmps123
  go_wp2_with (refine wpList_load_row rfl 49 _ rfl _ rfl 49 _ _ _ HQc.out Tryz.underlying49 rfl (by kernel_rfl) ?_)
  refine (HC.out _).mono ?_
  rintro e w1 ⟨rfl, hb⟩
  have HB1 := Lib.hid (bT (bA bR) hb)
  have HQ1 := Lib.hid (hBs hb HQc.out)
  have hw1 := block_lt HQ1.out
  clear hb HC HQc
  have p0 : (w1.alloc (.cells #[.pointer none, .slice none 0 0] 212)).cell? ⟨w.heap.size, 0, none⟩ = some (.int .i64 P.kind) := cell_at (hO HQ1.out) 0
  have p1 : (w1.alloc (.cells #[.pointer none, .slice none 0 0] 212)).cell? ⟨w.heap.size, 1, none⟩ = some (.int .i64 P.level) := cell_at (hO HQ1.out) 1
  have p2 : (w1.alloc (.cells #[.pointer none, .slice none 0 0] 212)).cell? ⟨w.heap.size, 2, none⟩ = some (.int .i64 P.store) := cell_at (hO HQ1.out) 2
  have p3 : (w1.alloc (.cells #[.pointer none, .slice none 0 0] 212)).cell? ⟨w.heap.size, 3, none⟩ = some (.int .i64 P.next) := cell_at (hO HQ1.out) 3
  go_wp2_with fail
  clear p0 p1 p2 p3
  go_loopw [32] (fun i wr => ∃ (k : Nat), k ≤ 4 ∧ i = .int .i64 k ∧ Hid (BdAt wr w1.heap.size (headN P k)) ∧ Hid (wr.heap[w.heap.size]? = some (.cells (pgC P) 49 (0, 0))) ∧ Hid (Below w.heap.size w wr)) (fun i _ => 4 - (intOf i).toNat)
  case atStart => exact ⟨0, by omega, rfl, BdAt.new _, hO HQ1.out, bA HB1.out⟩
  case round =>
    obtain ⟨k, hk, rfl, HBd, HQ, HB⟩ := hrel
    clear HB1 HQ1
    by_cases hk4 : k < 4
    · have hlen := headN_le P k hk
      have HX := Lib.hid (run_index_hd P.kind P.level P.store P.next)
      unfold hdA at HX
      obtain rfl | rfl | rfl | rfl : k = 0 ∨ k = 1 ∨ k = 2 ∨ k = 3 := by omega
      · go_wp2_with fail
        rw [HX.out.1]
        simp only [Result.andThen]
        rw [Oper.upon_value]
        go_wp2_with fail
        refine (oct_num_ok P.kind 1 (by decide) (by decide) (by omega) (fun _ => fit_one h1 (by omega)) _).mono ?_
        rintro e w2 ⟨rfl, hb⟩
        have HBd2 := Lib.hid ((HBd.out.alloc (.cells #[.int .i64 P.kind, .int .i64 1] 255)).later hb)
        have HQ2 := Lib.hid (hBs hb (hO HQ.out))
        have HB2 := Lib.hid (bT (bA HB.out) hb)
        clear hb
        go_wp2_with fail
        refine (bd_string _ _ _ _ HBd2.out (by rw [leS_size]; show _ + 1 ≤ _; omega)).mono ?_
        rintro e w3 ⟨rfl, HBd3, hb, -⟩
        have HQ3 := Lib.hid (hB hb hw1 HQ2.out)
        have HB3 := Lib.hid (bB HB2.out (by omega) hb)
        replace HBd3 := Lib.hid HBd3
        clear hb
        go_wp2_with fail
        go_roundw
        case rel => exact ⟨1, by omega, rfl, HBd3.out, HQ3, HB3⟩
        case measure => simp [intOf]
      · go_wp2_with fail
        rw [HX.out.2.1]
        simp only [Result.andThen]
        rw [Oper.upon_value]
        go_wp2_with fail
        refine (oct_num_ok P.level 1 (by decide) (by decide) (by omega) (fun _ => fit_one h3 h4) _).mono ?_
        rintro e w2 ⟨rfl, hb⟩
        have HBd2 := Lib.hid ((HBd.out.alloc (.cells #[.int .i64 P.level, .int .i64 1] 255)).later hb)
        have HQ2 := Lib.hid (hBs hb (hO HQ.out))
        have HB2 := Lib.hid (bT (bA HB.out) hb)
        clear hb
        go_wp2_with fail
        refine (bd_string _ _ _ _ HBd2.out (by rw [leS_size]; show _ + 1 ≤ _; omega)).mono ?_
        rintro e w3 ⟨rfl, HBd3, hb, -⟩
        have HQ3 := Lib.hid (hB hb hw1 HQ2.out)
        have HB3 := Lib.hid (bB HB2.out (by omega) hb)
        replace HBd3 := Lib.hid HBd3
        clear hb
        go_wp2_with fail
        go_roundw
        case rel => exact ⟨2, by omega, rfl, HBd3.out, HQ3, HB3⟩
        case measure => simp [intOf]
      · go_wp2_with fail
        rw [HX.out.2.2.1]
        simp only [Result.andThen]
        rw [Oper.upon_value]
        go_wp2_with fail
        refine (oct_num_ok P.store 2 (by decide) (by decide) (by omega) (fun _ => fit_two h5 h6) _).mono ?_
        rintro e w2 ⟨rfl, hb⟩
        have HBd2 := Lib.hid ((HBd.out.alloc (.cells #[.int .i64 P.store, .int .i64 2] 255)).later hb)
        have HQ2 := Lib.hid (hBs hb (hO HQ.out))
        have HB2 := Lib.hid (bT (bA HB.out) hb)
        clear hb
        go_wp2_with fail
        refine (bd_string _ _ _ _ HBd2.out (by rw [leS_size]; show _ + 2 ≤ _; omega)).mono ?_
        rintro e w3 ⟨rfl, HBd3, hb, -⟩
        have HQ3 := Lib.hid (hB hb hw1 HQ2.out)
        have HB3 := Lib.hid (bB HB2.out (by omega) hb)
        replace HBd3 := Lib.hid HBd3
        clear hb
        go_wp2_with fail
        go_roundw
        case rel => exact ⟨3, by omega, rfl, HBd3.out, HQ3, HB3⟩
        case measure => simp [intOf]
      · go_wp2_with fail
        rw [HX.out.2.2.2]
        simp only [Result.andThen]
        rw [Oper.upon_value]
        go_wp2_with fail
        refine (oct_num_ok P.next 4 (by decide) (by decide) (by omega) (fun _ => fit_four h7 h8) _).mono ?_
        rintro e w2 ⟨rfl, hb⟩
        have HBd2 := Lib.hid ((HBd.out.alloc (.cells #[.int .i64 P.next, .int .i64 4] 255)).later hb)
        have HQ2 := Lib.hid (hBs hb (hO HQ.out))
        have HB2 := Lib.hid (bT (bA HB.out) hb)
        clear hb
        go_wp2_with fail
        refine (bd_string _ _ _ _ HBd2.out (by rw [leS_size]; show _ + 4 ≤ _; omega)).mono ?_
        rintro e w3 ⟨rfl, HBd3, hb, -⟩
        have HQ3 := Lib.hid (hB hb hw1 HQ2.out)
        have HB3 := Lib.hid (bB HB2.out (by omega) hb)
        replace HBd3 := Lib.hid HBd3
        clear hb
        go_wp2_with fail
        go_roundw
        case rel => exact ⟨4, by omega, rfl, HBd3.out, HQ3, HB3⟩
        case measure => simp [intOf]
    obtain rfl : k = 4 := by omega
    replace HBd : Hid (BdAt wr w1.heap.size (bodyL P 0)) := HBd
    clear h1 h2 h3 h4 h5 h6 h7 h8
    have hpr := Lib.hid (pg_range HQ.out)
    have hix := Lib.hid (fun k hk => run_index_pg P k hk)
    generalize pgA P = C at *
    go_wp2_with (refine wpList_load_mid rfl 47 _ rfl w.heap.size 4 rfl C.toList _ hpr.out hut.out rfl hi12.out ?_)
    clear hpr HQ
    go_loopw [49] (fun i wr => ∃ (k : Nat), k ≤ 6 ∧ i = .int .i64 k ∧ Hid (BdAt wr w1.heap.size (bodyL P k)) ∧ Hid (Below w.heap.size w wr)) (fun i _ => 6 - (intOf i).toNat)
    case atStart => exact ⟨0, by omega, rfl, HBd, HB⟩
    case round =>
      obtain ⟨k, hk, rfl, HBd, HB⟩ := hrel
      have hbw := HBd.out.lt
      by_cases hk6 : k < 6
      rotate_left
      · obtain rfl : k = 6 := by omega
        go_wp2_with fail
        refine (bd_done _ _ _ HBd.out).mono ?_
        rintro e w2 ⟨rfl, hb⟩
        have HB2 := Lib.hid (bB HB.out (by omega) hb)
        clear hb
        go_wp2_with fail
        go_ret2
        exact ⟨rfl, HB2.out⟩
      have hk6' : (k : Int) < 6 := by omega
      have hixk := hix.out k hk6
      obtain ⟨g1, g2, g3, g4⟩ := hcl.out k hk6
      have hlen := bodyL_length P k (fun i hi => (hcl.out i (by omega)).2.2.1)
      have hbody : Hid (bodyL P (k + 1) = bodyL P k ++ cellL (P.st k) (P.dt k)) := rfl
      obtain ⟨c, hc⟩ : ∃ c : UInt8, P.st k = (c.toNat : Int) := ⟨UInt8.ofNat (P.st k).toNat, by simp [UInt8.toNat_ofNat']; omega⟩
      obtain ⟨d, ed⟩ : ∃ d, P.dt k = d := ⟨_, rfl⟩
      have hcz : c.toNat ≤ 2 := by omega
      unfold cellL at hbody
      rw [hc, ed, Int.toNat_natCast, UInt8.ofNat_toNat] at hbody
      rw [hc, ed] at hixk
      rw [ed] at g3
      clear g1 g2 g4 hc ed
      obtain ⟨l, el⟩ : ∃ l, bodyL P k = l := ⟨_, rfl⟩
      rw [el] at hbody hlen HBd
      clear el
      obtain ⟨m, hm⟩ : ∃ m : Nat, d.size + m = 34 := ⟨34 - d.size, by omega⟩
      rw [show 34 - d.size = m by omega] at hbody
      have hm' : (34 : Int) - d.size = m := by omega
      have htl : (textS d).data.toList.length = d.size + 1 := by rw [list_size, textS_size]
      have hts := textS_size d
      have hC0 := Lib.hid (hN (w := wr) (o := .cells #[.int .i64 c.toNat, .string d] 33) rfl)
      go_wp2_with fail
      refine (oct_text_ok d (by omega) _).mono ?_
      rintro e w2 ⟨rfl, hb⟩
      have HBd2 := Lib.hid ((HBd.out.alloc _).later hb)
      have HB2 := Lib.hid (bT (bA HB.out) hb)
      have hC2 := Lib.hid (hBs hb hC0.out)
      clear hb HBd HB hC0
      have c0 := cell_at hC2.out 0
      have c1 := cell_at hC2.out 1
      go_wp2_with fail
      refine (bd_byte _ _ c _ HBd2.out (by omega)).mono ?_
      rintro e w3 ⟨rfl, HBd3, hb, hk3⟩
      have HB3 := Lib.hid (bB HB2.out (by omega) hb)
      have hC3 := Lib.hid (kept_block hk3 hC2.out (by omega) (by decide))
      replace HBd3 := Lib.hid HBd3
      clear hb hk3 HBd2 HB2 hC2 c0 c1
      go_wp2_with fail
      refine (bd_string _ _ _ _ HBd3.out (by rw [List.length_append, List.length_singleton, hts]; omega)).mono ?_
      rintro e w4 ⟨rfl, HBd4, hb, hk4⟩
      have HB4 := Lib.hid (bB HB3.out (by omega) hb)
      have hC4 := Lib.hid (kept_block hk4 hC3.out (by omega) (by decide))
      replace HBd4 := Lib.hid HBd4
      clear hb hk4 HBd3 HB3 hC3
      have c0 := cell_at hC4.out 0
      have c1 := cell_at hC4.out 1
      go_wp2_with fail
      refine (str_repeat m (by omega) _).mono ?_
      rintro e w5 ⟨rfl, hb⟩
      have HB5 := Lib.hid (bT HB4.out hb)
      have HBd5 := Lib.hid (HBd4.out.later hb)
      clear hb HB4 HBd4 hC4 c0 c1
      go_wp2_with fail
      refine (bd_string _ _ _ _ HBd5.out (by show _ + (List.replicate m (0 : UInt8)).toArray.size ≤ _; simp [htl]; omega)).mono ?_
      rintro e w6 ⟨rfl, HBd6, hb, -⟩
      have HB6 := Lib.hid (bB HB5.out (by omega) hb)
      replace HBd6 := Lib.hid HBd6
      clear hb HB5 HBd5
      go_wp2_with fail
      go_roundw
      case rel =>
        refine ⟨k + 1, by omega, rfl, ?_, HB6⟩
        rw [hbody.out, ← List.append_assoc, ← List.append_assoc]
        exact HBd6
      case measure => simp [intOf]; omega
theorem pg_encode (P : Pg) (hd : ∀ i, i < 6 → (P.dt i).size ≤ maxLen) (w : World) : Calls Tryz.prog 123 #[pgV P] w fun e w' => (e = .returned (.tuple #[.string (pageS P), .int .i64 0]) ∧ PgOk P ∨ e = .returned (.tuple #[.string ⟨#[]⟩, .int .i64 1]) ∧ ¬ PgOk P) ∧ Below w.heap.size w w' := by
  by_cases h : PgOk P
  · exact (pg_encode_ok P h w).mono fun e w' ⟨he, hb⟩ => ⟨.inl ⟨he, h⟩, hb⟩
  · exact (pg_encode_no P hd h w).mono fun e w' ⟨he, hb⟩ => ⟨.inr ⟨he, h⟩, hb⟩
end Go.Proofs.YtimomjheanfbmaaGreatDoor
