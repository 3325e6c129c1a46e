import Derived.Test.YtimomjheanfbmaaGreatDoorMbi
import Derived.WideShapes
import Derived.Deep.DeepCutAuto
import Derived.Deep.CutBlock
import Derived.BigRegion
set_option linter.unusedSimpArgs false
set_option linter.unusedVariables false
namespace Go.Proofs.YtimomjheanfbmaaGreatDoor
open Go.RowKit

/-! ### calls that are handed in -/
structure PCall where
  kind : Int
  id : Int
  pg : Pg
  rcd : ByteArray
def pcL (c : PCall) : List Value := .int .i64 c.kind :: .int .i64 c.id :: ((pgC c.pg).toList ++ [.string c.rcd])
theorem pcL_length (c : PCall) : (pcL c).length = 19 := rfl
def PcOk (c : PCall) : Prop := (∀ i, i < 6 → (c.pg.dt i).size ≤ maxLen) ∧ c.rcd.size ≤ maxLen
def CallsIs (w : World) (v : Value) (cs : List PCall) : Prop := Sl w v 19 (cs.map pcL) ∧ ∀ c ∈ cs, PcOk c
theorem CallsIs.later {w w' : World} {v : Value} {cs : List PCall} (h : CallsIs w v cs) (hb : Below w.heap.size w w') : CallsIs w' v cs := ⟨h.1.later hb, h.2⟩
theorem CallsIs.form {w : World} {v : Value} {cs : List PCall} (h : CallsIs w v cs) : ∃ a c, v = .slice a cs.length c := by
  obtain ⟨⟨a, c, h1, -⟩, -⟩ := h
  exact ⟨a, c, by rw [h1, List.length_map]⟩
theorem CallsIs.max {w : World} {v : Value} {cs : List PCall} (h : CallsIs w v cs) : cs.length ≤ maxLen := by
  obtain ⟨⟨a, c, h1, h2, -⟩, -⟩ := h
  rwa [List.length_map] at h2
theorem CallsIs.at {w : World} {a : Option Addr} {n cap : Nat} {cs : List PCall} (h : CallsIs w (.slice a n cap) cs) (k : Nat) (c : PCall) (hc : cs[k]? = some c) :
    ∃ b off, a = some ⟨b, off, none⟩ ∧ b < w.heap.size ∧ w.rangeAt b (off + k * 19) (pcL c) ∧ PcOk c := by
  obtain ⟨⟨a', c', h1, h2, h3⟩, hok⟩ := h
  have hk : k < cs.length := (List.getElem?_eq_some_iff.1 hc).1
  obtain ⟨b, off, e1, e2, e3⟩ := h3 (by intro he; rw [List.map_eq_nil_iff] at he; subst he; simp at hk)
  simp only [Value.slice.injEq] at h1
  refine ⟨b, off, by rw [h1.1, e1], e2, fun j v hj => ?_, hok c (List.mem_of_getElem? hc)⟩
  have hjl : j < 19 := by
    have := (List.getElem?_eq_some_iff.1 hj).1
    rwa [pcL_length] at this
  rw [e3 k (by rw [List.length_map]; exact hk) j hjl, List.getElem?_map, hc]
  exact hj
theorem flatCall : flat Tryz.prog 6 80 = some [.i .i64, .i .i64, .i .i64, .i .i64, .i .i64, .i .i64, .i .i64, .s, .i .i64, .s, .i .i64, .s, .i .i64, .s, .i .i64, .s, .i .i64, .s, .s] := by kernel_rfl
theorem pcall_of {H : Type} {enc : TypeId × Value → H} {W : World} {sp : Nat → Bool} {held : Bool} {x : List Value} (h : ∃ fuel y, DataW.trod enc Tryz.prog W 0 sp held fuel 80 x = some y) : ∃ b : PCall, x = pcL b ∧ PcOk b := by
  obtain ⟨fuel, y, hy⟩ := h
  have hf := fa_flat (enc := enc) (P := Tryz.prog) (W := W) (sp := sp) (held := held) 6 _ _ flatCall fuel x y hy
  obtain ⟨_, rk, rfl, ⟨a, rfl, _⟩, fk⟩ := fb1 hf
  obtain ⟨_, ra, rfl, ⟨b, rfl, _⟩, fa⟩ := fb1 fk
  obtain ⟨_, r0, rfl, ⟨n0, rfl, z0⟩, f0⟩ := fb1 fa
  obtain ⟨_, r1, rfl, ⟨n1, rfl, z1⟩, f1⟩ := fb1 f0
  obtain ⟨_, r2, rfl, ⟨n2, rfl, z2⟩, f2⟩ := fb1 f1
  obtain ⟨_, r3, rfl, ⟨n3, rfl, z3⟩, f3⟩ := fb1 f2
  obtain ⟨_, _, rfl, ⟨n4, rfl, z4⟩, f4⟩ := fb1 f3
  obtain ⟨_, _, rfl, ⟨n5, rfl, z5⟩, f5⟩ := fb1 f4
  obtain ⟨_, _, rfl, ⟨n6, rfl, z6⟩, f6⟩ := fb1 f5
  obtain ⟨_, _, rfl, ⟨n7, rfl, z7⟩, f7⟩ := fb1 f6
  obtain ⟨_, _, rfl, ⟨n8, rfl, z8⟩, f8⟩ := fb1 f7
  obtain ⟨_, _, rfl, ⟨n9, rfl, z9⟩, f9⟩ := fb1 f8
  obtain ⟨_, _, rfl, ⟨n10, rfl, z10⟩, f10⟩ := fb1 f9
  obtain ⟨_, _, rfl, ⟨n11, rfl, z11⟩, f11⟩ := fb1 f10
  obtain ⟨_, _, rfl, ⟨n12, rfl, z12⟩, f12⟩ := fb1 f11
  obtain ⟨_, _, rfl, ⟨n13, rfl, z13⟩, f13⟩ := fb1 f12
  obtain ⟨_, _, rfl, ⟨n14, rfl, z14⟩, f14⟩ := fb1 f13
  obtain ⟨_, _, rfl, ⟨n15, rfl, z15⟩, f15⟩ := fb1 f14
  obtain ⟨_, _, rfl, ⟨n16, rfl, z16⟩, f16⟩ := fb1 f15
  obtain rfl := fb0 f16
  refine ⟨⟨a, b, ⟨n0, n1, n2, n3, fun i => match i with | 0 => n4 | 1 => n6 | 2 => n8 | 3 => n10 | 4 => n12 | _ => n14, fun i => match i with | 0 => n5 | 1 => n7 | 2 => n9 | 3 => n11 | 4 => n13 | _ => n15⟩, n16⟩, rfl, ?_, z16⟩
  intro i _
  dsimp only
  split <;> assumption
set_option maxRecDepth 100000 in
theorem calls_of {H : Type} {enc : TypeId × Value → H} {W : World} {base : Nat} {v : Value} {d : DataW H} {p : List MemPlace} (hok : Value.okWide Tryz.prog W .any base 69 v)
    (h : DataW.Trod enc Tryz.prog W 0 (fun _ => true) true 69 v d p) : ∃ cs, CallsIs W v cs := by
  obtain ⟨xs, hxs, hx⟩ := Sl_of (n := 19) Tryz.underlying69 (by kernel_rfl) (by decide) (Go.WideShapes.okWide_slice Tryz.underlying69 hok) h
  obtain ⟨cs, rfl, hz⟩ := list_of (fun x hm => pcall_of (hx x hm).2)
  exact ⟨cs, hxs, hz⟩
end Go.Proofs.YtimomjheanfbmaaGreatDoor

namespace Go.Proofs.YtimomjheanfbmaaGreatDoor
open Go.RowKit

/-! ### what calls make of pages -/
open Classical in
noncomputable def putF (pg : Nat) (s : List ByteArray × (Nat → Pg × Int)) (c : PCall) : List ByteArray × (Nat → Pg × Int) :=
  if refuses s.1 c.rcd = true then s else (s.1 ++ [c.rcd], if 0 ≤ c.id ∧ c.id < pg ∧ PgOk c.pg then upd s.2 c.id.toNat (c.pg, ((54 + lenL s.1 : Nat) : Int)) else s.2)
theorem putF_no {pg : Nat} {s : List ByteArray × (Nat → Pg × Int)} {c : PCall} (h : refuses s.1 c.rcd = true) : putF pg s c = s := by unfold putF; rw [if_pos h]
theorem putF_ok {pg : Nat} {s : List ByteArray × (Nat → Pg × Int)} {c : PCall} (h : refuses s.1 c.rcd = false) (hok : 0 ≤ c.id ∧ c.id < pg ∧ PgOk c.pg) : putF pg s c = (s.1 ++ [c.rcd], upd s.2 c.id.toNat (c.pg, ((54 + lenL s.1 : Nat) : Int))) := by
  unfold putF; rw [if_neg (by rw [h]; decide), if_pos hok]
theorem putF_bad {pg : Nat} {s : List ByteArray × (Nat → Pg × Int)} {c : PCall} (h : refuses s.1 c.rcd = false) (hok : ¬ (0 ≤ c.id ∧ c.id < pg ∧ PgOk c.pg)) : putF pg s c = (s.1 ++ [c.rcd], s.2) := by
  unfold putF; rw [if_neg (by rw [h]; decide), if_neg hok]
noncomputable def runG (f : List ByteArray × (Nat → Pg × Int) → PCall → List ByteArray × (Nat → Pg × Int)) (cs : List PCall) : Nat → List ByteArray × (Nat → Pg × Int)
  | 0 => ([], M0)
  | k + 1 => match cs[k]? with
    | some c => f (runG f cs k) c
    | none => runG f cs k
theorem runG_next {f : List ByteArray × (Nat → Pg × Int) → PCall → List ByteArray × (Nat → Pg × Int)} {cs : List PCall} {k : Nat} {c : PCall} (h : cs[k]? = some c) : runG f cs (k + 1) = f (runG f cs k) c := by
  rw [runG, h]
def getM (pg : Nat) (M : Nat → Pg × Int) (id : Int) : Pg := if 0 ≤ id ∧ id < pg then (M id.toNat).1 else pageZ
theorem getM_in {pg : Nat} {M : Nat → Pg × Int} {id : Int} (h : 0 ≤ id ∧ id < pg) : getM pg M id = (M id.toNat).1 := by unfold getM; rw [if_pos h]
theorem getM_out {pg : Nat} {M : Nat → Pg × Int} {id : Int} (h : id < 0 ∨ (pg : Int) ≤ id) : getM pg M id = pageZ := by unfold getM; rw [if_neg (by omega)]
/-- the zero call -/
def pcZ : PCall := { kind := 0, id := 0, pg := pageZ, rcd := ⟨#[]⟩ }
theorem pcL_cells (c : PCall) : ∀ v ∈ pcL c, v.oneCell' = true := by
  intro v hv
  unfold pcL at hv
  simp only [List.mem_cons, List.mem_append, List.not_mem_nil, or_false] at hv
  rcases hv with rfl | rfl | hv | rfl
  · rfl
  · rfl
  · exact pgC_one _ v hv
  · rfl
/-- a call's own copy -/
theorem pc_at {w : World} {b : Nat} {c : PCall} {T : TypeId} (h : w.heap[b]? = some (.cells (pcL c).toArray T (0, 0))) : w.cell? ⟨b, 0, none⟩ = some (.int .i64 c.kind) ∧ w.cell? ⟨b, 1, none⟩ = some (.int .i64 c.id) ∧ w.rangeAt b 2 (pgC c.pg).toList ∧ w.cell? ⟨b, 18, none⟩ = some (.string c.rcd) := by
  refine ⟨(cell_at h 0).trans rfl, (cell_at h 1).trans rfl, fun j v hj => ?_, (cell_at h 18).trans rfl⟩
  have hjl : j < 16 := (List.getElem?_eq_some_iff.1 hj).1
  rw [cell_at h (2 + j), ← Array.getElem?_toList]
  show (pcL c)[2 + j]? = some v
  unfold pcL
  rw [show 2 + j = j + 1 + 1 by omega, List.getElem?_cons_succ, List.getElem?_cons_succ, List.getElem?_append_left (show j < (pgC c.pg).toList.length from hjl)]
  exact hj
end Go.Proofs.YtimomjheanfbmaaGreatDoor

namespace Go.Proofs.YtimomjheanfbmaaGreatDoor
open Go.RowKit

/-! ### what was got, with few frames and with many -/
open Classical in
noncomputable def frF (s : List ByteArray × (Nat → Pg × Int)) (c : PCall) : List ByteArray × (Nat → Pg × Int) := if c.kind = 1 then putF 8 s c else s
noncomputable def resF (cs : List PCall) (k : Nat) : Pg := match cs[k]? with
  | some c => getM 8 (runG frF cs (k + 1)).2 c.id
  | none => pageZ
noncomputable def resV (cs : List PCall) : Nat → List Value
  | 0 => []
  | k + 1 => resV cs k ++ (pgC (resF cs k)).toList
theorem resV_length (cs : List PCall) : ∀ k, (resV cs k).length = k * 16
  | 0 => rfl
  | k + 1 => by rw [resV, List.length_append, resV_length cs k]; show k * 16 + 16 = _; omega
theorem Kq.keep2 {w0 w w' : World} {L : List Nat} {p lp dp pg : Nat} {rs : List ByteArray} {M : Nat → Pg × Int} {N : Nat} (h : Kq w0 w L p lp dp pg rs M N) (hk : Keeps (· ∈ L) w w') (hL : ∀ k ∈ L, w0.heap.size ≤ k) (L' : List Nat) (hl : ∀ k ∈ L', k < w'.heap.size) (hn : ∀ k ∈ L', k ∈ L ∨ w.heap.size ≤ k) : Kq w0 w' L' p lp dp pg rs M N :=
  let ⟨i0, X, sv, S, Sl, Sd, D, h1, h2⟩ := h
  ⟨i0, X, sv, S, Sl, Sd, D, (h1.keep hk hL).relist L' hl (fun k hk => (hn k hk).imp (fun h => h) (fun h => ⟨fun h' => by have := h1.pw.pool.lt k h'; omega, fun h' => by have := h1.pw.ws.log.lt k h'; omega, fun h' => by have := h1.pw.ws.dsk.lt k h'; omega⟩)), h2⟩
theorem step_load_row {P : Program} {ops : Array Oper} {o : Oper} {a : Act} {w : World} {K : Act → World → Prop} {Q : Exit → Act → World → Prop} {E : Prop} (hgd : o.guard = none) (ty : TypeId) (x : Operand) (ho : o.op = .load ty x)
    (g : Nat) (hx : a.eval x = .pointer (some ⟨g, 0, none⟩)) (t : TypeId) (cs : Array Value) (fr : Nat × Nat) (d : TypeDesc) (hg : w.heap[g]? = some (.cells cs t fr))
    (hu : P.underlying ty = some d) (hd : (match d with | .struct _ | .array _ _ => true | _ => false) = true) (hi : (P.info? ty).map (·.size) = some cs.size)
    (h : K (a.put o.dst (.agg cs)) w) : if Region.wanted o (yielded ops a.tmps) = true then Oper.wp P o a w K Q else E := by
  have hw : Region.wanted o (yielded ops a.tmps) = true := by simp [Region.wanted, hgd]
  rw [if_pos hw]
  exact wp_load_row ty x ho g hx t cs fr d hg hu hd hi h
theorem Tryz.info_page : (Tryz.prog.info? 49).map (fun i => (i.zero, i.size, i.bytes)) = some (some (.agg (pgC pageZ)), 16, 176) := by kernel_rfl
theorem run_ne_pg (X Y : Pg) (w : World) : (binOp .neq 49 (.agg (pgC X)) (.agg (pgC Y))).run Tryz.prog w = .ok (.bool (!eqPg X Y)) w := by
  have h := run_eq_pg X Y w
  simp only [go_sem] at h ⊢
  generalize (Op.equalIn 10000 49 (.agg (pgC X)) (.agg (pgC Y))).run Tryz.prog w = r at *
  cases r with
  | ok b w' =>
    simp only [Result.andThen_ok, Result.ok.injEq, Value.bool.injEq] at h ⊢
    exact ⟨by rw [h.1], h.2⟩
  | halt a b => simp [Result.andThen] at h
theorem run_ne_op {op : Oper} {a : Act} (x y : Operand) (r : TypeId) (ho : op.op = .binOp .neq 49 x y r) (X Y : Pg) (b : Bool) (hb : (!eqPg X Y) = b) (hx : a.eval x = .agg (pgC X)) (hy : a.eval y = .agg (pgC Y)) (w : World) :
    (execOp a.eval op).run Tryz.prog w = .ok (Next.value (.bool b)) w := by
  subst hb
  unfold execOp
  simp only [ho, hx, hy, Sem.run_bind, Sem.run_pure, Result.andThen_ok, run_eqGuard_agg (P := Tryz.prog) w .neq 49 x y _ _ (by kernel_rfl), run_ne_pg X Y w]
theorem resV_range {cs : List PCall} {w : World} {g n c : Nat} : ∀ (m : Nat) (i : Nat), i < m → ∀ (j : Nat) (v : Value), (pgC (resF cs i)).toList[j]? = some v → (resV cs m)[16 * i + j]? = some v
  | 0, i, hi, j, v, hj => by omega
  | m + 1, i, hi, j, v, hj => by
    have hjl : j < 16 := (List.getElem?_eq_some_iff.1 hj).1
    rw [resV]
    by_cases him : i = m
    · subst him
      rw [List.getElem?_append_right (by rw [resV_length]; omega), resV_length, show 16 * i + j - i * 16 = j by omega]
      exact hj
    · rw [List.getElem?_append_left (by rw [resV_length]; omega)]
      exact resV_range (w := w) (g := g) (n := n) (c := c) m i (by omega) j v hj
theorem res_at {cs : List PCall} {w : World} {g n c : Nat} (h : OwnS w 49 16 (.slice (some ⟨g, 0, none⟩) n c) n (resV cs n)) (i : Nat) (hi : i < n) : w.rangeAt g (i * 16) (pgC (resF cs i)).toList := fun j v hj => by
  have h2 := resV_range (w := w) (g := g) (n := n) (c := c) n i hi j v hj
  have := World.ownsRow.cells h (g := g) rfl (16 * i + j) v h2
  rw [Addr.add_mid, Nat.zero_add] at this
  rw [Nat.mul_comm i 16]
  exact this
def CmS (b7 : Nat) (v0 v1 : Value) (g0 g1 o : Nat) (R : Pg) (w : World) : Prop := w.cell? ⟨b7, 0, none⟩ = some v0 ∧ w.cell? ⟨b7, 1, none⟩ = some v1 ∧ w.rangeAt g0 o (pgC R).toList ∧ w.rangeAt g1 o (pgC R).toList
theorem range_below {w wr : World} {b o : Nat} {l : List Value} (h : w.rangeAt b o l) (hb : b < w.heap.size) (hB : Below w.heap.size w wr) : wr.rangeAt b o l := fun j v hj => by
  rw [← h j v hj]
  unfold World.cell?
  rw [hB.block b hb]
theorem frF_other {s : List ByteArray × (Nat → Pg × Int)} {c : PCall} (h : ¬ c.kind = 1) : frF s c = s := by unfold frF; rw [if_neg h]
theorem frF_put {s : List ByteArray × (Nat → Pg × Int)} {c : PCall} (h : c.kind = 1) : frF s c = putF 8 s c := by unfold frF; rw [if_pos h]
theorem pcl_info : (Tryz.prog.info? 80).map (·.size) = some 19 := by kernel_rfl
end Go.Proofs.YtimomjheanfbmaaGreatDoor

namespace Go.Proofs.YtimomjheanfbmaaGreatDoor
open Go.RowKit

/-! ### a row of pages -/
def pgRow (f : Nat → Pg) : Nat → List Value
  | 0 => []
  | n + 1 => pgRow f n ++ (pgC (f n)).toList
theorem pgRow_length (f : Nat → Pg) : ∀ n, (pgRow f n).length = n * 16
  | 0 => rfl
  | n + 1 => by rw [pgRow, List.length_append, pgRow_length f n]; show n * 16 + 16 = _; omega
theorem pgRow_congr {f g : Nat → Pg} : ∀ n, (∀ i, i < n → pgC (f i) = pgC (g i)) → pgRow f n = pgRow g n
  | 0, _ => rfl
  | n + 1, h => by rw [pgRow, pgRow, pgRow_congr n (fun i hi => h i (by omega)), h n (by omega)]
theorem setL_left : ∀ (vs A B : List Value) (o : Nat), o + vs.length ≤ A.length → setL (A ++ B) o vs = setL A o vs ++ B
  | [], A, B, o, h => rfl
  | v :: vs, A, B, o, h => by
    simp only [List.length_cons] at h
    rw [setL, setL, List.set_append_left _ _ (by omega), setL_left vs (A.set o v) B (o + 1) (by rw [List.length_set]; omega)]
theorem pgRow_set (f : Nat → Pg) (x : Pg) : ∀ (n i : Nat), i < n → setL (pgRow f n) (16 * i) (pgC x).toList = pgRow (fun k => if k = i then x else f k) n
  | 0, i, hi => by omega
  | n + 1, i, hi => by
    rw [pgRow, pgRow]
    by_cases hin : i = n
    · subst hin
      have h1 := setL_eq (pgC x).toList (pgRow f i) (pgC (f i)).toList [] rfl
      rw [pgRow_length, List.append_nil, List.append_nil, Nat.mul_comm i 16] at h1
      rw [h1, if_pos rfl]
      rw [pgRow_congr (f := f) (g := fun k => if k = i then x else f k) i (fun k hk => by show pgC (f k) = pgC (if k = i then x else f k); rw [if_neg (by omega)])]
    · rw [setL_left _ _ _ _ (by rw [pgRow_length]; show 16 * i + 16 ≤ _; omega), pgRow_set f x n i (by omega), if_neg (fun e => hin e.symm)]
theorem pgRow_get (f : Nat → Pg) : ∀ (n i : Nat), i < n → ∀ (j : Nat) (v : Value), (pgC (f i)).toList[j]? = some v → (pgRow f n)[16 * i + j]? = some v
  | 0, i, hi, j, v, hj => by omega
  | n + 1, i, hi, j, v, hj => by
    have hjl : j < 16 := (List.getElem?_eq_some_iff.1 hj).1
    rw [pgRow]
    by_cases him : i = n
    · subst him
      rw [List.getElem?_append_right (by rw [pgRow_length]; omega), pgRow_length, show 16 * i + j - i * 16 = j by omega]
      exact hj
    · rw [List.getElem?_append_left (by rw [pgRow_length]; omega)]
      exact pgRow_get f n i (by omega) j v hj
theorem row_at {w : World} {e : TypeId} {g n c : Nat} {f : Nat → Pg} (h : OwnS w e 16 (.slice (some ⟨g, 0, none⟩) n c) n (pgRow f n)) (i : Nat) (hi : i < n) : w.rangeAt g (i * 16) (pgC (f i)).toList := fun j v hj => by
  have h2 := pgRow_get f n i hi j v hj
  have := World.ownsRow.cells h (g := g) rfl (16 * i + j) v h2
  rw [Addr.add_mid, Nat.zero_add] at this
  rw [Nat.mul_comm i 16]
  exact this
theorem row_there {w : World} {e : TypeId} {g n c : Nat} {f : Nat → Pg} (h : OwnS w e 16 (.slice (some ⟨g, 0, none⟩) n c) n (pgRow f n)) (i : Nat) (hi : i < n) : w.there g (i * 16) 16 := fun j hj => by
  refine ⟨?_, ?_⟩
  · obtain ⟨v, hv⟩ : ∃ v, (pgC (f i)).toList[j]? = some v := ⟨_, List.getElem?_eq_getElem (show j < (pgC (f i)).toList.length from hj)⟩
    rw [row_at h i hi j v hv]
    rfl
  · rcases h.2 with ⟨he, _⟩ | ⟨g1, cap, cur, he, hb, hg, hnc, hcm, hcs, htake⟩
    · simp at he
    · simp only [Value.slice.injEq, Option.some.injEq, Addr.mk.injEq, and_true, true_and] at he
      obtain ⟨rfl, rfl⟩ := he
      exact free_at hg _
/-- a page goes into a row -/
theorem wpList_store_row {ops : Array Oper} {rest : List Oper} {op : Oper} {a : Act} {w : World} {Q : Exit → Act → World → Prop} (hgd : op.guard = none) (x y : Operand) (ho : op.op = .store 49 x y)
    (e : TypeId) (g i c n : Nat) (f : Nat → Pg) (s' : Pg) (hx : a.eval x = .pointer (some ⟨g, i * 16, none⟩)) (hy : a.eval y = .agg (pgC s')) (H : OwnS w e 16 (.slice (some ⟨g, 0, none⟩) n c) n (pgRow f n)) (hi : i < n)
    (h : ∀ w', Hid (OwnS w' e 16 (.slice (some ⟨g, 0, none⟩) n c) n (pgRow (fun k => if k = i then s' else f k) n)) → Hid (Keeps (· = g) w w') → wpList Tryz.prog ops Q rest (a.put op.dst undef) w') : wpList Tryz.prog ops Q (op :: rest) a w := by
  refine wpList_store_mid hgd 49 x y ho g (i * 16) (pgC s') hx hy (row_there H i hi) (by show _ = some 16; kernel_rfl) (Array.all_eq_true_iff_forall_mem.2 (fun v hv => pgC_one s' v (by simpa using hv))) ?_
  refine h _ ?_ (Keeps.setCells (S := fun x => x = g) (a := w) (b := g) (.inl rfl) _ _ (Keeps.refl _ _))
  have h2 := OwnS.cells H (pgC s').toList (i * 16)
  rw [Nat.mul_comm i 16, pgRow_set f s' n i hi] at h2
  rw [Nat.mul_comm i 16]
  exact h2
/-! ### another pool over what was flushed -/
theorem Kp.renew {w0 w : World} {L : List Nat} {p lp dp : Nat} {rs : List ByteArray} {i0 : Nat} {X : Pl} {sv : Value} {S Sl Sd : List Nat} {D : Dev} {M : Nat → Pg × Int} {N : Nat} (h : Kp w0 w L p lp dp rs i0 X sv S Sl Sd D M N)
    (hcl : ∀ (j : Nat) (s : Slot), X.slots[j]? = some s → s.dirty = false) (frames : Nat) (h3 : 4 ≤ frames) (h4 : frames ≤ 256) :
    Calls Tryz.prog 22 #[.pointer (some ⟨dp, 0, none⟩), .pointer (some ⟨lp, 0, none⟩), .int .i64 128, .int .i64 X.pages, .int .i64 frames] w fun e w' => ∃ q X2, e = .returned (.tuple #[.pointer (some ⟨q, 0, none⟩), .int .i64 0]) ∧ Kp w0 w' L q lp dp rs i0 X2 (.slice none 0 0) [q] Sl Sd D M N ∧ X2.pages = X.pages ∧ X2.slots = [] ∧ Keeps (Own w0 L) w w' := by
  obtain ⟨o1, o2, o3, -⟩ := h.pw.pool.1
  have hfit := h.pw.fit
  rw [h.b128] at hfit
  refine (pl_new h.pw.ws 128 X.pages frames o2 o3 h3 h4 hfit (by omega)).mono fun e w' ⟨q, he, hp, hb, hpl⟩ => ⟨q, _, he, ⟨hp, ⟨fun i j s t hs => by simp at hs, fun i s hs => by simp at hs, fun i s hs => by simp at hs, fun hd id hid _ => ?_, h.inv.mok⟩, h.up, ?_, h.nN, fun k hk => ?_, fun k hk => Nat.lt_of_lt_of_le (h.loc k hk) hb.size, bT h.bel hb, rfl⟩, rfl, rfl, Keeps.of_below _ hb⟩
  · have := h.inv.dev hd id hid (fun i s hs _ => hcl i s hs)
    rw [h.b128] at this
    exact this
  · obtain ⟨m, h1, h2⟩ := h.pot
    exact ⟨m, h1, by simp [nDirty]; omega⟩
  · rcases hk with hk | hk | hk
    · have := List.mem_singleton.1 hk
      subst this
      exact ⟨Nat.le_trans h.bel.size hpl, fun h4 => by have := h.loc k h4; omega⟩
    · exact h.fr k (.inr (.inl hk))
    · exact h.fr k (.inr (.inr hk))
/-- a sector behind the ring is written -/
theorem Ws.wrote {w w' : World} {p dp first n bb : Nat} {P : ByteArray} {rs : List ByteArray} {i0 : Nat} {S Sd Sd' : List Nat} {D : Dev} (h : Ws w p dp first n bb P rs i0 S Sd D) (s : Nat) (d : ByteArray) (hs : first + n ≤ s) (hs2 : s < D.firm.length) (hd : d.size = 64) (hN : D.soft.length ≤ 3000000000000)
    (hdk : DiskAt w' dp (D.write (s : Int) d).1 Sd') (hk : Keeps (· ∈ Sd) w w') (hfr : ∀ k ∈ Sd', k ∈ Sd ∨ w.heap.size ≤ k) : Ws w' p dp first n bb P rs i0 S Sd' (D.write (s : Int) d).1 := by
  have hn := h.len
  have hl := write_len D (s : Int) d
  refine ⟨h.log.keep hk (fun k hk h' => h.dis k hk h'), hdk, ⟨hdk.1, by rw [hl.1]; exact h.has.2.1, h.has.2.2.write _ _ (by omega) (by omega) hd h.dsk.1.2.2.1 ⟨hd, fun j hj he => ?_⟩⟩, fun k hk h' => ?_, h.rok, h.le, h.pre, h.bbs, ?_⟩
  · have := place_lt (first := first) (k := bb + j) (n := n) (by omega)
    rw [Int.toNat_natCast] at he
    omega
  · rcases hfr k h' with h2 | h2
    · exact h.dis k hk h2
    · have := h.log.lt k hk; omega
  · rcases write_cases D (s : Int) d (by omega) (by omega) hd with ⟨_, c, _⟩ | ⟨_, _, _, _, c, _⟩
    · exact .inl (by rw [c.2.2]; omega)
    · exact .inl (by rw [c, List.length_append]; simp; omega)
end Go.Proofs.YtimomjheanfbmaaGreatDoor
