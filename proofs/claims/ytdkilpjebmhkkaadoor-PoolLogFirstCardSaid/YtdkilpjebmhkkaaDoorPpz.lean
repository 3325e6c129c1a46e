import Derived.Test.YtdkilpjebmhkkaaDoorMbg
import Derived.Deep.DeepCutAuto
import Derived.Deep.CutBlock
import Derived.BigRegion
set_option linter.unusedSimpArgs false
set_option linter.unusedVariables false
namespace Go.Proofs.YtdkilpjebmhkkaaDoor
open Go.RowKit

/-! ### what was got, with few frames and with many -/
open Classical in
noncomputable def frF (s : List ByteArray × (Nat → Pg × Int)) (c : PCall) : List ByteArray × (Nat → Pg × Int) := if c.kind = 1 then putF 8 s c else s
noncomputable def resF (cs : List PCall) (k : Nat) : Pg := match cs[k]? with
  | some c => getM 8 (runG frF cs (k + 1)).2 c.id
  | none => pageZ
noncomputable def resV (cs : List PCall) : Nat → List Value
  | 0 => []
  | k + 1 => resV cs k ++ (pgC (resF cs k)).toList
theorem resV_length (cs : List PCall) : ∀ k, (resV cs k).length = k * 16
  | 0 => rfl
  | k + 1 => by rw [resV, List.length_append, resV_length cs k]; show k * 16 + 16 = _; omega
structure Gt (w wr : World) (b7 : Nat) (vs : Nat → Value) (ln : Nat → Nat) (R : Nat → List Value) : Prop where
  cell : wr.heap[b7]? = some (.cells #[vs 0, vs 1] 25 (0, 0))
  own : ∀ i, i < 2 → OwnS wr 41 16 (vs i) (ln i) (R (ln i))
  low : ∀ i, i < 2 → ∀ q ∈ blk (vs i), w.heap.size ≤ q ∧ q ≠ b7 ∧ q ≠ b7 + 1
  dis : ∀ q ∈ blk (vs 0), q ∉ blk (vs 1)
def gtL (b7 : Nat) (vs : Nat → Value) : List Nat := b7 :: (blk (vs 0) ++ blk (vs 1))
theorem gtL_mem {b7 : Nat} {vs : Nat → Value} {i : Nat} (hi : i < 2) {q : Nat} (hq : q ∈ blk (vs i)) : q ∈ gtL b7 vs := by
  unfold gtL
  match i, hi with
  | 0, _ => simp [hq]
  | 1, _ => simp [hq]
theorem Gt.keep {w wr wr' : World} {b7 : Nat} {vs : Nat → Value} {ln : Nat → Nat} {R : Nat → List Value} (h : Gt w wr b7 vs ln R) {T : Nat → Prop} (hk : Keeps T wr wr') (hT : ∀ q ∈ gtL b7 vs, ¬ T q) : Gt w wr' b7 vs ln R :=
  ⟨hk.keep h.cell (hT b7 (by simp [gtL])), fun i hi => (h.own i hi).keep hk (fun q hq => hT q (gtL_mem hi hq)), h.low, h.dis⟩
theorem Gt.lt {w wr : World} {b7 : Nat} {vs : Nat → Value} {ln : Nat → Nat} {R : Nat → List Value} (h : Gt w wr b7 vs ln R) : ∀ q ∈ gtL b7 vs, q < wr.heap.size := fun q hq => by
  unfold gtL at hq
  simp only [List.mem_cons, List.mem_append] at hq
  rcases hq with rfl | hq | hq
  · exact block_lt h.cell
  · exact (h.own 0 (by omega)).lt hq
  · exact (h.own 1 (by omega)).lt hq
theorem Gt.at {w wr : World} {b7 : Nat} {vs : Nat → Value} {ln : Nat → Nat} {R : Nat → List Value} (h : Gt w wr b7 vs ln R) (i : Nat) (hi : i < 2) : wr.cell? ⟨b7, i, none⟩ = some (vs i) ∧ wr.frozen? ⟨b7, i, none⟩ = false := by
  refine ⟨?_, free_at h.cell i⟩
  match i, hi with
  | 0, _ => exact cell_at h.cell 0
  | 1, _ => exact cell_at h.cell 1
theorem Gt.congr {w wr : World} {b7 : Nat} {vs : Nat → Value} {ln ln' : Nat → Nat} {R : Nat → List Value} (h : Gt w wr b7 vs ln R) (hl : ∀ i, i < 2 → ln' i = ln i) : Gt w wr b7 vs ln' R :=
  ⟨h.cell, fun i hi => by rw [hl i hi]; exact h.own i hi, h.low, h.dis⟩
def setV (vs : Nat → Value) (k : Nat) (v : Value) : Nat → Value := fun i => if i = k then v else vs i
/-- one of both slices grows -/
theorem Gt.put {w wr w7 : World} {b7 : Nat} {vs : Nat → Value} {ln ln' : Nat → Nat} {R : Nat → List Value} (h : Gt w wr b7 vs ln R) (hw : w.heap.size ≤ wr.heap.size) (hb1 : b7 + 1 < wr.heap.size) (k : Nat) (hk : k < 2) (v : Value) (n : Nat) (hn : ln' k = n) (hl : ∀ i, i < 2 → i ≠ k → ln' i = ln i)
    (ho : OwnS w7 41 16 v n (R n)) (hkp : Keeps (· ∈ blk (vs k)) wr w7) (hb : ∀ q ∈ blk v, q ∈ blk (vs k) ∨ wr.heap.size ≤ q) : Gt w (w7.setCell ⟨b7, k, none⟩ v) b7 (setV vs k v) ln' R := by
  have hb7 : b7 < wr.heap.size := block_lt h.cell
  have hbk : ∀ q ∈ blk v, w.heap.size ≤ q ∧ q ≠ b7 ∧ q ≠ b7 + 1 := fun q hq => by
    rcases hb q hq with h1 | h1
    · exact h.low k hk q h1
    · omega
  have hc7 := hkp.keep h.cell (fun hm => (h.low k hk b7 hm).2.1 rfl)
  have hks : Keeps (· = b7) w7 (w7.setCell ⟨b7, k, none⟩ v) := (Keeps.refl _ _).setCell _ _ (.inl rfl)
  have hoth : ∀ i, i < 2 → i ≠ k → ∀ q ∈ blk (vs i), q ∉ blk (vs k) := fun i hi hik q hq hq' => by
    match i, k, hi, hk with
    | 0, 1, _, _ => exact h.dis q hq hq'
    | 1, 0, _, _ => exact h.dis q hq' hq
    | 0, 0, _, _ => exact hik rfl
    | 1, 1, _, _ => exact hik rfl
  refine ⟨?_, fun i hi => ?_, fun i hi q hq => ?_, fun q h0 h1 => ?_⟩
  · refine heap_set_eq hc7 ?_
    match k, hk with
    | 0, _ => rfl
    | 1, _ => rfl
  · by_cases hik : i = k
    · subst hik
      unfold setV
      rw [if_pos rfl, hn]
      exact ho.keep hks (fun q hq e => (hbk q hq).2.1 e)
    · unfold setV
      rw [if_neg hik, hl i hi hik]
      exact ((h.own i hi).keep hkp (fun q hq hq' => hoth i hi hik q hq hq')).keep hks (fun q hq e => (h.low i hi q hq).2.1 e)
  · by_cases hik : i = k
    · subst hik
      unfold setV at hq
      rw [if_pos rfl] at hq
      exact hbk q hq
    · unfold setV at hq
      rw [if_neg hik] at hq
      exact h.low i hi q hq
  · have key : ∀ i, i < 2 → i ≠ k → ∀ q, q ∈ blk (vs i) → q ∉ blk v := fun i hi hik q hq hq' => by
      rcases hb q hq' with h2 | h2
      · exact hoth i hi hik q hq h2
      · have := (h.own i hi).lt hq; omega
    match k, hk with
    | 0, _ =>
      have e0 : setV vs 0 v 0 = v := rfl
      have e1 : setV vs 0 v 1 = vs 1 := rfl
      rw [e0] at h0
      rw [e1] at h1
      exact key 1 (by omega) (by omega) q h1 h0
    | 1, _ =>
      have e0 : setV vs 1 v 0 = vs 0 := rfl
      have e1 : setV vs 1 v 1 = v := rfl
      rw [e0] at h0
      rw [e1] at h1
      exact key 0 (by omega) (by omega) q h0 h1
theorem setV_mem {b7 : Nat} {vs : Nat → Value} {k : Nat} {v : Value} {q : Nat} (hq : q ∈ gtL b7 (setV vs k v)) : q ∈ gtL b7 vs ∨ q ∈ blk v := by
  unfold gtL at hq ⊢
  simp only [List.mem_cons, List.mem_append] at hq ⊢
  unfold setV at hq
  rcases hq with h | h | h
  · exact .inl (.inl h)
  · split at h
    · exact .inr h
    · exact .inl (.inr (.inl h))
  · split at h
    · exact .inr h
    · exact .inl (.inr (.inr h))
theorem Kq.keep2 {w0 w w' : World} {L : List Nat} {p lp dp pg : Nat} {rs : List ByteArray} {M : Nat → Pg × Int} {N : Nat} (h : Kq w0 w L p lp dp pg rs M N) (hk : Keeps (· ∈ L) w w') (hL : ∀ k ∈ L, w0.heap.size ≤ k) (L' : List Nat) (hl : ∀ k ∈ L', k < w'.heap.size) (hn : ∀ k ∈ L', k ∈ L ∨ w.heap.size ≤ k) : Kq w0 w' L' p lp dp pg rs M N :=
  let ⟨i0, X, sv, S, Sl, Sd, D, h1, h2⟩ := h
  ⟨i0, X, sv, S, Sl, Sd, D, (h1.keep hk hL).relist L' hl (fun k hk => (hn k hk).imp (fun h => h) (fun h => ⟨fun h' => by have := h1.pw.pool.lt k h'; omega, fun h' => by have := h1.pw.ws.log.lt k h'; omega, fun h' => by have := h1.pw.ws.dsk.lt k h'; omega⟩)), h2⟩
theorem step_load_row {P : Program} {ops : Array Oper} {o : Oper} {a : Act} {w : World} {K : Act → World → Prop} {Q : Exit → Act → World → Prop} {E : Prop} (hgd : o.guard = none) (ty : TypeId) (x : Operand) (ho : o.op = .load ty x)
    (g : Nat) (hx : a.eval x = .pointer (some ⟨g, 0, none⟩)) (t : TypeId) (cs : Array Value) (fr : Nat × Nat) (d : TypeDesc) (hg : w.heap[g]? = some (.cells cs t fr))
    (hu : P.underlying ty = some d) (hd : (match d with | .struct _ | .array _ _ => true | _ => false) = true) (hi : (P.info? ty).map (·.size) = some cs.size)
    (h : K (a.put o.dst (.agg cs)) w) : if Region.wanted o (yielded ops a.tmps) = true then Oper.wp P o a w K Q else E := by
  have hw : Region.wanted o (yielded ops a.tmps) = true := by simp [Region.wanted, hgd]
  rw [if_pos hw]
  exact wp_load_row ty x ho g hx t cs fr d hg hu hd hi h
theorem Tryd.info_page : (Tryd.prog.info? 41).map (fun i => (i.zero, i.size, i.bytes)) = some (some (.agg (pgC pageZ)), 16, 176) := by kernel_rfl
theorem run_ne_pg (X Y : Pg) (w : World) : (binOp .neq 41 (.agg (pgC X)) (.agg (pgC Y))).run Tryd.prog w = .ok (.bool (!eqPg X Y)) w := by
  have h := run_eq_pg X Y w
  simp only [go_sem] at h ⊢
  generalize (Op.equalIn 10000 41 (.agg (pgC X)) (.agg (pgC Y))).run Tryd.prog w = r at *
  cases r with
  | ok b w' =>
    simp only [Result.andThen_ok, Result.ok.injEq, Value.bool.injEq] at h ⊢
    exact ⟨by rw [h.1], h.2⟩
  | halt a b => simp [Result.andThen] at h
theorem run_ne_op {op : Oper} {a : Act} (x y : Operand) (r : TypeId) (ho : op.op = .binOp .neq 41 x y r) (X Y : Pg) (b : Bool) (hb : (!eqPg X Y) = b) (hx : a.eval x = .agg (pgC X)) (hy : a.eval y = .agg (pgC Y)) (w : World) :
    (execOp a.eval op).run Tryd.prog w = .ok (Next.value (.bool b)) w := by
  subst hb
  unfold execOp
  simp only [ho, hx, hy, Sem.run_bind, Sem.run_pure, Result.andThen_ok, run_eqGuard_agg (P := Tryd.prog) w .neq 41 x y _ _ (by kernel_rfl), run_ne_pg X Y w]
theorem resV_range {cs : List PCall} {w : World} {g n c : Nat} : ∀ (m : Nat) (i : Nat), i < m → ∀ (j : Nat) (v : Value), (pgC (resF cs i)).toList[j]? = some v → (resV cs m)[16 * i + j]? = some v
  | 0, i, hi, j, v, hj => by omega
  | m + 1, i, hi, j, v, hj => by
    have hjl : j < 16 := (List.getElem?_eq_some_iff.1 hj).1
    rw [resV]
    by_cases him : i = m
    · subst him
      rw [List.getElem?_append_right (by rw [resV_length]; omega), resV_length, show 16 * i + j - i * 16 = j by omega]
      exact hj
    · rw [List.getElem?_append_left (by rw [resV_length]; omega)]
      exact resV_range (w := w) (g := g) (n := n) (c := c) m i (by omega) j v hj
theorem res_at {cs : List PCall} {w : World} {g n c : Nat} (h : OwnS w 41 16 (.slice (some ⟨g, 0, none⟩) n c) n (resV cs n)) (i : Nat) (hi : i < n) : w.rangeAt g (i * 16) (pgC (resF cs i)).toList := fun j v hj => by
  have h2 := resV_range (w := w) (g := g) (n := n) (c := c) n i hi j v hj
  have := World.ownsRow.cells h (g := g) rfl (16 * i + j) v h2
  rw [Addr.add_mid, Nat.zero_add] at this
  rw [Nat.mul_comm i 16]
  exact this
def CmS (b7 : Nat) (v0 v1 : Value) (g0 g1 o : Nat) (R : Pg) (w : World) : Prop := w.cell? ⟨b7, 0, none⟩ = some v0 ∧ w.cell? ⟨b7, 1, none⟩ = some v1 ∧ w.rangeAt g0 o (pgC R).toList ∧ w.rangeAt g1 o (pgC R).toList
theorem range_below {w wr : World} {b o : Nat} {l : List Value} (h : w.rangeAt b o l) (hb : b < w.heap.size) (hB : Below w.heap.size w wr) : wr.rangeAt b o l := fun j v hj => by
  rw [← h j v hj]
  unfold World.cell?
  rw [hB.block b hb]
theorem frF_other {s : List ByteArray × (Nat → Pg × Int)} {c : PCall} (h : ¬ c.kind = 1) : frF s c = s := by unfold frF; rw [if_neg h]
theorem frF_put {s : List ByteArray × (Nat → Pg × Int)} {c : PCall} (h : c.kind = 1) : frF s c = putF 8 s c := by unfold frF; rw [if_pos h]
theorem pcl_info : (Tryd.prog.info? 43).map (·.size) = some 19 := by kernel_rfl
set_option maxRecDepth 100000 in
set_option maxHeartbeats 1600000 in
theorem poolFrames_walk (a b : Int) (v : Value) (cs : List PCall) (w : World) (h : CallsIs w v cs) :
    Calls Tryd.prog 3 #[.int .i64 a, .int .i64 b, v] w fun e w' => e = .returned (.bool true) ∧ Below w.heap.size w w' := by
  have HA := Lib.hid awake12
  obtain ⟨va, vc, rfl⟩ := h.form
  have hmx := h.max
  unfold maxLen at hmx
  by_cases hg : a < 4 ∨ b < 4 ∨ 64 < a ∨ 64 < b ∨ 100 < cs.length
  · by_cases g1 : a < 4
    · have b1 : decide (a < 4) = true := by simpa using g1
      clear hg
      go_enter Tryd.func3, Tryd.ntmps3
      go_wp2_with fail
      refine (HA.out _).mono ?_
      rintro e w1 ⟨rfl, hb⟩
      have HB1 := Lib.hid hb
      clear hb
      go_wp2_with fail
      go_ret
      exact ⟨rfl, HB1.out⟩
    have b1 : decide (a < 4) = false := by simpa using g1
    by_cases g2 : b < 4
    · have b2 : decide (b < 4) = true := by simpa using g2
      clear hg
      go_enter Tryd.func3, Tryd.ntmps3
      go_wp2_with fail
      refine (HA.out _).mono ?_
      rintro e w1 ⟨rfl, hb⟩
      have HB1 := Lib.hid hb
      clear hb
      go_wp2_with fail
      go_ret
      exact ⟨rfl, HB1.out⟩
    have b2 : decide (b < 4) = false := by simpa using g2
    by_cases g3 : 64 < a
    · have b3 : decide (64 < a) = true := by simpa using g3
      clear hg
      go_enter Tryd.func3, Tryd.ntmps3
      go_wp2_with fail
      refine (HA.out _).mono ?_
      rintro e w1 ⟨rfl, hb⟩
      have HB1 := Lib.hid hb
      clear hb
      go_wp2_with fail
      go_ret
      exact ⟨rfl, HB1.out⟩
    have b3 : decide (64 < a) = false := by simpa using g3
    by_cases g4 : 64 < b
    · have b4 : decide (64 < b) = true := by simpa using g4
      clear hg
      go_enter Tryd.func3, Tryd.ntmps3
      go_wp2_with fail
      refine (HA.out _).mono ?_
      rintro e w1 ⟨rfl, hb⟩
      have HB1 := Lib.hid hb
      clear hb
      go_wp2_with fail
      go_ret
      exact ⟨rfl, HB1.out⟩
    have b4 : decide (64 < b) = false := by simpa using g4
    have b5 : decide (100 < (cs.length : Int)) = true := by apply decide_eq_true; omega
    clear hg
    go_enter Tryd.func3, Tryd.ntmps3
    go_wp2_with fail
    refine (HA.out _).mono ?_
    rintro e w1 ⟨rfl, hb⟩
    have HB1 := Lib.hid hb
    clear hb
    go_wp2_with fail
    go_ret
    exact ⟨rfl, HB1.out⟩
  obtain ⟨A, rfl⟩ : ∃ A : Nat, a = A := ⟨a.toNat, by omega⟩
  obtain ⟨B, rfl⟩ : ∃ B : Nat, b = B := ⟨b.toNat, by omega⟩
  have b1 : decide ((A : Int) < 4) = false := by apply decide_eq_false; omega
  have b2 : decide ((B : Int) < 4) = false := by apply decide_eq_false; omega
  have b3 : decide (64 < (A : Int)) = false := by apply decide_eq_false; omega
  have b4 : decide (64 < (B : Int)) = false := by apply decide_eq_false; omega
  have b5 : decide (100 < (cs.length : Int)) = false := by apply decide_eq_false; omega
  have hAB : Hid (4 ≤ A ∧ A ≤ 64 ∧ 4 ≤ B ∧ B ≤ 64 ∧ cs.length ≤ 100) := ⟨by omega, by omega, by omega, by omega, by omega⟩
  obtain ⟨n, hn⟩ : ∃ n, cs.length = n := ⟨_, rfl⟩
  rw [hn] at b5 hAB h ⊢
  replace hn := Lib.hid hn
  have H := Lib.hid h
  clear hg h hmx
  go_enter Tryd.func3, Tryd.ntmps3
  go_wp2_with fail
  refine (HA.out _).mono ?_
  rintro e w1 ⟨rfl, hb⟩
  have HB1 := Lib.hid hb
  clear hb HA
  go_wp2_with fail
  clear b1 b2 b3 b4 b5
  go_loopw [48] (fun x wr => ∃ (k : Nat) (vs : Nat → Value), k ≤ 2 ∧ x = .int .i64 k ∧ Hid (Gt w wr w1.heap.size vs (fun i => if i < k then n else 0) (resV cs)) ∧ Hid (wr.heap[w1.heap.size + 1]? = some (.cells #[.int .i64 A, .int .i64 B] 3 (0, 0))) ∧ Hid (Below w.heap.size w wr)) (fun x _ => 2 - (intOf x).toNat)
  case atStart =>
    refine ⟨0, fun _ => .slice none 0 0, by omega, rfl, ⟨?_, fun i hi => ?_, fun i hi q hq => by simp [blk, Value.ownBlock] at hq, fun q hq => by simp [blk, Value.ownBlock] at hq⟩, hN (by simp), bA (bA HB1.out)⟩
    · exact hO (hN rfl)
    · exact OwnS.nil _ _ _
  case round =>
    obtain ⟨k, vs, hk, rfl, HG, HF, HB⟩ := hrel
    by_cases hk2 : k < 2
    · obtain ⟨fr, hfr, hfr2⟩ : ∃ fr : Nat, wr.cell? ⟨w1.heap.size + 1, k, none⟩ = some (.int .i64 fr) ∧ Hid (4 ≤ fr ∧ fr ≤ 256) := by
        have ho := hAB.out
        match k, hk2 with
        | 0, _ => exact ⟨A, cell_at HF.out 0, by omega, by omega⟩
        | 1, _ => exact ⟨B, cell_at HF.out 1, by omega, by omega⟩
      have hkI : (k : Int) < 2 := by omega
      have hk0 : (0 : Int) ≤ k := by omega
      have hkw : IntKind.i64.wrap ((k : Int) + 1) = (k : Int) + 1 := by rw [IntKind.wrap_i64]; omega
      have HN := Lib.hid (dsk_new 160 (by omega) (by omega) wr)
      rw [show ((160 : Nat) : Int) = 160 from rfl] at HN
      have hLlt : Hid (∀ q ∈ (w1.heap.size + 1) :: gtL w1.heap.size vs, q < wr.heap.size) := fun q hq => by
        rcases List.mem_cons.1 hq with rfl | hq
        · exact block_lt HF.out
        · exact HG.out.lt q hq
      obtain ⟨L, hL⟩ : ∃ L, (w1.heap.size + 1) :: gtL w1.heap.size vs = L := ⟨_, rfl⟩
      rw [hL] at hLlt
      replace hL := Lib.hid hL
      replace hk := Lib.hid hk
      go_wp2_with fail
      refine (HN.out).mono ?_
      rintro e w2 ⟨dp, Sd, rfl, hd, hb, hS⟩
      have HC := Lib.hid (lk_create (w0 := w) (L := L) (by omega) (by omega) hd (fun q hq => ⟨Nat.le_trans HB.out.size (hS q hq), fun hm => by have := hLlt.out q hm; have := hS q hq; omega⟩) (fun q hq => Nat.lt_of_lt_of_le (hLlt.out q hq) hb.size) (bT HB.out hb))
      have HF2 := Lib.hid (hBs hb HF.out)
      have HG2 := Lib.hid (HG.out.keep (Keeps.of_below (fun _ => False) hb) (fun _ _ h => h))
      clear HN hd hb hS HF HG HB hfr
      go_wp2_with fail
      refine (HC.out).mono ?_
      rintro e w3 ⟨lp, Sl, Sd2, rfl, hlk, hk3⟩
      have hOL : ∀ q ∈ L, ¬ Own w L q := fun q hq h => h.2 hq
      have hOF : w1.heap.size + 1 ∈ L := by rw [← hL.out]; simp
      have hOG : ∀ q ∈ gtL w1.heap.size vs, q ∈ L := fun q hq => by rw [← hL.out]; simp [hq]
      have HF3 := Lib.hid (hk3.keep HF2.out (hOL _ hOF))
      have HG3 := Lib.hid (HG2.out.keep hk3 (fun q hq => hOL q (hOG q hq)))
      have HP := Lib.hid (lk_pool hlk 8 fr (by omega) (by omega) hfr2.out.1 hfr2.out.2 (by omega))
      rw [show ((8 : Nat) : Int) = 8 from rfl] at HP
      replace hOL := Lib.hid hOL
      replace hOF := Lib.hid hOF
      replace hOG := Lib.hid hOG
      clear HC hlk hk3 HF2 HG2
      go_wp2_with fail
      refine (HP.out).mono ?_
      rintro e w4 ⟨p, rfl, hq4, hk4⟩
      have HF4 := Lib.hid (hk4.keep HF3.out (hOL.out _ hOF.out))
      have HG4 := Lib.hid (HG3.out.keep hk4 (fun q hq => hOL.out q (hOG.out q hq)))
      have HQ4 := Lib.hid hq4
      clear HP hq4 hk4 HF3 HG3
      go_wp2_with fail
      go_loopw [73] (fun x wr => ∃ (j : Nat) (vs : Nat → Value), j ≤ n ∧ x = .int .i64 j ∧ Hid (Gt w wr w1.heap.size vs (fun i => if i < k then n else if i = k then j else 0) (resV cs)) ∧ Hid (wr.heap[w1.heap.size + 1]? = some (.cells #[.int .i64 A, .int .i64 B] 3 (0, 0))) ∧ Hid (Kq w wr ((w1.heap.size + 1) :: gtL w1.heap.size vs) p lp dp 8 (runG frF cs j).1 (runG frF cs j).2 (4 * (runG frF cs j).1.length))) (fun x _ => n - (intOf x).toNat)
      case atStart =>
        refine ⟨0, vs, by omega, rfl, HG4.out.congr (fun i hi => ?_), HF4, by rw [hL.out]; exact HQ4.out⟩
        split
        · rfl
        · split <;> rfl
      case round =>
        clear HF4 HG4 HQ4 hL hLlt hOL hOF hOG
        obtain ⟨j, vs, hj, rfl, HG, HF, HQ⟩ := hrel
        by_cases hjn : j < n
        -- BODY BEGIN
        · obtain ⟨c, hc⟩ : ∃ c, cs[j]? = some c := ⟨_, List.getElem?_eq_getElem (by rw [hn.out]; exact hjn)⟩
          obtain ⟨b, off, rfl, hbl, hrg, hpc⟩ := H.out.at j c hc
          have HB := HQ.out.bel
          have HRg := Lib.hid (range_below hrg hbl HB)
          have hcount := Lib.hid HQ.out.count
          have hnx := Lib.hid (runG_next (f := frF) hc)
          have hjI : (j : Int) < n := by omega
          have hj0 : (0 : Int) ≤ j := by omega
          have hjw : IntKind.i64.wrap ((j : Int) + 1) = (j : Int) + 1 := by have := hAB.out; rw [IntKind.wrap_i64]; omega
          have hCl : Hid ((Tryd.prog.info? 43).map (·.size) = some (pcL c).length) := pcl_info
          have hCs : Hid ((Tryd.prog.info? 43).map (·.size) = some (pcL c).toArray.size) := pcl_info
          have hone : Hid (∀ v ∈ (pcL c).toArray.toList, v.oneCell' = true) := fun v hv => pcL_cells c v (by simpa using hv)
          have hszz : Hid ((pcL pcZ).toArray.size = (pcL c).toArray.size) := rfl
          have HN : Hid ((wr.alloc (.cells (pcL pcZ).toArray 43)).heap[wr.heap.size]? = some (.cells (pcL pcZ).toArray 43 (0, 0))) := hN rfl
          have hloc : Hid (∀ q ∈ (w1.heap.size + 1) :: gtL w1.heap.size vs, q < wr.heap.size ∧ w.heap.size ≤ q) := fun q hq => by
            have h1 := HB1.out.size
            rcases List.mem_cons.1 hq with rfl | hq
            · exact ⟨block_lt HF.out, by omega⟩
            · refine ⟨HG.out.lt q hq, ?_⟩
              unfold gtL at hq
              simp only [List.mem_cons, List.mem_append] at hq
              rcases hq with rfl | hq | hq
              · omega
              · exact (HG.out.low 0 (by omega) q hq).1
              · exact (HG.out.low 1 (by omega) q hq).1
          obtain ⟨L, hL⟩ : ∃ L, (w1.heap.size + 1) :: gtL w1.heap.size vs = L := ⟨_, rfl⟩
          rw [hL] at HQ hloc
          replace hL := Lib.hid hL
          replace hc := Lib.hid hc
          replace hj := Lib.hid hj
          clear HB hrg
          obtain ⟨⟨rs, M⟩, hst⟩ : ∃ st, runG frF cs j = st := ⟨_, rfl⟩
          rw [hst] at HQ hcount hnx
          replace hst := Lib.hid hst
          dsimp only at HQ hcount
          go_upto_if 79 with (first
            | (refine wpList_load_mid rfl 43 _ rfl b (off + j * 19) rfl (pcL c) _ HRg.out Tryd.underlying43 rfl hCl.out ?_)
            | (refine wpList_store_whole rfl 43 _ _ rfl _ (pcL c).toArray rfl rfl _ _ HN.out hszz.out hCs.out hone.out ?_; intro w5 HC5 K5; (have HK5 : Hid (Keeps (fun _ => False) wr w5) := ((Keeps.refl (fun _ => False) wr).alloc _).trans K5.out (fun q hq e => by omega)); (have HQ5 : Hid (Kq w w5 (wr.heap.size :: L) p lp dp 8 rs M (4 * rs.length)) := HQ.out.more HK5.out.below (wr.heap.size :: L) (fun q hq => by rcases List.mem_cons.1 hq with rfl | hq; exact block_lt HC5.out; exact Nat.lt_of_lt_of_le (hloc.out q hq).1 HK5.out.size) (fun q hq => by rcases List.mem_cons.1 hq with rfl | hq; exact .inr (Nat.le_refl _); exact .inl hq)); (have HG5 := Lib.hid (HG.out.keep HK5.out (fun _ _ h => h))); (have HF5 := Lib.hid (HK5.out.keep HF.out (fun h => h))); (obtain ⟨ck, ci, cp, cr⟩ := pc_at HC5.out); clear HN K5 HQ HG HF))
          clear ck ci cp cr
          obtain ⟨⟨rs2, M2⟩, hF2⟩ : ∃ st, frF (rs, M) c = st := ⟨_, rfl⟩
          rw [hF2] at hnx
          replace hF2 := Lib.hid hF2
          go_cut [] (fun wx => Hid (wx.heap[wr.heap.size]? = some (.cells (pcL c).toArray 43 (0, 0))) ∧ Hid (Gt w wx w1.heap.size vs (fun i => if i < k then n else if i = k then j else 0) (resV cs)) ∧ Hid (wx.heap[w1.heap.size + 1]? = some (.cells #[.int .i64 A, .int .i64 B] 3 (0, 0))) ∧ Hid (Kq w wx (wr.heap.size :: L) p lp dp 8 rs2 M2 (4 * rs2.length)))
          case first =>
            by_cases hkd : c.kind = 1
            · have hkd' := Lib.hid hkd
              have bk : (c.kind == 1) = true := by simpa using hkd
              have hF3 : putF 8 (rs, M) c = (rs2, M2) := by rw [← frF_put hkd]; exact hF2.out
              replace hF3 := Lib.hid hF3
              clear hkd
              obtain ⟨ck, ci, cp, cr⟩ := pc_at HC5.out
              have hOL : Hid (∀ q ∈ wr.heap.size :: L, ¬ Own w (wr.heap.size :: L) q) := fun q hq h => h.2 hq
              have hOF : Hid (w1.heap.size + 1 ∈ wr.heap.size :: L) := by show _ ∈ _; rw [← hL.out]; simp
              have hOG : Hid (∀ q ∈ gtL w1.heap.size vs, q ∈ wr.heap.size :: L) := fun q hq => by rw [← hL.out]; simp [hq]
              have HAp := Lib.hid (kq_append HQ5.out c.rcd hpc.2)
              go_wp2_with fail
              refine (HAp.out).mono ?_
              rintro e w6 ⟨hres, hk6⟩
              have HC6 := Lib.hid (hk6.keep HC5.out (hOL.out _ (by simp)))
              have HG6 := Lib.hid (HG5.out.keep hk6 (fun q hq => hOL.out q (hOG.out q hq)))
              have HF6 := Lib.hid (hk6.keep HF5.out (hOL.out _ hOF.out))
              clear hk6 HAp ck ci cp cr
              rcases hres with ⟨hrf, cd, hcd, rfl, hq6⟩ | ⟨hrf, rfl, hq6⟩
              · have HQ6 : Hid (Kq w w6 (wr.heap.size :: L) p lp dp 8 rs2 M2 (4 * rs2.length)) := by
                  have h1 := hF3.out
                  rw [putF_no (pg := 8) (s := (rs, M)) (c := c) hrf] at h1
                  injection h1 with h1 h2
                  subst h1 h2
                  exact hq6
                clear hq6
                replace hrf := Lib.hid hrf
                go_wp2_with fail
                go_meet
                case rel => exact ⟨HC6, HG6, HF6, HQ6⟩
              · have hN : 4 * rs.length + 4 ≤ 4 * (rs ++ [c.rcd]).length + 100 := by rw [List.length_append, List.length_singleton]; omega
                have HPt := Lib.hid (kq_put hq6 hN c.id c.pg hpc.1 ((54 + lenL rs : Nat) : Int) (by have := hcount.out.2.1; omega))
                obtain ⟨ck, ci, cp, cr⟩ := pc_at HC6.out
                have hpi : Hid ((Tryd.prog.info? 41).map (·.size) = some (pgC c.pg).size) := by show _ = _; kernel_rfl
                unfold pgV at HPt
                have hlen : (rs ++ [c.rcd]).length = rs.length + 1 := by rw [List.length_append, List.length_singleton]
                replace hlen := Lib.hid hlen
                replace hrf := Lib.hid hrf
                clear hq6 hN
                go_wp2_with (refine wpList_load_arr rfl 41 _ rfl wr.heap.size 2 rfl (pgC c.pg) _ cp Tryd.underlying41 rfl hpi.out ?_)
                refine (HPt.out).mono ?_
                rintro e w7 ⟨cd, M1, rfl, hq7, hk7, hres⟩
                have HC7 := Lib.hid (hk7.keep HC6.out (hOL.out _ (by simp)))
                have HG7 := Lib.hid (HG6.out.keep hk7 (fun q hq => hOL.out q (hOG.out q hq)))
                have HF7 := Lib.hid (hk7.keep HF6.out (hOL.out _ hOF.out))
                have hpf : putF 8 (rs, M) c = (rs ++ [c.rcd], M1) := by
                  rcases hres with ⟨h1, h2, h3, _, rfl⟩ | ⟨h1, _, rfl⟩
                  · exact putF_ok hrf.out ⟨h1, h2, h3⟩
                  · exact putF_bad hrf.out h1
                have HQ7 : Hid (Kq w w7 (wr.heap.size :: L) p lp dp 8 rs2 M2 (4 * rs2.length)) := by
                  have h1 := hF3.out
                  rw [hpf] at h1
                  injection h1 with h1 h2
                  subst h1 h2
                  exact hq7.mono (by rw [hlen.out]; omega) (by omega)
                clear hq7 hk7 hres HPt hpf ck ci cp cr HC6 HG6 HF6
                go_wp2_with fail
                go_meet
                case rel => exact ⟨HC7, HG7, HF7, HQ7⟩
            · have bk : (c.kind == 1) = false := by simpa using hkd
              have HQ6 : Hid (Kq w w5 (wr.heap.size :: L) p lp dp 8 rs2 M2 (4 * rs2.length)) := by
                have h1 := hF2.out
                rw [frF_other hkd] at h1
                injection h1 with h1 h2
                subst h1 h2
                exact HQ5.out
              replace hkd := Lib.hid hkd
              go_wp2_with fail
              go_meet
              case rel => exact ⟨HC5, HG5, HF5, HQ6⟩
          case rest =>
            obtain ⟨HC, HG, HF, HQ⟩ := hcut
            obtain ⟨ck, ci, cp, cr⟩ := pc_at HC.out
            have HGt := Lib.hid (kq_get HQ.out c.id)
            unfold pgV at HGt
            have hLL : Hid (∀ q ∈ wr.heap.size :: L, w.heap.size ≤ q) := fun q hq => by
              rcases List.mem_cons.1 hq with rfl | hq
              · have h3 := HB1.out.size
                have h4 := (hloc.out (w1.heap.size + 1) (by rw [← hL.out]; simp)).1
                omega
              · exact (hloc.out q hq).2
            clear ck cp cr HC5 HG5 HF5 HQ5 HRg
            go_wp2_with fail
            refine (HGt.out).mono ?_
            rintro e w6 ⟨Q, cd, rfl, hq6, hk6, hres⟩
            obtain ⟨R, hR⟩ : ∃ R, getM 8 M2 c.id = R := ⟨_, rfl⟩
            have hQR : pgC Q = pgC R := by
              rw [← hR]
              rcases hres with ⟨h1, h2, _, h3⟩ | ⟨h1, _, rfl⟩
              · rw [getM_in ⟨h1, h2⟩]; exact h3
              · rw [getM_out h1]
            rw [hQR]
            have hrF : Hid (resF cs j = R) := by
              show resF cs j = R
              unfold resF
              rw [hc.out]
              dsimp only
              rw [hnx.out]
              exact hR
            have hOL : Hid (∀ q ∈ wr.heap.size :: L, ¬ Own w (wr.heap.size :: L) q) := fun q hq h => h.2 hq
            have hOF : Hid (w1.heap.size + 1 ∈ wr.heap.size :: L) := by show _ ∈ _; rw [← hL.out]; simp
            have hOG : Hid (∀ q ∈ gtL w1.heap.size vs, q ∈ wr.heap.size :: L) := fun q hq => by rw [← hL.out]; simp [hq]
            have HG6 := Lib.hid (HG.out.keep hk6 (fun q hq => hOL.out q (hOG.out q hq)))
            have HF6 := Lib.hid (hk6.keep HF.out (hOL.out _ hOF.out))
            have HQ6 := Lib.hid hq6
            have HN6 : Hid ((w6.alloc (.cells (pgC pageZ) 41)).heap[w6.heap.size]? = some (.cells (pgC pageZ) 41 (0, 0))) := hN rfl
            replace hR := Lib.hid hR
            clear hk6 hq6 hres HGt hQR ci HC HG HF HQ
            go_wp2_with (refine wpList_store_whole rfl 41 _ _ rfl _ (pgC R) rfl rfl _ (pgC pageZ) HN6.out rfl (by kernel_rfl) (pgC_one _) ?_; intro w7 HX7 K7; (have HK7 : Hid (Keeps (fun _ => False) w6 w7) := ((Keeps.refl (fun _ => False) w6).alloc _).trans K7.out (fun q hq e => by omega)); (have HG7 := Lib.hid (HG6.out.keep HK7.out (fun _ _ h => h))); (have HF7 := Lib.hid (HK7.out.keep HF6.out (fun h => h))); clear HN6 K7 HG6 HF6)
            have hlk : (if k < k then n else if k = k then j else 0) = j := by simp
            have hown := HG7.out.own k hk2
            rw [hlk] at hown
            obtain ⟨ma, mc, hmf⟩ := hown.form
            obtain ⟨cg, fg⟩ := HG7.out.at k hk2
            rw [hmf] at hown cg
            have HOn : Hid (OwnS (w7.drew.alloc (.cells (pgC R).toList.toArray 41)) 41 16 (.slice ma j mc) j (resV cs j)) := OwnS.keep (w := w7) hown (((Keeps.refl (fun _ => False) w7).drew).alloc _) (fun _ _ h => h)
            have q0 : w7.cell? ⟨w6.heap.size, 0, none⟩ = some (.int .i64 R.kind) := cell_at HX7.out 0
            have q1 : w7.cell? ⟨w6.heap.size, 1, none⟩ = some (.int .i64 R.level) := cell_at HX7.out 1
            have q2 : w7.cell? ⟨w6.heap.size, 2, none⟩ = some (.int .i64 R.store) := cell_at HX7.out 2
            have q3 : w7.cell? ⟨w6.heap.size, 3, none⟩ = some (.int .i64 R.next) := cell_at HX7.out 3
            have q4 : w7.cell? ⟨w6.heap.size, 4, none⟩ = some (.int .i64 (R.st 0)) := cell_at HX7.out 4
            have q5 : w7.cell? ⟨w6.heap.size, 5, none⟩ = some (.string (R.dt 0)) := cell_at HX7.out 5
            have q6 : w7.cell? ⟨w6.heap.size, 6, none⟩ = some (.int .i64 (R.st 1)) := cell_at HX7.out 6
            have q7 : w7.cell? ⟨w6.heap.size, 7, none⟩ = some (.string (R.dt 1)) := cell_at HX7.out 7
            have q8 : w7.cell? ⟨w6.heap.size, 8, none⟩ = some (.int .i64 (R.st 2)) := cell_at HX7.out 8
            have q9 : w7.cell? ⟨w6.heap.size, 9, none⟩ = some (.string (R.dt 2)) := cell_at HX7.out 9
            have q10 : w7.cell? ⟨w6.heap.size, 10, none⟩ = some (.int .i64 (R.st 3)) := cell_at HX7.out 10
            have q11 : w7.cell? ⟨w6.heap.size, 11, none⟩ = some (.string (R.dt 3)) := cell_at HX7.out 11
            have q12 : w7.cell? ⟨w6.heap.size, 12, none⟩ = some (.int .i64 (R.st 4)) := cell_at HX7.out 12
            have q13 : w7.cell? ⟨w6.heap.size, 13, none⟩ = some (.string (R.dt 4)) := cell_at HX7.out 13
            have q14 : w7.cell? ⟨w6.heap.size, 14, none⟩ = some (.int .i64 (R.st 5)) := cell_at HX7.out 14
            have q15 : w7.cell? ⟨w6.heap.size, 15, none⟩ = some (.string (R.dt 5)) := cell_at HX7.out 15
            have cg2 : (w7.alloc (.cells #[.int .i64 R.kind, .int .i64 R.level, .int .i64 R.store, .int .i64 R.next, .int .i64 (R.st 0), .string (R.dt 0), .int .i64 (R.st 1), .string (R.dt 1), .int .i64 (R.st 2), .string (R.dt 2), .int .i64 (R.st 3), .string (R.dt 3), .int .i64 (R.st 4), .string (R.dt 4), .int .i64 (R.st 5), .string (R.dt 5)] 41)).cell? ⟨w1.heap.size, k, none⟩ = some (.slice ma j mc) := by
              rw [← cg]
              unfold World.cell?
              rw [Below.heap_alloc _ _ _ (block_lt HG7.out.cell)]
            have hbl7 : w1.heap.size < w7.heap.size := block_lt HG7.out.cell
            have hb7n : Hid (w1.heap.size ∉ blk (.slice ma j mc)) := fun hm => (HG7.out.low k hk2 w1.heap.size (by rw [hmf]; exact hm)).2.1 rfl
            have cgd : w7.drew.cell? ⟨w1.heap.size, k, none⟩ = some (.slice ma j mc) := cg
            have fgd : w7.drew.frozen? ⟨w1.heap.size, k, none⟩ = false := fg
            obtain ⟨ji, hji, hy0, hy1, hy2⟩ := info_parts Tryd.info_page
            have hnI : Hid (j ≤ 100) := by have := hAB.out; show j ≤ 100; omega
            have H7 := Lib.hid hown
            replace hmf := Lib.hid hmf
            have hpi : Hid ((Tryd.prog.info? 41).map (·.size) = some 16) := by show _ = _; kernel_rfl
            clear hown hlk cg fg
            go_region_law (first
              | (refine step_append_frame rfl (.tmp 106) (.tmp 108) 24 rfl 41 ji (.agg (pgC pageZ)) 16 176 Tryd.underlying24 hji hy0 hy1 hy2 rfl (by decide) _ _ _ rfl HOn.out ⟨w7.heap.size, 0, none⟩ 1 1 (pgC R).toList rfl rfl (cells_new _ _ _ _ _ rfl) (pgC_one R) (by have := hnI.out; unfold maxLen; omega) (by have := hnI.out; omega) (by omega) ?_; rintro g8 c8 w8 ho8 hk8 hb8; (have HK8 : Hid (Keeps (· ∈ blk (.slice ma j mc)) w7 w8) := ((((Keeps.refl _ w7).drew).alloc _)).trans hk8 (fun _ _ h => h)); (have hq8 := HK8.out.keep HG7.out.cell hb7n.out); (have C8 : w8.cell? ⟨w1.heap.size, k, none⟩ = some (.slice ma j mc) := by rw [cell_at hq8 k, ← cell_at HG7.out.cell k]; exact cgd); (have F8 := free_at hq8 k); (have HO8 := Lib.hid ho8); (have HB8 := Lib.hid hb8); clear ho8 hk8 hb8))
            all_goals
              have hbN : ∀ q ∈ blk (.slice (some ⟨g8, 0, none⟩) (j + 1) c8), q ∈ blk (vs k) ∨ w7.heap.size ≤ q := fun q hq => by
                rw [hmf.out]
                exact (HB8.out q hq).imp (fun h => h) (fun h => Nat.le_trans (by simp) h)
              have hkN : Keeps (· ∈ blk (vs k)) w7 w8 := by rw [hmf.out]; exact HK8.out
              have hf46 : w1.heap.size + 1 < w7.heap.size := block_lt HF7.out
              have hwW : w.heap.size ≤ w7.heap.size := Nat.le_trans HQ6.out.bel.size HK7.out.size
              have hlkk : (if k < k then n else if k = k then j else 0) = j := by simp
              have HG9 := Lib.hid (HG7.out.put (ln' := fun i => if i < k then n else if i = k then j + 1 else 0) hwW hf46 k hk2 (.slice (some ⟨g8, 0, none⟩) (j + 1) c8) (j + 1) (by simp) (fun i hi hik => by simp [hik]) (by rw [resV, hrF.out]; exact HO8.out) hkN hbN)
              have hks : Keeps (· = w1.heap.size) w8 (w8.setCell ⟨w1.heap.size, k, none⟩ (.slice (some ⟨g8, 0, none⟩) (j + 1) c8)) := (Keeps.refl _ _).setCell _ _ (.inl rfl)
              have HF9 := Lib.hid (hks.keep (hkN.keep HF7.out (fun hm => (HG7.out.low k hk2 _ hm).2.2 rfl)) (by omega))
              have hkF : Keeps (· ∈ wr.heap.size :: L) w6 (w8.setCell ⟨w1.heap.size, k, none⟩ (.slice (some ⟨g8, 0, none⟩) (j + 1) c8)) := (((HK7.out.mono (fun _ _ h => h.elim)).trans hkN (fun q hq h => hOG.out q (gtL_mem hk2 h)))).trans hks (fun q hq e => by rw [e]; exact hOG.out _ (by simp [gtL]))
              have HQ9 : Hid (Kq w (w8.setCell ⟨w1.heap.size, k, none⟩ (.slice (some ⟨g8, 0, none⟩) (j + 1) c8)) ((w1.heap.size + 1) :: gtL w1.heap.size (setV vs k (.slice (some ⟨g8, 0, none⟩) (j + 1) c8))) p lp dp 8 (runG frF cs (j + 1)).1 (runG frF cs (j + 1)).2 (4 * (runG frF cs (j + 1)).1.length)) := by
                rw [hnx.out]
                refine HQ6.out.keep2 hkF hLL.out _ (fun q hq => ?_) (fun q hq => ?_)
                · rcases List.mem_cons.1 hq with rfl | hq
                  · exact block_lt HF9.out
                  · exact HG9.out.lt q hq
                · rcases List.mem_cons.1 hq with rfl | hq
                  · exact .inl hOF.out
                  · rcases setV_mem hq with hq | hq
                    · exact .inl (hOG.out q hq)
                    · rcases hbN q hq with h | h
                      · exact .inl (hOG.out q (gtL_mem hk2 h))
                      · exact .inr (Nat.le_trans HK7.out.size h)
              clear hbN hkN hks hkF cgd fgd cg2 C8 F8 hq8 q0 q1 q2 q3 q4 q5 q6 q7 q8 q9 q10 q11 q12 q13 q14 q15
              go_wp2_with fail
              go_roundw
              case rel => exact ⟨j + 1, setV vs k (.slice (some ⟨g8, 0, none⟩) (j + 1) c8), by omega, rfl, HG9, HF9, HQ9⟩
              case measure => simp [intOf]; omega
        -- BODY END
        · obtain rfl : j = n := by omega
          replace hjn := Lib.hid hjn
          have HB := Lib.hid HQ.out.bel
          have hlt : ¬ (j : Int) < j := by omega
          go_wp2_with fail
          go_roundw
          case rel =>
            refine ⟨k + 1, vs, by omega, rfl, HG.out.congr (fun i hi => ?_), HF, HB⟩
            by_cases h1 : i < k
            · rw [if_pos (by omega), if_pos h1]
            · by_cases h2 : i = k
              · rw [if_pos (by omega), if_neg h1, if_pos h2]
              · rw [if_neg (by omega), if_neg h1, if_neg h2]
          case measure => simp [intOf]; omega
    · obtain rfl : k = 2 := by omega
      have hg0 := HG.out.own 0 (by omega)
      have hg1 := HG.out.own 1 (by omega)
      have hl0 : (if 0 < 2 then n else 0) = n := by simp
      have hl1 : (if 1 < 2 then n else 0) = n := by simp
      rw [hl0] at hg0
      rw [hl1] at hg1
      obtain ⟨a0, c0, hv0⟩ := hg0.form
      obtain ⟨a1, c1, hv1⟩ := hg1.form
      rw [hv0] at hg0
      rw [hv1] at hg1
      have x0 : wr.cell? ⟨w1.heap.size, 0, none⟩ = some (.slice a0 n c0) := by rw [(HG.out.at 0 (by omega)).1, hv0]
      have x1 : wr.cell? ⟨w1.heap.size, 1, none⟩ = some (.slice a1 n c1) := by rw [(HG.out.at 1 (by omega)).1, hv1]
      have G0 := Lib.hid hg0
      have G1 := Lib.hid hg1
      have X0 := Lib.hid x0
      have X1 := Lib.hid x1
      have hb7z := Lib.hid (HG.out.lt w1.heap.size (by simp [gtL]))
      obtain ⟨wz, hwz⟩ : ∃ wz, wr = wz := ⟨_, rfl⟩
      rw [hwz] at x0 x1 G0 G1 X0 X1 HB hb7z ⊢
      replace hwz := Lib.hid hwz
      clear hg0 hg1 hl0 hl1 hv0 hv1 HG HF x1
      go_wp2_with fail
      go_loopw [116] (fun x wx => ∃ (i : Nat), i ≤ n ∧ x = .int .i64 i ∧ Hid (Below wz.heap.size wz wx)) (fun x _ => n - (intOf x).toNat)
      case atStart => exact ⟨0, by omega, rfl, bR⟩
      case round =>
        obtain ⟨i, hi, rfl, HBz⟩ := hrel
        by_cases hin : i < n
        · have hiI : (i : Int) < n := by omega
          have hi0 : (0 : Int) ≤ i := by omega
          have hiw : IntKind.i64.wrap ((i : Int) + 1) = (i : Int) + 1 := by have := hAB.out; rw [IntKind.wrap_i64]; omega
          obtain ⟨g0, rfl⟩ := G0.out.addr (by omega)
          obtain ⟨g1, rfl⟩ := G1.out.addr (by omega)
          obtain ⟨R, hR⟩ : ∃ R, resF cs i = R := ⟨_, rfl⟩
          have r0 := res_at (G0.out.keep (Keeps.of_below (fun _ => False) HBz.out) (fun _ _ h => h)) i hin
          have r1 := res_at (G1.out.keep (Keeps.of_below (fun _ => False) HBz.out) (fun _ _ h => h)) i hin
          rw [hR] at r0 r1
          have hS0 : CmS w1.heap.size (.slice (some ⟨g0, 0, none⟩) n c0) (.slice (some ⟨g1, 0, none⟩) n c1) g0 g1 (i * 16) R wr.drew := by
            refine ⟨?_, ?_, r0, r1⟩
            · show wr.cell? _ = _
              rw [← X0.out]; unfold World.cell?; rw [HBz.out.block _ hb7z.out]
            · show wr.cell? _ = _
              rw [← X1.out]; unfold World.cell?; rw [HBz.out.block _ hb7z.out]
          replace hR := Lib.hid hR
          clear r0 r1 x0
          have heq : Hid ((!eqPg R R) = false) := by show _ = _; rw [eqPg_same rfl]; rfl
          go_wp2_with fail
          refine wp_region_held_drew (S := CmS w1.heap.size (.slice (some ⟨g0, 0, none⟩) n c0) (.slice (some ⟨g1, 0, none⟩) n c1) g0 g1 (i * 16) R) (by kernel_rfl) hS0 (fun hHeld => ?_)
          clear hS0
          refine wpAnyH_take (i := 0) (oi := ⟨some 119, _, _, _, _, _⟩) (v := ?_) rfl (by kernel_rfl) (by kernel_rfl) (by kernel_rfl) (fun _ _ _ h => h) (Or.inl ⟨by rfl, ?_⟩) hHeld ?_
          rotate_left
          · intro w' hSw
            obtain ⟨s0, s1, s2, s3⟩ := hSw
            go_simp
            try with_reducible rfl
            try omega
          simp only [Act.put, List.setIfInBounds_toArray, List.set_cons_zero, List.set_cons_succ]
          refine wpAnyH_take (i := 1) (oi := ⟨some 120, _, _, _, _, _⟩) (v := ?_) rfl (by kernel_rfl) (by kernel_rfl) (by kernel_rfl) (fun _ _ _ h => h) (Or.inl ⟨by rfl, ?_⟩) hHeld ?_
          rotate_left
          · intro w' hSw
            obtain ⟨s0, s1, s2, s3⟩ := hSw
            go_simp
            try with_reducible rfl
            try omega
          simp only [Act.put, List.setIfInBounds_toArray, List.set_cons_zero, List.set_cons_succ]
          refine wpAnyH_take (i := 2) (oi := ⟨some 121, _, _, _, _, _⟩) (v := ?_) rfl (by kernel_rfl) (by kernel_rfl) (by kernel_rfl) (fun _ _ _ h => h) (Or.inl ⟨by rfl, ?_⟩) hHeld ?_
          rotate_left
          · intro w' hSw
            obtain ⟨s0, s1, s2, s3⟩ := hSw
            go_simp
            try with_reducible rfl
            try omega
          simp only [Act.put, List.setIfInBounds_toArray, List.set_cons_zero, List.set_cons_succ]
          refine wpAnyH_take (i := 3) (oi := ⟨some 122, _, _, _, _, _⟩) (v := .pointer (some ⟨g0, i * 16, none⟩)) rfl (by kernel_rfl) (by kernel_rfl) (by kernel_rfl) (fun _ _ _ h => h) (Or.inl ⟨by rfl, ?_⟩) hHeld ?_
          · intro w' hSw
            obtain ⟨s0, s1, s2, s3⟩ := hSw
            go_simp
            try with_reducible rfl
            try omega
          simp only [Act.put, List.setIfInBounds_toArray, List.set_cons_zero, List.set_cons_succ]
          refine wpAnyH_take (i := 4) (oi := ⟨some 123, _, _, _, _, _⟩) (v := .agg (pgC R)) rfl (by kernel_rfl) (by kernel_rfl) (by kernel_rfl) (fun _ _ _ h => h) (yieldsIf_load_mid (by rfl) _ _ rfl g0 (i * 16) rfl (pgC R).toList _ (fun _ h => h.2.2.1) Tryd.underlying41 rfl (by kernel_rfl)) hHeld ?_
          simp only [Act.put, List.setIfInBounds_toArray, List.set_cons_zero, List.set_cons_succ]
          refine wpAnyH_take (i := 5) (oi := ⟨some 124, _, _, _, _, _⟩) (v := ?_) rfl (by kernel_rfl) (by kernel_rfl) (by kernel_rfl) (fun _ _ _ h => h) (Or.inl ⟨by rfl, ?_⟩) hHeld ?_
          rotate_left
          · intro w' hSw
            obtain ⟨s0, s1, s2, s3⟩ := hSw
            go_simp
            try with_reducible rfl
            try omega
          simp only [Act.put, List.setIfInBounds_toArray, List.set_cons_zero, List.set_cons_succ]
          refine wpAnyH_take (i := 6) (oi := ⟨some 125, _, _, _, _, _⟩) (v := ?_) rfl (by kernel_rfl) (by kernel_rfl) (by kernel_rfl) (fun _ _ _ h => h) (Or.inl ⟨by rfl, ?_⟩) hHeld ?_
          rotate_left
          · intro w' hSw
            obtain ⟨s0, s1, s2, s3⟩ := hSw
            go_simp
            try with_reducible rfl
            try omega
          simp only [Act.put, List.setIfInBounds_toArray, List.set_cons_zero, List.set_cons_succ]
          refine wpAnyH_take (i := 7) (oi := ⟨some 126, _, _, _, _, _⟩) (v := ?_) rfl (by kernel_rfl) (by kernel_rfl) (by kernel_rfl) (fun _ _ _ h => h) (Or.inl ⟨by rfl, ?_⟩) hHeld ?_
          rotate_left
          · intro w' hSw
            obtain ⟨s0, s1, s2, s3⟩ := hSw
            go_simp
            try with_reducible rfl
            try omega
          simp only [Act.put, List.setIfInBounds_toArray, List.set_cons_zero, List.set_cons_succ]
          refine wpAnyH_take (i := 8) (oi := ⟨some 127, _, _, _, _, _⟩) (v := .pointer (some ⟨g1, i * 16, none⟩)) rfl (by kernel_rfl) (by kernel_rfl) (by kernel_rfl) (fun _ _ _ h => h) (Or.inl ⟨by rfl, ?_⟩) hHeld ?_
          · intro w' hSw
            obtain ⟨s0, s1, s2, s3⟩ := hSw
            go_simp
            try with_reducible rfl
            try omega
          simp only [Act.put, List.setIfInBounds_toArray, List.set_cons_zero, List.set_cons_succ]
          refine wpAnyH_take (i := 9) (oi := ⟨some 128, _, _, _, _, _⟩) (v := .agg (pgC R)) rfl (by kernel_rfl) (by kernel_rfl) (by kernel_rfl) (fun _ _ _ h => h) (yieldsIf_load_mid (by rfl) _ _ rfl g1 (i * 16) rfl (pgC R).toList _ (fun _ h => h.2.2.2) Tryd.underlying41 rfl (by kernel_rfl)) hHeld ?_
          simp only [Act.put, List.setIfInBounds_toArray, List.set_cons_zero, List.set_cons_succ]
          refine wpAnyH_take (i := 10) (oi := ⟨some 129, _, _, _, _, _⟩) (v := .bool false) rfl (by kernel_rfl) (by kernel_rfl) (by kernel_rfl) (fun _ _ _ h => h) (Or.inl ⟨by rfl, fun w' _ => run_ne_op _ _ _ rfl R R false heq.out rfl rfl w'⟩) hHeld ?_
          simp only [Act.put, List.setIfInBounds_toArray, List.set_cons_zero, List.set_cons_succ]
          clear hHeld
          refine wpAnyH_done (by kernel_rfl) ?_ _
          go_wp2_with fail
          go_roundw
          case rel => exact ⟨i + 1, by omega, rfl, bD HBz.out⟩
          case measure => simp [intOf]; omega
        · obtain rfl : i = n := by omega
          have hlt : ¬ (i : Int) < i := by omega
          go_wp2_with fail
          go_ret
          exact ⟨rfl, bT HB.out HBz.out⟩
end Go.Proofs.YtdkilpjebmhkkaaDoor
