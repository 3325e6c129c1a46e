import Derived.Test.YtimomjheanfbmaaGreatDoorMbr
import Derived.Laws.OwnMore
import Derived.Lib.SliceRun
set_option linter.unusedSimpArgs false
set_option linter.unusedVariables false
namespace Go.Proofs.YtimomjheanfbmaaGreatDoor
open Go.RowKit

/-! ### a transaction is struck from the row -/
theorem lvV_app (a b : List Lv) : lvV (a ++ b) = lvV a ++ lvV b := List.flatMap_append
theorem lvV_take : ∀ (l : List Lv) (i : Nat), (lvV l).take (i * 3) = lvV (l.take i)
  | [], i => by simp [lvV]
  | x :: l, 0 => by simp [lvV]
  | x :: l, i + 1 => by
    show (lvL x ++ lvV l).take ((i + 1) * 3) = lvL x ++ lvV (l.take i)
    rw [List.take_append, List.take_of_length_le (by show 3 ≤ (i + 1) * 3; omega), show (i + 1) * 3 - (lvL x).length = i * 3 by show (i + 1) * 3 - 3 = _; omega, lvV_take l i]
theorem own_head {w : World} {g n c i : Nat} {l : List Lv} (h : OwnS w 61 3 (.slice (some ⟨g, 0, none⟩) n c) n (lvV l)) (hi : i ≤ n) : OwnS w 61 3 (.slice (some ⟨g, 0, none⟩) i c) i (lvV (l.take i)) := by
  obtain ⟨hl, h2⟩ := h
  rw [lvV_length] at hl
  refine ⟨by rw [lvV_length, List.length_take]; omega, ?_⟩
  rcases h2 with ⟨he, _⟩ | ⟨g1, cap, cur, he, hb, hg, hnc, hcm, hcs, htake⟩
  · simp at he
  · simp only [Value.slice.injEq, Option.some.injEq, Addr.mk.injEq, and_true, true_and] at he
    obtain ⟨rfl, rfl⟩ := he
    refine .inr ⟨g, c, cur, rfl, hb, hg, by omega, hcm, hcs, ?_⟩
    have e1 : cur.toList.take (i * 3) = (cur.toList.take (n * 3)).take (i * 3) := by rw [List.take_take, Nat.min_eq_left (by omega)]
    rw [e1, htake, lvV_take]
theorem own_cap {w : World} {e : TypeId} {size g n c : Nat} {xs : List Value} (h : OwnS w e size (.slice (some ⟨g, 0, none⟩) n c) n xs) : n ≤ c ∧ c ≤ maxLen := by
  rcases h.2 with ⟨he, _⟩ | ⟨g1, cap, cur, he, hb, hg, hnc, hcm, hcs, htake⟩
  · simp at he
  · simp only [Value.slice.injEq, Option.some.injEq, Addr.mk.injEq, and_true, true_and] at he
    obtain ⟨rfl, rfl⟩ := he
    exact ⟨hnc, hcm⟩
theorem own_tail {w : World} {e : TypeId} {size g n c : Nat} {xs : List Value} (h : OwnS w e size (.slice (some ⟨g, 0, none⟩) n c) n xs) (j : Nat) (hj : n * size ≤ j) (u : Value) : OwnS (w.setCell ⟨g, j, none⟩ u) e size (.slice (some ⟨g, 0, none⟩) n c) n xs := by
  have h2 := h.set j u
  rwa [List.set_eq_of_length_le (by rw [h.1]; exact hj)] at h2
theorem own_there {w : World} {e : TypeId} {size g n c : Nat} {xs : List Value} (h : OwnS w e size (.slice (some ⟨g, 0, none⟩) n c) n xs) (j : Nat) (hj : j < c * size) : (w.cell? ⟨g, j, none⟩).isSome = true := by
  rcases h.2 with ⟨he, _⟩ | ⟨g1, cap, cur, he, hb, hg, hnc, hcm, hcs, htake⟩
  · simp at he
  · simp only [Value.slice.injEq, Option.some.injEq, Addr.mk.injEq, and_true, true_and] at he
    obtain ⟨rfl, rfl⟩ := he
    rw [cell_at hg, Array.getElem?_eq_getElem (by omega)]; rfl
theorem run_clear_alv (w : World) (ty : TypeId) (b o c : Nat) (hc : ∀ j, j < 3 → (w.cell? ⟨b, o + j, none⟩).isSome = true) (hf : ∀ j, j < 3 → w.frozen? ⟨b, o + j, none⟩ = false) :
    (Builtin.clear_ #[58] ty #[.slice (some ⟨b, o, none⟩) 1 c]).run Tryz.prog w = .ok (.tuple #[]) (w.setCells b o [.int .i64 0, .int .i64 0, .int .i64 0]) := by
  have hv : ∀ w, (zeroValue 61).run Tryz.prog w = .ok (.agg #[.int .i64 0, .int .i64 0, .int .i64 0]) w := fun w => by kernel_rfl
  have hzc : (Builtin.zeroCells (Value.agg #[.int .i64 0, .int .i64 0, .int .i64 0]).cells 1).toList = [.int .i64 0, .int .i64 0, .int .i64 0] := by kernel_rfl
  have hst := run_storeCells_cells (P := Tryz.prog) b o [.int .i64 0, .int .i64 0, .int .i64 0] 0 w (by simpa using hc) (by simpa using hf) (by intro v hv'; simp at hv'; rw [hv']; rfl)
  simp only [Nat.add_zero] at hst
  simp [Builtin.clear_, run_underlying Tryz.underlying58, hv, hzc, hst]
theorem step_append_run {P : Program} {ops : Array Oper} {o : Oper} {a : Act} {w : World} {K : Act → World → Prop} {Q : Exit → Act → World → Prop} {E : Prop} (hgd : o.guard = none) (s x : Operand) (t : TypeId)
    (ho : o.op = .call { callee := .builtin .append, args := #[s, x], argTypes := #[t, t] }) (vs vx v : Value) (w' : World) (hs : a.eval s = vs) (hx : a.eval x = vx) (hr : (Builtin.append_ #[t, t] o.type #[vs, vx]).run P w = .ok v w')
    (h : K (a.put o.dst v) w') : if Region.wanted o (yielded ops a.tmps) = true then Oper.wp P o a w K Q else E := by
  have hw : Region.wanted o (yielded ops a.tmps) = true := by simp [Region.wanted, hgd]
  rw [if_pos hw]
  unfold Oper.wp execOp
  simp only [ho, resolve, invoke, builtin, Sem.run_bind, Sem.run_pure, Result.andThen_ok, List.map_toArray, List.map_cons, List.map_nil, hs, hx, hr]
  exact h
set_option maxRecDepth 100000 in
set_option maxHeartbeats 800000 in
theorem ch_delete {w : World} {g n c i : Nat} {l : List Lv} (h : OwnS w 61 3 (.slice (some ⟨g, 0, none⟩) n c) n (lvV l)) (hn : l.length = n) (hi : i < n) (hn8 : n ≤ 8) :
    Calls Tryz.prog 130 #[.slice (some ⟨g, 0, none⟩) n c, .int .i64 i, .int .i64 ((i : Int) + 1)] w fun e w' => e = .returned (.slice (some ⟨g, 0, none⟩) (n - 1) c) ∧ OwnS w' 61 3 (.slice (some ⟨g, 0, none⟩) (n - 1) c) (n - 1) (lvV (l.eraseIdx i)) ∧ Keeps (· = g) w w' := by
  obtain ⟨hnc, hcm⟩ := own_cap h
  unfold maxLen at hcm
  obtain ⟨m, hm⟩ : ∃ m, n = i + 1 + m := ⟨n - (i + 1), by omega⟩
  obtain ⟨ji, hj, hy0, hy1, hy2⟩ := Tryz.info_alvp
  have H := Lib.hid h
  have hHead := own_head h (i := i) (by omega)
  have hdl : (lvV (l.drop (i + 1))).length = m * 3 := by rw [lvV_length, List.length_drop]; omega
  have hnews : ∀ (j : Nat) (u : Value), (lvV (l.drop (i + 1)))[j]? = some u → w.drew.cell? ((if c = i + 1 then (⟨g, 0, none⟩ : Addr) else ⟨g, (i + 1) * 3, none⟩).add j) = some u := fun j u hu => by
    have hj3 := (List.getElem?_eq_some_iff.1 hu).1
    rw [if_neg (by omega)]
    have e1 : lvV l = lvV (l.take (i + 1)) ++ lvV (l.drop (i + 1)) := by rw [← lvV_app, List.take_append_drop]
    have e2 : (lvV (l.take (i + 1))).length = (i + 1) * 3 := by rw [lvV_length, List.length_take]; omega
    have e3 : (lvV l)[(i + 1) * 3 + j]? = some u := by rw [e1, List.getElem?_append_right (by omega), e2, show (i + 1) * 3 + j - (i + 1) * 3 = j by omega]; exact hu
    have := World.ownsRow.cells h (g := g) rfl ((i + 1) * 3 + j) u e3
    rw [Addr.add_mid, Nat.zero_add] at this
    rw [Addr.add_mid]
    exact this
  have hones : ∀ u ∈ lvV (l.drop (i + 1)), u.oneCell' = true := fun u hu => by
    obtain ⟨s, _, hs⟩ := List.mem_flatMap.1 hu
    exact lvL_cells s u hs
  obtain ⟨w2, hrun, hown2, hgr⟩ := run_append_fits (P := Tryz.prog) w.drew 0 58 58 61 ji 3 Tryz.underlying58 hj hy1 g i c (lvV (l.take i)) hHead (if c = i + 1 then ⟨g, 0, none⟩ else ⟨g, (i + 1) * 3, none⟩) m (c - (i + 1)) (lvV (l.drop (i + 1))) hdl hnews hones (by omega)
  have hk2 : Keeps (· = g) w w2 := ((Keeps.refl (fun q => q = g) w).drew).trans ((Keeps.refl (fun q => q = g) w.drew).grown hgr (fun j hj => .inl (by injection hj with hj; exact hj.symm))) (fun q _ h => h)
  have e4 : lvV (l.take i) ++ lvV (l.drop (i + 1)) = lvV (l.eraseIdx i) := by rw [← lvV_app, List.eraseIdx_eq_take_drop_succ]
  rw [e4] at hown2
  have hO2 : Hid (OwnS w2 61 3 (.slice (some ⟨g, 0, none⟩) (i + m) c) (i + m) (lvV (l.eraseIdx i))) := hown2
  have HK2 := Lib.hid hk2
  have hcl := run_clear_alv w2 0 g ((i + m) * 3) (c - (i + m)) (fun j hj => own_there hO2.out _ (by omega)) (fun j hj => own_free hO2.out _)
  have hnm := Lib.hid hm
  have hi1N : (i : Int) + 1 ≤ (n : Int) := by omega
  have hi10 : (0 : Int) ≤ (i : Int) + 1 := by omega
  have hin : (i : Int) < n := by omega
  have hin1 : (i : Int) + 1 ≤ n := by omega
  have hi0 : (0 : Int) ≤ i := by omega
  have hic : (i : Int) + 1 ≤ c := by omega
  have hicn : i + 1 ≤ c := by omega
  have hicn2 : i ≤ c := by omega
  have hinn : i + 1 ≤ n := by omega
  have hne : ((i : Int) == (i : Int) + 1) = false := by simp; omega
  have hi1n : ((i : Int) + 1).toNat = i + 1 := by omega
  have hnmm : n - (i + 1) = m := by omega
  have HRun := Lib.hid hrun
  clear h hHead hnews hones hgr hown2 hk2 e4 hdl hm hrun
  go_enter Tryz.func130, Tryz.ntmps130
  go_upto_region 5 with fail
  refine wp_region_held_drew (S := fun _ => True) (by kernel_rfl) trivial (fun hHeld => ?_)
  refine wpAnyH_take (i := 0) (oi := ⟨some 20, _, _, _, _, _⟩) (v := ?_) rfl (by kernel_rfl) (by kernel_rfl) (by kernel_rfl) (fun _ _ _ h => h) (Or.inl ⟨by rfl, ?_⟩) hHeld ?_
  rotate_left
  · intro w' hSw
    clear hSw
    go_simp
    try with_reducible rfl
    try omega
  simp only [Act.put, List.setIfInBounds_toArray, List.set_cons_zero, List.set_cons_succ]
  refine wpAnyH_take (i := 1) (oi := ⟨some 21, _, _, _, _, _⟩) (v := ?_) rfl (by kernel_rfl) (by kernel_rfl) (by kernel_rfl) (fun _ _ _ h => h) (Or.inl ⟨by rfl, ?_⟩) hHeld ?_
  rotate_left
  · intro w' hSw
    clear hSw
    go_simp
    try with_reducible rfl
    try omega
  simp only [Act.put, List.setIfInBounds_toArray, List.set_cons_zero, List.set_cons_succ]
  refine wpAnyH_take (i := 2) (oi := ⟨some 22, _, _, _, _, _⟩) (v := .slice (some ⟨g, 0, none⟩) i c) rfl (by kernel_rfl) (by kernel_rfl) (by kernel_rfl) (fun _ _ _ h => h) (Or.inl ⟨by rfl, ?_⟩) hHeld ?_
  · intro w' hSw
    clear hSw
    go_simp
    try with_reducible rfl
    try omega
  simp only [Act.put, List.setIfInBounds_toArray, List.set_cons_zero, List.set_cons_succ]
  refine wpAnyH_take (i := 3) (oi := ⟨some 23, _, _, _, _, _⟩) (v := ?_) rfl (by kernel_rfl) (by kernel_rfl) (by kernel_rfl) (fun _ _ _ h => h) (Or.inl ⟨by rfl, ?_⟩) hHeld ?_
  rotate_left
  · intro w' hSw
    clear hSw
    go_simp
    try with_reducible rfl
    try omega
  simp only [Act.put, List.setIfInBounds_toArray, List.set_cons_zero, List.set_cons_succ]
  refine wpAnyH_take (i := 4) (oi := ⟨some 24, _, _, _, _, _⟩) (v := ?_) rfl (by kernel_rfl) (by kernel_rfl) (by kernel_rfl) (fun _ _ _ h => h) (Or.inl ⟨by rfl, ?_⟩) hHeld ?_
  rotate_left
  · intro w' hSw
    clear hSw
    go_simp
    try with_reducible rfl
    try omega
  simp only [Act.put, List.setIfInBounds_toArray, List.set_cons_zero, List.set_cons_succ]
  refine wpAnyH_take (i := 5) (oi := ⟨some 25, _, _, _, _, _⟩) (v := .slice (some (if c = i + 1 then ⟨g, 0, none⟩ else ⟨g, (i + 1) * 3, none⟩)) m (c - (i + 1))) rfl (by kernel_rfl) (by kernel_rfl) (by kernel_rfl) (fun _ _ _ h => h) (Or.inl ⟨by rfl, ?_⟩) hHeld ?_
  · intro w' hSw
    clear hSw
    go_simp
    try (split <;> rfl)
    try omega
  simp only [Act.put, List.setIfInBounds_toArray, List.set_cons_zero, List.set_cons_succ]
  refine wpAnyH_ready (rs := [6]) (by kernel_rfl) (by simp) ?_
  refine AllReadyH.cons (o := ⟨some 26, _, _, _, _, _⟩) rfl (fun K hK => ?_) AllReadyH.nil
  refine step_append_run rfl _ _ 58 rfl _ _ _ _ rfl rfl HRun.out ?_
  refine hK.out _ _ trivial (fun hHeld => ?_)
  clear hK K
  try simp only [Act.put, List.setIfInBounds_toArray, List.set_cons_zero, List.set_cons_succ]
  refine wpAnyH_take (i := 7) (oi := ⟨some 0, _, _, _, _, _⟩) (v := .slice (some ⟨g, 0, none⟩) (i + m) c) rfl (by kernel_rfl) (by kernel_rfl) (by kernel_rfl) (fun _ _ _ h => h) (Or.inl ⟨by rfl, ?_⟩) hHeld ?_
  · intro w' hSw
    clear hSw
    go_simp
    try with_reducible rfl
  simp only [Act.put, List.setIfInBounds_toArray, List.set_cons_zero, List.set_cons_succ]
  clear hHeld
  refine wpAnyH_done (by kernel_rfl) ?_ _
  obtain ⟨q, hq⟩ : ∃ q, i + m = q := ⟨_, rfl⟩
  rw [hq] at hO2 hcl ⊢
  have hqn : Hid (n = q + 1) := by show n = q + 1; have := hnm.out; omega
  have k1 : (q : Int) ≤ n := by have := hqn.out; omega
  have k2 : q ≤ n := by have := hqn.out; omega
  have k3 : n - q = 1 := by have := hqn.out; omega
  have k4 : (n : Int) ≤ c := by omega
  have k6 : (0 : Int) ≤ (q : Int) := by omega
  have k7 : ¬ c = q := by have := hqn.out; omega
  have k8 : ¬ c - q = 0 := by have := hqn.out; omega
  have k9 : (0 : Int) ≤ (n : Int) := by omega
  have hF : OwnS (w2.setCells g (q * 3) [.int .i64 0, .int .i64 0, .int .i64 0]) 61 3 (.slice (some ⟨g, 0, none⟩) (n - 1) c) (n - 1) (lvV (l.eraseIdx i)) ∧ Keeps (· = g) w (w2.setCells g (q * 3) [.int .i64 0, .int .i64 0, .int .i64 0]) ∧ q = n - 1 := by
    have hq1 : q = n - 1 := by have := hqn.out; omega
    refine ⟨?_, Keeps.setCells (S := fun x => x = g) (a := w) (b := g) (.inl rfl) _ _ HK2.out, hq1⟩
    rw [← hq1]
    exact own_tail (own_tail (own_tail hO2.out (q * 3) (by omega) _) (q * 3 + 1) (by omega) _) (q * 3 + 1 + 1) (by omega) _
  have HF := Lib.hid hF
  clear hq hin hin1 hi0 hic hicn hicn2 hinn hne hi1n hnmm HRun hi1N hi10 hj hy0 hy1 hy2 hF
  go_wp2_with fail
  all_goals
    (try subst c)
    go_ret
    have hF := HF.out
    obtain ⟨f1, f2, f3⟩ := hF
    refine ⟨?_, f1, f2⟩
    first
      | (rw [← f3]; rfl)
      | (show Ending.returned _ = _; rw [← f3])
/-- a transaction is struck -/
def CS.ended (σ : CS) (i : Nat) : CS := { σ with lives := σ.lives.eraseIdx i }
def finR (kind x last : Int) : Rc := { kind := kind, xct := x, prev := last, next := 0, uk := 0, us := 0, up := 0, ul := 0, key := ⟨#[]⟩, bs := 0, bd := ⟨#[]⟩, fresh := 0, ims := [], lvs := [] }
theorem end_ok {kind x last : Int} (hk : kind = 3 ∨ kind = 4) (hx : 0 ≤ x ∧ x ≤ 2147483647) (hl : 0 ≤ last ∧ last ≤ 10000) : RcOk (finR kind x last) := by
  refine ⟨⟨⟨by show (1 : Int) ≤ kind; omega, by show kind ≤ 6; omega⟩, ⟨hx.1, hx.2⟩, ⟨hl.1, by show last ≤ 1099511627776; omega⟩, ⟨Int.le_refl _, by show (0 : Int) ≤ 1099511627776; decide⟩, ⟨Int.le_refl _, by show (0 : Int) ≤ 2147483647; decide⟩, ⟨Int.le_refl _, by show (0 : Int) ≤ 3; decide⟩, ⟨Int.le_refl _, by show (0 : Int) ≤ 6; decide⟩, ⟨Int.le_refl _, by show (0 : Int) ≤ 1023; decide⟩, ⟨Int.le_refl _, by show (0 : Int) ≤ 5; decide⟩, ?_, ⟨Int.le_refl _, by show (0 : Int) ≤ 2; decide⟩, ?_, ?_, ?_⟩, (fun y hy => by cases hy), (fun y hy => by cases hy)⟩
  · show (ByteArray.size ⟨#[]⟩) ≤ 8; decide
  · show (ByteArray.size ⟨#[]⟩) ≤ 34; decide
  · show 0 ≤ 24; decide
  · show 0 ≤ 8; decide
theorem end_size {kind x last : Int} (h : RcOk (finR kind x last)) : (rcS (finR kind x last)).size = 37 := rcS_size h
end Go.Proofs.YtimomjheanfbmaaGreatDoor

namespace Go.Proofs.YtimomjheanfbmaaGreatDoor
open Go.RowKit

section
variable {w0 w w' : World} {L : List Nat} {c lp p dp pg lb mb n : Nat} {lv : Value} {σ : CS}
/-- a transaction's last record -/
def CS.last (σ : CS) (kind x : Int) (s : Lv) : CS := if s.2.1 = 0 then σ else { σ with recs := σ.recs ++ [finR kind x s.2.2] }
set_option maxRecDepth 100000 in
set_option maxHeartbeats 1600000 in
theorem cx_end4 (h : Cx w0 w L c lp p dp pg lb mb n lv σ) (x : Int) (hx : 1 ≤ x ∧ x ≤ 2147483647) (i : Nat) (s : Lv) (hi : σ.lives[i]? = some s ∧ s.1 = x ∧ (∀ j s', j < i → σ.lives[j]? = some s' → s'.1 ≠ x)) (hl : 0 ≤ s.2.2 ∧ s.2.2 ≤ 10000) (hT : s.2.1 ≠ 0 → lenL σ.rs + 39 ≤ 6912) :
    Calls Tryz.prog 88 #[.pointer (some ⟨c, 0, none⟩), .int .i64 x, .int .i64 4] w fun e w' => e = .returned (.int .i64 0) ∧ Keeps (Own w0 L) w w' ∧ ∃ lv', Cx w0 w' L c lp p dp pg lb mb n lv' ((σ.last 4 x s).ended i) := by
  have H := Lib.hid h
  have HFi := Lib.hid (ch_find h.ch x)
  have hil : i < σ.lives.length := (List.getElem?_eq_some_iff.1 hi.1).1
  obtain ⟨sa, sc, hlv⟩ := h.ch.own.form
  subst hlv
  obtain ⟨g, rfl⟩ := h.ch.own.spot (by omega)
  have hfin := Lib.hid hi
  have hxk := Lib.hid hx
  have hlN := Lib.hid hl
  have hTN := Lib.hid hT
  clear h hi hx hl hT
  go_enter Tryz.func88, Tryz.ntmps88
  go_wp2_with fail
  refine (HFi.out).mono ?_
  rintro e w1 ⟨hr, hb1⟩
  obtain rfl : e = .returned (.int .i64 i) := by
    rcases hr with ⟨j, s', e1, e2, e3, he⟩ | ⟨e1, _⟩
    · have : j = i := by
        rcases Nat.lt_trichotomy j i with h | h | h
        · exact absurd e2 (hfin.out.2.2 j s' h e1)
        · exact h
        · exact absurd hfin.out.2.1 (e3 i s h hfin.out.1)
      subst this; exact he
    · exact absurd hfin.out.2.1 (e1 s (List.mem_of_getElem? hfin.out.1))
  have HX1 := Lib.hid (H.out.later hb1)
  have HK1 : Hid (Keeps (Own w0 L) w w1) := Keeps.of_below _ hb1
  have hown := HX1.out.ch.own
  have C3 : w1.cell? ⟨c, 3, none⟩ = some (.slice (some ⟨g, 0, none⟩) σ.lives.length sc) := cell_at HX1.out.ch.cell 3
  have hl1 := lv_range hown i s hfin.out.1 1 _ rfl
  have hl2 := lv_range hown i s hfin.out.1 2 _ rfl
  have hi0 : ¬ (i : Int) < 0 := by omega
  have hd0 : decide ((i : Int) < 0) = false := decide_eq_false hi0
  have hi1 : (i : Int) < σ.lives.length := by omega
  have hn8 := HX1.out.ch.len
  have hiw : IntKind.i64.wrap ((i : Int) + 1) = (i : Int) + 1 := by rw [IntKind.wrap_i64]; omega
  have hilN := Lib.hid hil
  obtain ⟨m, hm⟩ : ∃ m, σ.lives.length = m := ⟨_, rfl⟩
  rw [hm] at C3 hi1 hn8 hilN
  have hmN := Lib.hid hm
  have hn8N := Lib.hid hn8
  clear hr hb1 HFi hil hown hm hn8
  -- the last step, wherever the record has gone
  have hcut : Hid (∀ (w4 : World) (σ2 : CS), Cx w0 w4 L c lp p dp pg lb mb n (.slice (some ⟨g, 0, none⟩) σ.lives.length sc) σ2 → σ2.lives = σ.lives → Calls Tryz.prog 130 #[.slice (some ⟨g, 0, none⟩) m sc, .int .i64 i, .int .i64 ((i : Int) + 1)] w4 fun e w' => e = .returned (.slice (some ⟨g, 0, none⟩) (m - 1) sc) ∧ Keeps (Own w0 L) w4 w' ∧ w'.heap[c]? = some (.cells (chC lp p lb (.slice (some ⟨g, 0, none⟩) σ.lives.length sc) σ2.fresh) 124 (0, 0)) ∧ Cx w0 (w'.setCell ⟨c, 3, none⟩ (.slice (some ⟨g, 0, none⟩) (m - 1) sc)) L c lp p dp pg lb mb n (.slice (some ⟨g, 0, none⟩) (m - 1) sc) (σ2.ended i)) := fun w4 σ2 hx4 hlv2 => by
    have ho4 : OwnS w4 61 3 (.slice (some ⟨g, 0, none⟩) m sc) m (lvV σ.lives) := by
      have := hx4.ch.own
      rw [hlv2] at this
      rw [← hmN.out]
      exact this
    refine (ch_delete ho4 hmN.out hilN.out hn8N.out).mono fun e w' ⟨he, ho, hk⟩ => ?_
    have hgb : g ∈ blk (.slice (some ⟨g, 0, none⟩) σ.lives.length sc) := by simp [blk, Value.ownBlock]
    have hgc : c ≠ g := by
      have := hx4.ch.nd
      simp only [List.nodup_cons, List.mem_cons, not_or] at this
      exact fun e => this.1.2.2 (e ▸ hgb)
    refine ⟨he, hk.mono (fun k _ e => by subst e; exact hx4.owns (by simp [chL, hgb])), hk.keep hx4.ch.cell hgc, ?_⟩
    refine hx4.setLives (l := σ2.lives.eraseIdx i) ?_ (hk.mono (fun k _ e => by subst e; exact hgb)) (fun k hk' => .inl (by simp [blk, Value.ownBlock] at hk' ⊢; exact hk')) ?_
    · rw [hlv2, List.length_eraseIdx_of_lt (by rw [hmN.out]; exact hilN.out), hmN.out]
      exact ho
    · rw [hlv2, List.length_eraseIdx_of_lt (by rw [hmN.out]; exact hilN.out), hmN.out]
      have := hn8N.out; omega
  by_cases hfst : s.2.1 = 0
  · have hdf : (s.2.1 == 0) = true := by simpa using hfst
    have hdf2 : (s.2.1 != 0) = false := by simpa using hfst
    have hla : Hid (σ.last 4 x s = σ) := by show _ = _; unfold CS.last; rw [if_pos hfst]
    replace hfst := Lib.hid hfst
    have HD := Lib.hid (hcut.out w1 σ HX1.out rfl)
    go_wp2_with fail
    refine (HD.out).mono ?_
    rintro e w2 ⟨rfl, hk2, hc2, hx2⟩
    have HX2 := Lib.hid hx2
    have HK2 := Lib.hid (HK1.out.trans hk2 (fun _ _ h => h))
    have D3 := cell_at hc2 3
    have F3 := free_at hc2 3
    have hoc : Hid (Own w0 L c) := HX1.out.owns (by simp [chL])
    clear hx2 hk2 hc2 HD hcut HX1 HK1 hl1 hl2 C3
    go_wp2_with fail
    go_ret
    exact ⟨rfl, HK2.out.setCell _ _ (.inl hoc.out), _, by rw [hla.out]; exact HX2.out⟩
  · have hdf : (s.2.1 == 0) = false := by simpa using hfst
    have hdf2 : (s.2.1 != 0) = true := by simpa using hfst
    have hT39 := Lib.hid (hTN.out hfst)
    have hla : Hid (σ.last 4 x s = { σ with recs := σ.recs ++ [finR 4 x s.2.2] }) := by show _ = _; unfold CS.last; rw [if_neg hfst]
    have hoke : Hid (RcOk (finR 4 x s.2.2)) := end_ok (.inr rfl) ⟨by have := hxk.out.1; omega, hxk.out.2⟩ hlN.out
    replace hfst := Lib.hid hfst
    have HW := Lib.hid (cx_write HX1.out (finR 4 x s.2.2) hoke.out (by show 0 ≤ 1; omega) (fun y hy => by cases hy) nilS nilS (fun w' hk => ⟨⟨none, 0, rfl, Nat.zero_le _, fun h => absurd rfl h⟩, nil_sl w', by show 0 ≤ maxLen; omega, by show 0 ≤ maxLen; omega, fun y hy => by cases hy⟩))
    go_wp2_with fail
    refine (HW.out).mono ?_
    rintro e w2 ⟨hres, hk2⟩
    have hsz := end_size hoke.out
    have HK2 : Hid (Keeps (Own w0 L) w w2) := HK1.out.trans hk2 (fun k _ h => ⟨h.1, fun h' => h.2 (by simp [h'])⟩)
    rcases hres with ⟨hf, -⟩ | ⟨-, rfl, hx2⟩
    · exfalso
      have h1 : 6912 < lenL σ.rs + (2 + (rcS (finR 4 x s.2.2)).size) := hf
      have := hT39.out
      omega
    have HX2 : Hid (Cx w0 w2 L c lp p dp pg lb mb n (.slice (some ⟨g, 0, none⟩) σ.lives.length sc) { σ with recs := σ.recs ++ [finR 4 x s.2.2] }) := hx2
    have HD := Lib.hid (hcut.out w2 _ HX2.out rfl)
    have E3 : w2.cell? ⟨c, 3, none⟩ = some (.slice (some ⟨g, 0, none⟩) m sc) := by have := (chb_cells hx2.ch.cell).2.2.1; rw [hmN.out] at this; exact this
    obtain ⟨fin, hfn⟩ : ∃ f : Int, (σ.fin : Int) = f := ⟨_, rfl⟩
    rw [hfn]
    clear hx2 hk2 HW hsz C3 hl1 hl2 HX1 HK1 hcut hfn
    go_wp2_with fail
    refine (HD.out).mono ?_
    rintro e w3 ⟨rfl, hk3, hc3, hx3⟩
    have HX3 := Lib.hid hx3
    have HK3 := Lib.hid (HK2.out.trans hk3 (fun _ _ h => h))
    have D3 := cell_at hc3 3
    have F3 := free_at hc3 3
    have hoc : Hid (Own w0 L c) := HX2.out.owns (by simp [chL])
    clear hx3 hk3 hc3 HD HX2 HK2 E3
    go_wp2_with fail
    go_ret
    exact ⟨rfl, HK3.out.setCell _ _ (.inl hoc.out), _, by rw [hla.out]; exact HX3.out⟩
end
end Go.Proofs.YtimomjheanfbmaaGreatDoor

namespace Go.Proofs.YtimomjheanfbmaaGreatDoor
open Go.RowKit

/-! ### what going back makes of pages and of the others -/
theorem und_len {x : Int} {i : Nat} {σ σ' : CS} {d : List (Int × Rc)} (h : Und x i σ d σ') : σ'.lives.length = σ.lives.length ∧ σ'.fresh = σ.fresh := by
  induction h with
  | nil => exact ⟨rfl, rfl⟩
  | snoc h1 h2 h3 h4 ih => exact ⟨by show (List.set _ _ _).length = _; rw [List.length_set]; exact ih.1, ih.2⟩
theorem und_other {x : Int} {i : Nat} {σ σ' : CS} {d : List (Int × Rc)} (h : Und x i σ d σ') : (∀ j, j ≠ i → σ'.lives[j]? = σ.lives[j]?) ∧ ∀ y, y ≠ x → σ'.B y = σ.B y := by
  induction h with
  | nil => exact ⟨fun _ _ => rfl, fun _ _ => rfl⟩
  | snoc h1 h2 h3 h4 ih =>
    refine ⟨fun j hj => ?_, fun y hy => ?_⟩
    · show (List.set _ _ _)[j]? = _
      rw [List.getElem?_set_ne (fun e => hj e.symm)]
      exact ih.1 j hj
    · exact (if_neg hy).trans (ih.2 y hy)
theorem und_self {x : Int} {i : Nat} {σ σ' : CS} {d : List (Int × Rc)} (h : Und x i σ d σ') {s : Lv} (hs : σ.lives[i]? = some s) : ∃ s', σ'.lives[i]? = some s' ∧ s'.1 = s.1 ∧ s'.2.1 = s.2.1 ∧ (d = [] → s' = s) := by
  induction h with
  | nil => exact ⟨s, hs, rfl, rfl, fun _ => rfl⟩
  | snoc h1 h2 h3 h4 ih =>
    obtain ⟨s', e1, e2, e3, _⟩ := ih
    rw [e1] at h2
    injection h2 with h2
    subst h2
    have hi := (List.getElem?_eq_some_iff.1 e1).1
    exact ⟨_, List.getElem?_set_self hi, e2, e3, fun h => by simp at h⟩
theorem und_B {x : Int} {i : Nat} {σ σ' : CS} {d : List (Int × Rc)} (h : Und x i σ d σ') : (σ'.B x).1 = (σ.B x).1 - 320 * d.length ∧ (σ'.B x).2 = (σ.B x).2 - d.length := by
  induction h with
  | nil => exact ⟨by simp, by simp⟩
  | @snoc σ1 l t R s P h1 h2 h3 h4 ih =>
    have e : ((σ1.undone x i s R P).B x) = ((σ1.B x).1 - 320, (σ1.B x).2 - 1) := if_pos rfl
    rw [e, List.length_append, List.length_singleton]
    dsimp only
    rw [ih.1, ih.2]
    omega
theorem und_recs {x : Int} {i : Nat} {σ σ' : CS} {d : List (Int × Rc)} (h : Und x i σ d σ') : ∃ q, σ'.recs = σ.recs ++ q := by
  induction h with
  | nil => exact ⟨[], by simp⟩
  | @snoc σ1 l t R s P h1 h2 h3 h4 ih =>
    obtain ⟨q, hq⟩ := ih
    exact ⟨q ++ [clrR x s.2.2 R P], by show σ1.recs ++ [clrR x s.2.2 R P] = _; rw [hq, List.append_assoc]⟩
def stepF (f : Nat → Pg) (y : Int × Rc) : Nat → Pg := fun id => if id = y.2.up.toNat then setCl (f id) y.2.ul.toNat y.2.bs y.2.bd else f id
def undoF (f : Nat → Pg) (l : List (Int × Rc)) : Nat → Pg := l.foldl stepF f
theorem undoF_app (f : Nat → Pg) (a b : List (Int × Rc)) : undoF f (a ++ b) = undoF (undoF f a) b := List.foldl_append
def PEq (f g : Nat → Pg) : Prop := ∀ id, pgC (f id) = pgC (g id)
theorem und_pages {pg : Nat} {x : Int} {i : Nat} {σ σ' : CS} {d : List (Int × Rc)} (h : Und x i σ d σ') (hg : ∀ y ∈ d, GoodU pg y.2) : PEq (fun id => (σ'.M id).1) (undoF (fun id => (σ.M id).1) d) := by
  induction h with
  | nil => exact fun _ => rfl
  | @snoc σ1 l t R s P h1 h2 h3 h4 ih =>
    have ih2 := ih (fun y hy => hg y (by simp [hy]))
    obtain ⟨-, -, ⟨g4, g5⟩, -⟩ := hg (t, R) (by simp)
    dsimp only at g4 g5
    intro id
    rw [undoF_app]
    have hM : (σ1.undone x i s R P).M = upd σ1.M R.up.toNat (P, (σ1.fin : Int)) := rfl
    dsimp only
    rw [hM]
    show pgC ((upd σ1.M R.up.toNat (P, (σ1.fin : Int))) id).1 = pgC (stepF (undoF (fun id => (σ.M id).1) l) (t, R) id)
    unfold upd stepF
    by_cases e : id = R.up.toNat
    · rw [if_pos e, if_pos e, h4]
      subst e
      exact setCl_congr (ih2 _) _ (by omega) _ _
    · rw [if_neg e, if_neg e]
      exact ih2 id
theorem stepF_congr {f g : Nat → Pg} (h : PEq f g) (y : Int × Rc) (hy : y.2.ul.toNat < 6) : PEq (stepF f y) (stepF g y) := fun id => by
  unfold stepF
  by_cases e : id = y.2.up.toNat
  · rw [if_pos e, if_pos e]; exact setCl_congr (h id) _ hy _ _
  · rw [if_neg e, if_neg e]; exact h id
theorem undoF_congr : ∀ (l : List (Int × Rc)) {f g : Nat → Pg}, PEq f g → (∀ y ∈ l, y.2.ul.toNat < 6) → PEq (undoF f l) (undoF g l)
  | [], f, g, h, _ => h
  | y :: l, f, g, h, hl => undoF_congr l (stepF_congr h y (hl y (by simp))) (fun z hz => hl z (by simp [hz]))
section
variable {w0 w w' : World} {L : List Nat} {c lp p dp pg lb mb n : Nat} {lv : Value} {σ : CS}
/-- what there must be that a transaction can be taken back -/
structure Rev (pg : Nat) (σ : CS) (x : Int) (i : Nat) (s : Lv) (l : List (Int × Rc)) : Prop where
  find : σ.lives[i]? = some s ∧ s.1 = x ∧ (∀ j s', j < i → σ.lives[j]? = some s' → s'.1 ≠ x)
  xs : 1 ≤ x ∧ x ≤ 2147483647
  stk : Stk σ.recs s.2.2 l
  good : ∀ y ∈ l, GoodU pg y.2
  bk : 128 + 320 * l.length ≤ (σ.B x).1 ∧ l.length ≤ (σ.B x).2
  tk : σ.T.1 + lenL σ.rs ≤ 6912
set_option maxRecDepth 100000 in
set_option maxHeartbeats 800000 in
theorem cx_abort (h : Cx w0 w L c lp p dp pg lb mb n lv σ) {x : Int} {i : Nat} {s : Lv} {l : List (Int × Rc)} (hr : Rev pg σ x i s l) (hcnt : σ.cnt < 10000000000) (hpg : pg ≤ 1024) :
    Calls Tryz.prog 36 #[.pointer (some ⟨c, 0, none⟩), .int .i64 x, kitV p] w fun e w' => e = .returned (.int .i64 0) ∧ Keeps (Own w0 L) w w' ∧ ∃ σ' s' n' lv', Und x i σ l σ' ∧ σ'.lives[i]? = some s' ∧ Cx w0 w' L c lp p dp pg lb mb n' lv' ((σ'.last 4 x s').ended i) := by
  have HBk := Lib.hid (cx_back h x 0 hr.xs i s hr.find l hr.stk hr.good ⟨by have := hr.bk.1; omega, hr.bk.2⟩ hr.tk hcnt hpg)
  have HR := Lib.hid hr
  clear h hr hcnt hpg
  unfold kitV at HBk ⊢
  go_enter Tryz.func36, Tryz.ntmps36
  go_wp2_with fail
  refine (HBk.out).mono ?_
  rintro e w1 ⟨rfl, hk1, σ', n', next, rest, hx1, hb, hn⟩
  have hb' := hb
  rw [show max (0 : Int) 0 = 0 from rfl] at hb hn
  have hn0 : next = 0 := by have := hb.stk.lo.1; omega
  subst hn0
  have hrest : rest = [] := hb.stk.zero
  subst hrest
  obtain ⟨d, hu, hd, -⟩ := hb.und
  rw [List.append_nil] at hd
  subst hd
  obtain ⟨s', e1, e2, e3, -⟩ := und_self hu HR.out.find.1
  have hB := und_B hu
  have hle := (hx1.ch.lg.2.1.le x).1
  have htk := hb.tk
  obtain ⟨s2, f1, f2, f3, f4⟩ := hb.liv
  rw [e1] at f1
  injection f1 with f1
  subst f1
  have hfind : σ'.lives[i]? = some s' ∧ s'.1 = x ∧ (∀ j s', j < i → σ'.lives[j]? = some s' → s'.1 ≠ x) := ⟨e1, f2, fun j s3 hj h3 => by
    rw [(und_other hu).1 j (by omega)] at h3
    exact HR.out.find.2.2 j s3 hj h3⟩
  have HE := Lib.hid (cx_end4 hx1 x HR.out.xs i s' hfind ⟨f3, f4⟩ (fun _ => by have := HR.out.bk.1; omega))
  have HK1 := Lib.hid hk1
  have hfin := Lib.hid (And.intro hu e1)
  clear hx1 hk1 hb hb' hn hu e1 e2 e3 hB hle htk f2 f3 f4 hfind HBk
  go_wp2_with fail
  refine (HE.out).mono ?_
  rintro e w2 ⟨rfl, hk2, lv', hx2⟩
  have HX2 := Lib.hid hx2
  have HK2 := Lib.hid (HK1.out.trans hk2 (fun _ _ h => h))
  clear hx2 hk2 HE
  go_wp2_with fail
  go_ret
  exact ⟨rfl, HK2.out, σ', s', n', lv', hfin.out.1, hfin.out.2, HX2.out⟩
end
end Go.Proofs.YtimomjheanfbmaaGreatDoor
