import Derived.Test.YtimomjheanfbmaaGreatDoorMaz
import Derived.Deep.MidRow
set_option linter.unusedSimpArgs false
set_option linter.unusedVariables false
namespace Go.Proofs.YtimomjheanfbmaaGreatDoor
open Go.RowKit

theorem wpList_load_arr {P : Program} {ops : Array Oper} {rest : List Oper} {op : Oper} {a : Act} {w : World} {Q : Exit → Act → World → Prop} (hgd : op.guard = none) (ty : TypeId) (x : Operand) (ho : op.op = .load ty x)
    (b o : Nat) (hx : a.eval x = .pointer (some ⟨b, o, none⟩)) (C : Array Value) (d : TypeDesc) (hc : w.rangeAt b o C.toList)
    (hu : P.underlying ty = some d) (hd : d.isRow = true) (hi : (P.info? ty).map (·.size) = some C.size)
    (h : wpList P ops Q rest (a.put op.dst (.agg C)) w) : wpList P ops Q (op :: rest) a w :=
  wpList_load_mid hgd ty x ho b o hx C.toList d hc hu hd (by rw [hi, Array.length_toList]) (by rw [Array.toArray_toList]; exact h)
/-- a slot's cells, one by one, and its page -/
theorem slot_at {w : World} {g n c : Nat} {l : List Slot} (h : OwnS w 166 20 (.slice (some ⟨g, 0, none⟩) n c) n (slV l)) (i : Nat) (s : Slot) (hi : l[i]? = some s) :
    w.cell? ⟨g, i * 20, none⟩ = some (.int .i64 s.id) ∧ w.rangeAt g (i * 20 + 1) (pgC s.P).toList ∧ w.cell? ⟨g, i * 20 + 17, none⟩ = some (.int .i64 s.st) ∧ w.cell? ⟨g, i * 20 + 18, none⟩ = some (.bool s.dirty) ∧ w.cell? ⟨g, i * 20 + 19, none⟩ = some (.bool s.warm) := by
  have hr := slot_range h i s hi
  refine ⟨hr 0 _ rfl, fun j v hj => ?_, hr 17 _ rfl, hr 18 _ rfl, hr 19 _ rfl⟩
  have hjl : j < 16 := (List.getElem?_eq_some_iff.1 hj).1
  have := hr (j + 1) v (by
    unfold slC
    rw [List.getElem?_cons_succ, List.getElem?_append_left (show j < (pgC s.P).toList.length from hjl)]
    exact hj)
  rw [show i * 20 + 1 + j = i * 20 + (j + 1) by omega]
  exact this
theorem slot_free {w : World} {g n c : Nat} {l : List Slot} (h : OwnS w 166 20 (.slice (some ⟨g, 0, none⟩) n c) n (slV l)) (hn : 0 < n) (j : Nat) : w.frozen? ⟨g, j, none⟩ = false := by
  rcases h.2 with ⟨he, _⟩ | ⟨g1, cap, cur, he, hb, hg, hnc, hcm, hcs, htake⟩
  · simp at he
  · simp only [Value.slice.injEq, Option.some.injEq, Addr.mk.injEq, and_true, true_and] at he
    obtain ⟨rfl, rfl⟩ := he
    exact free_at hg j
theorem index4 (f : Nat → ByteArray) (k : Nat) (hk : k < 4) (w : World) : (Instr.index 221 (.agg #[.string (f 0), .string (f 1), .string (f 2), .string (f 3)]) (.int .i64 k)).run Tryz.prog w = .ok (.string (f k)) w := by
  match k, hk with
  | 0, _ => simp [Instr.index, asIntOf, go_sem]
  | 1, _ => simp [Instr.index, asIntOf, go_sem]
  | 2, _ => simp [Instr.index, asIntOf, go_sem]
  | 3, _ => simp [Instr.index, asIntOf, go_sem]
/-- the device goes on, the log and the pool stay -/
theorem Pw.go {w w1 w2 : World} {p lp dp first n bb : Nat} {P : ByteArray} {rs : List ByteArray} {i0 i1 : Nat} {X : Pl} {sv : Value} {S Sl Sd Sd1 Sd2 : List Nat} {D D1 D2 : Dev} (h : Pw w p lp dp first n bb P rs i0 X sv S Sl Sd D)
    (hw1 : Ws w1 lp dp first n bb P rs i1 Sl Sd1 D1) (hk1 : Keeps (fun k => k ∈ Sl ∨ k ∈ Sd) w w1) (hs1 : ∀ k ∈ Sd1, k ∈ Sd ∨ w.heap.size ≤ k) (hl1 : D1.firm.length = D.firm.length)
    (hd2 : DiskAt w2 dp D2 Sd2) (hk2 : Keeps (· ∈ Sd1) w1 w2) (hs2 : ∀ k ∈ Sd2, k ∈ Sd1 ∨ w1.heap.size ≤ k) {m : Nat} {Pp : Pg} {st : Int} {k : Nat} {c : Int} (hlaw : WrLaw D1 (X.base + 4 * m) Pp st k D2 c) (hk : k ≤ 4) (hP : PgOk Pp) (hsf : SoftOk D2) :
    Pw w2 p lp dp first n bb P rs i1 X sv S Sl Sd2 D2 ∧ Keeps (fun k => k ∈ S ∨ k ∈ Sl ∨ k ∈ Sd) w w2 ∧ ∀ k ∈ Sd2, k ∈ Sd ∨ w.heap.size ≤ k := by
  have hb1 : w.heap.size ≤ w1.heap.size := hk1.size
  have hfr : ∀ k ∈ Sd2, k ∈ Sd ∨ w.heap.size ≤ k := fun k hk => by
    rcases hs2 k hk with h' | h'
    · exact hs1 k h'
    · exact .inr (by omega)
  have hn := hw1.len
  have hp1 : PoolAt w1 p dp lp X sv S := h.pool.keep hk1 (fun k hk h' => h'.elim (h.dl k hk) (h.dd k hk))
  have hd1 : ∀ k ∈ S, k ∉ Sd1 := fun k hk h' => by
    rcases hs1 k h' with h2 | h2
    · exact h.dd k hk h2
    · have := h.pool.lt k hk; omega
  refine ⟨⟨hp1.keep hk2 (fun k hk h' => hd1 k hk h'), ⟨hw1.log.keep hk2 (fun k hk h' => hw1.dis k hk h'), hd2, ⟨hlaw.ok, by rw [hlaw.len]; exact hw1.has.2.1, hlaw.all _ hw1.has.2.2 (fun j hj => ⟨page_sec_size (pageS_size hP) st (by omega), fun j' hj' he => ?_⟩)⟩, fun k hk h' => ?_, hw1.rok, hw1.le, hw1.pre, hw1.bbs, hsf⟩, h.dl, fun k hk h' => ?_, h.ring, by rw [hlaw.len, hl1]; exact h.fit⟩, ?_, hfr⟩
  · have := place_lt (first := first) (k := bb + j') (n := n) (by omega)
    have := h.ring
    omega
  · rcases hs2 k h' with h2 | h2
    · exact hw1.dis k hk h2
    · have := hw1.log.lt k hk; omega
  · rcases hfr k h' with h2 | h2
    · exact h.dd k hk h2
    · have := h.pool.lt k hk; omega
  · refine (hk1.mono (fun k _ h' => .inr h')).trans hk2 (fun k hk h' => ?_)
    rcases hs1 k h' with h2 | h2
    · exact .inr (.inr h2)
    · omega
theorem wr_stuck_le {D : Dev} {b : Nat} {P : Pg} {st : Int} {i : Nat} (h : (D.wr b P st i).2 ≠ 0) : ∀ j, i ≤ j → D.wr b P st j = D.wr b P st i := by
  intro j hj
  obtain ⟨d, rfl⟩ : ∃ d, j = i + d := ⟨j - i, by omega⟩
  clear hj
  induction d with
  | zero => rfl
  | succ d ih => rw [← ih] at h; rw [show i + (d + 1) = i + d + 1 by omega, wr_stuck h, ih]
/-- other slots in the same block -/
theorem Pw.slots {w w' : World} {p lp dp first n bb : Nat} {P : ByteArray} {rs : List ByteArray} {i0 : Nat} {X : Pl} {sv : Value} {S Sl Sd : List Nat} {D : Dev} (h : Pw w p lp dp first n bb P rs i0 X sv S Sl Sd D)
    {g : Nat} (hg : g ∈ blk sv) {l' : List Slot} (hl : l'.length = X.slots.length) (ho : OwnS w' 166 20 sv l'.length (slV l')) (hk : Keeps (· = g) w w') (hd : ∀ s ∈ l', s.dirty = true → SlOk X.pages s) :
    Pw w' p lp dp first n bb P rs i0 { X with slots := l' } sv S Sl Sd D := by
  obtain ⟨⟨o1, o2, o3, o4, o5, o6, o7, o8⟩, h1, h2, hS, hSn⟩ := h.pool
  have hgS : g ∈ S := by rw [hS]; simp [hg]
  have hpg : p ≠ g := by
    rintro rfl
    rw [hS] at hSn
    exact (List.nodup_cons.1 hSn).1 hg
  exact ⟨⟨⟨o1, o2, o3, o4, o5, by show l'.length ≤ X.room; omega, o7, hd⟩, hk.keep h1 hpg, ho, hS, hSn⟩, ⟨h.ws.log.keep hk (fun k hk e => h.dl g hgS (e ▸ hk)), h.ws.dsk.keep hk (fun k hk e => h.dd g hgS (e ▸ hk)), h.ws.has, h.ws.dis, h.ws.rok, h.ws.le, h.ws.pre, h.ws.bbs, h.ws.soft⟩, h.dl, h.dd, h.ring, h.fit⟩
def Cs2 (a : Addr) (u : Value) (b : Addr) (v : Value) (w : World) : Prop := w.cell? a = some u ∧ w.cell? b = some v
def Cs3 (a : Addr) (u : Value) (b : Addr) (v : Value) (c : Addr) (x : Value) (w : World) : Prop := w.cell? a = some u ∧ w.cell? b = some v ∧ w.cell? c = some x
set_option maxRecDepth 100000 in
set_option maxHeartbeats 800000 in
theorem pl_write {w : World} {p lp dp first n bb : Nat} {P : ByteArray} {rs : List ByteArray} {i0 : Nat} {X : Pl} {sv : Value} {S Sl Sd : List Nat} {D : Dev} (h : Pw w p lp dp first n bb P rs i0 X sv S Sl Sd D)
    (i : Nat) (s : Slot) (hs : X.slots[i]? = some s) (hk : SlOk X.pages s) (N : Nat) (hN : N ≤ 3000000000000) (hsoft : SoftB N D) (g c : Nat) (hsv : sv = .slice (some ⟨g, 0, none⟩) X.slots.length c) :
    Calls Tryz.prog 82 #[.pointer (some ⟨p, 0, none⟩), .pointer (some ⟨g, i * 20, none⟩)] w fun e w' => ∃ cd i1 Sd' D', e = .returned (.int .i64 cd) ∧ WrRel first n bb P rs X.base s i0 D i1 D' cd ∧
      Pw w' p lp dp first n bb P rs i1 (if cd = 0 then { X with slots := X.slots.set i { s with dirty := false } } else X) sv S Sl Sd' D' ∧ Keeps (fun k => k ∈ S ∨ k ∈ Sl ∨ k ∈ Sd) w w' ∧ ∀ k ∈ Sd', k ∈ Sd ∨ w.heap.size ≤ k := by
  subst hsv
  obtain ⟨hok, h1, h2, hS, hSn⟩ := id h.pool
  have hil : i < X.slots.length := (List.getElem?_eq_some_iff.1 hs).1
  have hfit := h.fit
  obtain ⟨o1, o2, o3, o4, o5, o6, o7, o8⟩ := hok
  obtain ⟨k1, k2, k3, k4, k5⟩ := hk
  obtain ⟨m, hm⟩ : ∃ m : Nat, s.id = (m : Int) := ⟨s.id.toNat, by omega⟩
  have hm2 : m < X.pages := by omega
  have c1 : w.cell? ⟨p, 1, none⟩ = some (.pointer (some ⟨lp, 0, none⟩)) := cell_at h1 1
  obtain ⟨-, -, cst, -, -⟩ := slot_at h2 i s hs
  have HF := Lib.hid (ws_flush2 (h.ws.later (bD bR)) s.st)
  replace h1 := Lib.hid h1
  replace h2 := Lib.hid h2
  replace o8 := Lib.hid o8
  obtain ⟨st, hst⟩ : ∃ b, s.st = b := ⟨_, rfl⟩
  rw [hst] at cst HF k4 k5
  have hpS : Hid (p ∈ S ∧ g ∈ S ∧ p ≠ g) := by
    rw [hS] at hSn ⊢
    refine ⟨by simp, by simp [blk, Value.ownBlock], ?_⟩
    rintro rfl
    simp [blk, Value.ownBlock] at hSn
  have HH := Lib.hid h
  replace hS := Lib.hid hS
  replace hst := Lib.hid hst
  replace hm := Lib.hid hm
  replace hs := Lib.hid hs
  clear h hSn
  go_enter Tryz.func82, Tryz.ntmps82
  go_wp2_with fail
  refine wp_region_held_drew (S := Cs2 ⟨p, 1, none⟩ (.pointer (some ⟨lp, 0, none⟩)) ⟨g, i * 20 + 17, none⟩ (.int .i64 st)) (by kernel_rfl) ⟨c1, cst⟩ (fun hHeld => ?_)
  refine wpAnyH_take (i := 0) (oi := ⟨some 13, _, _, _, _, _⟩) (v := ?_) rfl (by kernel_rfl) (by kernel_rfl) (by kernel_rfl) (fun _ _ _ h => h) (Or.inl ⟨by rfl, ?_⟩) hHeld ?_
  rotate_left
  · intro w' hSw
    obtain ⟨s0, s1⟩ := hSw
    go_simp
    try with_reducible rfl
    try omega
  simp only [Act.put, List.setIfInBounds_toArray, List.set_cons_zero, List.set_cons_succ]
  refine wpAnyH_take (i := 1) (oi := ⟨some 14, _, _, _, _, _⟩) (v := ?_) rfl (by kernel_rfl) (by kernel_rfl) (by kernel_rfl) (fun _ _ _ h => h) (Or.inl ⟨by rfl, ?_⟩) hHeld ?_
  rotate_left
  · intro w' hSw
    obtain ⟨s0, s1⟩ := hSw
    go_simp
    try with_reducible rfl
    try omega
  simp only [Act.put, List.setIfInBounds_toArray, List.set_cons_zero, List.set_cons_succ]
  refine wpAnyH_take (i := 2) (oi := ⟨some 15, _, _, _, _, _⟩) (v := ?_) rfl (by kernel_rfl) (by kernel_rfl) (by kernel_rfl) (fun _ _ _ h => h) (Or.inl ⟨by rfl, ?_⟩) hHeld ?_
  rotate_left
  · intro w' hSw
    obtain ⟨s0, s1⟩ := hSw
    go_simp
    try with_reducible rfl
    try omega
  simp only [Act.put, List.setIfInBounds_toArray, List.set_cons_zero, List.set_cons_succ]
  refine wpAnyH_take (i := 3) (oi := ⟨some 16, _, _, _, _, _⟩) (v := ?_) rfl (by kernel_rfl) (by kernel_rfl) (by kernel_rfl) (fun _ _ _ h => h) (Or.inl ⟨by rfl, ?_⟩) hHeld ?_
  rotate_left
  · intro w' hSw
    obtain ⟨s0, s1⟩ := hSw
    go_simp
    try with_reducible rfl
    try omega
  simp only [Act.put, List.setIfInBounds_toArray, List.set_cons_zero, List.set_cons_succ]
  refine wpAnyH_take (i := 4) (oi := ⟨some 17, _, _, _, _, _⟩) (v := ?_) rfl (by kernel_rfl) (by kernel_rfl) (by kernel_rfl) (fun _ _ _ h => h) (Or.inl ⟨by rfl, ?_⟩) hHeld ?_
  rotate_left
  · intro w' hSw
    obtain ⟨s0, s1⟩ := hSw
    go_simp
    try with_reducible rfl
    try omega
  simp only [Act.put, List.setIfInBounds_toArray, List.set_cons_zero, List.set_cons_succ]
  refine wpAnyH_take (i := 5) (oi := ⟨some 18, _, _, _, _, _⟩) (v := ?_) rfl (by kernel_rfl) (by kernel_rfl) (by kernel_rfl) (fun _ _ _ h => h) (Or.inl ⟨by rfl, ?_⟩) hHeld ?_
  rotate_left
  · intro w' hSw
    obtain ⟨s0, s1⟩ := hSw
    go_simp
    try with_reducible rfl
    try omega
  simp only [Act.put, List.setIfInBounds_toArray, List.set_cons_zero, List.set_cons_succ]
  refine wpAnyH_take (i := 6) (oi := ⟨some 19, _, _, _, _, _⟩) (v := ?_) rfl (by kernel_rfl) (by kernel_rfl) (by kernel_rfl) (fun _ _ _ h => h) (Or.inl ⟨by rfl, ?_⟩) hHeld ?_
  rotate_left
  · intro w' hSw
    obtain ⟨s0, s1⟩ := hSw
    go_simp
    try with_reducible rfl
    try omega
  simp only [Act.put, List.setIfInBounds_toArray, List.set_cons_zero, List.set_cons_succ]
  refine wpAnyH_take (i := 7) (oi := ⟨some 20, _, _, _, _, _⟩) (v := ?_) rfl (by kernel_rfl) (by kernel_rfl) (by kernel_rfl) (fun _ _ _ h => h) (Or.inl ⟨by rfl, ?_⟩) hHeld ?_
  rotate_left
  · intro w' hSw
    obtain ⟨s0, s1⟩ := hSw
    go_simp
    try with_reducible rfl
    try omega
  simp only [Act.put, List.setIfInBounds_toArray, List.set_cons_zero, List.set_cons_succ]
  refine wpAnyH_ready (rs := [8]) (by kernel_rfl) (by simp) ?_
  refine AllReadyH.cons (o := ⟨some 21, _, _, _, _, _⟩) rfl (fun K hK => ?_) AllReadyH.nil
  go_simp
  go_at_call 122
  refine (HF.out).mono ?_
  rintro e w1 ⟨c0, i1, Sd1, D1, rfl, hw1, hk1, hs1, hfl⟩
  have HW1 := Lib.hid hw1
  have HK1 : Hid (Keeps (fun k => k ∈ Sl ∨ k ∈ Sd) w w1) := ((Keeps.refl _ w).drew).trans hk1 (fun _ _ h => h)
  have HS1 : Hid (∀ k ∈ Sd1, k ∈ Sd ∨ w.heap.size ≤ k) := hs1
  have HFL := Lib.hid hfl
  clear hw1 hk1 hs1 hfl HF c1 cst
  have hk1S : ∀ k ∈ S, ¬ (k ∈ Sl ∨ k ∈ Sd) := fun k hk h' => h'.elim (HH.out.dl k hk) (HH.out.dd k hk)
  have H11 := Lib.hid (HK1.out.keep h1.out (hk1S p hpS.out.1))
  have H21 := Lib.hid (h2.out.keep HK1.out (fun k hk => hk1S k (by rw [hS.out]; simp [hk])))
  replace hk1S := Lib.hid hk1S
  clear hHeld
  go_wp2_with fail
  refine hK.out _ _ ⟨cell_at H11.out 1, hst.out ▸ (slot_at H21.out i s hs.out).2.2.1⟩ (fun hHeld => ?_)
  clear hK K
  try simp only [Act.put, List.setIfInBounds_toArray, List.set_cons_zero, List.set_cons_succ]
  refine wpAnyH_take (i := 9) (oi := ⟨some 5, _, _, _, _, _⟩) (v := ?_) rfl (by kernel_rfl) (by kernel_rfl) (by kernel_rfl) (fun _ _ _ h => h) (Or.inl ⟨by rfl, ?_⟩) hHeld ?_
  rotate_left
  · intro w' hSw
    obtain ⟨s0, s1⟩ := hSw
    go_simp
    try with_reducible rfl
    try omega
  simp only [Act.put, List.setIfInBounds_toArray, List.set_cons_zero, List.set_cons_succ]
  clear hHeld
  refine wpAnyH_done (by kernel_rfl) ?_ _
  by_cases hc0 : c0 = 0
  rotate_left
  · have hc20 : c0 = 20 := by
      rcases HFL.out.code with ⟨h, _⟩ | ⟨h, _⟩
      · exact absurd h hc0
      · exact h
    subst hc20
    go_wp2_with fail
    go_ret
    obtain ⟨f1, f2, f3⟩ := HH.out.go (D2 := D1) (w2 := w1) (Sd2 := Sd1) (k := 0) (c := 0) (m := m) (Pp := s.P) (st := st) HW1.out HK1.out HS1.out HFL.out.off.len HW1.out.dsk (Keeps.refl _ _) (fun k hk => .inl hk) (wr_law st HW1.out.dsk.1 k3 0 (by omega) (by rw [HFL.out.off.len]; omega)) (by omega) k3 HW1.out.soft
    exact ⟨20, i1, Sd1, D1, rfl, .inl ⟨hst.out ▸ HFL.out, rfl⟩, by rw [if_neg (by decide)]; exact f1, f2, f3⟩
  subst hc0
  obtain ⟨sid1, sp1, sst1, -, -⟩ := slot_at H21.out i s hs.out
  rw [hst.out] at sst1
  have HR1 := Lib.hid sp1
  clear sp1 sid1
  have HE := Lib.hid (fun w => pg_encode_ok s.P k3 w)
  have hPs : Hid ((Tryz.prog.info? 49).map (·.size) = some (pgC s.P).size) := by show _ = _; kernel_rfl
  unfold pgV at HE
  obtain ⟨C, hC⟩ : ∃ C, pgC s.P = C := ⟨_, rfl⟩
  obtain ⟨B, hB⟩ : ∃ B, pageS s.P = B := ⟨_, rfl⟩
  have hB224 : B.size = 224 := by rw [← hB]; exact pageS_size k3
  rw [hC] at HR1 hPs HE
  rw [hB] at HE
  replace hC := Lib.hid hC
  have HSe := Lib.hid (fun w => frm_seal_ok B st hB224 k4 w)
  have hu64 : IntKind.u64.wrap st = st := wrap_u64_in st k4 (by omega)
  have hsz : Hid (∀ k, k < 4 → (sec B st k).size = 64) := fun k hk => page_sec_size hB224 st hk
  obtain ⟨F, hF⟩ : ∃ F : Nat → ByteArray, (fun k => sec B st k) = F := ⟨_, rfl⟩
  have hF' : ∀ k, sec B st k = F k := fun k => by rw [← hF]
  simp only [hF'] at HSe hsz
  replace hF' := Lib.hid hF'
  replace hB := Lib.hid hB
  clear hF
  go_wp2_with (refine wpList_load_arr rfl 49 _ rfl g (i * 20 + 1) rfl C _ HR1.out Tryz.underlying49 rfl hPs.out ?_)
  refine (HE.out _).mono ?_
  rintro e w2 ⟨rfl, hb2⟩
  have H12 := Lib.hid (hBs hb2 H11.out)
  have H22 := Lib.hid (h2.out.keep (HK1.out.trans (Keeps.of_below _ hb2) (fun _ _ h => h)) (fun k hk => hk1S.out k (by rw [hS.out]; simp [hk])))
  have sst2 := (slot_at H22.out i s hs.out).2.2.1
  rw [hst.out] at sst2
  have HB2 := Lib.hid hb2
  clear hb2 HE sst1 HR1
  go_wp2_with fail
  refine (HSe.out _).mono ?_
  rintro e w3 ⟨rfl, hb3⟩
  have HB3 := Lib.hid (bT HB2.out hb3)
  clear hb3 HSe sst2 H12 H22 HB2
  go_wp2_with fail
  have hd1S : Hid (∀ k ∈ S, k ∉ Sd1) := fun k hk h' => by
    rcases HS1.out k h' with h2 | h2
    · exact HH.out.dd k hk h2
    · have := HH.out.pool.lt k hk; omega
  have hnn : Hid (∀ k, k < 4 → X.base + 4 * m + k < D1.firm.length) := fun k hk => by rw [HFL.out.off.len]; omega
  have hsb1 : Hid (SoftB N D1) := HFL.out.softB hsoft
  have hB3 : Hid (Below w1.heap.size w1 (w3.alloc (.cells #[.string (F 0), .string (F 1), .string (F 2), .string (F 3)] 221))) := bA HB3.out
  have HD3 := Lib.hid (HW1.out.dsk.later hB3.out)
  have hw4 : IntKind.i64.wrap ((m : Int) * 4) = (m : Int) * 4 := by rw [IntKind.wrap_i64]; omega
  have hw5 : IntKind.i64.wrap ((X.base : Int) + (m : Int) * 4) = (X.base : Int) + (m : Int) * 4 := by rw [IntKind.wrap_i64]; omega
  replace hm2 := Lib.hid hm2
  replace hfit := Lib.hid hfit
  replace hil := Lib.hid hil
  go_loopw [47] (fun x wr => ∃ (k : Nat) (D' : Dev) (Sd' : List Nat), k ≤ 4 ∧ x = .int .i64 k ∧ Hid (D1.wr (X.base + 4 * m) s.P st k = (D', 0)) ∧ Hid (DiskAt wr dp D' Sd') ∧ Hid (Keeps (· ∈ Sd1) w1 wr) ∧ Hid (∀ q ∈ Sd', q ∈ Sd1 ∨ w1.heap.size ≤ q)) (fun x _ => 4 - (intOf x).toNat)
  case atStart => exact ⟨0, D1, Sd1, by omega, rfl, rfl, HD3, Keeps.of_below _ hB3.out, fun q hq => .inl hq⟩
  case round =>
    obtain ⟨k, D', Sd', hk4, rfl, HWR, HD, HK, HS⟩ := hrel
    have H1r := Lib.hid (HK.out.keep H11.out (hd1S.out p hpS.out.1))
    have H2r := Lib.hid (H21.out.keep HK.out (fun k hk => hd1S.out k (by rw [hS.out]; simp [hk])))
    obtain ⟨r0, -, -, r3, -⟩ := slot_at H2r.out i s hs.out
    rw [hm.out] at r0
    have P0 : wr.cell? ⟨p, 0, none⟩ = some (.pointer (some ⟨dp, 0, none⟩)) := cell_at H1r.out 0
    have P2 : wr.cell? ⟨p, 2, none⟩ = some (.int .i64 X.base) := cell_at H1r.out 2
    by_cases hk : k < 4
    · have hkI : (k : Int) < 4 := by omega
      have hk0 : (0 : Int) ≤ k := by omega
      have hw6 : IntKind.i64.wrap ((X.base : Int) + (m : Int) * 4 + (k : Int)) = (X.base : Int) + (m : Int) * 4 + (k : Int) := by have := hm2.out; rw [IntKind.wrap_i64]; omega
      have hidx := fun w => index4 F k hk w
      have hwk := wr_law (D := D1) (b := X.base + 4 * m) (P := s.P) st HW1.out.dsk.1 k3 k (by omega) (by have := hnn.out 3 (by omega); omega)
      rw [HWR.out] at hwk
      have hsf : D'.soft.length ≤ 9000000000000 := by
        have h1 := hwk.soft
        have h2 : D1.soft.length ≤ N + 5000 := by
          rcases hsb1.out with h | ⟨_, h⟩ <;> omega
        show D'.soft.length ≤ _
        dsimp only at h1
        omega
      have hnx : Hid (D1.wr (X.base + 4 * m) s.P st (k + 1) = D'.write ((X.base : Int) + (m : Int) * 4 + (k : Int)) (F k)) := by
        show _ = _
        rw [wr_next (by rw [HWR.out]), HWR.out, hB.out, hF'.out k]
        congr 1
        push_cast
        omega
      have HWx := Lib.hid (dsk_write dp ((X.base : Int) + (m : Int) * 4 + (k : Int)) (F k) (by rw [hsz.out k hk]; unfold maxLen; omega) D' Sd' hsf wr.drew HD.out)
      replace hsf := Lib.hid hsf
      replace hk4 := Lib.hid hk4
      replace hk := Lib.hid hk
      clear hwk r3
      go_wp2_with fail
      refine wp_region_held_drew (S := Cs3 ⟨p, 0, none⟩ (.pointer (some ⟨dp, 0, none⟩)) ⟨p, 2, none⟩ (.int .i64 X.base) ⟨g, i * 20, none⟩ (.int .i64 (m : Int))) (by kernel_rfl) ⟨P0, P2, r0⟩ (fun hHeld => ?_)
      refine wpAnyH_take (i := 0) (oi := ⟨some 51, _, _, _, _, _⟩) (v := ?_) rfl (by kernel_rfl) (by kernel_rfl) (by kernel_rfl) (fun _ _ _ h => h) (Or.inl ⟨by rfl, ?_⟩) hHeld ?_
      rotate_left
      · intro w' hSw
        obtain ⟨s0, s1, s2⟩ := hSw
        go_simp
        try with_reducible rfl
        try omega
      simp only [Act.put, List.setIfInBounds_toArray, List.set_cons_zero, List.set_cons_succ]
      refine wpAnyH_take (i := 1) (oi := ⟨some 52, _, _, _, _, _⟩) (v := ?_) rfl (by kernel_rfl) (by kernel_rfl) (by kernel_rfl) (fun _ _ _ h => h) (Or.inl ⟨by rfl, ?_⟩) hHeld ?_
      rotate_left
      · intro w' hSw
        obtain ⟨s0, s1, s2⟩ := hSw
        go_simp
        try with_reducible rfl
        try omega
      simp only [Act.put, List.setIfInBounds_toArray, List.set_cons_zero, List.set_cons_succ]
      refine wpAnyH_take (i := 2) (oi := ⟨some 53, _, _, _, _, _⟩) (v := ?_) rfl (by kernel_rfl) (by kernel_rfl) (by kernel_rfl) (fun _ _ _ h => h) (Or.inl ⟨by rfl, ?_⟩) hHeld ?_
      rotate_left
      · intro w' hSw
        obtain ⟨s0, s1, s2⟩ := hSw
        go_simp
        try with_reducible rfl
        try omega
      simp only [Act.put, List.setIfInBounds_toArray, List.set_cons_zero, List.set_cons_succ]
      refine wpAnyH_take (i := 3) (oi := ⟨some 54, _, _, _, _, _⟩) (v := ?_) rfl (by kernel_rfl) (by kernel_rfl) (by kernel_rfl) (fun _ _ _ h => h) (Or.inl ⟨by rfl, ?_⟩) hHeld ?_
      rotate_left
      · intro w' hSw
        obtain ⟨s0, s1, s2⟩ := hSw
        go_simp
        try with_reducible rfl
        try omega
      simp only [Act.put, List.setIfInBounds_toArray, List.set_cons_zero, List.set_cons_succ]
      refine wpAnyH_take (i := 4) (oi := ⟨some 55, _, _, _, _, _⟩) (v := ?_) rfl (by kernel_rfl) (by kernel_rfl) (by kernel_rfl) (fun _ _ _ h => h) (Or.inl ⟨by rfl, ?_⟩) hHeld ?_
      rotate_left
      · intro w' hSw
        obtain ⟨s0, s1, s2⟩ := hSw
        go_simp
        try with_reducible rfl
        try omega
      simp only [Act.put, List.setIfInBounds_toArray, List.set_cons_zero, List.set_cons_succ]
      refine wpAnyH_take (i := 5) (oi := ⟨some 56, _, _, _, _, _⟩) (v := ?_) rfl (by kernel_rfl) (by kernel_rfl) (by kernel_rfl) (fun _ _ _ h => h) (Or.inl ⟨by rfl, ?_⟩) hHeld ?_
      rotate_left
      · intro w' hSw
        obtain ⟨s0, s1, s2⟩ := hSw
        go_simp
        try with_reducible rfl
        try omega
      simp only [Act.put, List.setIfInBounds_toArray, List.set_cons_zero, List.set_cons_succ]
      refine wpAnyH_take (i := 6) (oi := ⟨some 57, _, _, _, _, _⟩) (v := ?_) rfl (by kernel_rfl) (by kernel_rfl) (by kernel_rfl) (fun _ _ _ h => h) (Or.inl ⟨by rfl, ?_⟩) hHeld ?_
      rotate_left
      · intro w' hSw
        obtain ⟨s0, s1, s2⟩ := hSw
        go_simp
        try with_reducible rfl
        try omega
      simp only [Act.put, List.setIfInBounds_toArray, List.set_cons_zero, List.set_cons_succ]
      refine wpAnyH_take (i := 7) (oi := ⟨some 58, _, _, _, _, _⟩) (v := ?_) rfl (by kernel_rfl) (by kernel_rfl) (by kernel_rfl) (fun _ _ _ h => h) (Or.inl ⟨by rfl, ?_⟩) hHeld ?_
      rotate_left
      · intro w' hSw
        obtain ⟨s0, s1, s2⟩ := hSw
        go_simp
        try with_reducible rfl
        try omega
      simp only [Act.put, List.setIfInBounds_toArray, List.set_cons_zero, List.set_cons_succ]
      refine wpAnyH_take (i := 8) (oi := ⟨some 59, _, _, _, _, _⟩) (v := ?_) rfl (by kernel_rfl) (by kernel_rfl) (by kernel_rfl) (fun _ _ _ h => h) (Or.inl ⟨by rfl, ?_⟩) hHeld ?_
      rotate_left
      · intro w' hSw
        obtain ⟨s0, s1, s2⟩ := hSw
        go_simp
        try with_reducible rfl
        try omega
      simp only [Act.put, List.setIfInBounds_toArray, List.set_cons_zero, List.set_cons_succ]
      refine wpAnyH_take (i := 9) (oi := ⟨some 60, _, _, _, _, _⟩) (v := ?_) rfl (by kernel_rfl) (by kernel_rfl) (by kernel_rfl) (fun _ _ _ h => h) (Or.inl ⟨by rfl, ?_⟩) hHeld ?_
      rotate_left
      · intro w' hSw
        obtain ⟨s0, s1, s2⟩ := hSw
        go_simp
        try with_reducible rfl
        try omega
      simp only [Act.put, List.setIfInBounds_toArray, List.set_cons_zero, List.set_cons_succ]
      refine wpAnyH_take (i := 10) (oi := ⟨some 61, _, _, _, _, _⟩) (v := ?_) rfl (by kernel_rfl) (by kernel_rfl) (by kernel_rfl) (fun _ _ _ h => h) (Or.inl ⟨by rfl, ?_⟩) hHeld ?_
      rotate_left
      · intro w' hSw
        obtain ⟨s0, s1, s2⟩ := hSw
        go_simp
        try with_reducible rfl
        try omega
      simp only [Act.put, List.setIfInBounds_toArray, List.set_cons_zero, List.set_cons_succ]
      refine wpAnyH_take (i := 11) (oi := ⟨some 62, _, _, _, _, _⟩) (v := ?_) rfl (by kernel_rfl) (by kernel_rfl) (by kernel_rfl) (fun _ _ _ h => h) (Or.inl ⟨by rfl, ?_⟩) hHeld ?_
      rotate_left
      · intro w' hSw
        obtain ⟨s0, s1, s2⟩ := hSw
        go_simp
        try with_reducible rfl
        try omega
      simp only [Act.put, List.setIfInBounds_toArray, List.set_cons_zero, List.set_cons_succ]
      refine wpAnyH_take (i := 12) (oi := ⟨some 63, _, _, _, _, _⟩) (v := .int .i64 ((m : Int) * 4)) rfl (by kernel_rfl) (by kernel_rfl) (by kernel_rfl) (fun _ _ _ h => h) (Or.inl ⟨by rfl, ?_⟩) hHeld ?_
      · intro w' hSw
        obtain ⟨s0, s1, s2⟩ := hSw
        go_simp
        try with_reducible rfl
        try omega
      simp only [Act.put, List.setIfInBounds_toArray, List.set_cons_zero, List.set_cons_succ]
      refine wpAnyH_take (i := 13) (oi := ⟨some 64, _, _, _, _, _⟩) (v := .int .i64 ((X.base : Int) + (m : Int) * 4)) rfl (by kernel_rfl) (by kernel_rfl) (by kernel_rfl) (fun _ _ _ h => h) (Or.inl ⟨by rfl, ?_⟩) hHeld ?_
      · intro w' hSw
        obtain ⟨s0, s1, s2⟩ := hSw
        go_simp
        try with_reducible rfl
        try omega
      simp only [Act.put, List.setIfInBounds_toArray, List.set_cons_zero, List.set_cons_succ]
      refine wpAnyH_take (i := 14) (oi := ⟨some 65, _, _, _, _, _⟩) (v := ?_) rfl (by kernel_rfl) (by kernel_rfl) (by kernel_rfl) (fun _ _ _ h => h) (Or.inl ⟨by rfl, ?_⟩) hHeld ?_
      rotate_left
      · intro w' hSw
        obtain ⟨s0, s1, s2⟩ := hSw
        go_simp
        try with_reducible rfl
        try omega
      simp only [Act.put, List.setIfInBounds_toArray, List.set_cons_zero, List.set_cons_succ]
      refine wpAnyH_take (i := 15) (oi := ⟨some 66, _, _, _, _, _⟩) (v := .int .i64 ((X.base : Int) + (m : Int) * 4 + (k : Int))) rfl (by kernel_rfl) (by kernel_rfl) (by kernel_rfl) (fun _ _ _ h => h) (Or.inl ⟨by rfl, ?_⟩) hHeld ?_
      · intro w' hSw
        obtain ⟨s0, s1, s2⟩ := hSw
        go_simp
        try with_reducible rfl
        try omega
      simp only [Act.put, List.setIfInBounds_toArray, List.set_cons_zero, List.set_cons_succ]
      refine wpAnyH_take (i := 16) (oi := ⟨some 67, _, _, _, _, _⟩) (v := ?_) rfl (by kernel_rfl) (by kernel_rfl) (by kernel_rfl) (fun _ _ _ h => h) (Or.inl ⟨by rfl, ?_⟩) hHeld ?_
      rotate_left
      · intro w' hSw
        obtain ⟨s0, s1, s2⟩ := hSw
        go_simp
        try with_reducible rfl
        try omega
      simp only [Act.put, List.setIfInBounds_toArray, List.set_cons_zero, List.set_cons_succ]
      refine wpAnyH_ready (rs := [17]) (by kernel_rfl) (by simp) ?_
      refine AllReadyH.cons (o := ⟨some 68, _, _, _, _, _⟩) rfl (fun K hK => ?_) AllReadyH.nil
      go_simp
      go_at_call 72
      refine (HWx.out).mono ?_
      rintro e w5 ⟨rfl, S5, hd5, hk5, hs5⟩
      have HD5 := Lib.hid hd5
      have HK5 : Hid (Keeps (· ∈ Sd1) w1 w5) := (HK.out.drew).trans hk5 (fun q hq h => (HS.out q h).resolve_right (by omega))
      have HS5 : Hid (∀ q ∈ S5, q ∈ Sd1 ∨ w1.heap.size ≤ q) := fun q hq => by
        rcases hs5 q hq with h | h
        · exact HS.out q h
        · have h2 : wr.heap.size ≤ q := h
          have := HK.out.size; exact .inr (by omega)
      have H15 := Lib.hid (HK5.out.keep H11.out (hd1S.out p hpS.out.1))
      have H25 := Lib.hid (H21.out.keep HK5.out (fun k hk => hd1S.out k (by rw [hS.out]; simp [hk])))
      clear hd5 hk5 hs5 HWx HD HK HS H1r H2r P0 P2 r0
      clear hHeld
      go_wp2_with fail
      refine hK.out _ _ ⟨cell_at H15.out 0, cell_at H15.out 2, hm.out ▸ (slot_at H25.out i s hs.out).1⟩ (fun hHeld => ?_)
      clear hK K
      try simp only [Act.put, List.setIfInBounds_toArray, List.set_cons_zero, List.set_cons_succ]
      refine wpAnyH_take (i := 18) (oi := ⟨some 12, _, _, _, _, _⟩) (v := ?_) rfl (by kernel_rfl) (by kernel_rfl) (by kernel_rfl) (fun _ _ _ h => h) (Or.inl ⟨by rfl, ?_⟩) hHeld ?_
      rotate_left
      · intro w' hSw
        obtain ⟨s0, s1, s2⟩ := hSw
        go_simp
        try with_reducible rfl
        try omega
      simp only [Act.put, List.setIfInBounds_toArray, List.set_cons_zero, List.set_cons_succ]
      clear hHeld
      refine wpAnyH_done (by kernel_rfl) ?_ _
      obtain ⟨E, hE⟩ : ∃ E, D'.write ((X.base : Int) + (m : Int) * 4 + (k : Int)) (F k) = E := ⟨_, rfl⟩
      rw [hE] at hnx HD5 ⊢
      replace hE := Lib.hid hE
      obtain ⟨E, ce⟩ := E
      dsimp only at HD5 ⊢
      by_cases hce : ce = 0
      · subst hce
        go_wp2_with fail
        go_roundw
        case rel => exact ⟨k + 1, E, S5, by have := hk.out; omega, rfl, hnx, HD5, HK5, HS5⟩
        case measure => have := hk.out; simp [intOf]; omega
      · have h4 : Hid (D1.wr (X.base + 4 * m) s.P st 4 = (E, ce)) := by
          show _ = _
          rw [← hnx.out]
          exact wr_stuck_le (by rw [hnx.out]; exact hce) 4 (by have := hk.out; omega)
        have hce' := Lib.hid hce
        go_wp2_with fail
        go_ret
        have hlaw := wr_law (D := D1) (b := X.base + 4 * m) (P := s.P) st HW1.out.dsk.1 k3 4 (by omega) (by have := hnn.out 3 (by omega); omega)
        rw [h4.out] at hlaw
        obtain ⟨f1, f2, f3⟩ := HH.out.go (D2 := E) (w2 := w5) (Sd2 := S5) (k := 4) (c := ce) (m := m) (Pp := s.P) (st := st) HW1.out HK1.out HS1.out HFL.out.off.len HD5.out HK5.out HS5.out hlaw (by omega) k3 ((hlaw.softB hsb1.out).ok (by omega))
        refine ⟨ce, i1, S5, E, rfl, .inr ⟨D1, hst.out ▸ HFL.out, ?_⟩, by rw [if_neg hce'.out]; exact f1, f2, f3⟩
        rw [hm.out, Int.toNat_natCast, hst.out]
        exact hlaw
    · obtain rfl : k = 4 := by omega
      have r4 := slot_free H2r.out (by have := hil.out; omega) (i * 20 + 18)
      clear hk
      go_wp2_with fail
      go_ret
      have hlaw := wr_law (D := D1) (b := X.base + 4 * m) (P := s.P) st HW1.out.dsk.1 k3 4 (by omega) (by have := hnn.out 3 (by omega); omega)
      rw [HWR.out] at hlaw
      obtain ⟨f1, f2, f3⟩ := HH.out.go (D2 := D') (w2 := wr) (Sd2 := Sd') (k := 4) (c := 0) (m := m) (Pp := s.P) (st := st) HW1.out HK1.out HS1.out HFL.out.off.len HD.out HK.out HS.out hlaw (by omega) k3 ((hlaw.softB hsb1.out).ok (by omega))
      have hgb : g ∈ blk (.slice (some ⟨g, 0, none⟩) X.slots.length c) := by simp [blk, Value.ownBlock]
      have hkg : Keeps (· = g) wr (wr.setCell ⟨g, i * 20 + 18, none⟩ (.bool false)) := (Keeps.refl _ _).setCell _ _ (.inl rfl)
      refine ⟨0, i1, Sd', D', rfl, .inr ⟨D1, hst.out ▸ HFL.out, ?_⟩, ?_, f2.trans hkg (fun k hk e => .inl (by rw [e]; exact hpS.out.2.1)), f3⟩
      · rw [hm.out, Int.toNat_natCast, hst.out]
        exact hlaw
      · rw [if_pos rfl]
        refine f1.slots hgb (by rw [List.length_set]) ?_ hkg (fun s' hs' hd' => ?_)
        · rw [List.length_set]
          have := H2r.out.set (i * 20 + 18) (.bool false)
          rw [Nat.mul_comm i 20, slV_set X.slots i 18 s { s with dirty := false } (.bool false) hs.out (by omega) rfl] at this
          rw [Nat.mul_comm i 20]
          exact this
        · rcases List.mem_or_eq_of_mem_set hs' with h | h
          · exact o8.out s' h hd'
          · subst h; cases hd'
end Go.Proofs.YtimomjheanfbmaaGreatDoor
