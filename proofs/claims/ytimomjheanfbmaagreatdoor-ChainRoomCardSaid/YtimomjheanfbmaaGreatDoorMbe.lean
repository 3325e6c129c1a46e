import Derived.Test.YtimomjheanfbmaaGreatDoorMbd
set_option linter.unusedSimpArgs false
set_option linter.unusedVariables false
namespace Go.Proofs.YtimomjheanfbmaaGreatDoor
open Go.RowKit

inductive PutRel (first n bb : Nat) (P : ByteArray) (rs : List ByteArray) (X : Pl) (i0 : Nat) (D : Dev) (id : Int) (x : Pg) (st : Int) : Int → Pl → Nat → Dev → Prop
  | bad : (id < 0 ∨ (X.pages : Int) ≤ id ∨ st < 0 ∨ ¬ PgOk x) → PutRel first n bb P rs X i0 D id x st 1 X i0 D
  | over (i : Nat) (s : Slot) : 0 ≤ id → id < X.pages → 0 ≤ st → PgOk x → X.slots[i]? = some s → s.id = id → PutRel first n bb P rs X i0 D id x st 0 { X with slots := X.slots.set i { id := id, P := x, st := st, dirty := true, warm := true } } i0 D
  | full (X1 : Pl) (i1 : Nat) (D1 : Dev) (cd : Int) (at_ : Nat) : 0 ≤ id → id < X.pages → 0 ≤ st → PgOk x → (∀ s ∈ X.slots, s.id ≠ id) → PlaceRel first n bb P rs X i0 D X1 i1 D1 cd at_ → cd ≠ 0 → PutRel first n bb P rs X i0 D id x st cd X1 i1 D1
  | new (X1 : Pl) (i1 : Nat) (D1 : Dev) (at_ : Nat) : 0 ≤ id → id < X.pages → 0 ≤ st → PgOk x → (∀ s ∈ X.slots, s.id ≠ id) → PlaceRel first n bb P rs X i0 D X1 i1 D1 0 at_ →
      PutRel first n bb P rs X i0 D id x st 0 { X1 with slots := X1.slots.set at_ { id := id, P := x, st := st, dirty := true, warm := true } } i1 D1
set_option maxRecDepth 100000 in
set_option maxHeartbeats 800000 in
theorem pl_put {w : World} {p lp dp first n bb : Nat} {P : ByteArray} {rs : List ByteArray} {i0 : Nat} {X : Pl} {sv : Value} {S Sl Sd : List Nat} {D : Dev} (h : Pw w p lp dp first n bb P rs i0 X sv S Sl Sd D)
    (N : Nat) (hNb : N ≤ 3000000000000) (hsoft : SoftB N D) (id : Int) (x : Pg) (hx : ∀ i, i < 6 → (x.dt i).size ≤ maxLen) (st : Int) (hst : st ≤ 1152921504606846976) :
    Calls Tryz.prog 27 #[.pointer (some ⟨p, 0, none⟩), .int .i64 id, pgV x, .int .i64 st] w fun e w' => ∃ c i1 X' sv' S' Sd' D', e = .returned (.int .i64 c) ∧ PutRel first n bb P rs X i0 D id x st c X' i1 D' ∧
      Pw w' p lp dp first n bb P rs i1 X' sv' S' Sl Sd' D' ∧ Keeps (fun k => k ∈ S ∨ k ∈ Sl ∨ k ∈ Sd) w w' ∧ (∀ k ∈ S', k ∈ S ∨ w.heap.size ≤ k) ∧ ∀ k ∈ Sd', k ∈ Sd ∨ w.heap.size ≤ k := by
  have hpw : Hid (∀ w', Below w.heap.size w w' → Pw w' p lp dp first n bb P rs i0 X sv S Sl Sd D) := fun w' hb => h.later hb
  have HWr := Lib.hid (fun w' (hb : Below w.heap.size w w') => pl_wrong (hpw.out w' hb).pool id)
  have HF := Lib.hid (fun w' (hb : Below w.heap.size w w') => pl_find (hpw.out w' hb).pool id)
  have HPl := Lib.hid (fun w' (hb : Below w.heap.size w w') => pl_place (hpw.out w' hb) N hNb hsoft)
  have HCk := Lib.hid (fun w => pg_check x hx w)
  have hlow : Hid (∀ k, (k ∈ S ∨ k ∈ Sl ∨ k ∈ Sd) → k < w.heap.size) := fun k hk => by
    rcases hk with hk | hk | hk
    · exact h.pool.lt k hk
    · exact h.ws.log.lt k hk
    · exact h.ws.dsk.lt k hk
  obtain ⟨⟨o1, o2, o3, o4, o5, o6, o7, o8⟩, g1, g2, gS, gSn⟩ := h.pool
  have H1 := Lib.hid g1
  have H2 := Lib.hid g2
  replace gS := Lib.hid gS
  replace gSn := Lib.hid gSn
  replace o8 := Lib.hid o8
  have hz0 : Hid ((w.alloc (.cells (pgC x) 49)).heap[w.heap.size]? = some (.cells (pgC x) 49 (0, 0))) := hN rfl
  clear h g1 g2
  unfold pgV at HCk ⊢
  go_enter Tryz.func27, Tryz.ntmps27
  go_wp2_with fail
  refine (HWr.out _ (bA bR)).mono ?_
  rintro e w2 ⟨rfl, hb⟩
  have HB2 := Lib.hid (bT (bA bR) hb)
  have HR2 := Lib.hid (hBs hb hz0.out)
  clear hb hz0 HWr
  by_cases hr : id < 0 ∨ (X.pages : Int) ≤ id
  · have hb : (decide (id < 0) || decide ((X.pages : Int) ≤ id)) = true := by simpa using hr
    rw [hb]
    replace hr := Lib.hid hr
    clear hb
    go_wp2_with fail
    go_ret
    exact ⟨1, i0, X, sv, S, Sd, D, rfl, .bad (hr.out.imp_right .inl), hpw.out _ HB2.out, Keeps.of_below _ HB2.out, fun k hk => .inl hk, fun k hk => .inl hk⟩
  have hb : (decide (id < 0) || decide ((X.pages : Int) ≤ id)) = false := by simp; omega
  rw [hb]
  clear hb
  by_cases hst0 : st < 0
  · have hst0' := Lib.hid hst0
    have hd0 : decide (st < 0) = true := by simpa using hst0
    go_wp2_with fail
    go_ret
    exact ⟨1, i0, X, sv, S, Sd, D, rfl, .bad (.inr (.inr (.inl hst0'.out))), hpw.out _ HB2.out, Keeps.of_below _ HB2.out, fun k hk => .inl hk, fun k hk => .inl hk⟩
  obtain ⟨m, rfl⟩ : ∃ m : Nat, id = m := ⟨id.toNat, by omega⟩
  have hm0 : Hid ((0 : Int) ≤ m ∧ (m : Int) < X.pages) := ⟨by omega, by omega⟩
  have hst1 : Hid (0 ≤ st) := by show 0 ≤ st; omega
  replace hr := Lib.hid hr
  have hd0 : decide (st < 0) = false := by simpa using hst0
  go_wp2_with (refine wpList_load_want (by rfl) 49 _ rfl _ rfl 49 _ _ _ HR2.out Tryz.underlying49 rfl (by kernel_rfl) ?_)
  refine (HCk.out _).mono ?_
  rintro e w3 ⟨hck, hb⟩
  have HB3 := Lib.hid (bT HB2.out hb)
  have HR3 := Lib.hid (hBs hb HR2.out)
  clear hb HR2 HB2 HCk
  rcases hck with ⟨rfl, hxok⟩ | ⟨rfl, hxok⟩
  rotate_left
  · replace hxok := Lib.hid hxok
    go_wp2_with fail
    go_ret
    exact ⟨1, i0, X, sv, S, Sd, D, rfl, .bad (.inr (.inr (.inr hxok.out))), hpw.out _ HB3.out, Keeps.of_below _ HB3.out, fun k hk => .inl hk, fun k hk => .inl hk⟩
  replace hxok := Lib.hid hxok
  go_wp2_with fail
  refine (HF.out _ HB3.out).mono ?_
  rintro e w4 ⟨h4, hb⟩
  have HB4 := Lib.hid (bT HB3.out hb)
  have HR4 := Lib.hid (hBs hb HR3.out)
  clear hb HR3 HB3 HF
  have hsl : Hid (SlOk X.pages { id := m, P := x, st := st, dirty := true, warm := true }) := ⟨hm0.out.1, hm0.out.2, hxok.out, hst1.out, hst⟩
  rcases h4 with ⟨i, s, hs, hsid, -, rfl⟩ | ⟨hnone, rfl⟩
  · have hat : i < X.slots.length := (List.getElem?_eq_some_iff.1 hs).1
    obtain ⟨sa, sc, hsv⟩ := H2.out.form
    subst hsv
    obtain ⟨g, rfl⟩ := H2.out.addr (by omega)
    have hpg : Hid (p ≠ g ∧ g ∈ S ∧ p ∈ S) := by
      have h1 := gSn.out
      rw [gS.out] at h1 ⊢
      refine ⟨?_, by simp [blk, Value.ownBlock], by simp⟩
      rintro rfl
      simp [blk, Value.ownBlock] at h1
    have hgw : Hid (w.heap.size ≠ g) := by
      have := hlow.out g (.inl hpg.out.2.1)
      show w.heap.size ≠ g
      omega
    have H14 := Lib.hid (hBs HB4.out H1.out)
    have H24 := Lib.hid (H2.out.keep (Keeps.of_below (fun _ => False) HB4.out) (fun _ _ h => h))
    have hatI : (i : Int) < X.slots.length := by omega
    have hat0 : (0 : Int) ≤ i := by omega
    replace hs := Lib.hid hs
    replace hsid := Lib.hid hsid
    go_wp2_with fail
    have hS0 : GtS p w.heap.size (.slice (some ⟨g, 0, none⟩) X.slots.length sc) x w4.drew := ⟨cell_at H14.out 5, HR4.out⟩
    refine wp_region_held_drew (S := GtS p w.heap.size (.slice (some ⟨g, 0, none⟩) X.slots.length sc) x) (by kernel_rfl) hS0 (fun hHeld => ?_)
    clear hS0
    refine wpAnyH_take (i := 0) (oi := ⟨some 38, _, _, _, _, _⟩) (v := ?_) rfl (by kernel_rfl) (by kernel_rfl) (by kernel_rfl) (fun _ _ _ h => h) (Or.inl ⟨by rfl, ?_⟩) hHeld ?_
    rotate_left
    · intro w' hSw
      obtain ⟨s0, s1⟩ := hSw
      go_simp
      try with_reducible rfl
      try omega
    simp only [Act.put, List.setIfInBounds_toArray, List.set_cons_zero, List.set_cons_succ]
    refine wpAnyH_take (i := 1) (oi := ⟨some 39, _, _, _, _, _⟩) (v := ?_) rfl (by kernel_rfl) (by kernel_rfl) (by kernel_rfl) (fun _ _ _ h => h) (Or.inl ⟨by rfl, ?_⟩) hHeld ?_
    rotate_left
    · intro w' hSw
      obtain ⟨s0, s1⟩ := hSw
      go_simp
      try with_reducible rfl
      try omega
    simp only [Act.put, List.setIfInBounds_toArray, List.set_cons_zero, List.set_cons_succ]
    refine wpAnyH_take (i := 2) (oi := ⟨some 40, _, _, _, _, _⟩) (v := ?_) rfl (by kernel_rfl) (by kernel_rfl) (by kernel_rfl) (fun _ _ _ h => h) (Or.inl ⟨by rfl, ?_⟩) hHeld ?_
    rotate_left
    · intro w' hSw
      obtain ⟨s0, s1⟩ := hSw
      go_simp
      try with_reducible rfl
      try omega
    simp only [Act.put, List.setIfInBounds_toArray, List.set_cons_zero, List.set_cons_succ]
    refine wpAnyH_take (i := 3) (oi := ⟨some 41, _, _, _, _, _⟩) (v := ?_) rfl (by kernel_rfl) (by kernel_rfl) (by kernel_rfl) (fun _ _ _ h => h) (Or.inl ⟨by rfl, ?_⟩) hHeld ?_
    rotate_left
    · intro w' hSw
      obtain ⟨s0, s1⟩ := hSw
      go_simp
      try with_reducible rfl
      try omega
    simp only [Act.put, List.setIfInBounds_toArray, List.set_cons_zero, List.set_cons_succ]
    refine wpAnyH_take (i := 4) (oi := ⟨some 42, _, _, _, _, _⟩) (v := ?_) rfl (by kernel_rfl) (by kernel_rfl) (by kernel_rfl) (fun _ _ _ h => h) (Or.inl ⟨by rfl, ?_⟩) hHeld ?_
    rotate_left
    · intro w' hSw
      obtain ⟨s0, s1⟩ := hSw
      go_simp
      try with_reducible rfl
      try omega
    simp only [Act.put, List.setIfInBounds_toArray, List.set_cons_zero, List.set_cons_succ]
    refine wpAnyH_take (i := 5) (oi := ⟨some 43, _, _, _, _, _⟩) (v := ?_) rfl (by kernel_rfl) (by kernel_rfl) (by kernel_rfl) (fun _ _ _ h => h) (Or.inl ⟨by rfl, ?_⟩) hHeld ?_
    rotate_left
    · intro w' hSw
      obtain ⟨s0, s1⟩ := hSw
      go_simp
      try with_reducible rfl
      try omega
    simp only [Act.put, List.setIfInBounds_toArray, List.set_cons_zero, List.set_cons_succ]
    refine wpAnyH_take (i := 6) (oi := ⟨some 44, _, _, _, _, _⟩) (v := .agg (pgC x)) rfl (by kernel_rfl) (by kernel_rfl) (by kernel_rfl) (fun _ _ _ h => h) (yieldsIf_load_mid (by rfl) _ _ rfl w.heap.size 0 rfl (pgC x).toList _ (fun _ h => range_of h.2) Tryz.underlying49 rfl (by kernel_rfl)) hHeld ?_
    simp only [Act.put, List.setIfInBounds_toArray, List.set_cons_zero, List.set_cons_succ]
    refine wpAnyH_take (i := 7) (oi := ⟨some 45, _, _, _, _, _⟩) (v := ?_) rfl (by kernel_rfl) (by kernel_rfl) (by kernel_rfl) (fun _ _ _ h => h) (Or.inl ⟨by rfl, ?_⟩) hHeld ?_
    rotate_left
    · intro w' hSw
      obtain ⟨s0, s1⟩ := hSw
      go_simp
      try with_reducible rfl
      try omega
    simp only [Act.put, List.setIfInBounds_toArray, List.set_cons_zero, List.set_cons_succ]
    refine wpAnyH_take (i := 8) (oi := ⟨some 46, _, _, _, _, _⟩) (v := .agg (slC { id := m, P := x, st := st, dirty := true, warm := true }).toArray) rfl (by kernel_rfl) (by kernel_rfl) (by kernel_rfl) (fun _ _ _ h => h) (Or.inl ⟨by rfl, fun _ _ => by first | kernel_rfl | (go_simp; simp [pgC, slC])⟩) hHeld ?_
    simp only [Act.put, List.setIfInBounds_toArray, List.set_cons_zero, List.set_cons_succ]
    refine wpAnyH_take (i := 9) (oi := ⟨some 47, _, _, _, _, _⟩) (v := .pointer (some ⟨g, i * 20, none⟩)) rfl (by kernel_rfl) (by kernel_rfl) (by kernel_rfl) (fun _ _ _ h => h) (Or.inl ⟨by rfl, ?_⟩) hHeld ?_
    · intro w' hSw
      obtain ⟨s0, s1⟩ := hSw
      go_simp
      try with_reducible rfl
      try omega
    simp only [Act.put, List.setIfInBounds_toArray, List.set_cons_zero, List.set_cons_succ]
    refine wpAnyH_ready (rs := [10]) (by kernel_rfl) (by simp) ?_
    refine AllReadyH.cons (o := ⟨none, _, _, _, _, _⟩) rfl (fun K hK => ?_) AllReadyH.nil
    refine step_store_slot rfl _ _ rfl g i sc X.slots.length X.slots { id := m, P := x, st := st, dirty := true, warm := true } rfl rfl (OwnS.keep (w := w4) H24.out ((Keeps.refl (fun _ => False) w4).drew) (fun _ _ h => h)) hat (by omega) ?_
    intro w7 HO7 HK7
    refine hK.out _ _ ⟨(cell_at (HK7.out.keep (hDr H14.out) hpg.out.1) 5), HK7.out.keep (hDr HR4.out) hgw.out⟩ (fun hHeld => ?_)
    clear hK K hHeld
    try simp only [Act.put, List.setIfInBounds_toArray, List.set_cons_zero, List.set_cons_succ]
    refine wpAnyH_done (by kernel_rfl) ?_ _
    refine ‹∀ (a : Act) (w : World), Code.wp Tryz.prog _ _ a w → _› _ _ ?_
    go_wp2_with fail
    go_ret
    have hP7 := ((hpw.out _ HB4.out).later (bD bR)).slots (g := g) (by simp [blk, Value.ownBlock]) (l' := X.slots.set i { id := m, P := x, st := st, dirty := true, warm := true }) (by rw [List.length_set]) (by rw [List.length_set]; exact HO7.out) HK7.out (fun s' hs' hd' => by
      rcases List.mem_or_eq_of_mem_set hs' with h | h
      · exact (hpw.out _ HB4.out).pool.1.2.2.2.2.2.2.2 s' h hd'
      · subst h; exact hsl.out)
    exact ⟨0, i0, _, _, S, Sd, D, rfl, .over i s hm0.out.1 hm0.out.2 hst1.out hxok.out hs.out hsid.out, hP7, ((Keeps.of_below _ HB4.out).drew).trans HK7.out (fun k _ e => .inl (by rw [e]; exact hpg.out.2.1)), fun k hk => .inl hk, fun k hk => .inl hk⟩
  · have HN := Lib.hid hnone
    clear hnone
    go_wp2_with fail
    refine (HPl.out _ HB4.out).mono ?_
    rintro e w6 ⟨cd, at_, i1, X1, sv1, S1, Sd1, D1, rfl, hpr, hp6, hk6, hS1, hSd1⟩
    have HPR := Lib.hid hpr
    have HP6 := Lib.hid hp6
    have hb5 : w.heap.size ≤ w4.heap.size := HB4.out.size
    have HK6 : Hid (Keeps (fun k => k ∈ S ∨ k ∈ Sl ∨ k ∈ Sd) w w6) := (Keeps.of_below _ HB4.out).trans hk6 (fun k _ h => h)
    have HS1 : Hid (∀ k ∈ S1, k ∈ S ∨ w4.heap.size ≤ k) := hS1
    have HSd1 : Hid (∀ k ∈ Sd1, k ∈ Sd ∨ w4.heap.size ≤ k) := hSd1
    have HR6 := Lib.hid (hk6.keep HR4.out (fun h => by have := hlow.out _ h; omega))
    have hbl : Hid (w.heap.size < w4.heap.size) := block_lt HR4.out
    clear hpr hp6 hk6 hS1 hSd1 HPl HR4
    by_cases hcd : cd = 0
    rotate_left
    · have hcd' := Lib.hid hcd
      go_wp2_with fail
      go_ret
      exact ⟨cd, i1, X1, sv1, S1, Sd1, D1, rfl, .full X1 i1 D1 cd at_ hm0.out.1 hm0.out.2 hst1.out hxok.out HN.out HPR.out hcd'.out, HP6.out, HK6.out, fun k hk => (HS1.out k hk).imp (fun h => h) (fun h => by omega), fun k hk => (HSd1.out k hk).imp (fun h => h) (fun h => by omega)⟩
    subst hcd
    obtain ⟨hat, hpgs, -, -⟩ := place_at HPR.out rfl
    replace hpgs := Lib.hid hpgs
    obtain ⟨-, q1, q2, qS, qSn⟩ := HP6.out.pool
    obtain ⟨sa1, sc1, hsv1⟩ := q2.form
    subst hsv1
    obtain ⟨g, rfl⟩ := q2.addr (by omega)
    have hpg : Hid (p ≠ g ∧ g ∈ S1 ∧ p ∈ S1) := by
      rw [qS] at qSn ⊢
      refine ⟨?_, by simp [blk, Value.ownBlock], by simp⟩
      rintro rfl
      simp [blk, Value.ownBlock] at qSn
    have hgw : Hid (w.heap.size ≠ g) := by
      rcases HS1.out g hpg.out.2.1 with h | h
      · have := hlow.out g (.inl h)
        show w.heap.size ≠ g
        omega
      · have := hbl.out
        show w.heap.size ≠ g
        omega
    have Q1 := Lib.hid q1
    have Q2 := Lib.hid q2
    have hatI : (at_ : Int) < X1.slots.length := by omega
    have hat0 : (0 : Int) ≤ at_ := by omega
    clear q1 q2 qS qSn
    go_wp2_with fail
    have hS0 : GtS p w.heap.size (.slice (some ⟨g, 0, none⟩) X1.slots.length sc1) x w6.drew := ⟨cell_at Q1.out 5, HR6.out⟩
    refine wp_region_held_drew (S := GtS p w.heap.size (.slice (some ⟨g, 0, none⟩) X1.slots.length sc1) x) (by kernel_rfl) hS0 (fun hHeld => ?_)
    clear hS0
    refine wpAnyH_take (i := 0) (oi := ⟨some 38, _, _, _, _, _⟩) (v := ?_) rfl (by kernel_rfl) (by kernel_rfl) (by kernel_rfl) (fun _ _ _ h => h) (Or.inl ⟨by rfl, ?_⟩) hHeld ?_
    rotate_left
    · intro w' hSw
      obtain ⟨s0, s1⟩ := hSw
      go_simp
      try with_reducible rfl
      try omega
    simp only [Act.put, List.setIfInBounds_toArray, List.set_cons_zero, List.set_cons_succ]
    refine wpAnyH_take (i := 1) (oi := ⟨some 39, _, _, _, _, _⟩) (v := ?_) rfl (by kernel_rfl) (by kernel_rfl) (by kernel_rfl) (fun _ _ _ h => h) (Or.inl ⟨by rfl, ?_⟩) hHeld ?_
    rotate_left
    · intro w' hSw
      obtain ⟨s0, s1⟩ := hSw
      go_simp
      try with_reducible rfl
      try omega
    simp only [Act.put, List.setIfInBounds_toArray, List.set_cons_zero, List.set_cons_succ]
    refine wpAnyH_take (i := 2) (oi := ⟨some 40, _, _, _, _, _⟩) (v := ?_) rfl (by kernel_rfl) (by kernel_rfl) (by kernel_rfl) (fun _ _ _ h => h) (Or.inl ⟨by rfl, ?_⟩) hHeld ?_
    rotate_left
    · intro w' hSw
      obtain ⟨s0, s1⟩ := hSw
      go_simp
      try with_reducible rfl
      try omega
    simp only [Act.put, List.setIfInBounds_toArray, List.set_cons_zero, List.set_cons_succ]
    refine wpAnyH_take (i := 3) (oi := ⟨some 41, _, _, _, _, _⟩) (v := ?_) rfl (by kernel_rfl) (by kernel_rfl) (by kernel_rfl) (fun _ _ _ h => h) (Or.inl ⟨by rfl, ?_⟩) hHeld ?_
    rotate_left
    · intro w' hSw
      obtain ⟨s0, s1⟩ := hSw
      go_simp
      try with_reducible rfl
      try omega
    simp only [Act.put, List.setIfInBounds_toArray, List.set_cons_zero, List.set_cons_succ]
    refine wpAnyH_take (i := 4) (oi := ⟨some 42, _, _, _, _, _⟩) (v := ?_) rfl (by kernel_rfl) (by kernel_rfl) (by kernel_rfl) (fun _ _ _ h => h) (Or.inl ⟨by rfl, ?_⟩) hHeld ?_
    rotate_left
    · intro w' hSw
      obtain ⟨s0, s1⟩ := hSw
      go_simp
      try with_reducible rfl
      try omega
    simp only [Act.put, List.setIfInBounds_toArray, List.set_cons_zero, List.set_cons_succ]
    refine wpAnyH_take (i := 5) (oi := ⟨some 43, _, _, _, _, _⟩) (v := ?_) rfl (by kernel_rfl) (by kernel_rfl) (by kernel_rfl) (fun _ _ _ h => h) (Or.inl ⟨by rfl, ?_⟩) hHeld ?_
    rotate_left
    · intro w' hSw
      obtain ⟨s0, s1⟩ := hSw
      go_simp
      try with_reducible rfl
      try omega
    simp only [Act.put, List.setIfInBounds_toArray, List.set_cons_zero, List.set_cons_succ]
    refine wpAnyH_take (i := 6) (oi := ⟨some 44, _, _, _, _, _⟩) (v := .agg (pgC x)) rfl (by kernel_rfl) (by kernel_rfl) (by kernel_rfl) (fun _ _ _ h => h) (yieldsIf_load_mid (by rfl) _ _ rfl w.heap.size 0 rfl (pgC x).toList _ (fun _ h => range_of h.2) Tryz.underlying49 rfl (by kernel_rfl)) hHeld ?_
    simp only [Act.put, List.setIfInBounds_toArray, List.set_cons_zero, List.set_cons_succ]
    refine wpAnyH_take (i := 7) (oi := ⟨some 45, _, _, _, _, _⟩) (v := ?_) rfl (by kernel_rfl) (by kernel_rfl) (by kernel_rfl) (fun _ _ _ h => h) (Or.inl ⟨by rfl, ?_⟩) hHeld ?_
    rotate_left
    · intro w' hSw
      obtain ⟨s0, s1⟩ := hSw
      go_simp
      try with_reducible rfl
      try omega
    simp only [Act.put, List.setIfInBounds_toArray, List.set_cons_zero, List.set_cons_succ]
    refine wpAnyH_take (i := 8) (oi := ⟨some 46, _, _, _, _, _⟩) (v := .agg (slC { id := m, P := x, st := st, dirty := true, warm := true }).toArray) rfl (by kernel_rfl) (by kernel_rfl) (by kernel_rfl) (fun _ _ _ h => h) (Or.inl ⟨by rfl, fun _ _ => by first | kernel_rfl | (go_simp; simp [pgC, slC])⟩) hHeld ?_
    simp only [Act.put, List.setIfInBounds_toArray, List.set_cons_zero, List.set_cons_succ]
    refine wpAnyH_take (i := 9) (oi := ⟨some 47, _, _, _, _, _⟩) (v := .pointer (some ⟨g, at_ * 20, none⟩)) rfl (by kernel_rfl) (by kernel_rfl) (by kernel_rfl) (fun _ _ _ h => h) (Or.inl ⟨by rfl, ?_⟩) hHeld ?_
    · intro w' hSw
      obtain ⟨s0, s1⟩ := hSw
      go_simp
      try with_reducible rfl
      try omega
    simp only [Act.put, List.setIfInBounds_toArray, List.set_cons_zero, List.set_cons_succ]
    refine wpAnyH_ready (rs := [10]) (by kernel_rfl) (by simp) ?_
    refine AllReadyH.cons (o := ⟨none, _, _, _, _, _⟩) rfl (fun K hK => ?_) AllReadyH.nil
    refine step_store_slot rfl _ _ rfl g at_ sc1 X1.slots.length X1.slots { id := m, P := x, st := st, dirty := true, warm := true } rfl rfl (OwnS.keep (w := w6) Q2.out ((Keeps.refl (fun _ => False) w6).drew) (fun _ _ h => h)) hat (by omega) ?_
    intro w7 HO7 HK7
    refine hK.out _ _ ⟨(cell_at (HK7.out.keep (hDr Q1.out) hpg.out.1) 5), HK7.out.keep (hDr HR6.out) hgw.out⟩ (fun hHeld => ?_)
    clear hK K hHeld
    try simp only [Act.put, List.setIfInBounds_toArray, List.set_cons_zero, List.set_cons_succ]
    refine wpAnyH_done (by kernel_rfl) ?_ _
    refine ‹∀ (a : Act) (w : World), Code.wp Tryz.prog _ _ a w → _› _ _ ?_
    go_wp2_with fail
    go_ret
    have hP7 := (HP6.out.later (bD bR)).slots (g := g) (by simp [blk, Value.ownBlock]) (l' := X1.slots.set at_ { id := m, P := x, st := st, dirty := true, warm := true }) (by rw [List.length_set]) (by rw [List.length_set]; exact HO7.out) HK7.out (fun s' hs' hd' => by
      rcases List.mem_or_eq_of_mem_set hs' with h | h
      · exact HP6.out.pool.1.2.2.2.2.2.2.2 s' h hd'
      · subst h; exact hpgs.out ▸ hsl.out)
    exact ⟨0, i1, _, _, S1, Sd1, D1, rfl, .new X1 i1 D1 at_ hm0.out.1 hm0.out.2 hst1.out hxok.out HN.out HPR.out, hP7, (HK6.out.drew).trans HK7.out (fun k hk e => by
      have h1 := HS1.out g hpg.out.2.1
      rw [← e] at h1
      rcases h1 with h | h
      · exact .inl h
      · omega), fun k hk => (HS1.out k hk).imp (fun h => h) (fun h => by omega), fun k hk => (HSd1.out k hk).imp (fun h => h) (fun h => by omega)⟩
end Go.Proofs.YtimomjheanfbmaaGreatDoor

namespace Go.Proofs.YtimomjheanfbmaaGreatDoor
open Go.RowKit

/-- the first k slots are clean -/
inductive FsRel (first n bb : Nat) (P : ByteArray) (rs : List ByteArray) (X : Pl) (i0 : Nat) (D : Dev) : Nat → List Slot → Nat → Dev → Prop
  | zero : FsRel first n bb P rs X i0 D 0 X.slots i0 D
  | skip (k : Nat) (l : List Slot) (i1 : Nat) (D1 : Dev) (s : Slot) : FsRel first n bb P rs X i0 D k l i1 D1 → l[k]? = some s → s.dirty = false → FsRel first n bb P rs X i0 D (k + 1) l i1 D1
  | wrote (k : Nat) (l : List Slot) (i1 : Nat) (D1 : Dev) (s : Slot) (i2 : Nat) (D2 : Dev) : FsRel first n bb P rs X i0 D k l i1 D1 → l[k]? = some s → s.dirty = true → WrRel first n bb P rs X.base s i1 D1 i2 D2 0 →
      FsRel first n bb P rs X i0 D (k + 1) (l.set k { s with dirty := false }) i2 D2
inductive FlushRel (first n bb : Nat) (P : ByteArray) (rs : List ByteArray) (X : Pl) (i0 : Nat) (D : Dev) : Int → List Slot → Nat → Dev → Prop
  | fail (k : Nat) (l : List Slot) (i1 : Nat) (D1 : Dev) (s : Slot) (i2 : Nat) (D2 : Dev) : FsRel first n bb P rs X i0 D k l i1 D1 → l[k]? = some s → s.dirty = true → WrRel first n bb P rs X.base s i1 D1 i2 D2 20 → FlushRel first n bb P rs X i0 D 20 l i2 D2
  | done (l : List Slot) (i1 : Nat) (D1 : Dev) : FsRel first n bb P rs X i0 D X.slots.length l i1 D1 → DevOk D1 → FlushRel first n bb P rs X i0 D D1.barrier.2 l i1 D1.barrier.1
theorem Pw.barrier {w w' : World} {p lp dp first n bb : Nat} {P : ByteArray} {rs : List ByteArray} {i0 : Nat} {X : Pl} {sv : Value} {S Sl Sd Sd' : List Nat} {D : Dev} (h : Pw w p lp dp first n bb P rs i0 X sv S Sl Sd D)
    (hd : DiskAt w' dp D.barrier.1 Sd') (hk : Keeps (· ∈ Sd) w w') (hs : ∀ k ∈ Sd', k ∈ Sd ∨ w.heap.size ≤ k) : Pw w' p lp dp first n bb P rs i0 X sv S Sl Sd' D.barrier.1 := by
  have hof := off_barrier 0 D h.ws.dsk.1
  refine ⟨h.pool.keep hk (fun k hk h' => h.dd k hk h'), ⟨h.ws.log.keep hk (fun k hk h' => h.ws.dis k hk h'), hd, ⟨hd.1, by rw [hof.len]; exact h.ws.has.2.1, hof.all _ (fun p d hp _ => by omega) h.ws.has.2.2⟩, fun k hk h' => ?_, h.ws.rok, h.ws.le, h.ws.pre, h.ws.bbs, ?_⟩, h.dl, fun k hk h' => ?_, h.ring, by rw [hof.len]; exact h.fit⟩
  · rcases hs k h' with h2 | h2
    · exact h.ws.dis k hk h2
    · have := h.ws.log.lt k hk; omega
  · have hsf := barrier_soft D
    rcases h.ws.soft with h1 | ⟨h1, h2⟩
    · exact .inl (by omega)
    · rw [hof.dead h1]; exact .inr ⟨h1, h2⟩
  · rcases hs k h' with h2 | h2
    · exact h.dd k hk h2
    · have := h.pool.lt k hk; omega
theorem FsRel.len {first n bb : Nat} {P : ByteArray} {rs : List ByteArray} {X : Pl} {i0 : Nat} {D : Dev} {k : Nat} {l : List Slot} {i1 : Nat} {D1 : Dev} (h : FsRel first n bb P rs X i0 D k l i1 D1) : l.length = X.slots.length := by
  induction h with
  | zero => rfl
  | skip k l i1 D1 s h h1 h2 ih => exact ih
  | wrote k l i1 D1 s i2 D2 h h1 h2 h3 ih => rw [List.length_set]; exact ih
set_option maxRecDepth 100000 in
set_option maxHeartbeats 800000 in
theorem pl_flush {w : World} {p lp dp first n bb : Nat} {P : ByteArray} {rs : List ByteArray} {i0 : Nat} {X : Pl} {sv : Value} {S Sl Sd : List Nat} {D : Dev} (h : Pw w p lp dp first n bb P rs i0 X sv S Sl Sd D)
    (N : Nat) (hNb : N ≤ 2000000000000) (hsoft : SoftB N D) :
    Calls Tryz.prog 29 #[.pointer (some ⟨p, 0, none⟩)] w fun e w' => ∃ c l' i1 Sd' D', e = .returned (.int .i64 c) ∧ FlushRel first n bb P rs X i0 D c l' i1 D' ∧
      Pw w' p lp dp first n bb P rs i1 { X with slots := l' } sv S Sl Sd' D' ∧ Keeps (fun k => k ∈ S ∨ k ∈ Sl ∨ k ∈ Sd) w w' ∧ ∀ k ∈ Sd', k ∈ Sd ∨ w.heap.size ≤ k := by
  obtain ⟨⟨o1, o2, o3, o4, o5, o6, o7, o8⟩, g1, g2, gS, gSn⟩ := h.pool
  obtain ⟨sa, sc, rfl⟩ := g2.form
  have c5 : w.cell? ⟨p, 5, none⟩ = some (.slice sa X.slots.length sc) := cell_at g1 5
  have H1 := Lib.hid g1
  have H2 := Lib.hid g2
  replace gS := Lib.hid gS
  replace gSn := Lib.hid gSn
  clear o8 g1 g2
  have HH := Lib.hid h
  clear h
  go_enter Tryz.func29, Tryz.ntmps29
  go_wp2_with fail
  go_loopw [12] (fun x wr => ∃ (k : Nat) (l : List Slot) (i1 : Nat) (Sd1 : List Nat) (D1 : Dev), k ≤ X.slots.length ∧ x = .int .i64 k ∧ Hid (FsRel first n bb P rs X i0 D k l i1 D1) ∧ Hid (SoftB (N + 4 * k) D1) ∧ Hid (Pw wr p lp dp first n bb P rs i1 { X with slots := l } (.slice sa X.slots.length sc) S Sl Sd1 D1) ∧ Hid (Keeps (fun k => k ∈ S ∨ k ∈ Sl ∨ k ∈ Sd) w wr) ∧ Hid (∀ q ∈ Sd1, q ∈ Sd ∨ w.heap.size ≤ q)) (fun x _ => X.slots.length - (intOf x).toNat)
  case atStart => exact ⟨0, X.slots, i0, Sd, D, by omega, rfl, .zero, hsoft.mono (by omega), HH, Keeps.refl _ _, fun q hq => .inl hq⟩
  case round =>
    obtain ⟨k, l, i1, Sd1, D1, hk, rfl, HFs, HSB, HP, HK, HSd⟩ := hrel
    have hll := HFs.out.len
    obtain ⟨⟨-, -, -, -, -, -, -, q8⟩, p1, p2, -, -⟩ := HP.out.pool
    have x5 : wr.cell? ⟨p, 5, none⟩ = some (.slice sa X.slots.length sc) := cell_at p1 5
    have x0 : wr.cell? ⟨p, 0, none⟩ = some (.pointer (some ⟨dp, 0, none⟩)) := cell_at p1 0
    have p2 : OwnS wr 166 20 (.slice sa X.slots.length sc) X.slots.length (slV l) := hll ▸ p2
    replace q8 := Lib.hid q8
    by_cases hkn : k < X.slots.length
    · have hkI : (k : Int) < X.slots.length := by omega
      have hk0 : (0 : Int) ≤ k := by omega
      obtain ⟨g, rfl⟩ := H2.out.addr (by omega)
      obtain ⟨s, hs⟩ : ∃ s, l[k]? = some s := ⟨_, List.getElem?_eq_getElem (by omega)⟩
      obtain ⟨-, -, -, r3, -⟩ := slot_at p2 k s hs
      have hk1 : IntKind.i64.wrap ((k : Int) + 1) = (k : Int) + 1 := by rw [IntKind.wrap_i64]; omega
      clear p1 p2
      replace hk := Lib.hid hk
      cases hdr : s.dirty with
      | false =>
        rw [hdr] at r3
        replace hdr := Lib.hid hdr
        go_wp2_with fail
        go_roundw
        case rel => exact ⟨k + 1, l, i1, Sd1, D1, by omega, rfl, .skip k l i1 D1 s HFs.out hs hdr.out, HSB.out.mono (by omega), HP, HK, HSd⟩
        case measure => simp [intOf]; omega
      | true =>
        rw [hdr] at r3
        have HWr := Lib.hid (pl_write HP.out k s hs (q8.out s (List.mem_of_getElem? hs) hdr) (N + 4 * k) (by omega) HSB.out g sc (by rw [hll]))
        replace hdr := Lib.hid hdr
        go_wp2_with fail
        refine (HWr.out).mono ?_
        rintro e W2 ⟨cd, i2, Sd2, D2, rfl, hwr, hp2, hk2, hs2⟩
        have HWR := Lib.hid hwr
        have HP2 := Lib.hid hp2
        have HK2 : Hid (Keeps (fun k => k ∈ S ∨ k ∈ Sl ∨ k ∈ Sd) w W2) := HK.out.trans hk2 (fun k hk h => by
          rcases h with h | h | h
          · exact .inl h
          · exact .inr (.inl h)
          · rcases HSd.out k h with h2 | h2
            · exact .inr (.inr h2)
            · omega)
        have HS2 : Hid (∀ k ∈ Sd2, k ∈ Sd ∨ w.heap.size ≤ k) := fun k hk => by
          rcases hs2 k hk with h | h
          · exact HSd.out k h
          · exact .inr (Nat.le_trans HK.out.size h)
        have HSB2 := Lib.hid (HWR.out.softB HSB.out)
        clear hwr hp2 hk2 hs2 HWr
        by_cases hcd : cd = 0
        · subst hcd
          rw [if_pos rfl] at HP2
          go_wp2_with fail
          go_roundw
          case rel => exact ⟨k + 1, l.set k { s with dirty := false }, i2, Sd2, D2, by omega, rfl, .wrote k l i1 D1 s i2 D2 HFs.out hs hdr.out HWR.out, HSB2.out.mono (by omega), HP2, HK2, HS2⟩
          case measure => simp [intOf]; omega
        · have h20 : cd = 20 := by
            rcases HWR.out.code with ⟨h, _⟩ | ⟨h, _⟩
            · exact absurd h hcd
            · exact h
          subst h20
          rw [if_neg (by decide)] at HP2
          go_wp2_with fail
          go_ret
          exact ⟨20, l, i2, Sd2, D2, rfl, .fail k l i1 D1 s i2 D2 HFs.out hs hdr.out HWR.out, HP2.out, HK2.out, HS2.out⟩
    · obtain rfl : k = X.slots.length := by omega
      have HBa := Lib.hid (dsk_barrier dp D1 Sd1 wr HP.out.ws.dsk)
      clear p1 p2
      go_wp2_with fail
      refine (HBa.out).mono ?_
      rintro e W2 ⟨rfl, Sd2, hd2, hk2, hs2⟩
      have hp2 := HP.out.barrier hd2 hk2 hs2
      have hK2 : Keeps (fun k => k ∈ S ∨ k ∈ Sl ∨ k ∈ Sd) w W2 := HK.out.trans hk2 (fun k hk h => by
        rcases HSd.out k h with h2 | h2
        · exact .inr (.inr h2)
        · omega)
      have hS2 : ∀ k ∈ Sd2, k ∈ Sd ∨ w.heap.size ≤ k := fun k hk => by
        rcases hs2 k hk with h | h
        · exact HSd.out k h
        · exact .inr (Nat.le_trans HK.out.size h)
      have HP2 := Lib.hid hp2
      have HK2 := Lib.hid hK2
      have HS2 := Lib.hid hS2
      clear hp2 hK2 hS2 hd2 hk2 hs2
      go_wp2_with fail
      go_ret
      exact ⟨_, l, i1, Sd2, _, rfl, .done l i1 D1 HFs.out HP.out.ws.dsk.1, HP2.out, HK2.out, HS2.out⟩
end Go.Proofs.YtimomjheanfbmaaGreatDoor
