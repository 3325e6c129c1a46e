import Derived.Test.YtgealllnchpekaaNodeRPut
set_option linter.unusedSimpArgs false
set_option linter.unusedVariables false
namespace Go.Proofs.Ytgealllnchpekaa
open Go.RowKit

theorem step_append_one {P : Program} {w : World} {ops : Array Oper} {o : Oper} {a : Act} {K : Act → World → Prop} {Q : Exit → Act → World → Prop} {E : Prop} (hgd : o.guard = none) (s x : Operand) (t : TypeId)
    (ho : o.op = .call { callee := .builtin .append, args := #[s, x], argTypes := #[t, t] })
    (e : TypeId) (i : TypeInfo) (z : Value) (size bytes : Nat) (ht : P.underlying t = some (.slice e)) (hi : P.info? e = some i) (hz : i.zero = some z)
    (hsize : i.size = size) (hby : i.bytes = bytes) (hzs : z.cells.size = size) (hsz : 0 < size)
    (v : Value) (n : Nat) (xs : List Value) (hs : a.eval s = v) (hown : OwnS w e size v n xs)
    (ad : Addr) (m c : Nat) (news : List Value) (hx : a.eval x = .slice (some ad) m c) (hl : news.length = m * size) (hnews : ∀ j u, news[j]? = some u → w.cell? (ad.add j) = some u) (h1 : ∀ u ∈ news, u.oneCell' = true)
    (h63 : n + m ≤ maxLen) (hbytes : ((n + m) + (n + m) / 4 + 192) * bytes ≤ 281474976710656)
    (h : ∀ v' w', OwnS w' e size v' (n + m) (xs ++ news) → Keeps (· ∈ blk v) w w' → (∀ k ∈ blk v', k ∈ blk v ∨ w.heap.size ≤ k) → K (a.put o.dst v') w') :
    if Region.wanted o (yielded ops a.tmps) = true then Oper.wp P o a w K Q else E := by
  have hw : Region.wanted o (yielded ops a.tmps) = true := by simp [Region.wanted, hgd]
  rw [if_pos hw]
  obtain ⟨v', w', hr, h2, h3, h4, h5⟩ := run_append_frame (P := P) w t o.type e i z size bytes ht hi hz hsize hby hzs hsz v n xs hown ad m c news hl hnews h1 h63 hbytes
  unfold Oper.wp execOp
  simp only [ho, resolve, invoke, builtin, Sem.run_bind, Sem.run_pure, Result.andThen_ok, List.map_toArray, List.map_cons, List.map_nil, hs, hx, hr]
  exact h v' w' h2 h3 h4
set_option maxRecDepth 100000 in
set_option maxHeartbeats 16000000 in
theorem rf_take {P : Pg} {n : Nat} (i : Int) (hn : IsCount P n) (w : World) :
    Calls Try.prog 29 #[pgV P, .int .i64 i] w fun e w' => e = .returned (.tuple #[pgV (takeR P n i).1, .int .i64 (takeR P n i).2]) ∧ Below w.heap.size w w' := by
  obtain ⟨i0, hj, hj0, hj1, hj2⟩ := info_parts Try.info_cell
  have HN := Lib.hid (fun w => rf_cells hn w)
  have hn6 : n ≤ 6 := hn.1
  clear hn
  unfold takeR
  unfold pgV at *
  have HQc : Hid (((w.alloc (.cells (pgC P) 26)).alloc (.cells (pgC pageZ) 26)).heap[w.heap.size]? = some (.cells (pgC P) 26 (0, 0))) := hO (hN rfl)
  by_cases hi : 0 ≤ i ∧ i < n
  rotate_left
  · rw [if_neg hi]
    by_cases h0 : i < 0
    · go_enter Try.func29, Try.ntmps29
      go_wp2_with (refine wpList_load_row rfl 26 _ rfl _ rfl 26 _ _ _ HQc.out Try.underlying26 rfl (by kernel_rfl) ?_)
      refine (HN.out _).mono ?_
      rintro e w1 ⟨v, rfl, hc, hb, hnil⟩
      obtain ⟨ad, cc, rfl, hcc⟩ := hc.1.cap
      have HB1 := Lib.hid (bT (bA (bA bR)) hb)
      have HR1 := Lib.hid (hBs hb (hN (n := w.heap.size + 1) (by simp)))
      clear hb hc hnil
      go_wp2_with (refine wpList_store_whole rfl 26 _ _ rfl _ (pgC pageZ) rfl rfl _ _ HR1.out rfl (by kernel_rfl) (pgC_one pageZ) ?_; intro wz HRz HKz)
      exact bodyPost_ret (results_row_tmp Try.results29 _ _ _ _ _ _ _ rfl HRz.out Try.underlying26 rfl (by kernel_rfl)) rfl ⟨rfl, bK HB1.out HKz.out (fun j hj => by omega)⟩
    · have h1 : (n : Int) ≤ i := by omega
      go_enter Try.func29, Try.ntmps29
      go_wp2_with (refine wpList_load_row rfl 26 _ rfl _ rfl 26 _ _ _ HQc.out Try.underlying26 rfl (by kernel_rfl) ?_)
      refine (HN.out _).mono ?_
      rintro e w1 ⟨v, rfl, hc, hb, hnil⟩
      obtain ⟨ad, cc, rfl, hcc⟩ := hc.1.cap
      have HB1 := Lib.hid (bT (bA (bA bR)) hb)
      have HR1 := Lib.hid (hBs hb (hN (n := w.heap.size + 1) (by simp)))
      clear hb hc hnil
      go_wp2_with (refine wpList_store_whole rfl 26 _ _ rfl _ (pgC pageZ) rfl rfl _ _ HR1.out rfl (by kernel_rfl) (pgC_one pageZ) ?_; intro wz HRz HKz)
      exact bodyPost_ret (results_row_tmp Try.results29 _ _ _ _ _ _ _ rfl HRz.out Try.underlying26 rfl (by kernel_rfl)) rfl ⟨rfl, bK HB1.out HKz.out (fun j hj => by omega)⟩
  rw [if_pos hi]
  obtain ⟨hi1, hi2⟩ := hi
  obtain ⟨j, rfl⟩ : ∃ j : Nat, i = j := ⟨i.toNat, by omega⟩
  rw [Int.toNat_natCast]
  have hjn : j < n := by omega
  have wr1 : IntKind.i64.wrap ((j : Int) + 1) = (j : Int) + 1 := by rw [IntKind.wrap_i64]; omega
  go_enter Try.func29, Try.ntmps29
  go_wp2_with (refine wpList_load_row rfl 26 _ rfl _ rfl 26 _ _ _ HQc.out Try.underlying26 rfl (by kernel_rfl) ?_)
  refine (HN.out _).mono ?_
  rintro e w3 ⟨v, rfl, hc, hb, hnil⟩
  have HB3 := Lib.hid (bT (bA (bA bR)) hb)
  have HR3 := Lib.hid (hBs hb (hN (n := w.heap.size + 1) (by simp)))
  replace HQc := Lib.hid (hBs hb HQc.out)
  obtain ⟨ad, cc, rfl, hcc⟩ := hc.1.cap
  have HL := Lib.hid hc
  obtain ⟨g, c', hv⟩ := HL.out.1.has (by omega)
  obtain ⟨rfl, rfl⟩ : ad = some ⟨g, 0, none⟩ ∧ cc = c' := by simpa using hv
  clear hb HN hc hnil hv
  have hcp : (n : Int) ≤ cc := by omega
  have hcp0 : ¬ cc = 0 := by omega
  have hj1c : (j : Int) + 1 ≤ cc := by omega
  have hj2c : (j : Int) ≤ cc := by omega
  have ej : ((j : Int) + 1).toNat = j + 1 := by omega
  by_cases hni : j + 1 < n
  · have hci : ¬ cc = j + 1 := by omega
    have hsz := block_lt HR3.out
    have hLlt : Hid (∀ k ∈ blk (.slice (some ⟨g, 0, none⟩) n cc), k < w3.heap.size) := fun k hk => HL.out.1.lt hk
    go_wp2_with ((first
      | (at_builtin; (refine wpList_append_seg rfl _ _ 62 rfl 23 i0 (.agg #[.int .i64 0, .string .empty]) 2 24 Try.underlying62 hj hj0 hj1 hj2 rfl (by decide) _ _ _ rfl HO5.out _ (n - (j + 1)) _ (segL P (j + 1) (n - (j + 1))) rfl (by rw [segL_length]) (fun a' e => by obtain rfl := Option.some.inj e; exact tail_src HL5.out (j + 1) (n - (j + 1)) (by omega)) (fun _ => rfl) (segL_one P _ _) (by unfold maxLen; omega) (by omega) ?_); intro v6 w6 ho6 hk6 hb6; (replace hk6 : Keeps (· ∈ blk v5) w5 w6 := hk6); (have hb6' : Hid (∀ k ∈ blk v6, w3.heap.size ≤ k) := fun k hk => (hb6 k hk).elim (fun h => hb5'.out k h) (fun h => by have := hs5; omega)); (have hs6 := hk6.size); (have HO6 := Lib.hid ho6); (have HQ6 := Lib.hid (hk6.keep HQ5.out (fun h => by have := hb5'.out _ h; omega))); (have HR6 := Lib.hid (hk6.keep HR5.out (fun h => by have := hb5'.out _ h; omega))); (have HB6 := Lib.hid (bK HB5.out hk6 (fun k h => by have := hb5'.out _ h; omega))); clear ho6 hk6 hb6)
      | (at_builtin; (refine wpList_append_seg rfl _ _ 62 rfl 23 i0 (.agg #[.int .i64 0, .string .empty]) 2 24 Try.underlying62 hj hj0 hj1 hj2 rfl (by decide) _ _ _ rfl (OwnS.nil _ _ _) _ j _ (cellsL P j) rfl (by rw [cellsL_length]) (fun a' e => by obtain rfl := Option.some.inj e; exact head_src HL.out j (by omega)) (fun _ => rfl) (cellsL_one P _) (by unfold maxLen; omega) (by omega) ?_); intro v5 w5 ho5 hk5 hb5; (replace hk5 : Keeps (fun _ => False) w3 w5 := hk5.mono (fun i _ h => by simp [blk, Value.ownBlock, Act.eval] at h)); (have hb5' : Hid (∀ k ∈ blk v5, w3.heap.size ≤ k) := fun k hk => (hb5 k hk).elim (fun h => by simp [blk, Value.ownBlock, Act.eval] at h) id); (have hs5 := hk5.size); (have HO5 := Lib.hid ho5); (have HL5 := Lib.hid (HL.out.keep hk5 (fun _ _ h => h))); (have HQ5 := Lib.hid (hk5.keep HQc.out id)); (have HR5 := Lib.hid (hk5.keep HR3.out id)); (have HB5 := Lib.hid (bK HB3.out hk5 (fun _ h => h.elim))); clear ho5 hk5 hb5)))
    have hut := Lib.hid Try.underlying26
    have hi16 : Hid ((Try.prog.info? 26).map (·.size) = some (pgC P).toList.length) := (by kernel_rfl : (Try.prog.info? 26).map (·.size) = some (pgC P).toList.length)
    have hS0 : w6.drew.heap[w.heap.size]? = some (.cells (pgC P) 26 (0, 0)) := hDr HQ6.out
    refine wp_region_held_drew (S := fun w' => w'.heap[w.heap.size]? = some (.cells (pgC P) 26 (0, 0))) (by kernel_rfl) hS0 (fun hHeld => ?_)
    refine wpAnyH_take (i := 0) (oi := ⟨some 29, _, _, _, _, _⟩) (v := .agg (pgC P)) rfl (by kernel_rfl) (by kernel_rfl) (by kernel_rfl) (fun _ _ _ h => h) (yieldsIf_load_mid (by rfl) _ _ rfl w.heap.size 0 rfl (pgC P).toList _ (fun _ h => range_of0 h) hut.out rfl hi16.out) hHeld ?_
    simp only [Act.put, List.setIfInBounds_toArray, List.set_cons_zero, List.set_cons_succ]
    refine wpAnyH_take (i := 1) (oi := ⟨some 30, _, _, _, _, _⟩) (v := v6) rfl (by kernel_rfl) (by kernel_rfl) (by kernel_rfl) (fun _ _ _ h => h) (Or.inl ⟨by rfl, fun _ _ => rfl⟩) hHeld ?_
    simp only [Act.put, List.setIfInBounds_toArray, List.set_cons_zero, List.set_cons_succ]
    refine wpAnyH_take (i := 2) (oi := ⟨some 31, _, _, _, _, _⟩) (v := ?_) rfl (by kernel_rfl) (by kernel_rfl) (by kernel_rfl) (fun _ _ _ h => h) (Or.inl ⟨by rfl, ?_⟩) hHeld ?_
    rotate_left
    · intro w hSw
      go_simp
      try with_reducible rfl
    simp only [Act.put, List.setIfInBounds_toArray, List.set_cons_zero, List.set_cons_succ]
    refine wpAnyH_ready (rs := [3]) (by kernel_rfl) (by simp) ?_
    refine AllReadyH.cons (o := ⟨some 32, _, _, _, _, _⟩) rfl (fun K hK => ?_) AllReadyH.nil
    go_simp
    refine hK.out _ _ (hO hHeld) (fun hHeld => ?_)
    clear hK K
    try simp only [Act.put, List.setIfInBounds_toArray, List.set_cons_zero, List.set_cons_succ]
    have HO6' : OwnS (w6.drew.alloc (.cells #[.int .i64 0, .string ⟨#[]⟩] 23)) 23 2 v6 (0 + j + (n - (j + 1))) ([] ++ cellsL P j ++ segL P (j + 1) (n - (j + 1))) := HO6.out.keep ((Keeps.refl (fun _ => False) w6).drew.alloc _) (fun k hk e => e)
    refine wpAnyH_ready (rs := [4]) (by kernel_rfl) (by simp) ?_
    refine AllReadyH.cons (o := ⟨some 33, _, _, _, _, _⟩) rfl (fun K hK => ?_) AllReadyH.nil
    refine step_append_one rfl (.tmp 30) (.tmp 32) 62 rfl 23 i0 (.agg #[.int .i64 0, .string .empty]) 2 24 Try.underlying62 hj hj0 hj1 hj2 rfl (by decide) _ _ _ rfl HO6' ⟨w6.heap.size, 0, none⟩ 1 1 [.int .i64 0, .string ⟨#[]⟩] rfl rfl (cell_two_new w6.drew _ _ _ _ _ rfl) (by simp [Value.oneCell']) (by unfold maxLen; omega) (by omega) ?_
    intro v7 w7 ho7 hk7 hb7
    replace hk7 : Keeps (· ∈ blk v6) (w6.drew.alloc (.cells #[.int .i64 0, .string ⟨#[]⟩] 23)) w7 := hk7
    have hk7' : Keeps (· ∈ blk v6) w6 w7 := ((Keeps.refl _ w6).drew.alloc _).trans hk7 (fun _ _ h => h)
    refine hK.out _ _ (hk7'.keep HQ6.out (fun h => by have := hb6'.out _ h; omega)) (fun hHeld => ?_)
    clear hK K
    try simp only [Act.put, List.setIfInBounds_toArray, List.set_cons_zero, List.set_cons_succ]
    have HR7 := Lib.hid (hk7'.keep HR6.out (fun h => by have := hb6'.out _ h; omega))
    have HB7 := Lib.hid (bK HB6.out hk7' (fun k h => by have := hb6'.out _ h; omega))
    have hs7 := hk7'.size
    have HV7 : CellsAt w7 0 v7 (takePg P j n) n := by
      refine ⟨?_, fun _ _ => Nat.zero_le _⟩
      have h := ho7
      rw [List.nil_append, (take_list P j n hjn hn6).1, show 0 + j + (n - (j + 1)) + 1 = n by omega] at h
      exact h
    have HX := rf_over P (takePg P j n) n hn6 v7 w7 HV7
    unfold pgV at HX
    rw [(take_list P j n hjn hn6).2] at HX
    clear hk7 hk7' ho7 hb7 HO6'
    refine wpAnyH_ready (rs := [5]) (by kernel_rfl) (by simp) ?_
    refine AllReadyH.cons (o := ⟨some 34, _, _, _, _, _⟩) rfl (fun K hK => ?_) AllReadyH.nil
    go_simp
    go_at_call 45
    refine HX.mono ?_
    rintro e w8 ⟨rfl, hb⟩
    have HB8 := Lib.hid (bT HB7.out hb)
    have HR8 := Lib.hid (hBs hb HR7.out)
    have hq8 := hBs hb hHeld
    clear hb hHeld HB7 HR7 HX HV7
    go_wp2_with fail
    refine hK.out _ _ hq8 (fun hHeld => ?_)
    clear hK K
    try simp only [Act.put, List.setIfInBounds_toArray, List.set_cons_zero, List.set_cons_succ]
    refine wpAnyH_ready (rs := [6]) (by kernel_rfl) (by simp) ?_
    refine AllReadyH.cons (o := ⟨none, _, _, _, _, _⟩) rfl (fun K hK => ?_) AllReadyH.nil
    refine step_store_whole rfl 26 _ _ rfl (w.heap.size + 1) (pgC (takePg P j n)) rfl rfl _ _ HR8.out rfl (by kernel_rfl) (pgC_one _) ?_
    intro wz HRz HKz
    refine hK.out _ _ (HKz.out.keep hHeld (by omega)) (fun hHeld => ?_)
    clear hK K
    try simp only [Act.put, List.setIfInBounds_toArray, List.set_cons_zero, List.set_cons_succ]
    refine wpAnyH_take (i := 7) (oi := ⟨some 5, _, _, _, _, _⟩) (v := .int .i64 0) rfl (by kernel_rfl) (by kernel_rfl) (by kernel_rfl) (fun _ _ _ h => h) (Or.inl ⟨by rfl, fun _ _ => rfl⟩) hHeld ?_
    simp only [Act.put, List.setIfInBounds_toArray, List.set_cons_zero, List.set_cons_succ]
    refine wpAnyH_done (by kernel_rfl) ?_ _
    refine ‹∀ (a : Act) (w : World), Code.wp Try.prog Code.ret _ a w → _› _ _ ?_
    refine wp_ret ?_
    exact bodyPost_ret (results_row_tmp Try.results29 _ _ _ _ _ _ _ rfl HRz.out Try.underlying26 rfl (by kernel_rfl)) rfl ⟨rfl, bK HB8.out HKz.out (fun j hj => by omega)⟩
  have hni' := hni
  replace hni : Hid (j + 1 = n) := Nat.le_antisymm hjn (Nat.le_of_not_lt hni')
  clear hni'
  by_cases hci : cc = j + 1
  · have hcz : (0 : Int) ≤ cc := by omega
    have hsz := block_lt HR3.out
    have hLlt : Hid (∀ k ∈ blk (.slice (some ⟨g, 0, none⟩) n cc), k < w3.heap.size) := fun k hk => HL.out.1.lt hk
    go_wp2_with ((first
      | (at_builtin; (refine wpList_append_seg rfl _ _ 62 rfl 23 i0 (.agg #[.int .i64 0, .string .empty]) 2 24 Try.underlying62 hj hj0 hj1 hj2 rfl (by decide) _ _ _ rfl HO5.out _ (n - (j + 1)) _ (segL P (j + 1) (n - (j + 1))) rfl (by rw [segL_length]) (fun a' e k u h => by have := hni.out; rw [show n - (j + 1) = 0 by omega] at h; simp [segL] at h) (fun _ => rfl) (segL_one P _ _) (by unfold maxLen; omega) (by omega) ?_); intro v6 w6 ho6 hk6 hb6; (replace hk6 : Keeps (· ∈ blk v5) w5 w6 := hk6); (have hb6' : Hid (∀ k ∈ blk v6, w3.heap.size ≤ k) := fun k hk => (hb6 k hk).elim (fun h => hb5'.out k h) (fun h => by have := hs5; omega)); (have hs6 := hk6.size); (have HO6 := Lib.hid ho6); (have HQ6 := Lib.hid (hk6.keep HQ5.out (fun h => by have := hb5'.out _ h; omega))); (have HR6 := Lib.hid (hk6.keep HR5.out (fun h => by have := hb5'.out _ h; omega))); (have HB6 := Lib.hid (bK HB5.out hk6 (fun k h => by have := hb5'.out _ h; omega))); clear ho6 hk6 hb6)
      | (at_builtin; (refine wpList_append_seg rfl _ _ 62 rfl 23 i0 (.agg #[.int .i64 0, .string .empty]) 2 24 Try.underlying62 hj hj0 hj1 hj2 rfl (by decide) _ _ _ rfl (OwnS.nil _ _ _) _ j _ (cellsL P j) rfl (by rw [cellsL_length]) (fun a' e => by obtain rfl := Option.some.inj e; exact head_src HL.out j (by omega)) (fun _ => rfl) (cellsL_one P _) (by unfold maxLen; omega) (by omega) ?_); intro v5 w5 ho5 hk5 hb5; (replace hk5 : Keeps (fun _ => False) w3 w5 := hk5.mono (fun i _ h => by simp [blk, Value.ownBlock, Act.eval] at h)); (have hb5' : Hid (∀ k ∈ blk v5, w3.heap.size ≤ k) := fun k hk => (hb5 k hk).elim (fun h => by simp [blk, Value.ownBlock, Act.eval] at h) id); (have hs5 := hk5.size); (have HO5 := Lib.hid ho5); (have HL5 := Lib.hid (HL.out.keep hk5 (fun _ _ h => h))); (have HQ5 := Lib.hid (hk5.keep HQc.out id)); (have HR5 := Lib.hid (hk5.keep HR3.out id)); (have HB5 := Lib.hid (bK HB3.out hk5 (fun _ h => h.elim))); clear ho5 hk5 hb5)))
    have hut := Lib.hid Try.underlying26
    have hi16 : Hid ((Try.prog.info? 26).map (·.size) = some (pgC P).toList.length) := (by kernel_rfl : (Try.prog.info? 26).map (·.size) = some (pgC P).toList.length)
    have hS0 : w6.drew.heap[w.heap.size]? = some (.cells (pgC P) 26 (0, 0)) := hDr HQ6.out
    refine wp_region_held_drew (S := fun w' => w'.heap[w.heap.size]? = some (.cells (pgC P) 26 (0, 0))) (by kernel_rfl) hS0 (fun hHeld => ?_)
    refine wpAnyH_take (i := 0) (oi := ⟨some 29, _, _, _, _, _⟩) (v := .agg (pgC P)) rfl (by kernel_rfl) (by kernel_rfl) (by kernel_rfl) (fun _ _ _ h => h) (yieldsIf_load_mid (by rfl) _ _ rfl w.heap.size 0 rfl (pgC P).toList _ (fun _ h => range_of0 h) hut.out rfl hi16.out) hHeld ?_
    simp only [Act.put, List.setIfInBounds_toArray, List.set_cons_zero, List.set_cons_succ]
    refine wpAnyH_take (i := 1) (oi := ⟨some 30, _, _, _, _, _⟩) (v := v6) rfl (by kernel_rfl) (by kernel_rfl) (by kernel_rfl) (fun _ _ _ h => h) (Or.inl ⟨by rfl, fun _ _ => rfl⟩) hHeld ?_
    simp only [Act.put, List.setIfInBounds_toArray, List.set_cons_zero, List.set_cons_succ]
    refine wpAnyH_take (i := 2) (oi := ⟨some 31, _, _, _, _, _⟩) (v := ?_) rfl (by kernel_rfl) (by kernel_rfl) (by kernel_rfl) (fun _ _ _ h => h) (Or.inl ⟨by rfl, ?_⟩) hHeld ?_
    rotate_left
    · intro w hSw
      go_simp
      try with_reducible rfl
    simp only [Act.put, List.setIfInBounds_toArray, List.set_cons_zero, List.set_cons_succ]
    refine wpAnyH_ready (rs := [3]) (by kernel_rfl) (by simp) ?_
    refine AllReadyH.cons (o := ⟨some 32, _, _, _, _, _⟩) rfl (fun K hK => ?_) AllReadyH.nil
    go_simp
    refine hK.out _ _ (hO hHeld) (fun hHeld => ?_)
    clear hK K
    try simp only [Act.put, List.setIfInBounds_toArray, List.set_cons_zero, List.set_cons_succ]
    have HO6' : OwnS (w6.drew.alloc (.cells #[.int .i64 0, .string ⟨#[]⟩] 23)) 23 2 v6 (0 + j + (n - (j + 1))) ([] ++ cellsL P j ++ segL P (j + 1) (n - (j + 1))) := HO6.out.keep ((Keeps.refl (fun _ => False) w6).drew.alloc _) (fun k hk e => e)
    refine wpAnyH_ready (rs := [4]) (by kernel_rfl) (by simp) ?_
    refine AllReadyH.cons (o := ⟨some 33, _, _, _, _, _⟩) rfl (fun K hK => ?_) AllReadyH.nil
    refine step_append_one rfl (.tmp 30) (.tmp 32) 62 rfl 23 i0 (.agg #[.int .i64 0, .string .empty]) 2 24 Try.underlying62 hj hj0 hj1 hj2 rfl (by decide) _ _ _ rfl HO6' ⟨w6.heap.size, 0, none⟩ 1 1 [.int .i64 0, .string ⟨#[]⟩] rfl rfl (cell_two_new w6.drew _ _ _ _ _ rfl) (by simp [Value.oneCell']) (by unfold maxLen; omega) (by omega) ?_
    intro v7 w7 ho7 hk7 hb7
    replace hk7 : Keeps (· ∈ blk v6) (w6.drew.alloc (.cells #[.int .i64 0, .string ⟨#[]⟩] 23)) w7 := hk7
    have hk7' : Keeps (· ∈ blk v6) w6 w7 := ((Keeps.refl _ w6).drew.alloc _).trans hk7 (fun _ _ h => h)
    refine hK.out _ _ (hk7'.keep HQ6.out (fun h => by have := hb6'.out _ h; omega)) (fun hHeld => ?_)
    clear hK K
    try simp only [Act.put, List.setIfInBounds_toArray, List.set_cons_zero, List.set_cons_succ]
    have HR7 := Lib.hid (hk7'.keep HR6.out (fun h => by have := hb6'.out _ h; omega))
    have HB7 := Lib.hid (bK HB6.out hk7' (fun k h => by have := hb6'.out _ h; omega))
    have hs7 := hk7'.size
    have HV7 : CellsAt w7 0 v7 (takePg P j n) n := by
      refine ⟨?_, fun _ _ => Nat.zero_le _⟩
      have h := ho7
      rw [List.nil_append, (take_list P j n hjn hn6).1, show 0 + j + (n - (j + 1)) + 1 = n by omega] at h
      exact h
    have HX := rf_over P (takePg P j n) n hn6 v7 w7 HV7
    unfold pgV at HX
    rw [(take_list P j n hjn hn6).2] at HX
    clear hk7 hk7' ho7 hb7 HO6'
    refine wpAnyH_ready (rs := [5]) (by kernel_rfl) (by simp) ?_
    refine AllReadyH.cons (o := ⟨some 34, _, _, _, _, _⟩) rfl (fun K hK => ?_) AllReadyH.nil
    go_simp
    go_at_call 45
    refine HX.mono ?_
    rintro e w8 ⟨rfl, hb⟩
    have HB8 := Lib.hid (bT HB7.out hb)
    have HR8 := Lib.hid (hBs hb HR7.out)
    have hq8 := hBs hb hHeld
    clear hb hHeld HB7 HR7 HX HV7
    go_wp2_with fail
    refine hK.out _ _ hq8 (fun hHeld => ?_)
    clear hK K
    try simp only [Act.put, List.setIfInBounds_toArray, List.set_cons_zero, List.set_cons_succ]
    refine wpAnyH_ready (rs := [6]) (by kernel_rfl) (by simp) ?_
    refine AllReadyH.cons (o := ⟨none, _, _, _, _, _⟩) rfl (fun K hK => ?_) AllReadyH.nil
    refine step_store_whole rfl 26 _ _ rfl (w.heap.size + 1) (pgC (takePg P j n)) rfl rfl _ _ HR8.out rfl (by kernel_rfl) (pgC_one _) ?_
    intro wz HRz HKz
    refine hK.out _ _ (HKz.out.keep hHeld (by omega)) (fun hHeld => ?_)
    clear hK K
    try simp only [Act.put, List.setIfInBounds_toArray, List.set_cons_zero, List.set_cons_succ]
    refine wpAnyH_take (i := 7) (oi := ⟨some 5, _, _, _, _, _⟩) (v := .int .i64 0) rfl (by kernel_rfl) (by kernel_rfl) (by kernel_rfl) (fun _ _ _ h => h) (Or.inl ⟨by rfl, fun _ _ => rfl⟩) hHeld ?_
    simp only [Act.put, List.setIfInBounds_toArray, List.set_cons_zero, List.set_cons_succ]
    refine wpAnyH_done (by kernel_rfl) ?_ _
    refine ‹∀ (a : Act) (w : World), Code.wp Try.prog Code.ret _ a w → _› _ _ ?_
    refine wp_ret ?_
    exact bodyPost_ret (results_row_tmp Try.results29 _ _ _ _ _ _ _ rfl HRz.out Try.underlying26 rfl (by kernel_rfl)) rfl ⟨rfl, bK HB8.out HKz.out (fun j hj => by omega)⟩
  · have hcz : (0 : Int) ≤ cc := by omega
    have hsz := block_lt HR3.out
    have hLlt : Hid (∀ k ∈ blk (.slice (some ⟨g, 0, none⟩) n cc), k < w3.heap.size) := fun k hk => HL.out.1.lt hk
    go_wp2_with ((first
      | (at_builtin; (refine wpList_append_seg rfl _ _ 62 rfl 23 i0 (.agg #[.int .i64 0, .string .empty]) 2 24 Try.underlying62 hj hj0 hj1 hj2 rfl (by decide) _ _ _ rfl HO5.out _ (n - (j + 1)) _ (segL P (j + 1) (n - (j + 1))) rfl (by rw [segL_length]) (fun a' e k u h => by have := hni.out; rw [show n - (j + 1) = 0 by omega] at h; simp [segL] at h) (fun _ => rfl) (segL_one P _ _) (by unfold maxLen; omega) (by omega) ?_); intro v6 w6 ho6 hk6 hb6; (replace hk6 : Keeps (· ∈ blk v5) w5 w6 := hk6); (have hb6' : Hid (∀ k ∈ blk v6, w3.heap.size ≤ k) := fun k hk => (hb6 k hk).elim (fun h => hb5'.out k h) (fun h => by have := hs5; omega)); (have hs6 := hk6.size); (have HO6 := Lib.hid ho6); (have HQ6 := Lib.hid (hk6.keep HQ5.out (fun h => by have := hb5'.out _ h; omega))); (have HR6 := Lib.hid (hk6.keep HR5.out (fun h => by have := hb5'.out _ h; omega))); (have HB6 := Lib.hid (bK HB5.out hk6 (fun k h => by have := hb5'.out _ h; omega))); clear ho6 hk6 hb6)
      | (at_builtin; (refine wpList_append_seg rfl _ _ 62 rfl 23 i0 (.agg #[.int .i64 0, .string .empty]) 2 24 Try.underlying62 hj hj0 hj1 hj2 rfl (by decide) _ _ _ rfl (OwnS.nil _ _ _) _ j _ (cellsL P j) rfl (by rw [cellsL_length]) (fun a' e => by obtain rfl := Option.some.inj e; exact head_src HL.out j (by omega)) (fun _ => rfl) (cellsL_one P _) (by unfold maxLen; omega) (by omega) ?_); intro v5 w5 ho5 hk5 hb5; (replace hk5 : Keeps (fun _ => False) w3 w5 := hk5.mono (fun i _ h => by simp [blk, Value.ownBlock, Act.eval] at h)); (have hb5' : Hid (∀ k ∈ blk v5, w3.heap.size ≤ k) := fun k hk => (hb5 k hk).elim (fun h => by simp [blk, Value.ownBlock, Act.eval] at h) id); (have hs5 := hk5.size); (have HO5 := Lib.hid ho5); (have HL5 := Lib.hid (HL.out.keep hk5 (fun _ _ h => h))); (have HQ5 := Lib.hid (hk5.keep HQc.out id)); (have HR5 := Lib.hid (hk5.keep HR3.out id)); (have HB5 := Lib.hid (bK HB3.out hk5 (fun _ h => h.elim))); clear ho5 hk5 hb5)))
    have hut := Lib.hid Try.underlying26
    have hi16 : Hid ((Try.prog.info? 26).map (·.size) = some (pgC P).toList.length) := (by kernel_rfl : (Try.prog.info? 26).map (·.size) = some (pgC P).toList.length)
    have hS0 : w6.drew.heap[w.heap.size]? = some (.cells (pgC P) 26 (0, 0)) := hDr HQ6.out
    refine wp_region_held_drew (S := fun w' => w'.heap[w.heap.size]? = some (.cells (pgC P) 26 (0, 0))) (by kernel_rfl) hS0 (fun hHeld => ?_)
    refine wpAnyH_take (i := 0) (oi := ⟨some 29, _, _, _, _, _⟩) (v := .agg (pgC P)) rfl (by kernel_rfl) (by kernel_rfl) (by kernel_rfl) (fun _ _ _ h => h) (yieldsIf_load_mid (by rfl) _ _ rfl w.heap.size 0 rfl (pgC P).toList _ (fun _ h => range_of0 h) hut.out rfl hi16.out) hHeld ?_
    simp only [Act.put, List.setIfInBounds_toArray, List.set_cons_zero, List.set_cons_succ]
    refine wpAnyH_take (i := 1) (oi := ⟨some 30, _, _, _, _, _⟩) (v := v6) rfl (by kernel_rfl) (by kernel_rfl) (by kernel_rfl) (fun _ _ _ h => h) (Or.inl ⟨by rfl, fun _ _ => rfl⟩) hHeld ?_
    simp only [Act.put, List.setIfInBounds_toArray, List.set_cons_zero, List.set_cons_succ]
    refine wpAnyH_take (i := 2) (oi := ⟨some 31, _, _, _, _, _⟩) (v := ?_) rfl (by kernel_rfl) (by kernel_rfl) (by kernel_rfl) (fun _ _ _ h => h) (Or.inl ⟨by rfl, ?_⟩) hHeld ?_
    rotate_left
    · intro w hSw
      go_simp
      try with_reducible rfl
    simp only [Act.put, List.setIfInBounds_toArray, List.set_cons_zero, List.set_cons_succ]
    refine wpAnyH_ready (rs := [3]) (by kernel_rfl) (by simp) ?_
    refine AllReadyH.cons (o := ⟨some 32, _, _, _, _, _⟩) rfl (fun K hK => ?_) AllReadyH.nil
    go_simp
    refine hK.out _ _ (hO hHeld) (fun hHeld => ?_)
    clear hK K
    try simp only [Act.put, List.setIfInBounds_toArray, List.set_cons_zero, List.set_cons_succ]
    have HO6' : OwnS (w6.drew.alloc (.cells #[.int .i64 0, .string ⟨#[]⟩] 23)) 23 2 v6 (0 + j + (n - (j + 1))) ([] ++ cellsL P j ++ segL P (j + 1) (n - (j + 1))) := HO6.out.keep ((Keeps.refl (fun _ => False) w6).drew.alloc _) (fun k hk e => e)
    refine wpAnyH_ready (rs := [4]) (by kernel_rfl) (by simp) ?_
    refine AllReadyH.cons (o := ⟨some 33, _, _, _, _, _⟩) rfl (fun K hK => ?_) AllReadyH.nil
    refine step_append_one rfl (.tmp 30) (.tmp 32) 62 rfl 23 i0 (.agg #[.int .i64 0, .string .empty]) 2 24 Try.underlying62 hj hj0 hj1 hj2 rfl (by decide) _ _ _ rfl HO6' ⟨w6.heap.size, 0, none⟩ 1 1 [.int .i64 0, .string ⟨#[]⟩] rfl rfl (cell_two_new w6.drew _ _ _ _ _ rfl) (by simp [Value.oneCell']) (by unfold maxLen; omega) (by omega) ?_
    intro v7 w7 ho7 hk7 hb7
    replace hk7 : Keeps (· ∈ blk v6) (w6.drew.alloc (.cells #[.int .i64 0, .string ⟨#[]⟩] 23)) w7 := hk7
    have hk7' : Keeps (· ∈ blk v6) w6 w7 := ((Keeps.refl _ w6).drew.alloc _).trans hk7 (fun _ _ h => h)
    refine hK.out _ _ (hk7'.keep HQ6.out (fun h => by have := hb6'.out _ h; omega)) (fun hHeld => ?_)
    clear hK K
    try simp only [Act.put, List.setIfInBounds_toArray, List.set_cons_zero, List.set_cons_succ]
    have HR7 := Lib.hid (hk7'.keep HR6.out (fun h => by have := hb6'.out _ h; omega))
    have HB7 := Lib.hid (bK HB6.out hk7' (fun k h => by have := hb6'.out _ h; omega))
    have hs7 := hk7'.size
    have HV7 : CellsAt w7 0 v7 (takePg P j n) n := by
      refine ⟨?_, fun _ _ => Nat.zero_le _⟩
      have h := ho7
      rw [List.nil_append, (take_list P j n hjn hn6).1, show 0 + j + (n - (j + 1)) + 1 = n by omega] at h
      exact h
    have HX := rf_over P (takePg P j n) n hn6 v7 w7 HV7
    unfold pgV at HX
    rw [(take_list P j n hjn hn6).2] at HX
    clear hk7 hk7' ho7 hb7 HO6'
    refine wpAnyH_ready (rs := [5]) (by kernel_rfl) (by simp) ?_
    refine AllReadyH.cons (o := ⟨some 34, _, _, _, _, _⟩) rfl (fun K hK => ?_) AllReadyH.nil
    go_simp
    go_at_call 45
    refine HX.mono ?_
    rintro e w8 ⟨rfl, hb⟩
    have HB8 := Lib.hid (bT HB7.out hb)
    have HR8 := Lib.hid (hBs hb HR7.out)
    have hq8 := hBs hb hHeld
    clear hb hHeld HB7 HR7 HX HV7
    go_wp2_with fail
    refine hK.out _ _ hq8 (fun hHeld => ?_)
    clear hK K
    try simp only [Act.put, List.setIfInBounds_toArray, List.set_cons_zero, List.set_cons_succ]
    refine wpAnyH_ready (rs := [6]) (by kernel_rfl) (by simp) ?_
    refine AllReadyH.cons (o := ⟨none, _, _, _, _, _⟩) rfl (fun K hK => ?_) AllReadyH.nil
    refine step_store_whole rfl 26 _ _ rfl (w.heap.size + 1) (pgC (takePg P j n)) rfl rfl _ _ HR8.out rfl (by kernel_rfl) (pgC_one _) ?_
    intro wz HRz HKz
    refine hK.out _ _ (HKz.out.keep hHeld (by omega)) (fun hHeld => ?_)
    clear hK K
    try simp only [Act.put, List.setIfInBounds_toArray, List.set_cons_zero, List.set_cons_succ]
    refine wpAnyH_take (i := 7) (oi := ⟨some 5, _, _, _, _, _⟩) (v := .int .i64 0) rfl (by kernel_rfl) (by kernel_rfl) (by kernel_rfl) (fun _ _ _ h => h) (Or.inl ⟨by rfl, fun _ _ => rfl⟩) hHeld ?_
    simp only [Act.put, List.setIfInBounds_toArray, List.set_cons_zero, List.set_cons_succ]
    refine wpAnyH_done (by kernel_rfl) ?_ _
    refine ‹∀ (a : Act) (w : World), Code.wp Try.prog Code.ret _ a w → _› _ _ ?_
    refine wp_ret ?_
    exact bodyPost_ret (results_row_tmp Try.results29 _ _ _ _ _ _ _ rfl HRz.out Try.underlying26 rfl (by kernel_rfl)) rfl ⟨rfl, bK HB8.out HKz.out (fun j hj => by omega)⟩
end Go.Proofs.Ytgealllnchpekaa
