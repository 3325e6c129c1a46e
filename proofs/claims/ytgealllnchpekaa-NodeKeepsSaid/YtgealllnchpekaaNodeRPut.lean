import Derived.Test.YtgealllnchpekaaNodeRLib
set_option linter.unusedSimpArgs false
set_option linter.unusedVariables false
namespace Go.Proofs.Ytgealllnchpekaa
open Go.RowKit

set_option maxRecDepth 100000 in
set_option maxHeartbeats 16000000 in
theorem rf_putp {P : Pg} {s : Int} {d : ByteArray} {n i : Nat} {t : Bool} (hn : IsCount P n) (hf : FindAt P (keyP s d).1 n i t) (hd : ∀ i, (P.dt i).size ≤ maxLen) (hz : d.size ≤ maxLen) (w : World) :
    Calls Try.prog 27 #[pgV P, cellV (s, d)] w fun e w' => e = .returned (.tuple #[pgV (putR P s d n i t).1, .int .i64 (putR P s d n i t).2]) ∧ Below w.heap.size w w' := by
  obtain ⟨i0, hj, hj0, hj1, hj2⟩ := info_parts Try.info_cell
  have HK := Lib.hid (fun w => rf_says s d hz w)
  have HN := Lib.hid (fun w => rf_cells hn w)
  have HF := Lib.hid (fun w => rf_find hn hf hd (Nat.le_trans (keyP_size s d) (by unfold maxLen; omega)) w)
  have hin : i ≤ n := hf.1
  have hn6 : n ≤ 6 := hn.1
  clear hn hf
  unfold putR
  unfold cellV at *
  unfold pgV at *
  dsimp only at *
  generalize keyP s d = r at *
  obtain ⟨own, rest, ok⟩ := r
  dsimp only at HK HF ⊢
  obtain ⟨res, hres⟩ : ∃ r : Pg × Int, (if ok = false then (pageZ, 1) else if t = true then (pageZ, 160) else if n = 6 then (pageZ, 140) else (putPg P i n s d, 0)) = r := ⟨_, rfl⟩
  rw [hres]
  replace hres := Lib.hid hres
  go_enter Try.func27, Try.ntmps27
  go_wp2_with fail
  refine (HK.out _).mono ?_
  rintro e w1 ⟨rfl, hb⟩
  have HB1 := Lib.hid (bT (bA (bA (bA bR))) hb)
  have HQc := Lib.hid (hBs hb (hO (hO (hN rfl))))
  have HC1 := Lib.hid (hBs hb (hO (hN (n := w.heap.size + 1) (by simp))))
  have HR1 := Lib.hid (hBs hb (hN (n := w.heap.size + 1 + 1) (by simp)))
  clear hb
  cases ok with
  | false =>
    obtain rfl := hres.out.symm.trans (if_pos rfl)
    go_wp2_with (refine wpList_store_whole rfl 26 _ _ rfl _ (pgC pageZ) rfl rfl _ _ HR1.out rfl (by kernel_rfl) (pgC_one pageZ) ?_; intro wz HRz HKz)
    exact bodyPost_ret (results_row_tmp Try.results27 _ _ _ _ _ _ _ rfl HRz.out Try.underlying26 rfl (by kernel_rfl)) rfl ⟨rfl, bK HB1.out HKz.out (fun j hj => by omega)⟩
  | true =>
    replace hres := Lib.hid (hres.out.symm.trans (if_neg (by simp)))
    go_wp2_with (refine wpList_load_row rfl 26 _ rfl _ rfl 26 _ _ _ HQc.out Try.underlying26 rfl (by kernel_rfl) ?_)
    refine (HF.out _).mono ?_
    rintro e w2 ⟨rfl, hb⟩
    have HB2 := Lib.hid (bT HB1.out hb)
    replace HQc := Lib.hid (hBs hb HQc.out)
    have HC2 := Lib.hid (hBs hb HC1.out)
    have HR2 := Lib.hid (hBs hb HR1.out)
    clear hb HC1 HR1 HB1
    cases t with
    | true =>
      obtain rfl := hres.out.trans (if_pos rfl)
      go_wp2_with (refine wpList_store_whole rfl 26 _ _ rfl _ (pgC pageZ) rfl rfl _ _ HR2.out rfl (by kernel_rfl) (pgC_one pageZ) ?_; intro wz HRz HKz)
      exact bodyPost_ret (results_row_tmp Try.results27 _ _ _ _ _ _ _ rfl HRz.out Try.underlying26 rfl (by kernel_rfl)) rfl ⟨rfl, bK HB2.out HKz.out (fun j hj => by omega)⟩
    | false =>
      replace hres := Lib.hid (hres.out.trans (if_neg (by simp)))
      go_wp2_with (refine wpList_load_row rfl 26 _ rfl _ rfl 26 _ _ _ HQc.out Try.underlying26 rfl (by kernel_rfl) ?_)
      refine (HN.out _).mono ?_
      rintro e w3 ⟨v, rfl, hc, hb, hnil⟩
      have HB3 := Lib.hid (bT HB2.out hb)
      replace HQc := Lib.hid (hBs hb HQc.out)
      have HC3 := Lib.hid (hBs hb HC2.out)
      have HR3 := Lib.hid (hBs hb HR2.out)
      obtain ⟨ad, cc, rfl, hcc⟩ := hc.1.cap
      have HL := Lib.hid hc
      clear hb HC2 HR2 HB2 HK HN HF hc
      by_cases hn66 : n = 6
      · subst hn66
        obtain rfl := hres.out.trans (if_pos rfl)
        go_wp2_with (refine wpList_store_whole rfl 26 _ _ rfl _ (pgC pageZ) rfl rfl _ _ HR3.out rfl (by kernel_rfl) (pgC_one pageZ) ?_; intro wz HRz HKz)
        exact bodyPost_ret (results_row_tmp Try.results27 _ _ _ _ _ _ _ rfl HRz.out Try.underlying26 rfl (by kernel_rfl)) rfl ⟨rfl, bK HB3.out HKz.out (fun j hj => by omega)⟩
      obtain rfl := hres.out.trans (if_neg hn66)
      have hq : ((n : Int) == 6) = false := by simp; omega
      have hi1 : (0 : Int) ≤ i := by omega
      have hin' : (i : Int) ≤ n := by omega
      have c0 := cell_at HC3.out 0
      have c1 := cell_at HC3.out 1
      by_cases h0 : n = 0
      · have hv := hnil h0
        obtain ⟨hv1, hv2⟩ : ad = none ∧ cc = 0 := by simp at hv; exact ⟨hv.1, hv.2.2⟩
        subst hv1
        have hA : Hid (n = 0 ∧ i = 0 ∧ cc = 0) := ⟨h0, by omega, hv2⟩
        have hcp : (i : Int) ≤ cc := by omega
        clear hv hnil h0 hv2
        have hsz := block_lt HR3.out
        have hLlt : Hid (∀ k ∈ blk (.slice none n cc), k < w3.heap.size) := fun k hk => HL.out.1.lt hk
        go_wp2_with ((first
          | (at_builtin; (refine wpList_append_seg rfl _ _ 62 rfl 23 i0 (.agg #[.int .i64 0, .string .empty]) 2 24 Try.underlying62 hj hj0 hj1 hj2 rfl (by decide) _ _ _ rfl HO6.out _ (n - i) _ (segL P i (n - i)) rfl (by rw [segL_length]) (fun a' e => by simp at e) (fun h => by have := hA.out; omega) (segL_one P _ _) (by unfold maxLen; omega) (by omega) ?_); intro v7 w7 ho7 hk7 hb7; (replace hk7 : Keeps (· ∈ blk v6) w6 w7 := hk7); (have HO7 := Lib.hid ho7); (have HQ7 := Lib.hid (hk7.keep HQ6.out (fun h => by have := hb6'.out _ h; omega))); (have HR7 := Lib.hid (hk7.keep HR6.out (fun h => by have := hb6'.out _ h; omega))); (have HB7 := Lib.hid (bK HB6.out hk7 (fun k h => by have := hb6'.out _ h; omega))); clear ho7 hk7 hb7)
          | (at_builtin; (refine wpList_append_seg rfl _ _ 62 rfl 23 i0 (.agg #[.int .i64 0, .string .empty]) 2 24 Try.underlying62 hj hj0 hj1 hj2 rfl (by decide) _ _ _ rfl (HO5.out.keep ((Keeps.refl (fun _ => False) w5).alloc (.cells #[.int .i64 s, .string d] 23)) (fun k hk e => e)) _ 1 _ [.int .i64 s, .string d] rfl rfl (cell_two_new' _ _ _ _ _ _ (by simp)) (fun _ => rfl) (by simp [Value.oneCell']) (by unfold maxLen; omega) (by omega) ?_); intro v6 w6 ho6 hk6 hb6; (replace hk6 : Keeps (· ∈ blk v5) (w5.alloc (.cells #[.int .i64 s, .string d] 23)) w6 := hk6); (have hk6 : Keeps (· ∈ blk v5) w5 w6 := ((Keeps.refl _ w5).alloc _).trans hk6 (fun _ _ h => h)); (have hb6' : Hid (∀ k ∈ blk v6, w3.heap.size ≤ k) := fun k hk => (hb6 k hk).elim (fun h => hb5'.out k h) (fun h => by have := hs5; simp at h; omega)); (have HO6 := Lib.hid ho6); (have HL6 : Hid (CellsAt w6 w2.heap.size (.slice none n cc) P n) := ⟨HL5.out.1.keep hk6 (fun k hk h => by have := hLlt.out k hk; have := hb5'.out k h; omega), HL5.out.2⟩); (have HQ6 := Lib.hid (hk6.keep HQ5.out (fun h => by have := hb5'.out _ h; omega))); (have HR6 := Lib.hid (hk6.keep HR5.out (fun h => by have := hb5'.out _ h; omega))); (have HB6 := Lib.hid (bK HB5.out hk6 (fun k h => by have := hb5'.out _ h; omega))); clear ho6 hk6 hb6)
          | (at_builtin; (refine wpList_append_seg rfl _ _ 62 rfl 23 i0 (.agg #[.int .i64 0, .string .empty]) 2 24 Try.underlying62 hj hj0 hj1 hj2 rfl (by decide) _ _ _ rfl (OwnS.nil _ _ _) _ i _ (cellsL P i) rfl (by rw [cellsL_length]) (fun a' e => by simp at e) (fun h => by have := hA.out; omega) (cellsL_one P _) (by unfold maxLen; omega) (by omega) ?_); intro v5 w5 ho5 hk5 hb5; (replace hk5 : Keeps (fun _ => False) w3 w5 := hk5.mono (fun i _ h => by simp [blk, Value.ownBlock, Act.eval] at h)); (have hb5' : Hid (∀ k ∈ blk v5, w3.heap.size ≤ k) := fun k hk => (hb5 k hk).elim (fun h => by simp [blk, Value.ownBlock, Act.eval] at h) id); (have hs5 := hk5.size); (have HO5 := Lib.hid ho5); (have HL5 := Lib.hid (HL.out.keep hk5 (fun _ _ h => h))); (have HC5 := Lib.hid (hk5.keep HC3.out id)); (have c0 := cell_at HC5.out 0); (have c1 := cell_at HC5.out 1); (have HQ5 := Lib.hid (hk5.keep HQc.out id)); (have HR5 := Lib.hid (hk5.keep HR3.out id)); (have HB5 := Lib.hid (bK HB3.out hk5 (fun _ h => h.elim))); clear ho5 hk5 hb5)
          | (refine wpList_load_row rfl 26 _ rfl _ rfl 26 _ _ _ HQ7.out Try.underlying26 rfl (by kernel_rfl) ?_)))
        have HV7 : CellsAt w7 0 v7 (putPg P i n s d) (n + 1) := by
          refine ⟨?_, fun _ _ => Nat.zero_le _⟩
          have h := HO7.out
          rw [List.nil_append, (put_list P i n s d hin (by omega)).1, show 0 + i + 1 + (n - i) = n + 1 by omega] at h
          exact h
        have HX := rf_over P (putPg P i n s d) (n + 1) (by omega) v7 w7 HV7
        unfold pgV at HX
        rw [(put_list P i n s d hin (by omega)).2] at HX
        refine HX.mono ?_
        rintro e w8 ⟨rfl, hb⟩
        have HB8 := Lib.hid (bT HB7.out hb)
        have HR8 := Lib.hid (hBs hb HR7.out)
        clear hb
        go_wp2_with (refine wpList_store_whole rfl 26 _ _ rfl _ (pgC (putPg P i n s d)) rfl rfl _ _ HR8.out rfl (by kernel_rfl) (pgC_one _) ?_; intro wz HRz HKz)
        exact bodyPost_ret (results_row_tmp Try.results27 _ _ _ _ _ _ _ rfl HRz.out Try.underlying26 rfl (by kernel_rfl)) rfl ⟨rfl, bK HB8.out HKz.out (fun j hj => by omega)⟩
      obtain ⟨g, c', hv⟩ := HL.out.1.has (by omega)
      obtain ⟨rfl, rfl⟩ : ad = some ⟨g, 0, none⟩ ∧ cc = c' := by simpa using hv
      clear hv hnil
      have hcp : (n : Int) ≤ cc := by omega
      have hcp0 : ¬ cc = 0 := by omega
      by_cases hni : i < n
      · have hci : ¬ cc = i := by omega
        have hsz := block_lt HR3.out
        have hLlt : Hid (∀ k ∈ blk (.slice (some ⟨g, 0, none⟩) n cc), k < w3.heap.size) := fun k hk => HL.out.1.lt hk
        go_wp2_with ((first
          | (at_builtin; (refine wpList_append_seg rfl _ _ 62 rfl 23 i0 (.agg #[.int .i64 0, .string .empty]) 2 24 Try.underlying62 hj hj0 hj1 hj2 rfl (by decide) _ _ _ rfl HO6.out _ (n - i) _ (segL P i (n - i)) rfl (by rw [segL_length]) (fun a' e => by obtain rfl := Option.some.inj e; exact tail_src HL6.out i (n - i) (by omega)) (fun _ => rfl) (segL_one P _ _) (by unfold maxLen; omega) (by omega) ?_); intro v7 w7 ho7 hk7 hb7; (replace hk7 : Keeps (· ∈ blk v6) w6 w7 := hk7); (have HO7 := Lib.hid ho7); (have HQ7 := Lib.hid (hk7.keep HQ6.out (fun h => by have := hb6'.out _ h; omega))); (have HR7 := Lib.hid (hk7.keep HR6.out (fun h => by have := hb6'.out _ h; omega))); (have HB7 := Lib.hid (bK HB6.out hk7 (fun k h => by have := hb6'.out _ h; omega))); clear ho7 hk7 hb7)
          | (at_builtin; (refine wpList_append_seg rfl _ _ 62 rfl 23 i0 (.agg #[.int .i64 0, .string .empty]) 2 24 Try.underlying62 hj hj0 hj1 hj2 rfl (by decide) _ _ _ rfl (HO5.out.keep ((Keeps.refl (fun _ => False) w5).alloc (.cells #[.int .i64 s, .string d] 23)) (fun k hk e => e)) _ 1 _ [.int .i64 s, .string d] rfl rfl (cell_two_new' _ _ _ _ _ _ (by simp)) (fun _ => rfl) (by simp [Value.oneCell']) (by unfold maxLen; omega) (by omega) ?_); intro v6 w6 ho6 hk6 hb6; (replace hk6 : Keeps (· ∈ blk v5) (w5.alloc (.cells #[.int .i64 s, .string d] 23)) w6 := hk6); (have hk6 : Keeps (· ∈ blk v5) w5 w6 := ((Keeps.refl _ w5).alloc _).trans hk6 (fun _ _ h => h)); (have hb6' : Hid (∀ k ∈ blk v6, w3.heap.size ≤ k) := fun k hk => (hb6 k hk).elim (fun h => hb5'.out k h) (fun h => by have := hs5; simp at h; omega)); (have HO6 := Lib.hid ho6); (have HL6 : Hid (CellsAt w6 w2.heap.size (.slice (some ⟨g, 0, none⟩) n cc) P n) := ⟨HL5.out.1.keep hk6 (fun k hk h => by have := hLlt.out k hk; have := hb5'.out k h; omega), HL5.out.2⟩); (have HQ6 := Lib.hid (hk6.keep HQ5.out (fun h => by have := hb5'.out _ h; omega))); (have HR6 := Lib.hid (hk6.keep HR5.out (fun h => by have := hb5'.out _ h; omega))); (have HB6 := Lib.hid (bK HB5.out hk6 (fun k h => by have := hb5'.out _ h; omega))); clear ho6 hk6 hb6)
          | (at_builtin; (refine wpList_append_seg rfl _ _ 62 rfl 23 i0 (.agg #[.int .i64 0, .string .empty]) 2 24 Try.underlying62 hj hj0 hj1 hj2 rfl (by decide) _ _ _ rfl (OwnS.nil _ _ _) _ i _ (cellsL P i) rfl (by rw [cellsL_length]) (fun a' e => by obtain rfl := Option.some.inj e; exact head_src HL.out i hin) (fun _ => rfl) (cellsL_one P _) (by unfold maxLen; omega) (by omega) ?_); intro v5 w5 ho5 hk5 hb5; (replace hk5 : Keeps (fun _ => False) w3 w5 := hk5.mono (fun i _ h => by simp [blk, Value.ownBlock, Act.eval] at h)); (have hb5' : Hid (∀ k ∈ blk v5, w3.heap.size ≤ k) := fun k hk => (hb5 k hk).elim (fun h => by simp [blk, Value.ownBlock, Act.eval] at h) id); (have hs5 := hk5.size); (have HO5 := Lib.hid ho5); (have HL5 := Lib.hid (HL.out.keep hk5 (fun _ _ h => h))); (have HC5 := Lib.hid (hk5.keep HC3.out id)); (have c0 := cell_at HC5.out 0); (have c1 := cell_at HC5.out 1); (have HQ5 := Lib.hid (hk5.keep HQc.out id)); (have HR5 := Lib.hid (hk5.keep HR3.out id)); (have HB5 := Lib.hid (bK HB3.out hk5 (fun _ h => h.elim))); clear ho5 hk5 hb5)
          | (refine wpList_load_row rfl 26 _ rfl _ rfl 26 _ _ _ HQ7.out Try.underlying26 rfl (by kernel_rfl) ?_)))
        have HV7 : CellsAt w7 0 v7 (putPg P i n s d) (n + 1) := by
          refine ⟨?_, fun _ _ => Nat.zero_le _⟩
          have h := HO7.out
          rw [List.nil_append, (put_list P i n s d hin (by omega)).1, show 0 + i + 1 + (n - i) = n + 1 by omega] at h
          exact h
        have HX := rf_over P (putPg P i n s d) (n + 1) (by omega) v7 w7 HV7
        unfold pgV at HX
        rw [(put_list P i n s d hin (by omega)).2] at HX
        refine HX.mono ?_
        rintro e w8 ⟨rfl, hb⟩
        have HB8 := Lib.hid (bT HB7.out hb)
        have HR8 := Lib.hid (hBs hb HR7.out)
        clear hb
        go_wp2_with (refine wpList_store_whole rfl 26 _ _ rfl _ (pgC (putPg P i n s d)) rfl rfl _ _ HR8.out rfl (by kernel_rfl) (pgC_one _) ?_; intro wz HRz HKz)
        exact bodyPost_ret (results_row_tmp Try.results27 _ _ _ _ _ _ _ rfl HRz.out Try.underlying26 rfl (by kernel_rfl)) rfl ⟨rfl, bK HB8.out HKz.out (fun j hj => by omega)⟩
      have hni' := hni
      replace hni : Hid (i = n) := Nat.le_antisymm hin (Nat.le_of_not_lt hni')
      clear hni'
      by_cases hci : cc = i
      · have hcz : (0 : Int) ≤ cc := by omega
        have hsz := block_lt HR3.out
        have hLlt : Hid (∀ k ∈ blk (.slice (some ⟨g, 0, none⟩) n cc), k < w3.heap.size) := fun k hk => HL.out.1.lt hk
        go_wp2_with ((first
          | (at_builtin; (refine wpList_append_seg rfl _ _ 62 rfl 23 i0 (.agg #[.int .i64 0, .string .empty]) 2 24 Try.underlying62 hj hj0 hj1 hj2 rfl (by decide) _ _ _ rfl HO6.out _ (n - i) _ (segL P i (n - i)) rfl (by rw [segL_length]) (fun a' e j u h => by have := hni.out; rw [show n - i = 0 by omega] at h; simp [segL] at h) (fun _ => rfl) (segL_one P _ _) (by unfold maxLen; omega) (by omega) ?_); intro v7 w7 ho7 hk7 hb7; (replace hk7 : Keeps (· ∈ blk v6) w6 w7 := hk7); (have HO7 := Lib.hid ho7); (have HQ7 := Lib.hid (hk7.keep HQ6.out (fun h => by have := hb6'.out _ h; omega))); (have HR7 := Lib.hid (hk7.keep HR6.out (fun h => by have := hb6'.out _ h; omega))); (have HB7 := Lib.hid (bK HB6.out hk7 (fun k h => by have := hb6'.out _ h; omega))); clear ho7 hk7 hb7)
          | (at_builtin; (refine wpList_append_seg rfl _ _ 62 rfl 23 i0 (.agg #[.int .i64 0, .string .empty]) 2 24 Try.underlying62 hj hj0 hj1 hj2 rfl (by decide) _ _ _ rfl (HO5.out.keep ((Keeps.refl (fun _ => False) w5).alloc (.cells #[.int .i64 s, .string d] 23)) (fun k hk e => e)) _ 1 _ [.int .i64 s, .string d] rfl rfl (cell_two_new' _ _ _ _ _ _ (by simp)) (fun _ => rfl) (by simp [Value.oneCell']) (by unfold maxLen; omega) (by omega) ?_); intro v6 w6 ho6 hk6 hb6; (replace hk6 : Keeps (· ∈ blk v5) (w5.alloc (.cells #[.int .i64 s, .string d] 23)) w6 := hk6); (have hk6 : Keeps (· ∈ blk v5) w5 w6 := ((Keeps.refl _ w5).alloc _).trans hk6 (fun _ _ h => h)); (have hb6' : Hid (∀ k ∈ blk v6, w3.heap.size ≤ k) := fun k hk => (hb6 k hk).elim (fun h => hb5'.out k h) (fun h => by have := hs5; simp at h; omega)); (have HO6 := Lib.hid ho6); (have HL6 : Hid (CellsAt w6 w2.heap.size (.slice (some ⟨g, 0, none⟩) n cc) P n) := ⟨HL5.out.1.keep hk6 (fun k hk h => by have := hLlt.out k hk; have := hb5'.out k h; omega), HL5.out.2⟩); (have HQ6 := Lib.hid (hk6.keep HQ5.out (fun h => by have := hb5'.out _ h; omega))); (have HR6 := Lib.hid (hk6.keep HR5.out (fun h => by have := hb5'.out _ h; omega))); (have HB6 := Lib.hid (bK HB5.out hk6 (fun k h => by have := hb5'.out _ h; omega))); clear ho6 hk6 hb6)
          | (at_builtin; (refine wpList_append_seg rfl _ _ 62 rfl 23 i0 (.agg #[.int .i64 0, .string .empty]) 2 24 Try.underlying62 hj hj0 hj1 hj2 rfl (by decide) _ _ _ rfl (OwnS.nil _ _ _) _ i _ (cellsL P i) rfl (by rw [cellsL_length]) (fun a' e => by obtain rfl := Option.some.inj e; exact head_src HL.out i hin) (fun _ => rfl) (cellsL_one P _) (by unfold maxLen; omega) (by omega) ?_); intro v5 w5 ho5 hk5 hb5; (replace hk5 : Keeps (fun _ => False) w3 w5 := hk5.mono (fun i _ h => by simp [blk, Value.ownBlock, Act.eval] at h)); (have hb5' : Hid (∀ k ∈ blk v5, w3.heap.size ≤ k) := fun k hk => (hb5 k hk).elim (fun h => by simp [blk, Value.ownBlock, Act.eval] at h) id); (have hs5 := hk5.size); (have HO5 := Lib.hid ho5); (have HL5 := Lib.hid (HL.out.keep hk5 (fun _ _ h => h))); (have HC5 := Lib.hid (hk5.keep HC3.out id)); (have c0 := cell_at HC5.out 0); (have c1 := cell_at HC5.out 1); (have HQ5 := Lib.hid (hk5.keep HQc.out id)); (have HR5 := Lib.hid (hk5.keep HR3.out id)); (have HB5 := Lib.hid (bK HB3.out hk5 (fun _ h => h.elim))); clear ho5 hk5 hb5)
          | (refine wpList_load_row rfl 26 _ rfl _ rfl 26 _ _ _ HQ7.out Try.underlying26 rfl (by kernel_rfl) ?_)))
        have HV7 : CellsAt w7 0 v7 (putPg P i n s d) (n + 1) := by
          refine ⟨?_, fun _ _ => Nat.zero_le _⟩
          have h := HO7.out
          rw [List.nil_append, (put_list P i n s d hin (by omega)).1, show 0 + i + 1 + (n - i) = n + 1 by omega] at h
          exact h
        have HX := rf_over P (putPg P i n s d) (n + 1) (by omega) v7 w7 HV7
        unfold pgV at HX
        rw [(put_list P i n s d hin (by omega)).2] at HX
        refine HX.mono ?_
        rintro e w8 ⟨rfl, hb⟩
        have HB8 := Lib.hid (bT HB7.out hb)
        have HR8 := Lib.hid (hBs hb HR7.out)
        clear hb
        go_wp2_with (refine wpList_store_whole rfl 26 _ _ rfl _ (pgC (putPg P i n s d)) rfl rfl _ _ HR8.out rfl (by kernel_rfl) (pgC_one _) ?_; intro wz HRz HKz)
        exact bodyPost_ret (results_row_tmp Try.results27 _ _ _ _ _ _ _ rfl HRz.out Try.underlying26 rfl (by kernel_rfl)) rfl ⟨rfl, bK HB8.out HKz.out (fun j hj => by omega)⟩
      · have hcz : (0 : Int) ≤ cc := by omega
        have hsz := block_lt HR3.out
        have hLlt : Hid (∀ k ∈ blk (.slice (some ⟨g, 0, none⟩) n cc), k < w3.heap.size) := fun k hk => HL.out.1.lt hk
        go_wp2_with ((first
          | (at_builtin; (refine wpList_append_seg rfl _ _ 62 rfl 23 i0 (.agg #[.int .i64 0, .string .empty]) 2 24 Try.underlying62 hj hj0 hj1 hj2 rfl (by decide) _ _ _ rfl HO6.out _ (n - i) _ (segL P i (n - i)) rfl (by rw [segL_length]) (fun a' e j u h => by have := hni.out; rw [show n - i = 0 by omega] at h; simp [segL] at h) (fun _ => rfl) (segL_one P _ _) (by unfold maxLen; omega) (by omega) ?_); intro v7 w7 ho7 hk7 hb7; (replace hk7 : Keeps (· ∈ blk v6) w6 w7 := hk7); (have HO7 := Lib.hid ho7); (have HQ7 := Lib.hid (hk7.keep HQ6.out (fun h => by have := hb6'.out _ h; omega))); (have HR7 := Lib.hid (hk7.keep HR6.out (fun h => by have := hb6'.out _ h; omega))); (have HB7 := Lib.hid (bK HB6.out hk7 (fun k h => by have := hb6'.out _ h; omega))); clear ho7 hk7 hb7)
          | (at_builtin; (refine wpList_append_seg rfl _ _ 62 rfl 23 i0 (.agg #[.int .i64 0, .string .empty]) 2 24 Try.underlying62 hj hj0 hj1 hj2 rfl (by decide) _ _ _ rfl (HO5.out.keep ((Keeps.refl (fun _ => False) w5).alloc (.cells #[.int .i64 s, .string d] 23)) (fun k hk e => e)) _ 1 _ [.int .i64 s, .string d] rfl rfl (cell_two_new' _ _ _ _ _ _ (by simp)) (fun _ => rfl) (by simp [Value.oneCell']) (by unfold maxLen; omega) (by omega) ?_); intro v6 w6 ho6 hk6 hb6; (replace hk6 : Keeps (· ∈ blk v5) (w5.alloc (.cells #[.int .i64 s, .string d] 23)) w6 := hk6); (have hk6 : Keeps (· ∈ blk v5) w5 w6 := ((Keeps.refl _ w5).alloc _).trans hk6 (fun _ _ h => h)); (have hb6' : Hid (∀ k ∈ blk v6, w3.heap.size ≤ k) := fun k hk => (hb6 k hk).elim (fun h => hb5'.out k h) (fun h => by have := hs5; simp at h; omega)); (have HO6 := Lib.hid ho6); (have HL6 : Hid (CellsAt w6 w2.heap.size (.slice (some ⟨g, 0, none⟩) n cc) P n) := ⟨HL5.out.1.keep hk6 (fun k hk h => by have := hLlt.out k hk; have := hb5'.out k h; omega), HL5.out.2⟩); (have HQ6 := Lib.hid (hk6.keep HQ5.out (fun h => by have := hb5'.out _ h; omega))); (have HR6 := Lib.hid (hk6.keep HR5.out (fun h => by have := hb5'.out _ h; omega))); (have HB6 := Lib.hid (bK HB5.out hk6 (fun k h => by have := hb5'.out _ h; omega))); clear ho6 hk6 hb6)
          | (at_builtin; (refine wpList_append_seg rfl _ _ 62 rfl 23 i0 (.agg #[.int .i64 0, .string .empty]) 2 24 Try.underlying62 hj hj0 hj1 hj2 rfl (by decide) _ _ _ rfl (OwnS.nil _ _ _) _ i _ (cellsL P i) rfl (by rw [cellsL_length]) (fun a' e => by obtain rfl := Option.some.inj e; exact head_src HL.out i hin) (fun _ => rfl) (cellsL_one P _) (by unfold maxLen; omega) (by omega) ?_); intro v5 w5 ho5 hk5 hb5; (replace hk5 : Keeps (fun _ => False) w3 w5 := hk5.mono (fun i _ h => by simp [blk, Value.ownBlock, Act.eval] at h)); (have hb5' : Hid (∀ k ∈ blk v5, w3.heap.size ≤ k) := fun k hk => (hb5 k hk).elim (fun h => by simp [blk, Value.ownBlock, Act.eval] at h) id); (have hs5 := hk5.size); (have HO5 := Lib.hid ho5); (have HL5 := Lib.hid (HL.out.keep hk5 (fun _ _ h => h))); (have HC5 := Lib.hid (hk5.keep HC3.out id)); (have c0 := cell_at HC5.out 0); (have c1 := cell_at HC5.out 1); (have HQ5 := Lib.hid (hk5.keep HQc.out id)); (have HR5 := Lib.hid (hk5.keep HR3.out id)); (have HB5 := Lib.hid (bK HB3.out hk5 (fun _ h => h.elim))); clear ho5 hk5 hb5)
          | (refine wpList_load_row rfl 26 _ rfl _ rfl 26 _ _ _ HQ7.out Try.underlying26 rfl (by kernel_rfl) ?_)))
        have HV7 : CellsAt w7 0 v7 (putPg P i n s d) (n + 1) := by
          refine ⟨?_, fun _ _ => Nat.zero_le _⟩
          have h := HO7.out
          rw [List.nil_append, (put_list P i n s d hin (by omega)).1, show 0 + i + 1 + (n - i) = n + 1 by omega] at h
          exact h
        have HX := rf_over P (putPg P i n s d) (n + 1) (by omega) v7 w7 HV7
        unfold pgV at HX
        rw [(put_list P i n s d hin (by omega)).2] at HX
        refine HX.mono ?_
        rintro e w8 ⟨rfl, hb⟩
        have HB8 := Lib.hid (bT HB7.out hb)
        have HR8 := Lib.hid (hBs hb HR7.out)
        clear hb
        go_wp2_with (refine wpList_store_whole rfl 26 _ _ rfl _ (pgC (putPg P i n s d)) rfl rfl _ _ HR8.out rfl (by kernel_rfl) (pgC_one _) ?_; intro wz HRz HKz)
        exact bodyPost_ret (results_row_tmp Try.results27 _ _ _ _ _ _ _ rfl HRz.out Try.underlying26 rfl (by kernel_rfl)) rfl ⟨rfl, bK HB8.out HKz.out (fun j hj => by omega)⟩
end Go.Proofs.Ytgealllnchpekaa
