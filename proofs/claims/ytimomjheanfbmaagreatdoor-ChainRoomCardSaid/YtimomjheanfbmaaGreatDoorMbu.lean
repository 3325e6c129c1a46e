import Derived.Test.YtimomjheanfbmaaGreatDoorMbt
import Derived.BigRegion
set_option linter.unusedSimpArgs false
set_option linter.unusedVariables false
namespace Go.Proofs.YtimomjheanfbmaaGreatDoor
open Go.RowKit

/-! ### the document's pages -/
def stRow (M : Nat → Pg × Int) : Nat → List Value
  | 0 => []
  | n + 1 => stRow M n ++ [Value.int .i64 (M n).2]
theorem stRow_length (M : Nat → Pg × Int) : ∀ n, (stRow M n).length = n
  | 0 => rfl
  | n + 1 => by rw [stRow, List.length_append, stRow_length M n]; rfl
theorem stRow_get (M : Nat → Pg × Int) : ∀ (n i : Nat), i < n → (stRow M n)[i]? = some (.int .i64 (M i).2)
  | 0, i, hi => by omega
  | n + 1, i, hi => by
    rw [stRow]
    by_cases h : i = n
    · subst h
      rw [List.getElem?_append_right (by rw [stRow_length]; omega), stRow_length, Nat.sub_self]; rfl
    · rw [List.getElem?_append_left (by rw [stRow_length]; omega)]
      exact stRow_get M n i (by omega)
theorem stRow_congr {M M' : Nat → Pg × Int} : ∀ n, (∀ i, i < n → (M i).2 = (M' i).2) → stRow M n = stRow M' n
  | 0, _ => rfl
  | n + 1, h => by rw [stRow, stRow, stRow_congr n (fun i hi => h i (by omega)), h n (by omega)]
theorem stRow_set (M : Nat → Pg × Int) (x : Pg × Int) : ∀ (n i : Nat), i < n → (stRow M n).set i (.int .i64 x.2) = stRow (upd M i x) n
  | 0, i, hi => by omega
  | n + 1, i, hi => by
    rw [stRow, stRow]
    by_cases h : i = n
    · subst h
      rw [List.set_append_right _ _ (by rw [stRow_length]; omega), stRow_length, Nat.sub_self]
      have e : (upd M i x i) = x := by unfold upd; rw [if_pos rfl]
      rw [e, stRow_congr (M := M) (M' := upd M i x) i (fun k hk => by unfold upd; rw [if_neg (by omega)])]
      rfl
    · rw [List.set_append_left _ _ (by rw [stRow_length]; omega), stRow_set M x n i (by omega)]
      have e : upd M i x n = M n := by unfold upd; rw [if_neg (by omega)]
      rw [e]
structure Rf (w : World) (b g1 g2 n : Nat) (M : Nat → Pg × Int) : Prop where
  cell : w.heap[b]? = some (.cells #[.slice (some ⟨g1, 0, none⟩) n n, .slice (some ⟨g2, 0, none⟩) n n] 163 (0, 0))
  now : OwnS w 49 16 (.slice (some ⟨g1, 0, none⟩) n n) n (pgRow (fun i => (M i).1) n)
  st : OwnS w 3 1 (.slice (some ⟨g2, 0, none⟩) n n) n (stRow M n)
  d1 : g1 ≠ b
  d2 : g2 ≠ b
  d3 : g1 ≠ g2
def rfL (b g1 g2 : Nat) : List Nat := [b, g1, g2]
theorem Rf.keep {S : Nat → Prop} {w w' : World} {b g1 g2 n : Nat} {M : Nat → Pg × Int} (h : Rf w b g1 g2 n M) (hk : Keeps S w w') (hS : ∀ q ∈ rfL b g1 g2, ¬ S q) : Rf w' b g1 g2 n M :=
  ⟨hk.keep h.cell (hS b (by simp [rfL])), h.now.keep hk (fun q hq => hS q (by simp [blk, Value.ownBlock] at hq; simp [rfL, hq])), h.st.keep hk (fun q hq => hS q (by simp [blk, Value.ownBlock] at hq; simp [rfL, hq])), h.d1, h.d2, h.d3⟩
theorem Rf.lt {w : World} {b g1 g2 n : Nat} {M : Nat → Pg × Int} (h : Rf w b g1 g2 n M) : ∀ q ∈ rfL b g1 g2, q < w.heap.size := fun q hq => by
  simp only [rfL, List.mem_cons, List.not_mem_nil, or_false] at hq
  rcases hq with rfl | rfl | rfl
  · exact block_lt h.cell
  · exact h.now.lt (by simp [blk, Value.ownBlock])
  · exact h.st.lt (by simp [blk, Value.ownBlock])
theorem made_row (n : Nat) : (madeCells (pgC pageZ) (n * 16)).toList = pgRow (fun i => (M0 i).1) n := by
  apply List.ext_getElem?
  intro j
  by_cases hj : j < n * 16
  · have h16 : j % 16 < 16 := Nat.mod_lt _ (by omega)
    obtain ⟨v, hv⟩ : ∃ v, (pgC pageZ).toList[j % 16]? = some v := ⟨_, List.getElem?_eq_getElem (show j % 16 < (pgC pageZ).toList.length from h16)⟩
    have h1 := pgRow_get (fun i => (M0 i).1) n (j / 16) (by omega) (j % 16) v hv
    rw [show 16 * (j / 16) + j % 16 = j by omega] at h1
    rw [h1]
    have h2 : (pgC pageZ)[j % 16]! = v := by
      rw [getElem!_def, ← Array.getElem?_toList, hv]
    simp [madeCells, hj, show (pgC pageZ).size = 16 from rfl, h2]
  · rw [List.getElem?_eq_none (by rw [Array.length_toList, size_madeCells]; omega), List.getElem?_eq_none (by rw [pgRow_length]; omega)]
theorem made_st (n : Nat) : (madeCells #[Value.int .i64 0] (n * 1)).toList = stRow M0 n := by
  rw [Nat.mul_one, toList_madeCells_one]
  apply List.ext_getElem?
  intro j
  by_cases hj : j < n
  · rw [stRow_get M0 n j hj]; simp [hj, M0]
  · rw [List.getElem?_eq_none (by simpa using hj), List.getElem?_eq_none (by rw [stRow_length]; omega)]
theorem Tryz.info_intz : (Tryz.prog.info? 3).map (fun i => (i.zero, i.size, i.bytes)) = some (some (.int .i64 0), 1, 8) := by kernel_rfl
set_option maxRecDepth 100000 in
set_option maxHeartbeats 800000 in
theorem rf_new (n : Nat) (hn : n ≤ 64) (w : World) : Calls Tryz.prog 23 #[.int .i64 n] w fun e w' => ∃ b g1 g2, e = .returned (.pointer (some ⟨b, 0, none⟩)) ∧ Rf w' b g1 g2 n M0 ∧ Below w.heap.size w w' ∧ ∀ q ∈ rfL b g1 g2, w.heap.size ≤ q := by
  obtain ⟨i0, hi, hz0, hz1, hz2⟩ := info_parts Tryz.info_page
  obtain ⟨i1, hj, hy0, hy1, hy2⟩ := info_parts Tryz.info_intz
  go_enter Tryz.func23, Tryz.ntmps23
  go_upto_region 1 with fail
  refine wp_region_held_drew (S := fun _ => True) (by kernel_rfl) trivial (fun hHeld => ?_)
  refine wpAnyH_take (i := 0) (oi := ⟨some 3, _, _, _, _, _⟩) (v := .int .i64 (n : Int)) rfl (by kernel_rfl) (by kernel_rfl) (by kernel_rfl) (fun _ _ _ h => h) (Or.inl ⟨by rfl, fun _ _ => rfl⟩) hHeld ?_
  simp only [Act.put, List.setIfInBounds_toArray, List.set_cons_zero, List.set_cons_succ]
  refine wpAnyH_take (i := 2) (oi := ⟨some 5, _, _, _, _, _⟩) (v := .int .i64 (n : Int)) rfl (by kernel_rfl) (by kernel_rfl) (by kernel_rfl) (fun _ _ _ h => h) (Or.inl ⟨by rfl, fun _ _ => rfl⟩) hHeld ?_
  simp only [Act.put, List.setIfInBounds_toArray, List.set_cons_zero, List.set_cons_succ]
  refine wpAnyH_ready (rs := [1, 3]) (by kernel_rfl) (by simp) ?_
  refine AllReadyH.cons (o := ⟨some 4, _, _, _, _, _⟩) rfl (fun K hK => ?_) (AllReadyH.cons (o := ⟨some 6, _, _, _, _, _⟩) rfl (fun K hK => ?_) AllReadyH.nil)
  · refine step_make rfl (.tmp 3) (.tmp 3) 55 rfl 49 i0 (.agg (pgC pageZ)) Tryz.underlying55 hi hz0 n rfl rfl (by rw [hz2]; omega) (by omega) ?_
    intro w1 hw
    have HOa : OwnS w1 49 16 (.slice (some ⟨w.drew.heap.size, 0, none⟩) n n) n (pgRow (fun i => (M0 i).1) n) := by
      rw [hw, hz1, ← made_row n]
      exact OwnS.of (World.ownsRow_lit (base := 0) w.drew (madeCells (pgC pageZ) (n * 16)) n (Nat.zero_le _) (by unfold maxLen; omega) (size_madeCells _ _))
    have hsza : w1.heap.size = w.drew.heap.size + 1 := by rw [hw]; simp
    have HKa : Keeps (fun _ => False) w.drew w1 := by rw [hw]; exact (Keeps.refl _ _).alloc _
    clear hw
    have hz0' := hz0
    refine hK.out _ _ trivial (fun hHeld => ?_)
    clear hK K hz0'
    try simp only [Act.put, List.setIfInBounds_toArray, List.set_cons_zero, List.set_cons_succ]
    refine wpAnyH_ready (rs := [3]) (by kernel_rfl) (by simp) ?_
    refine AllReadyH.cons (o := ⟨some 6, _, _, _, _, _⟩) rfl (fun K hK => ?_) AllReadyH.nil
    refine step_make rfl (.tmp 5) (.tmp 5) 54 rfl 3 i1 (.int .i64 0) Tryz.underlying54 hj hy0 n rfl rfl (by rw [hy2]; omega) (by omega) ?_
    intro w2 hw
    have HOb : OwnS w2 3 1 (.slice (some ⟨w1.heap.size, 0, none⟩) n n) n (stRow M0 n) := by
      rw [hw, hy1, ← made_st n]
      exact OwnS.of (World.ownsRow_lit (base := 0) w1 (madeCells #[Value.int .i64 0] (n * 1)) n (Nat.zero_le _) (by unfold maxLen; omega) (size_madeCells _ _))
    have hszb : w2.heap.size = w1.heap.size + 1 := by rw [hw]; simp
    have HKb : Keeps (fun _ => False) w1 w2 := by rw [hw]; exact (Keeps.refl _ _).alloc _
    clear hw
    have hz0' := hz0
    refine hK.out _ _ trivial (fun hHeld => ?_)
    clear hK K hz0'
    try simp only [Act.put, List.setIfInBounds_toArray, List.set_cons_zero, List.set_cons_succ]
    refine wpAnyH_take (i := 4) (oi := ⟨some 7, _, _, _, _, _⟩) (v := .agg #[.slice (some ⟨w.drew.heap.size, 0, none⟩) n n, .slice (some ⟨w1.heap.size, 0, none⟩) n n]) rfl (by kernel_rfl) (by kernel_rfl) (by kernel_rfl) (fun _ _ _ h => h) (Or.inl ⟨by rfl, ?_⟩) hHeld ?_
    · intro w' hSw
      go_simp
      try with_reducible rfl
    simp only [Act.put, List.setIfInBounds_toArray, List.set_cons_zero, List.set_cons_succ]
    refine wpAnyH_ready (rs := [5]) (by kernel_rfl) (by simp) ?_
    refine AllReadyH.cons (o := ⟨some 8, _, _, _, _, _⟩) rfl (fun K hK => ?_) AllReadyH.nil
    go_simp
    refine hK.out _ _ trivial (fun hHeld => ?_)
    clear hK K
    try simp only [Act.put, List.setIfInBounds_toArray, List.set_cons_zero, List.set_cons_succ]
    refine wpAnyH_take (i := 6) (oi := ⟨some 2, _, _, _, _, _⟩) (v := .pointer (some ⟨w.heap.size + 1 + 1, 0, none⟩)) rfl (by kernel_rfl) (by kernel_rfl) (by kernel_rfl) (fun _ _ _ h => h) (Or.inl ⟨by rfl, ?_⟩) hHeld ?_
    · intro w' hSw
      go_simp
      try with_reducible rfl
    simp only [Act.put, List.setIfInBounds_toArray, List.set_cons_zero, List.set_cons_succ]
    clear hHeld
    refine wpAnyH_done (by kernel_rfl) ?_ _
    go_wp2_with fail
    go_ret
    have hdz : w.drew.heap.size = w.heap.size := rfl
    rw [hsza] at HOb
    have hsza' : w1.heap.size = w.heap.size + 1 := hsza
    refine ⟨w2.heap.size, w.heap.size, w.heap.size + 1, by rw [hszb, hsza']; rfl, ⟨hN rfl, ?_, ?_, by omega, by omega, by omega⟩, ?_, fun q hq => ?_⟩
    · exact (HOa.keep HKb (fun _ _ h => h)).keep (w := w2) ((Keeps.refl (fun _ => False) w2).alloc _) (fun _ _ h => h)
    · exact HOb.keep (w := w2) ((Keeps.refl (fun _ => False) w2).alloc _) (fun _ _ h => h)
    · exact (((Keeps.refl (fun _ => False) w).drew.trans HKa (fun _ _ h => h)).trans HKb (fun _ _ h => h)).below.alloc (by omega) _
    · simp only [rfL, List.mem_cons, List.not_mem_nil, or_false] at hq
      rcases hq with rfl | rfl | rfl <;> omega

  · refine step_make rfl (.tmp 5) (.tmp 5) 54 rfl 3 i1 (.int .i64 0) Tryz.underlying54 hj hy0 n rfl rfl (by rw [hy2]; omega) (by omega) ?_
    intro w1 hw
    have HOa : OwnS w1 3 1 (.slice (some ⟨w.drew.heap.size, 0, none⟩) n n) n (stRow M0 n) := by
      rw [hw, hy1, ← made_st n]
      exact OwnS.of (World.ownsRow_lit (base := 0) w.drew (madeCells #[Value.int .i64 0] (n * 1)) n (Nat.zero_le _) (by unfold maxLen; omega) (size_madeCells _ _))
    have hsza : w1.heap.size = w.drew.heap.size + 1 := by rw [hw]; simp
    have HKa : Keeps (fun _ => False) w.drew w1 := by rw [hw]; exact (Keeps.refl _ _).alloc _
    clear hw
    have hz0' := hz0
    refine hK.out _ _ trivial (fun hHeld => ?_)
    clear hK K hz0'
    try simp only [Act.put, List.setIfInBounds_toArray, List.set_cons_zero, List.set_cons_succ]
    refine wpAnyH_ready (rs := [1]) (by kernel_rfl) (by simp) ?_
    refine AllReadyH.cons (o := ⟨some 4, _, _, _, _, _⟩) rfl (fun K hK => ?_) AllReadyH.nil
    refine step_make rfl (.tmp 3) (.tmp 3) 55 rfl 49 i0 (.agg (pgC pageZ)) Tryz.underlying55 hi hz0 n rfl rfl (by rw [hz2]; omega) (by omega) ?_
    intro w2 hw
    have HOb : OwnS w2 49 16 (.slice (some ⟨w1.heap.size, 0, none⟩) n n) n (pgRow (fun i => (M0 i).1) n) := by
      rw [hw, hz1, ← made_row n]
      exact OwnS.of (World.ownsRow_lit (base := 0) w1 (madeCells (pgC pageZ) (n * 16)) n (Nat.zero_le _) (by unfold maxLen; omega) (size_madeCells _ _))
    have hszb : w2.heap.size = w1.heap.size + 1 := by rw [hw]; simp
    have HKb : Keeps (fun _ => False) w1 w2 := by rw [hw]; exact (Keeps.refl _ _).alloc _
    clear hw
    have hz0' := hz0
    refine hK.out _ _ trivial (fun hHeld => ?_)
    clear hK K hz0'
    try simp only [Act.put, List.setIfInBounds_toArray, List.set_cons_zero, List.set_cons_succ]
    refine wpAnyH_take (i := 4) (oi := ⟨some 7, _, _, _, _, _⟩) (v := .agg #[.slice (some ⟨w1.heap.size, 0, none⟩) n n, .slice (some ⟨w.drew.heap.size, 0, none⟩) n n]) rfl (by kernel_rfl) (by kernel_rfl) (by kernel_rfl) (fun _ _ _ h => h) (Or.inl ⟨by rfl, ?_⟩) hHeld ?_
    · intro w' hSw
      go_simp
      try with_reducible rfl
    simp only [Act.put, List.setIfInBounds_toArray, List.set_cons_zero, List.set_cons_succ]
    refine wpAnyH_ready (rs := [5]) (by kernel_rfl) (by simp) ?_
    refine AllReadyH.cons (o := ⟨some 8, _, _, _, _, _⟩) rfl (fun K hK => ?_) AllReadyH.nil
    go_simp
    refine hK.out _ _ trivial (fun hHeld => ?_)
    clear hK K
    try simp only [Act.put, List.setIfInBounds_toArray, List.set_cons_zero, List.set_cons_succ]
    refine wpAnyH_take (i := 6) (oi := ⟨some 2, _, _, _, _, _⟩) (v := .pointer (some ⟨w.heap.size + 1 + 1, 0, none⟩)) rfl (by kernel_rfl) (by kernel_rfl) (by kernel_rfl) (fun _ _ _ h => h) (Or.inl ⟨by rfl, ?_⟩) hHeld ?_
    · intro w' hSw
      go_simp
      try with_reducible rfl
    simp only [Act.put, List.setIfInBounds_toArray, List.set_cons_zero, List.set_cons_succ]
    clear hHeld
    refine wpAnyH_done (by kernel_rfl) ?_ _
    go_wp2_with fail
    go_ret
    have hdz : w.drew.heap.size = w.heap.size := rfl
    rw [hsza] at HOb
    have hsza' : w1.heap.size = w.heap.size + 1 := hsza
    refine ⟨w2.heap.size, w.heap.size + 1, w.heap.size, by rw [hszb, hsza']; rfl, ⟨hN rfl, ?_, ?_, by omega, by omega, by omega⟩, ?_, fun q hq => ?_⟩
    · exact HOb.keep (w := w2) ((Keeps.refl (fun _ => False) w2).alloc _) (fun _ _ h => h)
    · exact (HOa.keep HKb (fun _ _ h => h)).keep (w := w2) ((Keeps.refl (fun _ => False) w2).alloc _) (fun _ _ h => h)
    · exact (((Keeps.refl (fun _ => False) w).drew.trans HKa (fun _ _ h => h)).trans HKb (fun _ _ h => h)).below.alloc (by omega) _
    · simp only [rfL, List.mem_cons, List.not_mem_nil, or_false] at hq
      rcases hq with rfl | rfl | rfl <;> omega
set_option maxRecDepth 100000 in
set_option maxHeartbeats 800000 in
theorem rf_get {w : World} {b g1 g2 n : Nat} {M : Nat → Pg × Int} (h : Rf w b g1 g2 n M) (id : Int) :
    Calls Tryz.prog 25 #[.pointer (some ⟨b, 0, none⟩), .int .i64 id] w fun e w' => ∃ Q c, e = .returned (.tuple #[pgV Q, .int .i64 c]) ∧ Below w.heap.size w w' ∧ ((0 ≤ id ∧ id < n ∧ c = 0 ∧ Q = (M id.toNat).1) ∨ ((id < 0 ∨ (n : Int) ≤ id) ∧ c = 1 ∧ Q = pageZ)) := by
  have C0 : ∀ X, (w.alloc X).cell? ⟨b, 0, none⟩ = some (.slice (some ⟨g1, 0, none⟩) n n) := fun X => cell_at (hO h.cell) 0
  have HN : Hid ((w.alloc (.cells (pgC pageZ) 49)).heap[w.heap.size]? = some (.cells (pgC pageZ) 49 (0, 0))) := hN rfl
  have H := Lib.hid h
  clear h
  by_cases h0 : id < 0
  · have b0 : decide (id < 0) = true := decide_eq_true h0
    replace h0 := Lib.hid h0
    go_enter Tryz.func25, Tryz.ntmps25
    go_wp2_with (refine wpList_store_whole rfl 49 _ _ rfl _ (pgC pageZ) rfl rfl _ (pgC pageZ) HN.out rfl (by kernel_rfl) (pgC_one _) ?_; intro w1 HX K1)
    refine bodyPost_ret (results_row_one Tryz.results25 _ _ _ _ _ _ _ rfl HX.out Tryz.underlying49 rfl (by kernel_rfl)) rfl ?_
    exact ⟨pageZ, 1, rfl, (((Keeps.refl (fun _ => False) w).alloc _).trans K1.out (fun q hq e => by omega)).below, .inr ⟨.inl h0.out, rfl, rfl⟩⟩
  have b0 : decide (id < 0) = false := decide_eq_false h0
  by_cases h1 : (n : Int) ≤ id
  · have b1 : decide ((n : Int) ≤ id) = true := decide_eq_true h1
    replace h1 := Lib.hid h1
    replace h0 := Lib.hid h0
    go_enter Tryz.func25, Tryz.ntmps25
    go_wp2_with (refine wpList_store_whole rfl 49 _ _ rfl _ (pgC pageZ) rfl rfl _ (pgC pageZ) HN.out rfl (by kernel_rfl) (pgC_one _) ?_; intro w1 HX K1)
    refine bodyPost_ret (results_row_one Tryz.results25 _ _ _ _ _ _ _ rfl HX.out Tryz.underlying49 rfl (by kernel_rfl)) rfl ?_
    exact ⟨pageZ, 1, rfl, (((Keeps.refl (fun _ => False) w).alloc _).trans K1.out (fun q hq e => by omega)).below, .inr ⟨.inr h1.out, rfl, rfl⟩⟩
  have b1 : decide ((n : Int) ≤ id) = false := decide_eq_false h1
  obtain ⟨k, rfl⟩ : ∃ k : Nat, id = k := ⟨id.toNat, by omega⟩
  have hk0 : (0 : Int) ≤ k := by omega
  have hk1 : (k : Int) < n := by omega
  have HR : Hid ((w.alloc (.cells (pgC pageZ) 49)).rangeAt g1 (k * 16) (pgC (M k).1).toList) := row_at (f := fun i => (M i).1) (OwnS.keep (w := w) H.out.now ((Keeps.refl (fun _ => False) w).alloc _) (fun _ _ h => h)) k (by omega)
  have hpi : Hid ((Tryz.prog.info? 49).map (·.size) = some (pgC (M k).1).size) := by show _ = _; kernel_rfl
  clear h0 h1
  go_enter Tryz.func25, Tryz.ntmps25
  go_wp2_with (first
    | (refine wpList_load_arr rfl 49 _ rfl g1 (k * 16) rfl (pgC (M k).1) _ HR.out Tryz.underlying49 rfl hpi.out ?_)
    | (refine wpList_store_whole rfl 49 _ _ rfl _ (pgC (M k).1) rfl rfl _ (pgC pageZ) HN.out rfl (by kernel_rfl) (pgC_one _) ?_; intro w1 HX K1))
  refine bodyPost_ret (results_row_one Tryz.results25 _ _ _ _ _ _ _ rfl HX.out Tryz.underlying49 rfl (by kernel_rfl)) rfl ?_
  exact ⟨(M k).1, 0, rfl, (((Keeps.refl (fun _ => False) w).alloc _).trans K1.out (fun q hq e => by omega)).below, .inl ⟨hk0, hk1, rfl, by rw [Int.toNat_natCast]⟩⟩
/-- what Put's store reads -/
def RpS (b g1 pb n g2 : Nat) (P : Pg) (w : World) : Prop := w.cell? ⟨b, 0, none⟩ = some (.slice (some ⟨g1, 0, none⟩) n n) ∧ w.heap[pb]? = some (.cells (pgC P) 49 (0, 0))
theorem wpList_load_row_want {P : Program} {ops : Array Oper} {rest : List Oper} {o : Oper} {a : Act} {w : World} {Q : Exit → Act → World → Prop} (hw : Region.wanted o (yielded ops a.tmps) = true) (ty : TypeId) (x : Operand) (ho : o.op = .load ty x)
    (g : Nat) (hx : a.eval x = .pointer (some ⟨g, 0, none⟩)) (t : TypeId) (cs : Array Value) (fr : Nat × Nat) (d : TypeDesc) (hg : w.heap[g]? = some (.cells cs t fr))
    (hu : P.underlying ty = some d) (hd : (match d with | .struct _ | .array _ _ => true | _ => false) = true) (hi : (P.info? ty).map (·.size) = some cs.size)
    (h : wpList P ops Q rest (a.put o.dst (.agg cs)) w) : wpList P ops Q (o :: rest) a w :=
  wpList_load_want hw ty x ho g hx t cs fr d hg hu hd hi h
theorem step_store_row {ops : Array Oper} {o : Oper} {a : Act} {w : World} {K : Act → World → Prop} {Q : Exit → Act → World → Prop} {E : Prop} (hgd : o.guard = none) (x y : Operand) (ho : o.op = .store 49 x y)
    (e : TypeId) (g i c n : Nat) (f : Nat → Pg) (s' : Pg) (hx : a.eval x = .pointer (some ⟨g, i * 16, none⟩)) (hy : a.eval y = .agg (pgC s')) (H : OwnS w e 16 (.slice (some ⟨g, 0, none⟩) n c) n (pgRow f n)) (hi : i < n)
    (h : ∀ w', Hid (OwnS w' e 16 (.slice (some ⟨g, 0, none⟩) n c) n (pgRow (fun k => if k = i then s' else f k) n)) → Hid (Keeps (· = g) w w') → K (a.put o.dst undef) w') : if Region.wanted o (yielded ops a.tmps) = true then Oper.wp Tryz.prog o a w K Q else E := by
  have hw : Region.wanted o (yielded ops a.tmps) = true := by simp [Region.wanted, hgd]
  rw [if_pos hw]
  refine wp_store_mid 49 x y ho g (i * 16) (pgC s') hx hy (row_there H i hi) (by show _ = some 16; kernel_rfl) (Array.all_eq_true_iff_forall_mem.2 (fun v hv => pgC_one s' v (by simpa using hv))) ?_
  refine h _ ?_ (Keeps.setCells (S := fun x => x = g) (a := w) (b := g) (.inl rfl) _ _ (Keeps.refl _ _))
  have h2 := OwnS.cells H (pgC s').toList (i * 16)
  rw [Nat.mul_comm i 16, pgRow_set f s' n i hi] at h2
  rw [Nat.mul_comm i 16]
  exact h2
/-- a put that is taken -/
def PutIn (n : Nat) (id : Int) (x : Pg) : Prop := 0 ≤ id ∧ id < n ∧ PgOk x
set_option maxRecDepth 100000 in
set_option maxHeartbeats 800000 in
theorem rf_put {w : World} {b g1 g2 n : Nat} {M : Nat → Pg × Int} (h : Rf w b g1 g2 n M) (id : Int) (x : Pg) (hx : ∀ i, i < 6 → (x.dt i).size ≤ maxLen) (st : Int) (hst : 0 ≤ st) :
    Calls Tryz.prog 28 #[.pointer (some ⟨b, 0, none⟩), .int .i64 id, pgV x, .int .i64 st] w fun e w' => ∃ c M1, e = .returned (.int .i64 c) ∧ Rf w' b g1 g2 n M1 ∧ Keeps (· ∈ rfL b g1 g2) w w' ∧
      ((PutIn n id x ∧ c = 0 ∧ M1 = upd M id.toNat (x, st)) ∨ (¬ PutIn n id x ∧ c = 1 ∧ M1 = M)) := by
  have C0 : ∀ X, (w.alloc X).cell? ⟨b, 0, none⟩ = some (.slice (some ⟨g1, 0, none⟩) n n) := fun X => cell_at (hO h.cell) 0
  have HN : Hid ((w.alloc (.cells (pgC x) 49)).heap[w.heap.size]? = some (.cells (pgC x) 49 (0, 0))) := hN rfl
  have HRt := Lib.hid (rf_right x hx (w.alloc (.cells (pgC x) 49)))
  unfold pgV at HRt ⊢
  have H := Lib.hid h
  have hpi : Hid ((Tryz.prog.info? 49).map (·.size) = some (pgC x).size) := by show _ = _; kernel_rfl
  have b2 : decide (st < 0) = false := by apply decide_eq_false; omega
  replace hst := Lib.hid hst
  clear h
  have stop : ∀ w', Below w.heap.size w w' → Rf w' b g1 g2 n M ∧ Keeps (· ∈ rfL b g1 g2) w w' :=
    fun w' hb => ⟨H.out.keep (Keeps.of_below (fun _ => False) hb) (fun _ _ h => h), Keeps.of_below _ hb⟩
  replace stop := Lib.hid stop
  by_cases h0 : id < 0
  · have b0 : decide (id < 0) = true := decide_eq_true h0
    replace h0 := Lib.hid h0
    go_enter Tryz.func28, Tryz.ntmps28
    go_wp2_with fail
    go_ret
    first
      | exact ⟨1, rfl, M, (stop.out _ (bA bR)).1, (stop.out _ (bA bR)).2, .inr ⟨fun h => by have := h0.out; have := h.1; omega, rfl, rfl⟩⟩
      | exact ⟨1, M, rfl, (stop.out _ (bA bR)).1, (stop.out _ (bA bR)).2, .inr ⟨fun h => by have := h0.out; have := h.1; omega, rfl, rfl⟩⟩
  have b0 : decide (id < 0) = false := decide_eq_false h0
  by_cases h1 : (n : Int) ≤ id
  · have b1 : decide ((n : Int) ≤ id) = true := decide_eq_true h1
    replace h1 := Lib.hid h1
    replace h0 := Lib.hid h0
    go_enter Tryz.func28, Tryz.ntmps28
    go_wp2_with fail
    go_ret
    first
      | exact ⟨1, rfl, M, (stop.out _ (bA bR)).1, (stop.out _ (bA bR)).2, .inr ⟨fun h => by have := h1.out; have := h.2.1; omega, rfl, rfl⟩⟩
      | exact ⟨1, M, rfl, (stop.out _ (bA bR)).1, (stop.out _ (bA bR)).2, .inr ⟨fun h => by have := h1.out; have := h.2.1; omega, rfl, rfl⟩⟩
  have b1 : decide ((n : Int) ≤ id) = false := decide_eq_false h1
  obtain ⟨k, rfl⟩ : ∃ k : Nat, id = k := ⟨id.toNat, by omega⟩
  have hk0 : (0 : Int) ≤ k := by omega
  have hk1 : (k : Int) < n := by omega
  have hkn : Hid (k < n) := by show k < n; omega
  have b1n : decide (n ≤ k) = false := by apply decide_eq_false; omega
  clear h0 h1
  go_enter Tryz.func28, Tryz.ntmps28
  go_wp2_with (refine wpList_load_row_want (by rfl) 49 _ rfl _ rfl 49 _ _ _ HN.out Tryz.underlying49 rfl hpi.out ?_)
  refine (HRt.out).mono ?_
  rintro e w1 ⟨hres, hb1⟩
  have HB1 := Lib.hid hb1
  rcases hres with ⟨rfl, hok⟩ | ⟨rfl, hno⟩
  rotate_left
  · replace hno := Lib.hid hno
    clear hb1
    go_wp2_with fail
    go_ret
    first
      | exact ⟨1, rfl, M, (stop.out _ (bT (bA bR) HB1.out)).1, (stop.out _ (bT (bA bR) HB1.out)).2, .inr ⟨fun h => hno.out h.2.2, rfl, rfl⟩⟩
      | exact ⟨1, M, rfl, (stop.out _ (bT (bA bR) HB1.out)).1, (stop.out _ (bT (bA bR) HB1.out)).2, .inr ⟨fun h => hno.out h.2.2, rfl, rfl⟩⟩
  have hlt : Hid (∀ q ∈ rfL b g1 g2, q < w.heap.size) := H.out.lt
  have HK1 : Hid (Keeps (fun _ => False) w w1) := ((Keeps.refl (fun _ => False) w).alloc _).trans (Keeps.of_below _ hb1) (fun q hq h => h)
  have HR1 := Lib.hid (H.out.keep HK1.out (fun _ _ h => h))
  have hXp : w1.heap[w.heap.size]? = some (.cells (pgC x) 49 (0, 0)) := hBs hb1 HN.out
  replace hok := Lib.hid hok
  clear hb1 HRt C0 b0 b1 b2
  go_upto_region 3 with fail
  have hS0 : RpS b g1 w.heap.size n g2 x w1.drew := ⟨cell_at HR1.out.cell 0, hDr hXp⟩
  refine wp_region_held_drew (S := RpS b g1 w.heap.size n g2 x) (by kernel_rfl) hS0 (fun hHeld => ?_)
  refine wpAnyH_take (i := 0) (oi := ⟨some 29, _, _, _, _, _⟩) (v := ?_) rfl (by kernel_rfl) (by kernel_rfl) (by kernel_rfl) (fun _ _ _ h => h) (Or.inl ⟨by rfl, ?_⟩) hHeld ?_
  rotate_left
  · intro w' hSw
    obtain ⟨s0, s1⟩ := hSw
    go_simp
    try with_reducible rfl
    try omega
  simp only [Act.put, List.setIfInBounds_toArray, List.set_cons_zero, List.set_cons_succ]
  refine wpAnyH_take (i := 1) (oi := ⟨some 30, _, _, _, _, _⟩) (v := ?_) rfl (by kernel_rfl) (by kernel_rfl) (by kernel_rfl) (fun _ _ _ h => h) (Or.inl ⟨by rfl, ?_⟩) hHeld ?_
  rotate_left
  · intro w' hSw
    obtain ⟨s0, s1⟩ := hSw
    go_simp
    try with_reducible rfl
    try omega
  simp only [Act.put, List.setIfInBounds_toArray, List.set_cons_zero, List.set_cons_succ]
  refine wpAnyH_take (i := 2) (oi := ⟨some 31, _, _, _, _, _⟩) (v := ?_) rfl (by kernel_rfl) (by kernel_rfl) (by kernel_rfl) (fun _ _ _ h => h) (Or.inl ⟨by rfl, ?_⟩) hHeld ?_
  rotate_left
  · intro w' hSw
    obtain ⟨s0, s1⟩ := hSw
    go_simp
    try with_reducible rfl
    try omega
  simp only [Act.put, List.setIfInBounds_toArray, List.set_cons_zero, List.set_cons_succ]
  refine wpAnyH_take (i := 3) (oi := ⟨some 32, _, _, _, _, _⟩) (v := ?_) rfl (by kernel_rfl) (by kernel_rfl) (by kernel_rfl) (fun _ _ _ h => h) (Or.inl ⟨by rfl, ?_⟩) hHeld ?_
  rotate_left
  · intro w' hSw
    obtain ⟨s0, s1⟩ := hSw
    go_simp
    try with_reducible rfl
    try omega
  simp only [Act.put, List.setIfInBounds_toArray, List.set_cons_zero, List.set_cons_succ]
  refine wpAnyH_take (i := 4) (oi := ⟨some 33, _, _, _, _, _⟩) (v := ?_) rfl (by kernel_rfl) (by kernel_rfl) (by kernel_rfl) (fun _ _ _ h => h) (Or.inl ⟨by rfl, ?_⟩) hHeld ?_
  rotate_left
  · intro w' hSw
    obtain ⟨s0, s1⟩ := hSw
    go_simp
    try with_reducible rfl
    try omega
  simp only [Act.put, List.setIfInBounds_toArray, List.set_cons_zero, List.set_cons_succ]
  refine wpAnyH_take (i := 5) (oi := ⟨some 34, _, _, _, _, _⟩) (v := .agg (pgC x)) rfl (by kernel_rfl) (by kernel_rfl) (by kernel_rfl) (fun _ _ _ h => h) (yieldsIf_load_mid (by rfl) _ _ rfl w.heap.size 0 rfl (pgC x).toList _ (fun _ h => range_of h.2) Tryz.underlying49 rfl (by kernel_rfl)) hHeld ?_
  simp only [Act.put, List.setIfInBounds_toArray, List.set_cons_zero, List.set_cons_succ]
  refine wpAnyH_take (i := 6) (oi := ⟨some 35, _, _, _, _, _⟩) (v := .pointer (some ⟨g1, k * 16, none⟩)) rfl (by kernel_rfl) (by kernel_rfl) (by kernel_rfl) (fun _ _ _ h => h) (Or.inl ⟨by rfl, ?_⟩) hHeld ?_
  · intro w' hSw
    obtain ⟨s0, s1⟩ := hSw
    go_simp
    try with_reducible rfl
    try omega
  simp only [Act.put, List.setIfInBounds_toArray, List.set_cons_zero, List.set_cons_succ]
  refine wpAnyH_ready (rs := [7]) (by kernel_rfl) (by simp) ?_
  refine AllReadyH.cons (o := ⟨none, _, _, _, _, _⟩) rfl (fun K hK => ?_) AllReadyH.nil
  refine step_store_row rfl _ _ rfl 49 g1 k n n (fun i => (M i).1) x rfl rfl HR1.out.now hkn.out ?_
  intro w2 HN2 K2
  have hpb : w.heap.size < w1.heap.size := block_lt hXp
  have hng : w.heap.size ≠ g1 := fun e => by have := hlt.out g1 (by simp [rfL]); omega
  have hS2 : RpS b g1 w.heap.size n g2 x w2 := ⟨cell_at (K2.out.keep (hDr HR1.out.cell) (fun e => HR1.out.d1 e.symm)) 0, K2.out.keep (hDr hXp) hng⟩
  refine hK.out _ _ hS2 (fun hHeld => ?_)
  clear hK K
  try simp only [Act.put, List.setIfInBounds_toArray, List.set_cons_zero, List.set_cons_succ]
  clear hHeld
  refine wpAnyH_done (by kernel_rfl) ?_ _
  have C2 : w2.cell? ⟨b, 1, none⟩ = some (.slice (some ⟨g2, 0, none⟩) n n) := cell_at (K2.out.keep (hDr HR1.out.cell) (fun e => HR1.out.d1 e.symm)) 1
  have hk2 : Keeps (· = g1) w1 w2 := (Keeps.refl (· = g1) w1).drew.trans K2.out (fun q hq h => h)
  have HS2 := Lib.hid (OwnS.keep (w := w1) HR1.out.st hk2 (fun q hq e => by simp [blk, Value.ownBlock] at hq; exact HR1.out.d3 (by rw [← hq, e])))
  have F2 : w2.frozen? ⟨g2, k, none⟩ = false := World.ownsRow.frozenAt HS2.out k
  obtain ⟨v2, hv2⟩ : ∃ v, w2.cell? ⟨g2, k, none⟩ = some v := ⟨_, by
    have := World.ownsRow.cells HS2.out (g := g2) rfl k _ (stRow_get M n k hkn.out)
    rwa [Addr.add_mid, Nat.zero_add] at this⟩
  go_wp2_with fail
  go_ret
  have hk3 : Keeps (· = g2) w2 (w2.setCell ⟨g2, k, none⟩ (.int .i64 st)) := (Keeps.refl _ _).setCell _ _ (.inl rfl)
  have hkk : Keeps (· ∈ rfL b g1 g2) w (w2.setCell ⟨g2, k, none⟩ (.int .i64 st)) := ((HK1.out.mono (fun _ _ h => h.elim)).trans hk2 (fun q hq e => by rw [e]; simp [rfL])).trans hk3 (fun q hq e => by rw [e]; simp [rfL])
  have hrf : Rf (w2.setCell ⟨g2, k, none⟩ (.int .i64 st)) b g1 g2 n (upd M k (x, st)) := by
    refine ⟨hk3.keep (hk2.keep HR1.out.cell (fun e => HR1.out.d1 e.symm)) (fun e => HR1.out.d2 e.symm), ?_, ?_, HR1.out.d1, HR1.out.d2, HR1.out.d3⟩
    · have h1 := HN2.out.keep hk3 (fun q hq e => by simp [blk, Value.ownBlock] at hq; exact HR1.out.d3 (by rw [← hq, e]))
      rw [pgRow_congr (g := fun i => (upd M k (x, st) i).1) n (fun i hi => by unfold upd; by_cases e : i = k <;> simp [e])] at h1
      exact h1
    · have h1 := HS2.out.set k (.int .i64 st)
      have h2 := stRow_set M (x, st) n k hkn.out
      dsimp only at h2
      rw [h2] at h1
      exact h1
  refine ⟨0, upd M k (x, st), rfl, hrf, hkk, .inl ⟨⟨hk0, hk1, hok.out⟩, rfl, by rw [Int.toNat_natCast]⟩⟩
end Go.Proofs.YtimomjheanfbmaaGreatDoor
