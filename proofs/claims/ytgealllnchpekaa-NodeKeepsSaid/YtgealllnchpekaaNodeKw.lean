import Derived.Test.YtgealllnchpekaaNodeKq
import Derived.Test.YtgealllnchpekaaNodeChgA
import Derived.Test.YtgealllnchpekaaNodeH
import Derived.Test.YtgealllnchpekaaNodeArg
set_option linter.unusedSimpArgs false
set_option linter.unusedVariables false
namespace Go.Proofs.Ytgealllnchpekaa
open Go.RowKit

def kpC (P : Pg) (key val : ByteArray) (i : Int) : Array Value := (pgC P ++ #[.string key, .string val, .int .i64 i])
theorem kp_page {w : World} {b : Nat} {P : Pg} {key val : ByteArray} {i : Int} {T : TypeId} {f : Nat × Nat} (h : w.heap[b]? = some (.cells (kpC P key val i) T f)) : w.rangeAt b 0 (pgC P).toList := fun j v hv => by
  rw [Nat.zero_add, cell_at h]
  have hlt : j < (pgC P).size := by
    have := (List.getElem?_eq_some_iff.1 hv).1
    simpa using this
  rw [kpC, Array.getElem?_append_left hlt]
  simpa using hv
/-- the cell that is put: a leaf's where the page is a leaf, else an inner one -/
def putC (P : Pg) (key val : ByteArray) : (Int × ByteArray) × Int := if 0 < P.level then innerP key 9 else leafP key val 2
theorem put_facts {P R1 : Pg} {key val : ByteArray} {s : Int} {d : ByteArray} {n fi : Nat} {ft : Bool} (hok : NodeOk P) (hn : IsCount P n) (hd : ∀ i, (P.dt i).size ≤ maxLen) (hdz : d.size ≤ maxLen) (hpc : putC P key val = ((s, d), 0)) (hf : FindAt P (keyP s d).1 n fi ft) (hR : putR P s d n fi ft = (R1, 0)) (hg : P.level = 0 ∨ key.size ≠ 0) :
    NodeOk R1 ∧ IsCount R1 (n + 1) ∧ FindAt R1 key (n + 1) fi true ∧ fi < 6 ∧ R1.st fi = s ∧ R1.dt fi = d ∧ ∀ j, (R1.dt j).size ≤ maxLen := by
  have hlev := hok.2.1
  have hcase : ∃ rest, keyP s d = (key, rest, true) ∧ s ≠ 0 ∧ (P.level = 0 → key.size ≠ 0 ∧ rest.size ≤ 20 ∧ (s = 1 ∨ s = 2)) ∧ (P.level ≠ 0 → s = 1 ∧ childP s d ≠ 0 ∧ key.size ≠ 0) := by
    unfold putC at hpc
    by_cases hl : 0 < P.level
    · rw [if_pos hl] at hpc
      unfold innerP at hpc
      by_cases hi : innerOk key 9
      · rw [if_pos hi] at hpc
        simp only [Prod.mk.injEq, and_true] at hpc
        obtain ⟨rfl, rfl⟩ := hpc
        have hk := keyP_text 1 key (leS 9 4) (by omega) hi.1
        refine ⟨_, hk, by omega, fun h => absurd h (by omega), fun _ => ⟨rfl, ?_, ?_⟩⟩
        · unfold childP
          rw [hk]
          have h9 : (leS 9 4).size = 4 ∧ valS (leS 9 4) = 9 := by decide +kernel
          dsimp only
          rw [h9.1, h9.2, if_pos ⟨rfl, rfl, by omega, by omega⟩]
          omega
        · rcases hg with h | h
          · exact absurd h (by omega)
          · exact h
      · rw [if_neg hi] at hpc
        simp at hpc
    · rw [if_neg hl] at hpc
      unfold leafP at hpc
      by_cases hi : leafOk key val 2
      · rw [if_pos hi] at hpc
        simp only [Prod.mk.injEq, and_true] at hpc
        obtain ⟨rfl, rfl⟩ := hpc
        obtain ⟨h1, h2, h3, h4⟩ := hi
        exact ⟨_, keyP_text 2 key val (by omega) h2, by omega, fun _ => ⟨h1, h3, h4⟩, fun h => absurd h (by omega)⟩
      · rw [if_neg hi] at hpc
        simp at hpc
  obtain ⟨rest, hk, hs, hl0, hl1⟩ := hcase
  unfold putR at hR
  rw [hk] at hR hf
  simp only [Bool.true_eq_false, if_false] at hR
  cases ft with
  | true => simp at hR
  | false =>
    simp only [Bool.false_eq_true, if_false] at hR
    by_cases h6 : n = 6
    · rw [if_pos h6] at hR; simp at hR
    · rw [if_neg h6] at hR
      simp only [Prod.mk.injEq, and_true] at hR
      subst hR
      have hn5 : n < 6 := by have := hn.1; omega
      obtain ⟨a1, a2, a3⟩ := put_ok hok hn hn5 hf hk hs hl0 hl1
      refine ⟨a1, a2, a3, by have := hf.1; omega, (put_eq P fi n s d).1, (put_eq P fi n s d).2, fun j => ?_⟩
      rcases Nat.lt_trichotomy j fi with h | h | h
      · rw [(put_lt P fi n s d j h).2]; exact hd j
      · subst h; rw [(put_eq P j n s d).2]; exact hdz
      · by_cases hjn : j ≤ n
        · rw [(put_gt P fi n s d j h hjn).2]; exact hd (j - 1)
        · rw [(put_ge P fi n s d j hf.1 (by omega)).2]; exact hd j
theorem take_facts {P T1 : Pg} {n : Nat} {i : Int} (h : takeR P n i = (T1, 0)) : (0 ≤ i ∧ i < n) ∧ T1 = takePg P i.toNat n := by
  unfold takeR at h
  by_cases hi : 0 ≤ i ∧ i < n
  · rw [if_pos hi] at h
    simp only [Prod.mk.injEq, and_true] at h
    exact ⟨hi, h.symm⟩
  · rw [if_neg hi] at h
    simp at h
theorem take_size {P : Pg} {i n : Nat} (hd : ∀ j, (P.dt j).size ≤ maxLen) (j : Nat) : ((takePg P i n).dt j).size ≤ maxLen := by
  unfold takePg
  dsimp only
  split
  · exact hd j
  split
  · exact hd (j + 1)
  split
  · exact Nat.zero_le _
  · exact hd j
theorem low_size {P : Pg} (hd : ∀ j, (P.dt j).size ≤ maxLen) (h j : Nat) : ((lowPg P h).dt j).size ≤ maxLen := by
  unfold lowPg
  dsimp only
  split
  · exact hd j
  · exact Nat.zero_le _
theorem hi_size {P : Pg} (hd : ∀ j, (P.dt j).size ≤ maxLen) (h n j : Nat) : ((hiPg P h n).dt j).size ≤ maxLen := by
  have hs : ∀ j, ((highPg P h n).dt j).size ≤ maxLen := fun j => by
    unfold highPg
    dsimp only
    split
    · exact hd _
    · exact Nat.zero_le _
  unfold hiPg
  split
  · exact hs j
  · unfold highKey
    dsimp only
    split
    · have := keyP_rest1 (P.st h) (P.dt h)
      have h2 := hd h
      rw [bytes_size]
      have h3 : (⟨#[0]⟩ : ByteArray).size = 1 := rfl
      unfold maxLen at h2 ⊢
      omega
    · exact hs j
theorem putC_size (P : Pg) (key val : ByteArray) : (putC P key val).1.2.size ≤ maxLen := by
  unfold putC innerP leafP maxLen
  split
  · split
    · rename_i h
      obtain ⟨h1, _⟩ := h
      show (textS key ++ leS 9 4).size ≤ _
      rw [bytes_size, textS_size, leS_size]; omega
    · exact Nat.zero_le _
  · split
    · rename_i h
      obtain ⟨_, h1, h2, _⟩ := h
      show (textS key ++ val).size ≤ _
      rw [bytes_size, textS_size]; omega
    · exact Nat.zero_le _
set_option maxRecDepth 100000 in
set_option maxHeartbeats 16000000 in
theorem nodeKeeps_run (P : Pg) (key val : ByteArray) (i : Int) (hd : ∀ i, (P.dt i).size ≤ maxLen) (hk : key.size ≤ maxLen) (hv : val.size ≤ maxLen) (w : World) :
    Calls Try.prog 8 #[.agg (kpC P key val i)] w fun e w' => e = .returned (.bool true) ∧ Below w.heap.size w w' := by
  have HA := Lib.hid (fun w => awake05 w)
  have HK0 : Hid ((w.alloc (.cells (kpC P key val i) 60)).heap[w.heap.size]? = some (.cells (kpC P key val i) 60 (0, 0))) := hN rfl
  go_enter Try.func8, Try.ntmps8
  go_wp2_with fail
  have hut := Lib.hid Try.underlying26
  have hi16 : Hid ((Try.prog.info? 26).map (·.size) = some (pgC P).toList.length) := (by kernel_rfl : (Try.prog.info? 26).map (·.size) = some (pgC P).toList.length)
  have hS0 : (w.alloc (.cells (kpC P key val i) 60)).drew.heap[w.heap.size]? = some (.cells (kpC P key val i) 60 (0, 0)) := hDr HK0.out
  go_cut [3, 4, 5, 6] from 28 to 35 (fun s3 s4 s5 s6 wx => ∃ b3 : Nat, s3 = .pointer (some ⟨b3, 0, none⟩) ∧ s4 = .string key ∧ s5 = .string val ∧ s6 = .int .i64 i ∧ w.heap.size < b3 ∧ Hid (wx.heap[b3]? = some (.cells (pgC P) 26 (0, 0))) ∧ Hid (Below w.heap.size w wx))
  case first =>
    refine wp_region_held_drew (S := fun w' => w'.heap[w.heap.size]? = some (.cells (kpC P key val i) 60 (0, 0))) (by kernel_rfl) hS0 (fun hHeld => ?_)
    refine wpAnyH_take (i := 0) (oi := ⟨some 28, _, _, _, _, _⟩) (v := ?_) rfl (by kernel_rfl) (by kernel_rfl) (by kernel_rfl) (fun _ _ _ h => h) (Or.inl ⟨by rfl, ?_⟩) hHeld ?_
    rotate_left
    · intro w hSw
      go_simp
      try with_reducible rfl
    simp only [Act.put, List.setIfInBounds_toArray, List.set_cons_zero, List.set_cons_succ]
    refine wpAnyH_take (i := 1) (oi := ⟨some 29, _, _, _, _, _⟩) (v := .agg (pgC P)) rfl (by kernel_rfl) (by kernel_rfl) (by kernel_rfl) (fun _ _ _ h => h) (yieldsIf_load_mid (by rfl) _ _ rfl w.heap.size 0 rfl (pgC P).toList _ (fun _ h => kp_page h) hut.out rfl hi16.out) hHeld ?_
    simp only [Act.put, List.setIfInBounds_toArray, List.set_cons_zero, List.set_cons_succ]
    refine wpAnyH_take (i := 2) (oi := ⟨some 30, _, _, _, _, _⟩) (v := ?_) rfl (by kernel_rfl) (by kernel_rfl) (by kernel_rfl) (fun _ _ _ h => h) (Or.inl ⟨by rfl, ?_⟩) hHeld ?_
    rotate_left
    · intro w hSw
      go_simp
      try with_reducible rfl
    simp only [Act.put, List.setIfInBounds_toArray, List.set_cons_zero, List.set_cons_succ]
    refine wpAnyH_take (i := 3) (oi := ⟨some 31, _, _, _, _, _⟩) (v := .string key) rfl (by kernel_rfl) (by kernel_rfl) (by kernel_rfl) (fun _ _ _ h => h) (Or.inl ⟨by rfl, ?_⟩) hHeld ?_
    · intro w' hSw
      have hc : w'.cell? ⟨w.heap.size, 16, none⟩ = some (.string key) := cell_at hSw 16
      clear hSw
      go_simp
    simp only [Act.put, List.setIfInBounds_toArray, List.set_cons_zero, List.set_cons_succ]
    refine wpAnyH_take (i := 4) (oi := ⟨some 32, _, _, _, _, _⟩) (v := ?_) rfl (by kernel_rfl) (by kernel_rfl) (by kernel_rfl) (fun _ _ _ h => h) (Or.inl ⟨by rfl, ?_⟩) hHeld ?_
    rotate_left
    · intro w hSw
      go_simp
      try with_reducible rfl
    simp only [Act.put, List.setIfInBounds_toArray, List.set_cons_zero, List.set_cons_succ]
    refine wpAnyH_take (i := 5) (oi := ⟨some 33, _, _, _, _, _⟩) (v := .string val) rfl (by kernel_rfl) (by kernel_rfl) (by kernel_rfl) (fun _ _ _ h => h) (Or.inl ⟨by rfl, ?_⟩) hHeld ?_
    · intro w' hSw
      have hc : w'.cell? ⟨w.heap.size, 17, none⟩ = some (.string val) := cell_at hSw 17
      clear hSw
      go_simp
    simp only [Act.put, List.setIfInBounds_toArray, List.set_cons_zero, List.set_cons_succ]
    refine wpAnyH_take (i := 6) (oi := ⟨some 34, _, _, _, _, _⟩) (v := ?_) rfl (by kernel_rfl) (by kernel_rfl) (by kernel_rfl) (fun _ _ _ h => h) (Or.inl ⟨by rfl, ?_⟩) hHeld ?_
    rotate_left
    · intro w hSw
      go_simp
      try with_reducible rfl
    simp only [Act.put, List.setIfInBounds_toArray, List.set_cons_zero, List.set_cons_succ]
    refine wpAnyH_take (i := 7) (oi := ⟨some 35, _, _, _, _, _⟩) (v := .int .i64 i) rfl (by kernel_rfl) (by kernel_rfl) (by kernel_rfl) (fun _ _ _ h => h) (Or.inl ⟨by rfl, ?_⟩) hHeld ?_
    · intro w' hSw
      have hc : w'.cell? ⟨w.heap.size, 18, none⟩ = some (.int .i64 i) := cell_at hSw 18
      clear hSw
      go_simp
    simp only [Act.put, List.setIfInBounds_toArray, List.set_cons_zero, List.set_cons_succ]
    refine wpAnyH_ready (rs := [8]) (by kernel_rfl) (by simp) ?_
    refine AllReadyH.cons (o := ⟨some 3, _, _, _, _, _⟩) rfl (fun K hK => ?_) AllReadyH.nil
    go_simp
    refine hK.out _ _ (hO hHeld) (fun hHeld => ?_)
    clear hK K
    try simp only [Act.put, List.setIfInBounds_toArray, List.set_cons_zero, List.set_cons_succ]
    have HZ : (((w.alloc (.cells (kpC P key val i) 60)).drew).alloc (.cells (pgC pageZ) 26)).heap[w.heap.size + 1]? = some (.cells (pgC pageZ) 26 (0, 0)) := hN (by simp)
    refine wpAnyH_ready (rs := [9]) (by kernel_rfl) (by simp) ?_
    refine AllReadyH.cons (o := ⟨none, _, _, _, _, _⟩) rfl (fun K hK => ?_) AllReadyH.nil
    refine step_store_whole rfl 26 _ _ rfl (w.heap.size + 1) (pgC P) rfl rfl _ _ HZ rfl (by kernel_rfl) (pgC_one P) ?_
    intro w5 H5 K5
    refine hK.out _ _ (K5.out.keep hHeld (by omega)) (fun hHeld => ?_)
    clear hK K
    try simp only [Act.put, List.setIfInBounds_toArray, List.set_cons_zero, List.set_cons_succ]
    refine wpAnyH_take (i := 10) (oi := ⟨some 4, _, _, _, _, _⟩) (v := .string key) rfl (by kernel_rfl) (by kernel_rfl) (by kernel_rfl) (fun _ _ _ h => h) (Or.inl ⟨by rfl, fun _ _ => rfl⟩) hHeld ?_
    simp only [Act.put, List.setIfInBounds_toArray, List.set_cons_zero, List.set_cons_succ]
    refine wpAnyH_take (i := 11) (oi := ⟨some 5, _, _, _, _, _⟩) (v := .string val) rfl (by kernel_rfl) (by kernel_rfl) (by kernel_rfl) (fun _ _ _ h => h) (Or.inl ⟨by rfl, fun _ _ => rfl⟩) hHeld ?_
    simp only [Act.put, List.setIfInBounds_toArray, List.set_cons_zero, List.set_cons_succ]
    refine wpAnyH_take (i := 12) (oi := ⟨some 6, _, _, _, _, _⟩) (v := .int .i64 i) rfl (by kernel_rfl) (by kernel_rfl) (by kernel_rfl) (fun _ _ _ h => h) (Or.inl ⟨by rfl, fun _ _ => rfl⟩) hHeld ?_
    simp only [Act.put, List.setIfInBounds_toArray, List.set_cons_zero, List.set_cons_succ]
    refine wpAnyH_done (by kernel_rfl) ?_ _
    refine ‹∀ (a' : Act) (w' : World), Met _ a' w' → _› _ _ ?_
    go_meet
    case rel => exact ⟨_, rfl, rfl, rfl, rfl, by omega, H5, bK (bA (bD (bA bR))) K5.out (fun j hj => by omega)⟩
  case rest =>
    obtain ⟨b3, rfl, rfl, rfl, rfl, l3, H3, HB⟩ := hcut
    clear hS0 HK0 hi16
    go_wp2_with fail
    refine (HA.out _).mono ?_
    rintro e w1 ⟨rfl, hb⟩
    have HB1 := Lib.hid (bT HB.out hb)
    have HQc := Lib.hid (hBs hb H3.out)
    clear hb HA HB H3
    by_cases hok : NodeOk P
    rotate_left
    · have HC := Lib.hid (fun w => nd_check_no hok hd w)
      unfold pgV at HC
      clear hok
      go_wp2_with (refine wpList_load_row rfl 26 _ rfl _ rfl 26 _ _ _ HQc.out Try.underlying26 rfl (by kernel_rfl) ?_)
      refine (HC.out _).mono ?_
      rintro e w2 ⟨rfl, hb⟩
      have HB2 := Lib.hid (bT HB1.out hb)
      clear hb
      go_wp2_with fail
      go_ret
      exact ⟨rfl, HB2.out⟩
    obtain ⟨n, hn⟩ := count_is P
    have HC := Lib.hid (fun w => nd_check_ok hok hd w)
    have HN := Lib.hid (fun w => nd_count' hn w)
    have HL := Lib.hid (fun w => nd_leaf key val 2 hk hv w)
    have HI := Lib.hid (fun w => nd_inner key 9 hk w)
    unfold pgV at HC HN
    unfold cellV at HL HI
    have hn6 : n ≤ 6 := hn.1
    have hok := Lib.hid hok
    have hn := Lib.hid hn
    obtain ⟨ls, ld, le, hle⟩ : ∃ ls ld le, leafP key val 2 = ((ls, ld), le) := ⟨_, _, _, rfl⟩
    obtain ⟨is, id', ie, hie⟩ : ∃ is id' ie, innerP key 9 = ((is, id'), ie) := ⟨_, _, _, rfl⟩
    rw [hle] at HL
    rw [hie] at HI
    dsimp only at HL HI
    have hle := Lib.hid hle
    have hie := Lib.hid hie
    go_wp2_with (refine wpList_load_row rfl 26 _ rfl _ rfl 26 _ _ _ HQc.out Try.underlying26 rfl (by kernel_rfl) ?_)
    refine (HC.out _).mono ?_
    rintro e w2 ⟨rfl, hb⟩
    have HB2 := Lib.hid (bT HB1.out hb)
    replace HQc := Lib.hid (hBs hb HQc.out)
    clear hb HB1 HC
    go_wp2_with (refine wpList_load_row rfl 26 _ rfl _ rfl 26 _ _ _ HQc.out Try.underlying26 rfl (by kernel_rfl) ?_)
    refine (HN.out _).mono ?_
    rintro e w3 ⟨rfl, hb⟩
    have HB3 := Lib.hid (bT HB2.out hb)
    replace HQc := Lib.hid (hBs hb HQc.out)
    clear hb HB2
    go_wp2_with fail
    refine (HL.out _).mono ?_
    rintro e w4 ⟨rfl, hb⟩
    have HB4 := Lib.hid (bA (o := .cells #[.int .i64 ls, .string ld] 23) (bT HB3.out hb))
    have HQ4 := Lib.hid (hO (o := .cells #[.int .i64 ls, .string ld] 23) (hBs hb HQc.out))
    have H84 : Hid ((w4.alloc (.cells #[.int .i64 ls, .string ld] 23)).heap[w4.heap.size]? = some (.cells #[.int .i64 ls, .string ld] 23 (0, 0))) := hN rfl
    have l8 : b3 < w4.heap.size := Nat.lt_of_lt_of_le (block_lt HQc.out) hb.size
    have cl : w4.cell? ⟨b3, 1, none⟩ = some (.int .i64 P.level) := cell_at (hBs hb HQc.out) 1
    clear hb HB3 HL HQc
    go_upto_if 51 with fail
    obtain ⟨b8, hb8⟩ : ∃ b, w4.heap.size = b := ⟨_, rfl⟩
    rw [hb8] at H84 l8 ⊢
    clear hb8
    go_cut [9, 51] from 52 to 56 (fun s9 s51 wx => ∃ (s : Int) (d : ByteArray) (e : Int), Hid (putC P key val = ((s, d), e)) ∧ s9 = .int .i64 e ∧ Hid (wx.heap[b3]? = some (.cells (pgC P) 26 (0, 0))) ∧ Hid (wx.heap[b8]? = some (.cells #[.int .i64 s, .string d] 23 (0, 0))) ∧ Hid (Below w.heap.size w wx))
    case first =>
      by_cases hl : 0 < P.level
      · have hpc : Hid (putC P key val = ((is, id'), ie)) := (show putC P key val = _ from (if_pos hl).trans hie.out)
        go_wp2_with fail
        refine (HI.out _).mono ?_
        rintro e w5 ⟨rfl, hb⟩
        have H85 := Lib.hid (hBs hb H84.out)
        have HQ5 := Lib.hid (hBs hb HQ4.out)
        have HB5 := Lib.hid (bT HB4.out hb)
        have q0 := cell_at H85.out 0
        have q1 := cell_at H85.out 1
        have f0 := free_at H85.out 0
        have f1 := free_at H85.out 1
        have KK : Hid (Keeps (· = b8) w5 ((w5.setCell ⟨b8, 0, none⟩ (.int .i64 is)).setCell ⟨b8, 1, none⟩ (.string id'))) := ((Keeps.refl (· = b8) w5).setCell _ _ (.inl rfl)).setCell _ _ (.inl rfl)
        have H86 : Hid (((w5.setCell ⟨b8, 0, none⟩ (.int .i64 is)).setCell ⟨b8, 1, none⟩ (.string id')).heap[b8]? = some (.cells #[.int .i64 is, .string id'] 23 (0, 0))) := heap_set (heap_set H85.out 0 (.int .i64 is)) 1 (.string id')
        clear hb
        go_wp2_with fail
        go_meet
        case rel => exact ⟨is, id', ie, hpc, rfl, KK.out.keep HQ5.out (by omega), H86, bK HB5.out KK.out (fun j e => by omega)⟩
      · have hpc : Hid (putC P key val = ((ls, ld), le)) := (show putC P key val = _ from (if_neg hl).trans hle.out)
        go_wp2_with fail
        go_meet
        case rel => exact ⟨ls, ld, le, hpc, rfl, HQ4, H84, HB4⟩
    case rest =>
      obtain ⟨s, d, e, hpc, rfl, HQ5, H85, HB5⟩ := hcut
      clear HQ4 H84 HB4 cl HI hle hie
      have hdz : d.size ≤ maxLen := by
        have h := putC_size P key val
        rw [hpc.out] at h
        exact h
      obtain ⟨fi, ft, hf⟩ := find_is P (keyP s d).1 n
      have HP := Lib.hid (fun w => nd_put hn.out hf hd hdz w)
      have hf := Lib.hid hf
      obtain ⟨R1, R2, hR⟩ : ∃ R1 R2, putR P s d n fi ft = (R1, R2) := ⟨_, _, rfl⟩
      rw [hR] at HP
      have hR := Lib.hid hR
      unfold pgV cellV at HP
      dsimp only at HP
      have c0 := cell_at H85.out 0
      have c1 := cell_at H85.out 1
      go_wp2_with (refine wpList_load_row rfl 26 _ rfl _ rfl 26 _ _ _ HQ5.out Try.underlying26 rfl (by kernel_rfl) ?_)
      refine (HP.out _).mono ?_
      rintro e' w6 ⟨rfl, hb⟩
      have HQ6 := Lib.hid (hBs hb HQ5.out)
      have H86 := Lib.hid (hBs hb H85.out)
      have HB6 := Lib.hid (bT HB5.out hb)
      clear hb HQ5 H85 HB5 c0 c1 HP
      go_upto_region 11 with (refine wpList_store_whole rfl 26 _ _ rfl _ (pgC R1) rfl rfl _ (pgC pageZ) (hN rfl) rfl (by kernel_rfl) (pgC_one _) ?_; intro w7 H107 KN; (have TT : Keeps (fun _ => False) w6 w7 := ((Keeps.refl (fun _ => False) w6).alloc _).trans KN.out (fun i hi e => by omega)); (have HQ7 := Lib.hid (TT.keep HQ6.out id)); (have H87 := Lib.hid (TT.keep H86.out id)); (have HB7 := Lib.hid (bK HB6.out TT (fun _ h => h.elim))); clear KN TT)
      obtain ⟨b10, hb10⟩ : ∃ b, w6.heap.size = b := ⟨_, rfl⟩
      rw [hb10] at H107 ⊢
      have cl : w7.cell? ⟨b3, 1, none⟩ = some (.int .i64 P.level) := cell_at HQ7.out 1
      go_cut [77] from 63 to 76 (fun s77 wx => s77 = .bool (decide (e = 0 ∧ R2 = 0 ∧ (P.level = 0 ∨ key.size ≠ 0))) ∧ wx = w7)
      case first =>
        by_cases he : e = 0
        rotate_left
        · have he' : (e == 0) = false := by simpa using he
          go_wp2_with fail
          go_meet
          case rel => exact ⟨by rw [decide_eq_false (fun h => he h.1)], rfl⟩
        by_cases hr : R2 = 0
        rotate_left
        · have hr' : (R2 == 0) = false := by simpa using hr
          subst he
          go_wp2_with fail
          go_meet
          case rel => exact ⟨by rw [decide_eq_false (fun h => hr h.2.1)], rfl⟩
        subst he hr
        by_cases hl : P.level = 0
        · have hg : decide ((0 : Int) = 0 ∧ (0 : Int) = 0 ∧ (P.level = 0 ∨ key.size ≠ 0)) = true := decide_eq_true ⟨rfl, rfl, .inl hl⟩
          have hg := Lib.hid hg
          rw [hl] at cl
          replace hl := Lib.hid hl
          go_wp2_with fail
          go_meet
          case rel => exact ⟨by rw [hg.out], rfl⟩
        have hl' : (P.level == 0) = false := by simpa using hl
        by_cases hk0 : key.size = 0
        · have hg : Hid (decide ((0 : Int) = 0 ∧ (0 : Int) = 0 ∧ (P.level = 0 ∨ key.size ≠ 0)) = false) := decide_eq_false (fun h => by rcases h.2.2 with h | h; exact hl h; exact h hk0)
          obtain rfl := str_none hk0
          go_wp2_with fail
          go_meet
          case rel => exact ⟨by rw [hg.out], rfl⟩
        · have hg : Hid (decide ((0 : Int) = 0 ∧ (0 : Int) = 0 ∧ (P.level = 0 ∨ key.size ≠ 0)) = true) := decide_eq_true ⟨rfl, rfl, .inr hk0⟩
          obtain ⟨n1, n2⟩ := str_some hk0
          go_wp2_with fail
          go_meet
          case rel => exact ⟨by rw [hg.out], rfl⟩
      case rest =>
        obtain ⟨rfl, rfl⟩ := hcut
        go_upto_if 77 with fail
        go_cut [77] from 78 to 105 (fun s77 wx => Hid (wx.heap[b3]? = some (.cells (pgC P) 26 (0, 0))) ∧ Hid (Below w.heap.size w wx))
        case first =>
          by_cases hgo : e = 0 ∧ R2 = 0 ∧ (P.level = 0 ∨ key.size ≠ 0)
          rotate_left
          · have hgo' := decide_eq_false hgo
            rw [hgo']
            clear hgo hgo'
            go_wp2_with fail
            go_meet
            case rel => exact ⟨HQ7, HB7⟩
          rw [decide_eq_true hgo]
          obtain ⟨he, hr, hg⟩ := hgo
          subst he hr
          obtain ⟨g1, g2, g3, hfi6, gs, gd, gz⟩ := put_facts hok.out hn.out hd hdz hpc.out hf.out hR.out hg
          have HC1 := Lib.hid (fun w => nd_check_ok g1 gz w)
          have HN1 := Lib.hid (fun w => nd_count' g2 w)
          have HF1 := Lib.hid (fun w => nd_find' g2 g3 gz hk w)
          unfold pgV at HC1 HN1 HF1
          clear g1 g2 g3 gz hg HN
          have gs := Lib.hid gs
          have gd := Lib.hid gd
          go_wp2_with (refine wpList_load_row rfl 26 _ rfl _ rfl 26 _ _ _ H107.out Try.underlying26 rfl (by kernel_rfl) ?_)
          refine (HF1.out _).mono ?_
          rintro e' w8 ⟨rfl, hb⟩
          have HB8 := Lib.hid (bT HB7.out hb)
          have HQ8 := Lib.hid (hBs hb HQ7.out)
          have H88 := Lib.hid (hBs hb H87.out)
          have H108 := Lib.hid (hBs hb H107.out)
          clear hb HB7 HQ7 H87 H107 cl
          go_wp2_with fail
          have hr16 : Hid ((Try.prog.info? 26).map (·.size) = some (pgC R1).toList.length) := (by kernel_rfl : (Try.prog.info? 26).map (·.size) = some (pgC R1).toList.length)
          have hS0 : w8.drew.heap[b10]? = some (.cells (pgC R1) 26 (0, 0)) ∧ w8.drew.heap[b8]? = some (.cells #[.int .i64 s, .string d] 23 (0, 0)) := ⟨hDr H108.out, hDr H88.out⟩
          refine wp_region_held_drew (S := fun w' => w'.heap[b10]? = some (.cells (pgC R1) 26 (0, 0)) ∧ w'.heap[b8]? = some (.cells #[.int .i64 s, .string d] 23 (0, 0))) (by kernel_rfl) hS0 (fun hHeld => ?_)
          replace HB8 := Lib.hid (bD HB8.out)
          replace HQ8 := Lib.hid (hDr HQ8.out)
          have wrn : IntKind.i64.wrap ((n : Int) + 1) = (n : Int) + 1 := by rw [IntKind.wrap_i64]; omega
          have hfi : (fi : Int) < 6 := by omega
          have hfi0 : (0 : Int) ≤ fi := by omega
          have u23 := Try.underlying23
          clear hS0 H108 H88
          refine wpAnyH_take (i := 0) (oi := ⟨some 84, _, _, _, _, _⟩) (v := .agg (pgC R1)) rfl (by kernel_rfl) (by kernel_rfl) (by kernel_rfl) (fun _ _ _ h => h) (yieldsIf_load_mid (by rfl) _ _ rfl b10 0 rfl (pgC R1).toList _ (fun _ h => range_of0 h.1) hut.out rfl hr16.out) hHeld ?_
          simp only [Act.put, List.setIfInBounds_toArray, List.set_cons_zero, List.set_cons_succ]
          refine wpAnyH_ready (rs := [1]) (by kernel_rfl) (by simp) ?_
          refine AllReadyH.cons (o := ⟨some 85, _, _, _, _, _⟩) rfl (fun K hK => ?_) AllReadyH.nil
          go_simp
          go_at_call 12
          refine (HC1.out _).mono ?_
          rintro e' w9 ⟨rfl, hb⟩
          have HBw9 := Lib.hid (bT HB8.out hb)
          have HQw9 := Lib.hid (hBs hb HQ8.out)
          have hSw9 := And.intro (hBs hb hHeld.1) (hBs hb hHeld.2)
          clear hb hHeld HB8 HQ8
          go_wp2_with fail
          refine hK.out _ _ hSw9 (fun hHeld => ?_)
          clear hK K
          try simp only [Act.put, List.setIfInBounds_toArray, List.set_cons_zero, List.set_cons_succ]
          refine wpAnyH_take (i := 2) (oi := ⟨some 86, _, _, _, _, _⟩) (v := ?_) rfl (by kernel_rfl) (by kernel_rfl) (by kernel_rfl) (fun _ _ _ h => h) (Or.inl ⟨by rfl, ?_⟩) hHeld ?_
          rotate_left
          · intro w' hSw
            go_simp
            try with_reducible rfl
          simp only [Act.put, List.setIfInBounds_toArray, List.set_cons_zero, List.set_cons_succ]
          refine wpAnyH_take (i := 3) (oi := ⟨some 87, _, _, _, _, _⟩) (v := .bool false) rfl (by kernel_rfl) (by kernel_rfl) (by kernel_rfl) (fun _ _ _ h => h) (Or.inl ⟨by rfl, fun _ _ => rfl⟩) hHeld ?_
          simp only [Act.put, List.setIfInBounds_toArray, List.set_cons_zero, List.set_cons_succ]
          refine wpAnyH_take (i := 4) (oi := ⟨some 88, _, _, _, _, _⟩) (v := .agg (pgC R1)) rfl (by kernel_rfl) (by kernel_rfl) (by kernel_rfl) (fun _ _ _ h => h) (yieldsIf_load_mid (by rfl) _ _ rfl b10 0 rfl (pgC R1).toList _ (fun _ h => range_of0 h.1) hut.out rfl hr16.out) hHeld ?_
          simp only [Act.put, List.setIfInBounds_toArray, List.set_cons_zero, List.set_cons_succ]
          refine wpAnyH_take (i := 6) (oi := ⟨some 90, _, _, _, _, _⟩) (v := .int .i64 n) rfl (by kernel_rfl) (by kernel_rfl) (by kernel_rfl) (fun _ _ _ h => h) (Or.inl ⟨by rfl, fun _ _ => rfl⟩) hHeld ?_
          simp only [Act.put, List.setIfInBounds_toArray, List.set_cons_zero, List.set_cons_succ]
          refine wpAnyH_take (i := 7) (oi := ⟨some 91, _, _, _, _, _⟩) (v := ?_) rfl (by kernel_rfl) (by kernel_rfl) (by kernel_rfl) (fun _ _ _ h => h) (Or.inl ⟨by rfl, ?_⟩) hHeld ?_
          rotate_left
          · intro w' hSw
            go_simp
            try with_reducible rfl
          simp only [Act.put, List.setIfInBounds_toArray, List.set_cons_zero, List.set_cons_succ]
          refine wpAnyH_ready (rs := [5]) (by kernel_rfl) (by simp) ?_
          refine AllReadyH.cons (o := ⟨some 89, _, _, _, _, _⟩) rfl (fun K hK => ?_) AllReadyH.nil
          go_simp
          go_at_call 14
          refine (HN1.out _).mono ?_
          rintro e' w10 ⟨rfl, hb⟩
          have HBw10 := Lib.hid (bT HBw9.out hb)
          have HQw10 := Lib.hid (hBs hb HQw9.out)
          have hSw10 := And.intro (hBs hb hHeld.1) (hBs hb hHeld.2)
          clear hb hHeld HBw9 HQw9
          go_wp2_with fail
          refine hK.out _ _ hSw10 (fun hHeld => ?_)
          clear hK K
          try simp only [Act.put, List.setIfInBounds_toArray, List.set_cons_zero, List.set_cons_succ]
          refine wpAnyH_take (i := 8) (oi := ⟨some 92, _, _, _, _, _⟩) (v := ?_) rfl (by kernel_rfl) (by kernel_rfl) (by kernel_rfl) (fun _ _ _ h => h) (Or.inl ⟨by rfl, ?_⟩) hHeld ?_
          rotate_left
          · intro w' hSw
            go_simp
            try with_reducible rfl
          simp only [Act.put, List.setIfInBounds_toArray, List.set_cons_zero, List.set_cons_succ]
          refine wpAnyH_take (i := 9) (oi := ⟨some 93, _, _, _, _, _⟩) (v := .bool false) rfl (by kernel_rfl) (by kernel_rfl) (by kernel_rfl) (fun _ _ _ h => h) (Or.inl ⟨by rfl, fun _ _ => rfl⟩) hHeld ?_
          simp only [Act.put, List.setIfInBounds_toArray, List.set_cons_zero, List.set_cons_succ]
          refine wpAnyH_take (i := 10) (oi := ⟨some 94, _, _, _, _, _⟩) (v := .bool false) rfl (by kernel_rfl) (by kernel_rfl) (by kernel_rfl) (fun _ _ _ h => h) (Or.inl ⟨by rfl, fun _ _ => rfl⟩) hHeld ?_
          simp only [Act.put, List.setIfInBounds_toArray, List.set_cons_zero, List.set_cons_succ]
          refine wpAnyH_take (i := 11) (oi := ⟨some 95, _, _, _, _, _⟩) (v := .bool true) rfl (by kernel_rfl) (by kernel_rfl) (by kernel_rfl) (fun _ _ _ h => h) (Or.inl ⟨by rfl, fun _ _ => rfl⟩) hHeld ?_
          simp only [Act.put, List.setIfInBounds_toArray, List.set_cons_zero, List.set_cons_succ]
          refine wpAnyH_take (i := 12) (oi := ⟨some 96, _, _, _, _, _⟩) (v := ?_) rfl (by kernel_rfl) (by kernel_rfl) (by kernel_rfl) (fun _ _ _ h => h) (Or.inl ⟨by rfl, ?_⟩) hHeld ?_
          rotate_left
          · intro w' hSw
            go_simp
            try with_reducible rfl
          simp only [Act.put, List.setIfInBounds_toArray, List.set_cons_zero, List.set_cons_succ]
          refine wpAnyH_take (i := 13) (oi := ⟨some 97, _, _, _, _, _⟩) (v := .bool false) rfl (by kernel_rfl) (by kernel_rfl) (by kernel_rfl) (fun _ _ _ h => h) (Or.inl ⟨by rfl, fun _ _ => rfl⟩) hHeld ?_
          simp only [Act.put, List.setIfInBounds_toArray, List.set_cons_zero, List.set_cons_succ]
          refine wpAnyH_take (i := 14) (oi := ⟨some 98, _, _, _, _, _⟩) (v := .bool false) rfl (by kernel_rfl) (by kernel_rfl) (by kernel_rfl) (fun _ _ _ h => h) (Or.inl ⟨by rfl, fun _ _ => rfl⟩) hHeld ?_
          simp only [Act.put, List.setIfInBounds_toArray, List.set_cons_zero, List.set_cons_succ]
          refine wpAnyH_take (i := 15) (oi := ⟨some 99, _, _, _, _, _⟩) (v := .int .i64 fi) rfl (by kernel_rfl) (by kernel_rfl) (by kernel_rfl) (fun _ _ _ h => h) (Or.inl ⟨by rfl, fun _ _ => rfl⟩) hHeld ?_
          simp only [Act.put, List.setIfInBounds_toArray, List.set_cons_zero, List.set_cons_succ]
          refine wpAnyH_take (i := 16) (oi := ⟨some 100, _, _, _, _, _⟩) (v := ?_) rfl (by kernel_rfl) (by kernel_rfl) (by kernel_rfl) (fun _ _ _ h => h) (Or.inl ⟨by rfl, ?_⟩) hHeld ?_
          rotate_left
          · intro w' hSw
            go_simp
            try with_reducible rfl
          simp only [Act.put, List.setIfInBounds_toArray, List.set_cons_zero, List.set_cons_succ]
          refine wpAnyH_take (i := 17) (oi := ⟨some 101, _, _, _, _, _⟩) (v := ?_) rfl (by kernel_rfl) (by kernel_rfl) (by kernel_rfl) (fun _ _ _ h => h) (Or.inl ⟨by rfl, ?_⟩) hHeld ?_
          rotate_left
          · intro w' hSw
            go_simp
            try with_reducible rfl
          simp only [Act.put, List.setIfInBounds_toArray, List.set_cons_zero, List.set_cons_succ]
          refine wpAnyH_take (i := 18) (oi := ⟨some 102, _, _, _, _, _⟩) (v := .agg #[.int .i64 s, .string d]) rfl (by kernel_rfl) (by kernel_rfl) (by kernel_rfl) (fun _ _ _ h => h) (Or.inl ⟨by rfl, ?_⟩) hHeld ?_
          · intro w' hSw
            obtain ⟨k0, k1⟩ := pg_at hSw.1 fi hfi6
            rw [gs.out] at k0
            rw [gd.out] at k1
            clear hSw
            go_simp
          simp only [Act.put, List.setIfInBounds_toArray, List.set_cons_zero, List.set_cons_succ]
          refine wpAnyH_take (i := 19) (oi := ⟨some 103, _, _, _, _, _⟩) (v := .agg #[.int .i64 s, .string d]) rfl (by kernel_rfl) (by kernel_rfl) (by kernel_rfl) (fun _ _ _ h => h) (Or.inl ⟨by rfl, ?_⟩) hHeld ?_
          · intro w' hSw
            have k0 := cell_at hSw.2 0
            have k1 := cell_at hSw.2 1
            clear hSw
            go_simp
          simp only [Act.put, List.setIfInBounds_toArray, List.set_cons_zero, List.set_cons_succ]
          refine wpAnyH_take (i := 20) (oi := ⟨some 104, _, _, _, _, _⟩) (v := .bool false) rfl (by kernel_rfl) (by kernel_rfl) (by kernel_rfl) (fun _ _ _ h => h) (Or.inl ⟨by rfl, ?_⟩) hHeld ?_
          · intro w' hSw
            have hm := run_eqGuard_agg (P := Try.prog) w' .neq 23 (.tmp 102) (.tmp 103) #[.int .i64 s, .string d] #[.int .i64 s, .string d] (by kernel_rfl)
            clear hSw
            go_simp
          simp only [Act.put, List.setIfInBounds_toArray, List.set_cons_zero, List.set_cons_succ]
          refine wpAnyH_take (i := 21) (oi := ⟨some 105, _, _, _, _, _⟩) (v := .bool false) rfl (by kernel_rfl) (by kernel_rfl) (by kernel_rfl) (fun _ _ _ h => h) (Or.inl ⟨by rfl, fun _ _ => rfl⟩) hHeld ?_
          simp only [Act.put, List.setIfInBounds_toArray, List.set_cons_zero, List.set_cons_succ]
          refine wpAnyH_done (by kernel_rfl) ?_ _
          refine ‹∀ (a : Act) (w : World), Code.wp Try.prog _ _ a w → _› _ _ ?_
          clear HC1 HN1 HF1 hHeld
          go_wp2_with fail
          go_meet
          case rel => exact ⟨HQw10, HBw10⟩
        case rest =>
          obtain ⟨HQ8, HB8⟩ := hcut
          clear HQ7 HB7 H87 H107 cl hf hR hpc HQ6 H86 HB6
          have HT := Lib.hid (fun w => nd_take i hn.out w)
          obtain ⟨T1, T2, hT⟩ : ∃ T1 T2, takeR P n i = (T1, T2) := ⟨_, _, rfl⟩
          rw [hT] at HT
          have hT := Lib.hid hT
          unfold pgV at HT
          dsimp only at HT
          go_wp2_with (refine wpList_load_row rfl 26 _ rfl _ rfl 26 _ _ _ HQ8.out Try.underlying26 rfl (by kernel_rfl) ?_)
          refine (HT.out _).mono ?_
          rintro e' v6 ⟨rfl, hb⟩
          have HQv6 := Lib.hid (hBs hb HQ8.out)
          have HBv6 := Lib.hid (bT HB8.out hb)
          clear hb HQ8 HB8 HT
          go_upto_region 16 with (refine wpList_store_whole rfl 26 _ _ rfl _ (pgC T1) rfl rfl _ (pgC pageZ) (hN rfl) rfl (by kernel_rfl) (pgC_one _) ?_; intro v7 H147 KN; (have TT : Keeps (fun _ => False) v6 v7 := ((Keeps.refl (fun _ => False) v6).alloc _).trans KN.out (fun i hi e => by omega)); (have HQv7 := Lib.hid (TT.keep HQv6.out id)); (have HBv7 := Lib.hid (bK HBv6.out TT (fun _ h => h.elim))); clear KN TT)
          obtain ⟨b14, hb14⟩ : ∃ b, v6.heap.size = b := ⟨_, rfl⟩
          rw [hb14] at H147 ⊢
          clear hb14 HQv6 HBv6
          have cl : v7.cell? ⟨b3, 1, none⟩ = some (.int .i64 P.level) := cell_at HQv7.out 1
          go_cut [118] from 112 to 117 (fun s118 wx => s118 = .bool (decide (T2 = 0 ∧ P.level = 0)) ∧ wx = v7)
          case first =>
            by_cases ht : T2 = 0
            rotate_left
            · have ht' : (T2 == 0) = false := by simpa using ht
              go_wp2_with fail
              go_meet
              case rel => exact ⟨by rw [decide_eq_false (fun h => ht h.1)], rfl⟩
            subst ht
            by_cases hl : P.level = 0
            · have hg : Hid (decide ((0 : Int) = 0 ∧ P.level = 0) = true) := decide_eq_true ⟨rfl, hl⟩
              rw [hl] at cl
              replace hl := Lib.hid hl
              go_wp2_with fail
              go_meet
              case rel => exact ⟨by rw [hg.out], rfl⟩
            · have hl' : (P.level == 0) = false := by simpa using hl
              have hg : Hid (decide ((0 : Int) = 0 ∧ P.level = 0) = false) := decide_eq_false (fun h => hl h.2)
              replace hl := Lib.hid hl
              go_wp2_with fail
              go_meet
              case rel => exact ⟨by rw [hg.out], rfl⟩
          case rest =>
            obtain ⟨rfl, rfl⟩ := hcut
            go_upto_if 118 with fail
            go_cut [118] from 119 to 128 (fun s118 wx => Hid (wx.heap[b3]? = some (.cells (pgC P) 26 (0, 0))) ∧ Hid (Below w.heap.size w wx))
            case first =>
              by_cases hgo : T2 = 0 ∧ P.level = 0
              rotate_left
              · rw [decide_eq_false hgo]
                clear hgo
                go_wp2_with fail
                go_meet
                case rel => exact ⟨HQv7, HBv7⟩
              rw [decide_eq_true hgo]
              obtain ⟨ht, hl⟩ := hgo
              subst ht
              obtain ⟨hin, hT1⟩ := take_facts hT.out
              obtain ⟨g1, g2⟩ := take_ok hok.out hn.out hl (i := i.toNat) (by omega)
              rw [← hT1] at g1 g2
              have gz : ∀ j, (T1.dt j).size ≤ maxLen := by rw [hT1]; exact take_size hd
              have HC1 := Lib.hid (fun w => nd_check_ok g1 gz w)
              have HN1 := Lib.hid (fun w => nd_count' g2 w)
              rw [show ((n - 1 : Nat) : Int) = (n : Int) - 1 by omega] at HN1
              unfold pgV at HC1 HN1
              have wrn : IntKind.i64.wrap ((n : Int) - 1) = (n : Int) - 1 := by rw [IntKind.wrap_i64]; omega
              clear g1 g2 gz hT1 hin hl cl HN
              go_wp2_with (refine wpList_load_row rfl 26 _ rfl _ rfl 26 _ _ _ H147.out Try.underlying26 rfl (by kernel_rfl) ?_)
              refine (HC1.out _).mono ?_
              rintro e' v8 ⟨rfl, hb⟩
              have HQv8 := Lib.hid (hBs hb HQv7.out)
              have HBv8 := Lib.hid (bT HBv7.out hb)
              have H148 := Lib.hid (hBs hb H147.out)
              clear hb HQv7 HBv7 H147
              go_wp2_with (refine wpList_load_want (by rfl) 26 _ rfl _ rfl 26 _ _ _ H148.out Try.underlying26 rfl (by kernel_rfl) ?_)
              refine (HN1.out _).mono ?_
              rintro e' v9 ⟨rfl, hb⟩
              have HQv9 := Lib.hid (hBs hb HQv8.out)
              have HBv9 := Lib.hid (bT HBv8.out hb)
              clear hb HQv8 HBv8 H148
              go_wp2_with fail
              go_meet
              case rel => exact ⟨HQv9, HBv9⟩
            case rest =>
              obtain ⟨HQ9, HB9⟩ := hcut
              clear HQv7 HBv7 H147 cl hT
              have HS := Lib.hid (fun w => nd_split hn.out hd w)
              unfold pgV at HS
              by_cases hn2 : n < 2
              · rw [show splitR P n = (pageZ, pageZ, ⟨#[]⟩, 1) from if_pos hn2] at HS
                dsimp only at HS
                have hn2' : (n : Int) < 2 := by omega
                go_wp2_with (refine wpList_load_row rfl 26 _ rfl _ rfl 26 _ _ _ HQ9.out Try.underlying26 rfl (by kernel_rfl) ?_)
                refine (HS.out _).mono ?_
                rintro e' u1 ⟨rfl, hb⟩
                have HQu1 := Lib.hid (hBs hb HQ9.out)
                have HBu1 := Lib.hid (bT HB9.out hb)
                clear hb HQ9 HB9 HS
                go_wp2_with (first
                  | (refine wpList_store_whole rfl 26 _ _ rfl (u1.heap.size + 1) (pgC pageZ) rfl rfl _ (pgC pageZ) hz rfl (by kernel_rfl) (pgC_one _) ?_; intro u2 H17 KM; (have TT : Keeps (fun _ => False) u1 u2 := (TS.trans KM.out (fun i hi e => by omega))); (have HQu2 := Lib.hid (TT.keep HQu1.out id)); (have H16 := Lib.hid (KM.out.keep HA.out (by omega))); (have HBu2 := Lib.hid (bK HBu1.out TT (fun _ h => h.elim))); clear KM TT TS HA hz)
                  | (refine wpList_store_whole rfl 26 _ _ rfl u1.heap.size (pgC pageZ) rfl rfl _ (pgC pageZ) (hO (hN rfl)) rfl (by kernel_rfl) (pgC_one _) ?_; intro z1 HA KA; (have hz := KA.out.keep (hN (w := u1.alloc (.cells (pgC pageZ) 26)) (n := u1.heap.size + 1) (by simp)) (by omega)); (have TS : Keeps (fun _ => False) u1 z1 := (((Keeps.refl (fun _ => False) u1).alloc _).alloc _).trans KA.out (fun i hi e => by omega)); clear KA))
                go_ret
                exact ⟨rfl, HBu2.out⟩
              obtain ⟨h, hh⟩ : ∃ h, (n + 1) / 2 = h := ⟨_, rfl⟩
              have hh1 : 1 ≤ h := by omega
              have hhn : h < n := by omega
              have hh2 : n - h ≤ h := by omega
              obtain ⟨HI, hHI⟩ : ∃ X, hiPg P h n = X := ⟨_, rfl⟩
              have hsp : splitR P n = (lowPg P h, HI, keyAt P h, 0) := by
                rw [← hHI]
                unfold splitR hiPg keyAt
                rw [if_neg hn2, hh]
              rw [hsp] at HS
              dsimp only at HS
              have HCl := Lib.hid (fun w => nd_check_ok (low_ok hok.out hn.out hh1 hhn).1 (low_size hd h) w)
              have HNl := Lib.hid (fun w => nd_count' (low_ok hok.out hn.out hh1 hhn).2 w)
              have hi1 := hi_ok hok.out hn.out hh1 hhn
              have hi2 := hi_size hd h n
              rw [hHI] at hi1 hi2
              have HCh := Lib.hid (fun w => nd_check_ok hi1.1 hi2 w)
              have HNh := Lib.hid (fun w => nd_count' hi1.2 w)
              rw [show ((n - h : Nat) : Int) = (n : Int) - (h : Int) by omega] at HNh
              unfold pgV at HCl HNl HCh HNh
              have hHI := Lib.hid hHI
              obtain ⟨sep, hsep⟩ : ∃ x, keyAt P h = x := ⟨_, rfl⟩
              rw [hsep] at HS
              have hsep := Lib.hid hsep
              clear hsp hi1 hi2 hh hn2
              go_wp2_with (refine wpList_load_row rfl 26 _ rfl _ rfl 26 _ _ _ HQ9.out Try.underlying26 rfl (by kernel_rfl) ?_)
              refine (HS.out _).mono ?_
              rintro e' u1 ⟨rfl, hb⟩
              have HQu1 := Lib.hid (hBs hb HQ9.out)
              have HBu1 := Lib.hid (bT HB9.out hb)
              clear hb HQ9 HB9 HS
              go_wp2_with (first
                | (refine wpList_store_whole rfl 26 _ _ rfl (u1.heap.size + 1) (pgC HI) rfl rfl _ (pgC pageZ) hz rfl (by kernel_rfl) (pgC_one _) ?_; intro u2 H17 KM; (have TT : Keeps (fun _ => False) u1 u2 := (TS.trans KM.out (fun i hi e => by omega))); (have HQu2 := Lib.hid (TT.keep HQu1.out id)); (have H16 := Lib.hid (KM.out.keep HA.out (by omega))); (have HBu2 := Lib.hid (bK HBu1.out TT (fun _ h => h.elim))); clear KM TT TS HA hz)
                | (refine wpList_store_whole rfl 26 _ _ rfl u1.heap.size (pgC (lowPg P h)) rfl rfl _ (pgC pageZ) (hO (hN rfl)) rfl (by kernel_rfl) (pgC_one _) ?_; intro z1 HA KA; (have hz := KA.out.keep (hN (w := u1.alloc (.cells (pgC pageZ) 26)) (n := u1.heap.size + 1) (by simp)) (by omega)); (have TS : Keeps (fun _ => False) u1 z1 := (((Keeps.refl (fun _ => False) u1).alloc _).alloc _).trans KA.out (fun i hi e => by omega)); clear KA))
              obtain ⟨b16, hb16⟩ : ∃ b, u1.heap.size = b := ⟨_, rfl⟩
              rw [hb16] at H16 H17 ⊢
              have l3' : b3 < b16 := hb16 ▸ block_lt HQu1.out
              clear hb16 HQu1 HBu1
              have hr16 : Hid ((Try.prog.info? 26).map (·.size) = some (pgC (lowPg P h)).toList.length) := (by kernel_rfl : (Try.prog.info? 26).map (·.size) = some (pgC (lowPg P h)).toList.length)
              have hr17 : Hid ((Try.prog.info? 26).map (·.size) = some (pgC HI).toList.length) := (by kernel_rfl : (Try.prog.info? 26).map (·.size) = some (pgC HI).toList.length)
              have hS0 : u2.drew.heap[b16]? = some (.cells (pgC (lowPg P h)) 26 (0, 0)) ∧ u2.drew.heap[b16 + 1]? = some (.cells (pgC HI) 26 (0, 0)) := ⟨hDr H16.out, hDr H17.out⟩
              refine wp_region_held_drew (S := fun w' => w'.heap[b16]? = some (.cells (pgC (lowPg P h)) 26 (0, 0)) ∧ w'.heap[b16 + 1]? = some (.cells (pgC HI) 26 (0, 0))) (by kernel_rfl) hS0 (fun hHeld => ?_)
              replace HBu2 := Lib.hid (bD HBu2.out)
              replace HQu2 := Lib.hid (hDr HQu2.out)
              have wr1 : IntKind.i64.wrap ((h : Int) + ((n : Int) - (h : Int))) = (n : Int) := by rw [IntKind.wrap_i64]; omega
              have wr2 : IntKind.i64.wrap (n : Int) = (n : Int) := by rw [IntKind.wrap_i64]; omega
              have hlt : ¬ ((h : Int) < (n : Int) - (h : Int)) := by omega
              clear hS0 H16 H17
              refine wpAnyH_take (i := 0) (oi := ⟨some 140, _, _, _, _, _⟩) (v := .agg (pgC (lowPg P h))) rfl (by kernel_rfl) (by kernel_rfl) (by kernel_rfl) (fun _ _ _ h => h) (yieldsIf_load_mid (by rfl) _ _ rfl b16 0 rfl (pgC (lowPg P h)).toList _ (fun _ h => range_of0 h.1) hut.out rfl hr16.out) hHeld ?_
              simp only [Act.put, List.setIfInBounds_toArray, List.set_cons_zero, List.set_cons_succ]
              refine wpAnyH_ready (rs := [1]) (by kernel_rfl) (by simp) ?_
              refine AllReadyH.cons (o := ⟨some 141, _, _, _, _, _⟩) rfl (fun K hK => ?_) AllReadyH.nil
              go_simp
              go_at_call 12
              refine (HCl.out _).mono ?_
              rintro e' u3 ⟨rfl, hb⟩
              have HBu3 := Lib.hid (bT HBu2.out hb)
              have HQu3 := Lib.hid (hBs hb HQu2.out)
              have hSu3 := And.intro (hBs hb hHeld.1) (hBs hb hHeld.2)
              clear hb hHeld HBu2 HQu2
              go_wp2_with fail
              refine hK.out _ _ hSu3 (fun hHeld => ?_)
              clear hK K
              try simp only [Act.put, List.setIfInBounds_toArray, List.set_cons_zero, List.set_cons_succ]
              refine wpAnyH_take (i := 2) (oi := ⟨some 142, _, _, _, _, _⟩) (v := ?_) rfl (by kernel_rfl) (by kernel_rfl) (by kernel_rfl) (fun _ _ _ h => h) (Or.inl ⟨by rfl, ?_⟩) hHeld ?_
              rotate_left
              · intro w' hSw
                clear hSw
                go_simp
                try with_reducible rfl
              simp only [Act.put, List.setIfInBounds_toArray, List.set_cons_zero, List.set_cons_succ]
              refine wpAnyH_take (i := 3) (oi := ⟨some 143, _, _, _, _, _⟩) (v := .bool false) rfl (by kernel_rfl) (by kernel_rfl) (by kernel_rfl) (fun _ _ _ h => h) (Or.inl ⟨by rfl, fun _ _ => rfl⟩) hHeld ?_
              simp only [Act.put, List.setIfInBounds_toArray, List.set_cons_zero, List.set_cons_succ]
              refine wpAnyH_take (i := 4) (oi := ⟨some 144, _, _, _, _, _⟩) (v := .agg (pgC HI)) rfl (by kernel_rfl) (by kernel_rfl) (by kernel_rfl) (fun _ _ _ h => h) (yieldsIf_load_mid (by rfl) _ _ rfl (b16 + 1) 0 rfl (pgC HI).toList _ (fun _ h => range_of0 h.2) hut.out rfl hr17.out) hHeld ?_
              simp only [Act.put, List.setIfInBounds_toArray, List.set_cons_zero, List.set_cons_succ]
              refine wpAnyH_ready (rs := [5]) (by kernel_rfl) (by simp) ?_
              refine AllReadyH.cons (o := ⟨some 145, _, _, _, _, _⟩) rfl (fun K hK => ?_) AllReadyH.nil
              go_simp
              go_at_call 12
              refine (HCh.out _).mono ?_
              rintro e' u4 ⟨rfl, hb⟩
              have HBu4 := Lib.hid (bT HBu3.out hb)
              have HQu4 := Lib.hid (hBs hb HQu3.out)
              have hSu4 := And.intro (hBs hb hHeld.1) (hBs hb hHeld.2)
              clear hb hHeld HBu3 HQu3
              go_wp2_with fail
              refine hK.out _ _ hSu4 (fun hHeld => ?_)
              clear hK K
              try simp only [Act.put, List.setIfInBounds_toArray, List.set_cons_zero, List.set_cons_succ]
              refine wpAnyH_take (i := 6) (oi := ⟨some 146, _, _, _, _, _⟩) (v := ?_) rfl (by kernel_rfl) (by kernel_rfl) (by kernel_rfl) (fun _ _ _ h => h) (Or.inl ⟨by rfl, ?_⟩) hHeld ?_
              rotate_left
              · intro w' hSw
                clear hSw
                go_simp
                try with_reducible rfl
              simp only [Act.put, List.setIfInBounds_toArray, List.set_cons_zero, List.set_cons_succ]
              refine wpAnyH_take (i := 7) (oi := ⟨some 147, _, _, _, _, _⟩) (v := .bool false) rfl (by kernel_rfl) (by kernel_rfl) (by kernel_rfl) (fun _ _ _ h => h) (Or.inl ⟨by rfl, fun _ _ => rfl⟩) hHeld ?_
              simp only [Act.put, List.setIfInBounds_toArray, List.set_cons_zero, List.set_cons_succ]
              refine wpAnyH_take (i := 8) (oi := ⟨some 148, _, _, _, _, _⟩) (v := .bool false) rfl (by kernel_rfl) (by kernel_rfl) (by kernel_rfl) (fun _ _ _ h => h) (Or.inl ⟨by rfl, fun _ _ => rfl⟩) hHeld ?_
              simp only [Act.put, List.setIfInBounds_toArray, List.set_cons_zero, List.set_cons_succ]
              refine wpAnyH_take (i := 9) (oi := ⟨some 149, _, _, _, _, _⟩) (v := .agg (pgC (lowPg P h))) rfl (by kernel_rfl) (by kernel_rfl) (by kernel_rfl) (fun _ _ _ h => h) (yieldsIf_load_mid (by rfl) _ _ rfl b16 0 rfl (pgC (lowPg P h)).toList _ (fun _ h => range_of0 h.1) hut.out rfl hr16.out) hHeld ?_
              simp only [Act.put, List.setIfInBounds_toArray, List.set_cons_zero, List.set_cons_succ]
              refine wpAnyH_take (i := 11) (oi := ⟨some 151, _, _, _, _, _⟩) (v := .agg (pgC HI)) rfl (by kernel_rfl) (by kernel_rfl) (by kernel_rfl) (fun _ _ _ h => h) (yieldsIf_load_mid (by rfl) _ _ rfl (b16 + 1) 0 rfl (pgC HI).toList _ (fun _ h => range_of0 h.2) hut.out rfl hr17.out) hHeld ?_
              simp only [Act.put, List.setIfInBounds_toArray, List.set_cons_zero, List.set_cons_succ]
              refine wpAnyH_take (i := 14) (oi := ⟨some 154, _, _, _, _, _⟩) (v := .int .i64 n) rfl (by kernel_rfl) (by kernel_rfl) (by kernel_rfl) (fun _ _ _ h => h) (Or.inl ⟨by rfl, fun _ _ => rfl⟩) hHeld ?_
              simp only [Act.put, List.setIfInBounds_toArray, List.set_cons_zero, List.set_cons_succ]
              refine wpAnyH_ready (rs := [10]) (by kernel_rfl) (by simp) ?_
              refine AllReadyH.cons (o := ⟨some 150, _, _, _, _, _⟩) rfl (fun K hK => ?_) AllReadyH.nil
              go_simp
              go_at_call 14
              refine (HNl.out _).mono ?_
              rintro e' u5 ⟨rfl, hb⟩
              have HBu5 := Lib.hid (bT HBu4.out hb)
              have HQu5 := Lib.hid (hBs hb HQu4.out)
              have hSu5 := And.intro (hBs hb hHeld.1) (hBs hb hHeld.2)
              clear hb hHeld HBu4 HQu4
              go_wp2_with fail
              refine hK.out _ _ hSu5 (fun hHeld => ?_)
              clear hK K
              try simp only [Act.put, List.setIfInBounds_toArray, List.set_cons_zero, List.set_cons_succ]
              refine wpAnyH_ready (rs := [12]) (by kernel_rfl) (by simp) ?_
              refine AllReadyH.cons (o := ⟨some 152, _, _, _, _, _⟩) rfl (fun K hK => ?_) AllReadyH.nil
              go_simp
              go_at_call 14
              refine (HNh.out _).mono ?_
              rintro e' u6 ⟨rfl, hb⟩
              have HBu6 := Lib.hid (bT HBu5.out hb)
              have HQu6 := Lib.hid (hBs hb HQu5.out)
              have hSu6 := And.intro (hBs hb hHeld.1) (hBs hb hHeld.2)
              clear hb hHeld HBu5 HQu5
              go_wp2_with fail
              refine hK.out _ _ hSu6 (fun hHeld => ?_)
              clear hK K
              try simp only [Act.put, List.setIfInBounds_toArray, List.set_cons_zero, List.set_cons_succ]
              refine wpAnyH_take (i := 13) (oi := ⟨some 153, _, _, _, _, _⟩) (v := .int .i64 n) rfl (by kernel_rfl) (by kernel_rfl) (by kernel_rfl) (fun _ _ _ h => h) (Or.inl ⟨by rfl, ?_⟩) hHeld ?_
              · intro w' hSw
                clear hSw
                go_simp
                try with_reducible rfl
              simp only [Act.put, List.setIfInBounds_toArray, List.set_cons_zero, List.set_cons_succ]
              refine wpAnyH_take (i := 15) (oi := ⟨some 155, _, _, _, _, _⟩) (v := ?_) rfl (by kernel_rfl) (by kernel_rfl) (by kernel_rfl) (fun _ _ _ h => h) (Or.inl ⟨by rfl, ?_⟩) hHeld ?_
              rotate_left
              · intro w' hSw
                clear hSw
                go_simp
                try with_reducible rfl
              simp only [Act.put, List.setIfInBounds_toArray, List.set_cons_zero, List.set_cons_succ]
              refine wpAnyH_take (i := 16) (oi := ⟨some 156, _, _, _, _, _⟩) (v := .bool false) rfl (by kernel_rfl) (by kernel_rfl) (by kernel_rfl) (fun _ _ _ h => h) (Or.inl ⟨by rfl, fun _ _ => rfl⟩) hHeld ?_
              simp only [Act.put, List.setIfInBounds_toArray, List.set_cons_zero, List.set_cons_succ]
              refine wpAnyH_take (i := 17) (oi := ⟨some 157, _, _, _, _, _⟩) (v := .bool false) rfl (by kernel_rfl) (by kernel_rfl) (by kernel_rfl) (fun _ _ _ h => h) (Or.inl ⟨by rfl, fun _ _ => rfl⟩) hHeld ?_
              simp only [Act.put, List.setIfInBounds_toArray, List.set_cons_zero, List.set_cons_succ]
              refine wpAnyH_take (i := 18) (oi := ⟨some 158, _, _, _, _, _⟩) (v := .agg (pgC (lowPg P h))) rfl (by kernel_rfl) (by kernel_rfl) (by kernel_rfl) (fun _ _ _ h => h) (yieldsIf_load_mid (by rfl) _ _ rfl b16 0 rfl (pgC (lowPg P h)).toList _ (fun _ h => range_of0 h.1) hut.out rfl hr16.out) hHeld ?_
              simp only [Act.put, List.setIfInBounds_toArray, List.set_cons_zero, List.set_cons_succ]
              refine wpAnyH_take (i := 20) (oi := ⟨some 160, _, _, _, _, _⟩) (v := .agg (pgC HI)) rfl (by kernel_rfl) (by kernel_rfl) (by kernel_rfl) (fun _ _ _ h => h) (yieldsIf_load_mid (by rfl) _ _ rfl (b16 + 1) 0 rfl (pgC HI).toList _ (fun _ h => range_of0 h.2) hut.out rfl hr17.out) hHeld ?_
              simp only [Act.put, List.setIfInBounds_toArray, List.set_cons_zero, List.set_cons_succ]
              refine wpAnyH_ready (rs := [19]) (by kernel_rfl) (by simp) ?_
              refine AllReadyH.cons (o := ⟨some 159, _, _, _, _, _⟩) rfl (fun K hK => ?_) AllReadyH.nil
              go_simp
              go_at_call 14
              refine (HNl.out _).mono ?_
              rintro e' u7 ⟨rfl, hb⟩
              have HBu7 := Lib.hid (bT HBu6.out hb)
              have HQu7 := Lib.hid (hBs hb HQu6.out)
              have hSu7 := And.intro (hBs hb hHeld.1) (hBs hb hHeld.2)
              clear hb hHeld HBu6 HQu6
              go_wp2_with fail
              refine hK.out _ _ hSu7 (fun hHeld => ?_)
              clear hK K
              try simp only [Act.put, List.setIfInBounds_toArray, List.set_cons_zero, List.set_cons_succ]
              refine wpAnyH_ready (rs := [21]) (by kernel_rfl) (by simp) ?_
              refine AllReadyH.cons (o := ⟨some 161, _, _, _, _, _⟩) rfl (fun K hK => ?_) AllReadyH.nil
              go_simp
              go_at_call 14
              refine (HNh.out _).mono ?_
              rintro e' u8 ⟨rfl, hb⟩
              have HBu8 := Lib.hid (bT HBu7.out hb)
              have HQu8 := Lib.hid (hBs hb HQu7.out)
              have hSu8 := And.intro (hBs hb hHeld.1) (hBs hb hHeld.2)
              clear hb hHeld HBu7 HQu7
              go_wp2_with fail
              refine hK.out _ _ hSu8 (fun hHeld => ?_)
              clear hK K
              try simp only [Act.put, List.setIfInBounds_toArray, List.set_cons_zero, List.set_cons_succ]
              refine wpAnyH_take (i := 22) (oi := ⟨some 162, _, _, _, _, _⟩) (v := .bool false) rfl (by kernel_rfl) (by kernel_rfl) (by kernel_rfl) (fun _ _ _ h => h) (Or.inl ⟨by rfl, ?_⟩) hHeld ?_
              · intro w' hSw
                clear hSw
                go_simp
                try with_reducible rfl
              simp only [Act.put, List.setIfInBounds_toArray, List.set_cons_zero, List.set_cons_succ]
              refine wpAnyH_take (i := 23) (oi := ⟨some 163, _, _, _, _, _⟩) (v := .bool false) rfl (by kernel_rfl) (by kernel_rfl) (by kernel_rfl) (fun _ _ _ h => h) (Or.inl ⟨by rfl, fun _ _ => rfl⟩) hHeld ?_
              simp only [Act.put, List.setIfInBounds_toArray, List.set_cons_zero, List.set_cons_succ]
              refine wpAnyH_done (by kernel_rfl) ?_ _
              refine ‹∀ (a : Act) (w : World), Code.wp Try.prog _ _ a w → _› _ _ ?_
              have H16 := Lib.hid hHeld.1
              have H17 := Lib.hid hHeld.2
              clear HCl HCh HNh hHeld hr16 hr17 wr1
              go_wp2_with fail
              clear hf hR hSu3 hSu4 hSu5 hSu6 hSu7 hSu8 hlt wr2
              go_loopw [20] (fun s wr => ∃ (k : Nat), k ≤ n ∧ s = .int .i64 k ∧ Hid (wr.heap[b3]? = some (.cells (pgC P) 26 (0, 0))) ∧ Hid (wr.heap[b16]? = some (.cells (pgC (lowPg P h)) 26 (0, 0))) ∧ Hid (wr.heap[b16 + 1]? = some (.cells (pgC HI) 26 (0, 0))) ∧ Hid (Below w.heap.size w wr)) (fun s _ => 6 - (intOf s).toNat)
              case atStart => exact ⟨0, by omega, rfl, HQu8, H16, H17, HBu8⟩
              case round =>
                clear HQu8 H16 H17 HBu8
                obtain ⟨k, hkn, rfl, HQ, H16, H17, HB⟩ := hrel
                by_cases hk6 : k < n
                rotate_left
                · have hk' : (n : Int) ≤ k := by omega
                  go_wp2_with fail
                  go_ret
                  exact ⟨rfl, HB.out⟩
                have hk' : (k : Int) < n := by omega
                have hk5 : (k : Int) < 6 := by omega
                have hmin : min (k : Int) 5 = k := by omega
                obtain ⟨c0, c1⟩ := pg_at HQ.out k (by omega)
                obtain ⟨x, ex⟩ : ∃ x, P.st k = x := ⟨_, rfl⟩
                obtain ⟨y, ey⟩ : ∃ y, P.dt k = y := ⟨_, rfl⟩
                have hy : y.size ≤ maxLen := ey ▸ hd k
                rw [ex] at c0
                rw [ey] at c1
                have HK := Lib.hid (fun w => nd_key x y hy w)
                unfold cellV at HK
                dsimp only at HK
                obtain ⟨own, rest, ok, ek⟩ : ∃ own rest ok, keyP x y = (own, rest, ok) := ⟨_, _, _, rfl⟩
                rw [ek] at HK
                dsimp only at HK
                have hsl := sep_lt hok.out hn.out hhn k hk6
                rw [hsep.out, show keyAt P k = own by unfold keyAt; rw [ex, ey, ek]] at hsl
                replace ex := Lib.hid ex
                replace ey := Lib.hid ey
                replace ek := Lib.hid ek
                replace hsl := Lib.hid hsl
                go_wp2_with fail
                refine (HK.out _).mono ?_
                rintro e' v1 ⟨rfl, hb⟩
                have HQ1 := Lib.hid (hBs hb HQ.out)
                have H161 := Lib.hid (hBs hb H16.out)
                have H171 := Lib.hid (hBs hb H17.out)
                have HB1 := Lib.hid (bT HB.out hb)
                clear hb HQ H16 H17 HB c0 c1
                go_wp2_with (refine wpList_load_row rfl 26 _ rfl _ rfl 26 _ _ _ H161.out Try.underlying26 rfl (by kernel_rfl) ?_)
                refine (HNl.out _).mono ?_
                rintro e' v2 ⟨rfl, hb⟩
                have HQ2 := Lib.hid (hBs hb HQ1.out)
                have H162 := Lib.hid (hBs hb H161.out)
                have H172 := Lib.hid (hBs hb H171.out)
                have HB2 := Lib.hid (bT HB1.out hb)
                clear hb HQ1 H161 H171 HB1
                have l16 := block_lt H162.out
                have l17a := block_lt H172.out
                obtain ⟨d0, d1⟩ := pg_at H162.out k (by omega)
                by_cases hkh : k < h
                · have hs : Op.bytesLess own.toList sep.toList = true := by rw [hsl.out]; simp [hkh]
                  have hkh' : (k : Int) < h := by omega
                  rw [show (lowPg P h).st k = x by rw [← ex.out]; simp [lowPg, hkh]] at d0
                  rw [show (lowPg P h).dt k = y by rw [← ey.out]; simp [lowPg, hkh]] at d1
                  have H16a : Hid ((v2.alloc (.cells #[.int .i64 x, .string y] 23)).heap[b16]? = some (.cells (pgC (lowPg P h)) 26 (0, 0))) := hO H162.out
                  go_wp2_with (refine wpList_load_row rfl 26 _ rfl _ rfl 26 _ _ _ H16a.out Try.underlying26 rfl (by kernel_rfl) ?_)
                  refine (HNl.out _).mono ?_
                  rintro e' v3 ⟨rfl, hb⟩
                  have HQ3 := Lib.hid (hBs hb (hO HQ2.out))
                  have H163 := Lib.hid (hBs hb H16a.out)
                  have H173 := Lib.hid (hBs hb (hO H172.out))
                  have H243 := Lib.hid (hBs hb (hN (w := v2) (o := .cells #[.int .i64 x, .string y] 23) rfl))
                  have HB3 := Lib.hid (bT (bA HB2.out) hb)
                  have hs3 : b3 < v2.heap.size := block_lt HQ2.out
                  obtain ⟨b24, hb24⟩ : ∃ b, v2.heap.size = b := ⟨_, rfl⟩
                  rw [hb24] at H243 hs3 l16 l17a ⊢
                  have lw : w.heap.size ≤ b24 := hb24 ▸ HB2.out.size
                  clear hb HQ2 H162 H172 HB2 H16a d0 d1 hb24
                  have q0 := cell_at H243.out 0
                  have q1 := cell_at H243.out 1
                  go_wp2_with fail
                  refine (HK.out _).mono ?_
                  rintro e' v5 ⟨rfl, hb⟩
                  have HQ5 := Lib.hid (hBs hb HQ3.out)
                  have H165 := Lib.hid (hBs hb H163.out)
                  have H175 := Lib.hid (hBs hb H173.out)
                  have H245 := Lib.hid (hBs hb H243.out)
                  have HB5 := Lib.hid (bT HB3.out hb)
                  clear hb HQ3 H163 H173 H243 HB3 q0 q1
                  go_wp2_with fail
                  have hS0 : v5.drew.heap[b24]? = some (.cells #[.int .i64 x, .string y] 23 (0, 0)) ∧ v5.drew.heap[b3]? = some (.cells (pgC P) 26 (0, 0)) := ⟨hDr H245.out, hDr HQ5.out⟩
                  refine wp_region_held_drew (S := fun w' => w'.heap[b24]? = some (.cells #[.int .i64 x, .string y] 23 (0, 0)) ∧ w'.heap[b3]? = some (.cells (pgC P) 26 (0, 0))) (by kernel_rfl) hS0 (fun hHeld => ?_)
                  have HQ9 := Lib.hid (hDr HQ5.out)
                  have H169 := Lib.hid (hDr H165.out)
                  have H179 := Lib.hid (hDr H175.out)
                  have HB9 := Lib.hid (bD HB5.out)
                  clear hS0 HQ5 H165 H175 H245 HB5
                  refine wpAnyH_take (i := 0) (oi := ⟨some 208, _, _, _, _, _⟩) (v := .string rest) rfl (by kernel_rfl) (by kernel_rfl) (by kernel_rfl) (fun _ _ _ h => h) (Or.inl ⟨by rfl, fun _ _ => rfl⟩) hHeld ?_
                  simp only [Act.put, List.setIfInBounds_toArray, List.set_cons_zero, List.set_cons_succ]
                  refine wpAnyH_take (i := 1) (oi := ⟨some 209, _, _, _, _, _⟩) (v := .string rest) rfl (by kernel_rfl) (by kernel_rfl) (by kernel_rfl) (fun _ _ _ h => h) (Or.inl ⟨by rfl, fun _ _ => rfl⟩) hHeld ?_
                  simp only [Act.put, List.setIfInBounds_toArray, List.set_cons_zero, List.set_cons_succ]
                  refine wpAnyH_take (i := 2) (oi := ⟨some 210, _, _, _, _, _⟩) (v := ?_) rfl (by kernel_rfl) (by kernel_rfl) (by kernel_rfl) (fun _ _ _ h => h) (Or.inl ⟨by rfl, ?_⟩) hHeld ?_
                  rotate_left
                  · intro w' hSw
                    clear hSw
                    go_simp
                    try with_reducible rfl
                  simp only [Act.put, List.setIfInBounds_toArray, List.set_cons_zero, List.set_cons_succ]
                  refine wpAnyH_take (i := 3) (oi := ⟨some 211, _, _, _, _, _⟩) (v := .bool false) rfl (by kernel_rfl) (by kernel_rfl) (by kernel_rfl) (fun _ _ _ h => h) (Or.inl ⟨by rfl, fun _ _ => rfl⟩) hHeld ?_
                  simp only [Act.put, List.setIfInBounds_toArray, List.set_cons_zero, List.set_cons_succ]
                  refine wpAnyH_take (i := 4) (oi := ⟨some 212, _, _, _, _, _⟩) (v := ?_) rfl (by kernel_rfl) (by kernel_rfl) (by kernel_rfl) (fun _ _ _ h => h) (Or.inl ⟨by rfl, ?_⟩) hHeld ?_
                  rotate_left
                  · intro w' hSw
                    clear hSw
                    go_simp
                    try with_reducible rfl
                  simp only [Act.put, List.setIfInBounds_toArray, List.set_cons_zero, List.set_cons_succ]
                  refine wpAnyH_take (i := 5) (oi := ⟨some 213, _, _, _, _, _⟩) (v := .int .i64 x) rfl (by kernel_rfl) (by kernel_rfl) (by kernel_rfl) (fun _ _ _ h => h) (Or.inl ⟨by rfl, ?_⟩) hHeld ?_
                  · intro w' hSw
                    have k0 := cell_at hSw.1 0
                    clear hSw
                    go_simp
                    try with_reducible rfl
                  simp only [Act.put, List.setIfInBounds_toArray, List.set_cons_zero, List.set_cons_succ]
                  refine wpAnyH_take (i := 6) (oi := ⟨some 214, _, _, _, _, _⟩) (v := .int .i64 k) rfl (by kernel_rfl) (by kernel_rfl) (by kernel_rfl) (fun _ _ _ h => h) (Or.inl ⟨by rfl, fun _ _ => rfl⟩) hHeld ?_
                  simp only [Act.put, List.setIfInBounds_toArray, List.set_cons_zero, List.set_cons_succ]
                  refine wpAnyH_take (i := 7) (oi := ⟨some 215, _, _, _, _, _⟩) (v := ?_) rfl (by kernel_rfl) (by kernel_rfl) (by kernel_rfl) (fun _ _ _ h => h) (Or.inl ⟨by rfl, ?_⟩) hHeld ?_
                  rotate_left
                  · intro w' hSw
                    clear hSw
                    go_simp
                    try with_reducible rfl
                  simp only [Act.put, List.setIfInBounds_toArray, List.set_cons_zero, List.set_cons_succ]
                  refine wpAnyH_take (i := 8) (oi := ⟨some 216, _, _, _, _, _⟩) (v := ?_) rfl (by kernel_rfl) (by kernel_rfl) (by kernel_rfl) (fun _ _ _ h => h) (Or.inl ⟨by rfl, ?_⟩) hHeld ?_
                  rotate_left
                  · intro w' hSw
                    clear hSw
                    go_simp
                    try with_reducible rfl
                  simp only [Act.put, List.setIfInBounds_toArray, List.set_cons_zero, List.set_cons_succ]
                  refine wpAnyH_take (i := 9) (oi := ⟨some 217, _, _, _, _, _⟩) (v := ?_) rfl (by kernel_rfl) (by kernel_rfl) (by kernel_rfl) (fun _ _ _ h => h) (Or.inl ⟨by rfl, ?_⟩) hHeld ?_
                  rotate_left
                  · intro w' hSw
                    clear hSw
                    go_simp
                    try with_reducible rfl
                  simp only [Act.put, List.setIfInBounds_toArray, List.set_cons_zero, List.set_cons_succ]
                  refine wpAnyH_take (i := 10) (oi := ⟨some 218, _, _, _, _, _⟩) (v := .int .i64 x) rfl (by kernel_rfl) (by kernel_rfl) (by kernel_rfl) (fun _ _ _ h => h) (Or.inl ⟨by rfl, ?_⟩) hHeld ?_
                  · intro w' hSw
                    have k0 := (pg_at hSw.2 k (by omega)).1
                    rw [ex.out] at k0
                    clear hSw
                    go_simp
                    try with_reducible rfl
                  simp only [Act.put, List.setIfInBounds_toArray, List.set_cons_zero, List.set_cons_succ]
                  refine wpAnyH_take (i := 11) (oi := ⟨some 219, _, _, _, _, _⟩) (v := ?_) rfl (by kernel_rfl) (by kernel_rfl) (by kernel_rfl) (fun _ _ _ h => h) (Or.inl ⟨by rfl, ?_⟩) hHeld ?_
                  rotate_left
                  · intro w' hSw
                    clear hSw
                    go_simp
                    try with_reducible rfl
                  simp only [Act.put, List.setIfInBounds_toArray, List.set_cons_zero, List.set_cons_succ]
                  refine wpAnyH_take (i := 12) (oi := ⟨some 220, _, _, _, _, _⟩) (v := .bool false) rfl (by kernel_rfl) (by kernel_rfl) (by kernel_rfl) (fun _ _ _ h => h) (Or.inl ⟨by rfl, fun _ _ => rfl⟩) hHeld ?_
                  simp only [Act.put, List.setIfInBounds_toArray, List.set_cons_zero, List.set_cons_succ]
                  refine wpAnyH_done (by kernel_rfl) ?_ _
                  refine ‹∀ (a : Act) (w : World), Code.wp Try.prog _ _ a w → _› _ _ ?_
                  clear hHeld
                  go_wp2_with fail
                  go_roundw
                  case rel => exact ⟨k + 1, by omega, rfl, HQ9, H169, H179, HB9⟩
                  case measure => simp [intOf]; omega
                · have hs : Op.bytesLess own.toList sep.toList = false := by rw [hsl.out]; simp [hkh]
                  have hkh' : (h : Int) ≤ k := by omega
                  generalize (lowPg P h).st k = lx at d0
                  generalize (lowPg P h).dt k = ly at d1
                  have H16a : Hid ((v2.alloc (.cells #[.int .i64 lx, .string ly] 23)).heap[b16]? = some (.cells (pgC (lowPg P h)) 26 (0, 0))) := hO H162.out
                  go_wp2_with (refine wpList_load_row rfl 26 _ rfl _ rfl 26 _ _ _ H16a.out Try.underlying26 rfl (by kernel_rfl) ?_)
                  refine (HNl.out _).mono ?_
                  rintro e' v3 ⟨rfl, hb⟩
                  have HQ3 := Lib.hid (hBs hb (hO HQ2.out))
                  have H163 := Lib.hid (hBs hb H16a.out)
                  have H173 := Lib.hid (hBs hb (hO H172.out))
                  have H243 := Lib.hid (hBs hb (hN (w := v2) (o := .cells #[.int .i64 lx, .string ly] 23) rfl))
                  have HB3 := Lib.hid (bT (bA HB2.out) hb)
                  have hs3 : b3 < v2.heap.size := block_lt HQ2.out
                  obtain ⟨b24, hb24⟩ : ∃ b, v2.heap.size = b := ⟨_, rfl⟩
                  rw [hb24] at H243 hs3 l16 l17a ⊢
                  have lw : w.heap.size ≤ b24 := hb24 ▸ HB2.out.size
                  clear hb HQ2 H162 H172 HB2 H16a d0 d1 hb24
                  go_wp2_with (refine wpList_load_row rfl 26 _ rfl _ rfl 26 _ _ _ H163.out Try.underlying26 rfl (by kernel_rfl) ?_)
                  refine (HNl.out _).mono ?_
                  rintro e' v4 ⟨rfl, hb⟩
                  have HQ4 := Lib.hid (hBs hb HQ3.out)
                  have H164 := Lib.hid (hBs hb H163.out)
                  have H174 := Lib.hid (hBs hb H173.out)
                  have H244 := Lib.hid (hBs hb H243.out)
                  have HB4 := Lib.hid (bT HB3.out hb)
                  clear hb HQ3 H163 H173 H243 HB3
                  obtain ⟨t1, t2, _⟩ := hi_at hok.out hn.out hh1 hhn (k - h) (by omega)
                  rw [hHI.out, show h + (k - h) = k by omega, ex.out] at t1
                  rw [hHI.out, show h + (k - h) = k by omega, ex.out, ey.out, t1, ek.out] at t2
                  obtain ⟨z, ez⟩ : ∃ z, HI.dt (k - h) = z := ⟨_, rfl⟩
                  have hz : z.size ≤ maxLen := by rw [← ez, ← hHI.out]; exact hi_size hd h n (k - h)
                  rw [ez] at t2
                  obtain ⟨d0, d1⟩ := pg_at H174.out (k - h) (by omega)
                  rw [t1] at d0
                  rw [ez] at d1
                  have HK2 := Lib.hid (fun w => nd_key x z hz w)
                  unfold cellV at HK2
                  dsimp only at HK2
                  rw [t2] at HK2
                  replace t1 := Lib.hid t1
                  replace t2 := Lib.hid t2
                  replace ez := Lib.hid ez
                  generalize (keyP x z).1 = own2 at HK2
                  dsimp only at HK2
                  have q0 := cell_at H244.out 0
                  have q1 := cell_at H244.out 1
                  have f0 := free_at H244.out 0
                  have f1 := free_at H244.out 1
                  have wr3 : IntKind.i64.wrap ((k : Int) - (h : Int)) = (k : Int) - (h : Int) := by rw [IntKind.wrap_i64]; omega
                  have et : ((k : Int) - (h : Int)).toNat = k - h := by omega
                  have hb1 : (0 : Int) ≤ (k : Int) - (h : Int) := by omega
                  have hb2 : (k : Int) - (h : Int) < 6 := by omega
                  have KK : Hid (Keeps (· = b24) v4 ((v4.setCell ⟨b24, 0, none⟩ (.int .i64 x)).setCell ⟨b24, 1, none⟩ (.string z))) := ((Keeps.refl (· = b24) v4).setCell _ _ (.inl rfl)).setCell _ _ (.inl rfl)
                  have H246 : Hid (((v4.setCell ⟨b24, 0, none⟩ (.int .i64 x)).setCell ⟨b24, 1, none⟩ (.string z)).heap[b24]? = some (.cells #[.int .i64 x, .string z] 23 (0, 0))) := heap_set (heap_set H244.out 0 (.int .i64 x)) 1 (.string z)
                  have l17 := block_lt H174.out
                  have HQ6 := Lib.hid (KK.out.keep HQ4.out (by omega))
                  have H166 := Lib.hid (KK.out.keep H164.out (by omega))
                  have H176 := Lib.hid (KK.out.keep H174.out (by omega))
                  have HB6 := Lib.hid (bK HB4.out KK.out (fun j e => by omega))
                  go_wp2_with fail
                  refine (HK2.out _).mono ?_
                  rintro e' v5 ⟨rfl, hb⟩
                  have HQ5 := Lib.hid (hBs hb HQ6.out)
                  have H165 := Lib.hid (hBs hb H166.out)
                  have H175 := Lib.hid (hBs hb H176.out)
                  have H245 := Lib.hid (hBs hb H246.out)
                  have HB5 := Lib.hid (bT HB6.out hb)
                  clear hb HQ6 H166 H176 H246 HB6 KK HQ4 H164 H174 H244 HB4 q0 q1 f0 f1 d0 d1
                  go_wp2_with fail
                  have hS0 : v5.drew.heap[b24]? = some (.cells #[.int .i64 x, .string z] 23 (0, 0)) ∧ v5.drew.heap[b3]? = some (.cells (pgC P) 26 (0, 0)) := ⟨hDr H245.out, hDr HQ5.out⟩
                  refine wp_region_held_drew (S := fun w' => w'.heap[b24]? = some (.cells #[.int .i64 x, .string z] 23 (0, 0)) ∧ w'.heap[b3]? = some (.cells (pgC P) 26 (0, 0))) (by kernel_rfl) hS0 (fun hHeld => ?_)
                  have HQ9 := Lib.hid (hDr HQ5.out)
                  have H169 := Lib.hid (hDr H165.out)
                  have H179 := Lib.hid (hDr H175.out)
                  have HB9 := Lib.hid (bD HB5.out)
                  clear hS0 HQ5 H165 H175 H245 HB5
                  refine wpAnyH_take (i := 0) (oi := ⟨some 208, _, _, _, _, _⟩) (v := .string rest) rfl (by kernel_rfl) (by kernel_rfl) (by kernel_rfl) (fun _ _ _ h => h) (Or.inl ⟨by rfl, fun _ _ => rfl⟩) hHeld ?_
                  simp only [Act.put, List.setIfInBounds_toArray, List.set_cons_zero, List.set_cons_succ]
                  refine wpAnyH_take (i := 1) (oi := ⟨some 209, _, _, _, _, _⟩) (v := .string rest) rfl (by kernel_rfl) (by kernel_rfl) (by kernel_rfl) (fun _ _ _ h => h) (Or.inl ⟨by rfl, fun _ _ => rfl⟩) hHeld ?_
                  simp only [Act.put, List.setIfInBounds_toArray, List.set_cons_zero, List.set_cons_succ]
                  refine wpAnyH_take (i := 2) (oi := ⟨some 210, _, _, _, _, _⟩) (v := ?_) rfl (by kernel_rfl) (by kernel_rfl) (by kernel_rfl) (fun _ _ _ h => h) (Or.inl ⟨by rfl, ?_⟩) hHeld ?_
                  rotate_left
                  · intro w' hSw
                    clear hSw
                    go_simp
                    try with_reducible rfl
                  simp only [Act.put, List.setIfInBounds_toArray, List.set_cons_zero, List.set_cons_succ]
                  refine wpAnyH_take (i := 3) (oi := ⟨some 211, _, _, _, _, _⟩) (v := .bool false) rfl (by kernel_rfl) (by kernel_rfl) (by kernel_rfl) (fun _ _ _ h => h) (Or.inl ⟨by rfl, fun _ _ => rfl⟩) hHeld ?_
                  simp only [Act.put, List.setIfInBounds_toArray, List.set_cons_zero, List.set_cons_succ]
                  refine wpAnyH_take (i := 4) (oi := ⟨some 212, _, _, _, _, _⟩) (v := ?_) rfl (by kernel_rfl) (by kernel_rfl) (by kernel_rfl) (fun _ _ _ h => h) (Or.inl ⟨by rfl, ?_⟩) hHeld ?_
                  rotate_left
                  · intro w' hSw
                    clear hSw
                    go_simp
                    try with_reducible rfl
                  simp only [Act.put, List.setIfInBounds_toArray, List.set_cons_zero, List.set_cons_succ]
                  refine wpAnyH_take (i := 5) (oi := ⟨some 213, _, _, _, _, _⟩) (v := .int .i64 x) rfl (by kernel_rfl) (by kernel_rfl) (by kernel_rfl) (fun _ _ _ h => h) (Or.inl ⟨by rfl, ?_⟩) hHeld ?_
                  · intro w' hSw
                    have k0 := cell_at hSw.1 0
                    clear hSw
                    go_simp
                    try with_reducible rfl
                  simp only [Act.put, List.setIfInBounds_toArray, List.set_cons_zero, List.set_cons_succ]
                  refine wpAnyH_take (i := 6) (oi := ⟨some 214, _, _, _, _, _⟩) (v := .int .i64 k) rfl (by kernel_rfl) (by kernel_rfl) (by kernel_rfl) (fun _ _ _ h => h) (Or.inl ⟨by rfl, fun _ _ => rfl⟩) hHeld ?_
                  simp only [Act.put, List.setIfInBounds_toArray, List.set_cons_zero, List.set_cons_succ]
                  refine wpAnyH_take (i := 7) (oi := ⟨some 215, _, _, _, _, _⟩) (v := ?_) rfl (by kernel_rfl) (by kernel_rfl) (by kernel_rfl) (fun _ _ _ h => h) (Or.inl ⟨by rfl, ?_⟩) hHeld ?_
                  rotate_left
                  · intro w' hSw
                    clear hSw
                    go_simp
                    try with_reducible rfl
                  simp only [Act.put, List.setIfInBounds_toArray, List.set_cons_zero, List.set_cons_succ]
                  refine wpAnyH_take (i := 8) (oi := ⟨some 216, _, _, _, _, _⟩) (v := ?_) rfl (by kernel_rfl) (by kernel_rfl) (by kernel_rfl) (fun _ _ _ h => h) (Or.inl ⟨by rfl, ?_⟩) hHeld ?_
                  rotate_left
                  · intro w' hSw
                    clear hSw
                    go_simp
                    try with_reducible rfl
                  simp only [Act.put, List.setIfInBounds_toArray, List.set_cons_zero, List.set_cons_succ]
                  refine wpAnyH_take (i := 9) (oi := ⟨some 217, _, _, _, _, _⟩) (v := ?_) rfl (by kernel_rfl) (by kernel_rfl) (by kernel_rfl) (fun _ _ _ h => h) (Or.inl ⟨by rfl, ?_⟩) hHeld ?_
                  rotate_left
                  · intro w' hSw
                    clear hSw
                    go_simp
                    try with_reducible rfl
                  simp only [Act.put, List.setIfInBounds_toArray, List.set_cons_zero, List.set_cons_succ]
                  refine wpAnyH_take (i := 10) (oi := ⟨some 218, _, _, _, _, _⟩) (v := .int .i64 x) rfl (by kernel_rfl) (by kernel_rfl) (by kernel_rfl) (fun _ _ _ h => h) (Or.inl ⟨by rfl, ?_⟩) hHeld ?_
                  · intro w' hSw
                    have k0 := (pg_at hSw.2 k (by omega)).1
                    rw [ex.out] at k0
                    clear hSw
                    go_simp
                    try with_reducible rfl
                  simp only [Act.put, List.setIfInBounds_toArray, List.set_cons_zero, List.set_cons_succ]
                  refine wpAnyH_take (i := 11) (oi := ⟨some 219, _, _, _, _, _⟩) (v := ?_) rfl (by kernel_rfl) (by kernel_rfl) (by kernel_rfl) (fun _ _ _ h => h) (Or.inl ⟨by rfl, ?_⟩) hHeld ?_
                  rotate_left
                  · intro w' hSw
                    clear hSw
                    go_simp
                    try with_reducible rfl
                  simp only [Act.put, List.setIfInBounds_toArray, List.set_cons_zero, List.set_cons_succ]
                  refine wpAnyH_take (i := 12) (oi := ⟨some 220, _, _, _, _, _⟩) (v := .bool false) rfl (by kernel_rfl) (by kernel_rfl) (by kernel_rfl) (fun _ _ _ h => h) (Or.inl ⟨by rfl, fun _ _ => rfl⟩) hHeld ?_
                  simp only [Act.put, List.setIfInBounds_toArray, List.set_cons_zero, List.set_cons_succ]
                  refine wpAnyH_done (by kernel_rfl) ?_ _
                  refine ‹∀ (a : Act) (w : World), Code.wp Try.prog _ _ a w → _› _ _ ?_
                  clear hHeld
                  go_wp2_with fail
                  go_roundw
                  case rel => exact ⟨k + 1, by omega, rfl, HQ9, H169, H179, HB9⟩
                  case measure => simp [intOf]; omega

end Go.Proofs.Ytgealllnchpekaa
