import Derived.Test.YtdkilpjebmhkkaaDoorMaj
import Derived.Maps.OwnOps
set_option linter.unusedSimpArgs false
set_option linter.unusedVariables false
namespace Go.Proofs.YtdkilpjebmhkkaaDoor
open Go.RowKit

theorem secAt_size (G : Lg) (k : Nat) : (G.secAt k).size ≤ 118 := by
  unfold Lg.secAt secS
  rw [ByteArray.size_append, ByteArray.size_append, ByteArray.size_append, leS_size, leS_size, zeros_size, ByteArray.size_extract]
  omega
/-- what the ring's places should hold: the first j sectors of the stream that the log has, from number b on -/
def Lg.keptP (G : Lg) (b : Nat) : Nat → Int → Option ByteArray
  | 0 => fun _ => none
  | j + 1 => fun i => if i = ((b + j : Nat) : Int) % G.n then some (G.secAt (b + j)) else Lg.keptP G b j i
/-- the ring's first i places are put right -/
def Lg.wp (G : Lg) (D : Dev) (M : Int → Option ByteArray) : Nat → Dev × Int
  | 0 => (D, 0)
  | i + 1 => if (Lg.wp G D M i).2 ≠ 0 then Lg.wp G D M i
    else if ((Lg.wp G D M i).1.read (G.first + (i : Nat))).2 ≠ 0 then ((Lg.wp G D M i).1, ((Lg.wp G D M i).1.read (G.first + (i : Nat))).2)
    else if ((Lg.wp G D M i).1.read (G.first + (i : Nat))).1 = (M (i : Nat)).getD (zeros 64) then Lg.wp G D M i
    else (Lg.wp G D M i).1.write (G.first + (i : Nat)) ((M (i : Nat)).getD (zeros 64))
def Lg.wiped (G : Lg) (D : Dev) (M : Int → Option ByteArray) : Dev × Int := if (G.wp D M G.n.toNat).2 ≠ 0 then G.wp D M G.n.toNat else (G.wp D M G.n.toNat).1.barrier
theorem bytes_toList {a b : ByteArray} (h : a.toList = b.toList) : a = b := by
  rw [ByteArray.toList_eq, ByteArray.toList_eq] at h
  exact ByteArray.ext (Array.toList_inj.1 h)
theorem keptP_size (G : Lg) (b : Nat) : ∀ j k, Option.elim (G.keptP b j k) True (fun s => s.size ≤ 118)
  | 0, _ => trivial
  | j + 1, k => by
    unfold Lg.keptP
    by_cases h : k = ((b + j : Nat) : Int) % G.n
    · rw [if_pos h]; exact secAt_size G _
    · rw [if_neg h]; exact keptP_size G b j k
theorem wp_stop {G : Lg} {D : Dev} {M : Int → Option ByteArray} {k : Nat} (h : (G.wp D M k).2 ≠ 0) : ∀ j, k ≤ j → G.wp D M j = G.wp D M k := by
  intro j hj
  obtain ⟨d, rfl⟩ : ∃ d, j = k + d := ⟨j - k, by omega⟩
  clear hj
  induction d with
  | zero => rfl
  | succ d ih =>
    show (if (Lg.wp G D M (k + d)).2 ≠ 0 then Lg.wp G D M (k + d) else _) = _
    rw [ih, if_pos h]
theorem wp_soft {G : Lg} {D : Dev} {M : Int → Option ByteArray} : ∀ k, (G.wp D M k).1.soft.length ≤ D.soft.length + k
  | 0 => Nat.le_refl _
  | k + 1 => by
    have ih := wp_soft (G := G) (D := D) (M := M) k
    rw [Lg.wp]
    repeat' split
    all_goals (try (have := write_soft (Lg.wp G D M k).1 (G.first + ((k : Nat) : Int)) ((M (k : Nat)).getD (zeros 64))))
    all_goals (try dsimp only at *)
    all_goals omega
set_option maxRecDepth 100000 in
set_option maxHeartbeats 400000 in
theorem wal_wipe (p dp : Nat) (G : Lg) (S Sd : List Nat) (D : Dev) (bb cnt : Nat) (hbb : G.base = 54 * bb) (hcnt : ∀ k : Nat, k < cnt ↔ 54 * k < G.buf.size) (hsoft : D.soft.length ≤ 8000000000000)
    (w : World) (h : LogAt w p dp G S) (hd : DiskAt w dp D Sd) (hdis : ∀ k ∈ S, k ∉ Sd) :
    Calls Tryd.prog 40 #[.pointer (some ⟨p, 0, none⟩)] w fun e w' => e = .returned (.int .i64 (G.wiped D (G.keptP bb cnt)).2) ∧ ∃ Sd', LogAt w' p dp G S ∧ DiskAt w' dp (G.wiped D (G.keptP bb cnt)).1 Sd' ∧ Keeps (fun k => k ∈ Sd) w w' ∧ ∀ k ∈ Sd', k ∈ Sd ∨ w.heap.size ≤ k := by
  have hlow := Lib.hid (show ∀ k ∈ S, k < w.heap.size from fun k hk => h.lt k hk)
  have hdis := Lib.hid hdis
  have hmm := @run_makeMap Tryd.prog
  obtain ⟨hok, bv, lv, h1, h2, h3, hS, h6⟩ := h
  obtain ⟨a1, a2, a3, a4, a5, a6, a7, a8, a9, a10, a11, a12, a13, a14⟩ := id hok
  have hok := Lib.hid hok
  obtain ⟨av, cv, rfl⟩ := h2.form
  have HP := Lib.hid h1
  have HO := Lib.hid h2
  have HL := Lib.hid h3
  have HD := Lib.hid hd
  have hS := Lib.hid hS
  have h6 := Lib.hid h6
  have hcl : Hid (cnt ≤ 4097) := by
    show cnt ≤ 4097
    apply Classical.byContradiction
    intro hh
    obtain ⟨K, hK⟩ : ∃ K : Nat, K = 4097 := ⟨_, rfl⟩
    have h1 := (hcnt K).1 (by omega)
    omega
  have hcnt := Lib.hid hcnt
  replace hbb := Lib.hid hbb
  clear h1 h2 h3 hd
  go_enter Tryd.func40, Tryd.ntmps40
  go_wp2_with fail
  have HM1 := Lib.hid (KMap.made w)
  have HP1 : Hid ((w.alloc (.map #[] 0)).heap[p]? = _) := hO HP.out
  have HO1 : Hid (OwnS (w.alloc (.map #[] 0)) _ _ _ _ _) := HO.out.keep ((Keeps.refl (fun _ => False) w).alloc _) (fun _ _ h => h)
  have HL1 : Hid (OwnS (w.alloc (.map #[] 0)) _ _ _ _ _) := HL.out.keep ((Keeps.refl (fun _ => False) w).alloc _) (fun _ _ h => h)
  have HB1 : Hid (Below w.heap.size w (w.alloc (.map #[] 0))) := bA bR
  obtain ⟨b, hb⟩ : ∃ b, w.heap.size = b := ⟨_, rfl⟩
  have hbw : Hid (w.heap.size ≤ b) := Nat.le_of_eq hb
  have hbw2 : Hid (b ≤ w.heap.size) := Nat.le_of_eq hb.symm
  rw [hb] at HM1
  rw [show (Value.map (some w.heap.size)) = .map (some b) by rw [hb]]
  replace hb := Lib.hid hb
  clear HP HO HL
  go_loopw [4] (fun s wr => ∃ j A : Nat, j ≤ cnt ∧ A = 54 * j ∧ s = .int .i64 (A : Int) ∧ Hid (KMap wr b j (G.keptP bb j)) ∧ Hid (wr.heap[p]? = some (.cells (lgC dp G (.slice av G.buf.size cv) lv) 81 (0, 0))) ∧ Hid (OwnS wr 5 1 (.slice av G.buf.size cv) G.buf.size (Lib.strCells G.buf)) ∧ Hid (OwnS wr 70 2 lv G.list.length (recV G.list)) ∧ Hid (Below w.heap.size w wr)) (fun s _ => 54 * cnt - (intOf s).toNat)
  case atStart => exact ⟨0, 0, by omega, rfl, rfl, HM1, HP1, HO1, HL1, HB1⟩
  case round =>
    clear HM1 HP1 HO1 HL1 HB1
    obtain ⟨j, A, hj, hfj, rfl, HM, HP, HO, HL, HB⟩ := hrel
    have c7 : wr.cell? ⟨p, 7, none⟩ = some (.slice av G.buf.size cv) := cell_at HP.out 7
    by_cases hjc : j < cnt
    · have hA : A < G.buf.size := by have := (hcnt.out j).1 hjc; omega
      obtain ⟨g, c, cur, hv, _, _, hnc, _⟩ := HO.out.2.resolve_left (fun h => by omega)
      obtain ⟨rfl, rfl⟩ : av = some ⟨g, 0, none⟩ ∧ cv = c := by simpa using hv
      have hAI : (A : Int) < G.buf.size := by omega
      have hq1 : G.base.tdiv 54 = (bb : Int) := by rw [Int.tdiv_eq_ediv_of_nonneg a5]; have := hbb.out; omega
      have hq2 : (A : Int).tdiv 54 = (j : Int) := by rw [Int.tdiv_eq_ediv_of_nonneg (by omega)]; omega
      obtain ⟨I, hI⟩ : ∃ I : Nat, I = bb + j := ⟨_, rfl⟩
      have hIb : (I : Int) ≤ 21350398233464298 := by have := hcl.out; have := hbb.out; omega
      have hI3 : Hid (wrap64 ((bb : Int) + j) = (I : Int)) := by show _ = _; unfold wrap64; have := hcl.out; have := hbb.out; omega
      have hI4 : Hid (wrap64 (bb : Int) = bb) := by show _ = _; unfold wrap64; have := hcl.out; have := hbb.out; omega
      have hI5 : Hid (wrap64 (j : Int) = j) := by show _ = _; unfold wrap64; have := hcl.out; have := hbb.out; omega
      have c6 : wr.cell? ⟨p, 6, none⟩ = some (.int .i64 G.base) := cell_at HP.out 6
      have e3 : IntKind.i64.wrap ((A : Int) + 54) = (A : Int) + 54 := by rw [IntKind.wrap_i64]; omega
      have htm : (I : Int).tmod G.n = (I : Int) % G.n := Int.tmod_eq_emod_of_nonneg (by omega)
      have hm1 : 0 ≤ (I : Int) % G.n := Int.emod_nonneg _ (by omega)
      have hm2 : (I : Int) % G.n < G.n := Int.emod_lt_of_pos _ (by omega)
      obtain ⟨f, rfl⟩ : ∃ f : Nat, A = f := ⟨_, rfl⟩
      obtain ⟨t, ht⟩ : ∃ t : Nat, t = min (A + 54) G.buf.size := ⟨_, rfl⟩
      have hmn : min ((A : Int) + 54) (G.buf.size : Int) = t := by omega
      have hft' : A ≤ t := by omega
      have hts' : t ≤ G.buf.size := by omega
      have ht54 : t - A ≤ 54 := by omega
      have hft : (A : Int) ≤ t := by omega
      have htc : (t : Int) ≤ cv := by omega
      have ht0 : (0 : Int) ≤ t := by omega
      have hf0 : (0 : Int) ≤ A := by omega
      have hcf : ¬ cv = A := by omega
      have hse : Hid ((G.buf.extract A t).size = t - A) := by show _ = _; rw [ByteArray.size_extract]; omega
      have hsecAt : Hid (secS (I : Int) (G.buf.extract A t) = G.secAt I) := by
        show _ = _
        unfold Lg.secAt
        rw [show 54 * I - G.base.toNat = A by have := hbb.out; omega, show min (A + 54) G.buf.size = t by omega]
      have hkp : Hid (G.keptP bb (j + 1) = fun i => if i = (I : Int) % G.n then some (G.secAt I) else G.keptP bb j i) := by
        show _ = _
        rw [hI]; rfl
      replace a1 := Lib.hid a1
      replace a2 := Lib.hid a2
      replace a3 := Lib.hid a3
      replace a4 := Lib.hid a4
      replace a5 := Lib.hid a5
      replace a6 := Lib.hid a6
      replace a7 := Lib.hid a7
      replace a8 := Lib.hid a8
      replace a9 := Lib.hid a9
      replace a10 := Lib.hid a10
      replace hfj := Lib.hid hfj
      replace hI := Lib.hid hI
      replace hIb := Lib.hid hIb
      replace hsoft := Lib.hid hsoft
      replace hjc := Lib.hid hjc
      replace hj := Lib.hid hj
      clear ht a11 a12 a13 a14 hv hnc hmm
      go_wp2_with fail
      rw [hI4.out, hI5.out, hI3.out]
      have hn0 : ¬ G.n = 0 := by have := a1.out; omega
      have hS0 : FlS w p dp G g cv A (G.buf.extract A t) wr.drew := FlS.mk' (hDr HP.out) (HO.out.keep ((Keeps.refl (fun _ => False) _).drew) (fun _ _ h => h)) hft' hts'
      refine wp_region_held_drew (S := FlS w p dp G g cv A (G.buf.extract A t)) (by kernel_rfl) hS0 (fun hHeld => ?_)
      clear hS0
      refine wpAnyH_take (i := 0) (oi := ⟨some 31, _, _, _, _, _⟩) (v := ?_) rfl (by kernel_rfl) (by kernel_rfl) (by kernel_rfl) (fun _ _ _ h => h) (Or.inl ⟨by rfl, ?_⟩) hHeld ?_
      rotate_left
      · intro w' hSw
        obtain ⟨s0, s1, s2, s7, -⟩ := hSw
        go_simp
        try with_reducible rfl
        try omega
      simp only [Act.put, List.setIfInBounds_toArray, List.set_cons_zero, List.set_cons_succ]
      refine wpAnyH_take (i := 1) (oi := ⟨some 32, _, _, _, _, _⟩) (v := ?_) rfl (by kernel_rfl) (by kernel_rfl) (by kernel_rfl) (fun _ _ _ h => h) (Or.inl ⟨by rfl, ?_⟩) hHeld ?_
      rotate_left
      · intro w' hSw
        obtain ⟨s0, s1, s2, s7, -⟩ := hSw
        go_simp
        try with_reducible rfl
        try omega
      simp only [Act.put, List.setIfInBounds_toArray, List.set_cons_zero, List.set_cons_succ]
      refine wpAnyH_take (i := 2) (oi := ⟨some 33, _, _, _, _, _⟩) (v := ?_) rfl (by kernel_rfl) (by kernel_rfl) (by kernel_rfl) (fun _ _ _ h => h) (Or.inl ⟨by rfl, ?_⟩) hHeld ?_
      rotate_left
      · intro w' hSw
        obtain ⟨s0, s1, s2, s7, -⟩ := hSw
        go_simp
        try with_reducible rfl
        try omega
      simp only [Act.put, List.setIfInBounds_toArray, List.set_cons_zero, List.set_cons_succ]
      refine wpAnyH_take (i := 3) (oi := ⟨some 34, _, _, _, _, _⟩) (v := ?_) rfl (by kernel_rfl) (by kernel_rfl) (by kernel_rfl) (fun _ _ _ h => h) (Or.inl ⟨by rfl, ?_⟩) hHeld ?_
      rotate_left
      · intro w' hSw
        obtain ⟨s0, s1, s2, s7, -⟩ := hSw
        go_simp
        try with_reducible rfl
        try omega
      simp only [Act.put, List.setIfInBounds_toArray, List.set_cons_zero, List.set_cons_succ]
      refine wpAnyH_take (i := 4) (oi := ⟨some 35, _, _, _, _, _⟩) (v := ?_) rfl (by kernel_rfl) (by kernel_rfl) (by kernel_rfl) (fun _ _ _ h => h) (Or.inl ⟨by rfl, ?_⟩) hHeld ?_
      rotate_left
      · intro w' hSw
        obtain ⟨s0, s1, s2, s7, -⟩ := hSw
        go_simp
        try with_reducible rfl
        try omega
      simp only [Act.put, List.setIfInBounds_toArray, List.set_cons_zero, List.set_cons_succ]
      refine wpAnyH_take (i := 5) (oi := ⟨some 36, _, _, _, _, _⟩) (v := ?_) rfl (by kernel_rfl) (by kernel_rfl) (by kernel_rfl) (fun _ _ _ h => h) (Or.inl ⟨by rfl, ?_⟩) hHeld ?_
      rotate_left
      · intro w' hSw
        obtain ⟨s0, s1, s2, s7, -⟩ := hSw
        go_simp
        try with_reducible rfl
        try omega
      simp only [Act.put, List.setIfInBounds_toArray, List.set_cons_zero, List.set_cons_succ]
      refine wpAnyH_take (i := 6) (oi := ⟨some 37, _, _, _, _, _⟩) (v := .int .i64 ((I : Int) % G.n)) rfl (by kernel_rfl) (by kernel_rfl) (by kernel_rfl) (fun _ _ _ h => h) (Or.inl ⟨by rfl, ?_⟩) hHeld ?_
      · intro w' hSw
        obtain ⟨s0, s1, s2, s7, -⟩ := hSw
        go_simp
        try with_reducible rfl
        try omega
      simp only [Act.put, List.setIfInBounds_toArray, List.set_cons_zero, List.set_cons_succ]
      refine wpAnyH_take (i := 7) (oi := ⟨some 38, _, _, _, _, _⟩) (v := ?_) rfl (by kernel_rfl) (by kernel_rfl) (by kernel_rfl) (fun _ _ _ h => h) (Or.inl ⟨by rfl, ?_⟩) hHeld ?_
      rotate_left
      · intro w' hSw
        obtain ⟨s0, s1, s2, s7, -⟩ := hSw
        go_simp
        try with_reducible rfl
        try omega
      simp only [Act.put, List.setIfInBounds_toArray, List.set_cons_zero, List.set_cons_succ]
      refine wpAnyH_take (i := 8) (oi := ⟨some 39, _, _, _, _, _⟩) (v := ?_) rfl (by kernel_rfl) (by kernel_rfl) (by kernel_rfl) (fun _ _ _ h => h) (Or.inl ⟨by rfl, ?_⟩) hHeld ?_
      rotate_left
      · intro w' hSw
        obtain ⟨s0, s1, s2, s7, -⟩ := hSw
        go_simp
        try with_reducible rfl
        try omega
      simp only [Act.put, List.setIfInBounds_toArray, List.set_cons_zero, List.set_cons_succ]
      refine wpAnyH_take (i := 9) (oi := ⟨some 40, _, _, _, _, _⟩) (v := ?_) rfl (by kernel_rfl) (by kernel_rfl) (by kernel_rfl) (fun _ _ _ h => h) (Or.inl ⟨by rfl, ?_⟩) hHeld ?_
      rotate_left
      · intro w' hSw
        obtain ⟨s0, s1, s2, s7, -⟩ := hSw
        go_simp
        try with_reducible rfl
        try omega
      simp only [Act.put, List.setIfInBounds_toArray, List.set_cons_zero, List.set_cons_succ]
      refine wpAnyH_take (i := 10) (oi := ⟨some 41, _, _, _, _, _⟩) (v := ?_) rfl (by kernel_rfl) (by kernel_rfl) (by kernel_rfl) (fun _ _ _ h => h) (Or.inl ⟨by rfl, ?_⟩) hHeld ?_
      rotate_left
      · intro w' hSw
        obtain ⟨s0, s1, s2, s7, -⟩ := hSw
        go_simp
        try with_reducible rfl
        try omega
      simp only [Act.put, List.setIfInBounds_toArray, List.set_cons_zero, List.set_cons_succ]
      refine wpAnyH_take (i := 11) (oi := ⟨some 42, _, _, _, _, _⟩) (v := ?_) rfl (by kernel_rfl) (by kernel_rfl) (by kernel_rfl) (fun _ _ _ h => h) (Or.inl ⟨by rfl, ?_⟩) hHeld ?_
      rotate_left
      · intro w' hSw
        obtain ⟨s0, s1, s2, s7, -⟩ := hSw
        go_simp
        try with_reducible rfl
        try omega
      simp only [Act.put, List.setIfInBounds_toArray, List.set_cons_zero, List.set_cons_succ]
      refine wpAnyH_take (i := 12) (oi := ⟨some 43, _, _, _, _, _⟩) (v := ?_) rfl (by kernel_rfl) (by kernel_rfl) (by kernel_rfl) (fun _ _ _ h => h) (Or.inl ⟨by rfl, ?_⟩) hHeld ?_
      rotate_left
      · intro w' hSw
        obtain ⟨s0, s1, s2, s7, -⟩ := hSw
        go_simp
        try with_reducible rfl
        try omega
      simp only [Act.put, List.setIfInBounds_toArray, List.set_cons_zero, List.set_cons_succ]
      refine wpAnyH_take (i := 13) (oi := ⟨some 44, _, _, _, _, _⟩) (v := ?_) rfl (by kernel_rfl) (by kernel_rfl) (by kernel_rfl) (fun _ _ _ h => h) (Or.inl ⟨by rfl, ?_⟩) hHeld ?_
      rotate_left
      · intro w' hSw
        obtain ⟨s0, s1, s2, s7, -⟩ := hSw
        go_simp
        try with_reducible rfl
        try omega
      simp only [Act.put, List.setIfInBounds_toArray, List.set_cons_zero, List.set_cons_succ]
      refine wpAnyH_take (i := 14) (oi := ⟨some 45, _, _, _, _, _⟩) (v := ?_) rfl (by kernel_rfl) (by kernel_rfl) (by kernel_rfl) (fun _ _ _ h => h) (Or.inl ⟨by rfl, ?_⟩) hHeld ?_
      rotate_left
      · intro w' hSw
        obtain ⟨s0, s1, s2, s7, -⟩ := hSw
        go_simp
        try with_reducible rfl
        try omega
      simp only [Act.put, List.setIfInBounds_toArray, List.set_cons_zero, List.set_cons_succ]
      refine wpAnyH_take (i := 15) (oi := ⟨some 46, _, _, _, _, _⟩) (v := ?_) rfl (by kernel_rfl) (by kernel_rfl) (by kernel_rfl) (fun _ _ _ h => h) (Or.inl ⟨by rfl, ?_⟩) hHeld ?_
      rotate_left
      · intro w' hSw
        obtain ⟨s0, s1, s2, s7, -⟩ := hSw
        go_simp
        try with_reducible rfl
        try omega
      simp only [Act.put, List.setIfInBounds_toArray, List.set_cons_zero, List.set_cons_succ]
      refine wpAnyH_take (i := 16) (oi := ⟨some 47, _, _, _, _, _⟩) (v := ?_) rfl (by kernel_rfl) (by kernel_rfl) (by kernel_rfl) (fun _ _ _ h => h) (Or.inl ⟨by rfl, ?_⟩) hHeld ?_
      rotate_left
      · intro w' hSw
        obtain ⟨s0, s1, s2, s7, -⟩ := hSw
        go_simp
        try with_reducible rfl
        try omega
      simp only [Act.put, List.setIfInBounds_toArray, List.set_cons_zero, List.set_cons_succ]
      refine wpAnyH_take (i := 17) (oi := ⟨some 48, _, _, _, _, _⟩) (v := ?_) rfl (by kernel_rfl) (by kernel_rfl) (by kernel_rfl) (fun _ _ _ h => h) (Or.inl ⟨by rfl, ?_⟩) hHeld ?_
      rotate_left
      · intro w' hSw
        obtain ⟨s0, s1, s2, s7, -⟩ := hSw
        go_simp
        try with_reducible rfl
        try omega
      simp only [Act.put, List.setIfInBounds_toArray, List.set_cons_zero, List.set_cons_succ]
      refine wpAnyH_take (i := 18) (oi := ⟨some 49, _, _, _, _, _⟩) (v := ?_) rfl (by kernel_rfl) (by kernel_rfl) (by kernel_rfl) (fun _ _ _ h => h) (Or.inl ⟨by rfl, ?_⟩) hHeld ?_
      rotate_left
      · intro w' hSw
        obtain ⟨s0, s1, s2, s7, -⟩ := hSw
        go_simp
        try with_reducible rfl
        try omega
      simp only [Act.put, List.setIfInBounds_toArray, List.set_cons_zero, List.set_cons_succ]
      refine wpAnyH_take (i := 19) (oi := ⟨some 50, _, _, _, _, _⟩) (v := ?_) rfl (by kernel_rfl) (by kernel_rfl) (by kernel_rfl) (fun _ _ _ h => h) (Or.inl ⟨by rfl, ?_⟩) hHeld ?_
      rotate_left
      · intro w' hSw
        obtain ⟨s0, s1, s2, s7, -⟩ := hSw
        go_simp
        try with_reducible rfl
        try omega
      simp only [Act.put, List.setIfInBounds_toArray, List.set_cons_zero, List.set_cons_succ]
      refine wpAnyH_take (i := 20) (oi := ⟨some 51, _, _, _, _, _⟩) (v := .int .i64 (t : Int)) rfl (by kernel_rfl) (by kernel_rfl) (by kernel_rfl) (fun _ _ _ h => h) (Or.inl ⟨by rfl, ?_⟩) hHeld ?_
      · intro w' hSw
        obtain ⟨s0, s1, s2, s7, -⟩ := hSw
        go_simp
        try with_reducible rfl
        try omega
      simp only [Act.put, List.setIfInBounds_toArray, List.set_cons_zero, List.set_cons_succ]
      refine wpAnyH_take (i := 21) (oi := ⟨some 52, _, _, _, _, _⟩) (v := .slice (some ⟨g, A, none⟩) (t - A) (cv - A)) rfl (by kernel_rfl) (by kernel_rfl) (by kernel_rfl) (fun _ _ _ h => h) (Or.inl ⟨by rfl, ?_⟩) hHeld ?_
      · intro w' hSw
        obtain ⟨s0, s1, s2, s7, -⟩ := hSw
        go_simp
        try with_reducible rfl
        try omega
      simp only [Act.put, List.setIfInBounds_toArray, List.set_cons_zero, List.set_cons_succ]
      refine wpAnyH_ready (rs := [22]) (by kernel_rfl) (by simp) ?_
      refine AllReadyH.cons (o := ⟨some 53, _, _, _, _, _⟩) rfl (fun K hK => ?_) AllReadyH.nil
      go_simp
      go_at_call 62
      have HSx := wal_sector (I : Int) (by have := hIb.out; omega) g A (cv - A) (G.buf.extract A t) (by rw [hse.out]; exact ht54) wr.drew (HO.out.lt (by simp [blk, Value.ownBlock])) hHeld.2.2.2.2
      rw [hse.out] at HSx
      refine HSx.mono ?_
      rintro e w4 ⟨rfl, hb⟩
      rw [hsecAt.out]
      replace hb : Below wr.heap.size wr w4 := bT (bD bR) hb
      have HP4 := Lib.hid (hBs hb HP.out)
      have HO4 := Lib.hid (HO.out.keep (Keeps.of_below (fun _ => False) hb) (fun _ _ h => h))
      have HL4 := Lib.hid (HL.out.keep (Keeps.of_below (fun _ => False) hb) (fun _ _ h => h))
      have HM4 := Lib.hid (HM.out.keep (Keeps.of_below (fun _ => False) hb) (fun h => h))
      have HB4 := Lib.hid (bT HB.out hb)
      clear hb HSx hHeld HP HO HL HM HB
      go_wp2_with fail
      refine hK.out _ _ (FlS.mk' HP4.out HO4.out hft' hts') (fun hHeld => ?_)
      clear hK K
      try simp only [Act.put, List.setIfInBounds_toArray, List.set_cons_zero, List.set_cons_succ]
      obtain ⟨w5, hr5, hm5, hk5⟩ := HM4.out.put (by unfold maxLen; have := hjc.out; have := hcl.out; omega) ((I : Int) % G.n) (by have := a1.out; have := a2.out; omega) (G.secAt I) (by have := secAt_size G I; unfold maxLen; omega)
      refine wpAnyH_ready (rs := [23]) (by kernel_rfl) (by simp) ?_
      refine AllReadyH.cons (o := ⟨none, _, _, _, _, _⟩) rfl (fun K hK => ?_) AllReadyH.nil
      go_simp
      have hbp : ∀ k ∈ p :: (blk (.slice (some ⟨g, 0, none⟩) G.buf.size cv) ++ blk lv), k ≠ b := fun k hk h => by
        have := hlow.out k (by rw [hS.out]; exact hk); have := hbw.out; omega
      have HP5 := Lib.hid (hk5.keep HP4.out (hbp p (by simp)))
      have HO5 := Lib.hid (HO4.out.keep hk5 (fun k hk => hbp k (by simp [hk])))
      have HL5 := Lib.hid (HL4.out.keep hk5 (fun k hk => hbp k (by simp [hk])))
      have HM5 := Lib.hid hm5
      have HB5 := Lib.hid (bK HB4.out hk5 (fun i h => by subst h; exact hbw.out))
      clear hk5 hm5 HP4 HO4 HL4 HM4 HB4 hHeld hbp hr5
      refine hK.out _ _ (FlS.mk' HP5.out HO5.out hft' hts') (fun hHeld => ?_)
      clear hK K hHeld
      refine wpAnyH_done (by kernel_rfl) ?_ _
      go_wp2_with fail
      go_roundw
      case rel => exact ⟨j + 1, A + 54, hjc.out, by have := hfj.out; omega, rfl, by rw [hkp.out]; exact HM5, HP5, HO5, HL5, HB5⟩
      case measure => have := hfj.out; have := hjc.out; simp [intOf]; omega
    · obtain rfl : j = cnt := by omega
      have hA : ¬ (A : Int) < G.buf.size := by
        have : ¬ (54 * j < G.buf.size) := fun h => absurd ((hcnt.out j).2 h) (by omega)
        omega
      have HZ := Lib.hid (fun w2 => str_zeros ⟨#[0]⟩ rfl 64 (by omega) w2)
      have hz64 := Lib.hid (zeros_size 64)
      have hnn : Hid (((G.n.toNat : Nat) : Int) = G.n) := by show _ = _; omega
      have hnb : Hid (128 ≤ G.n ∧ G.n ≤ 4096) := ⟨a1, a2⟩
      have hfb : Hid (0 ≤ G.first ∧ G.first ≤ 16384) := ⟨a3, a4⟩
      have hMe : ∃ M, G.keptP bb j = M ∧ (∀ k, Option.elim (M k) True (fun s => s.size ≤ 118)) := ⟨_, rfl, fun k => keptP_size G bb j k⟩
      obtain ⟨M, hMe, hMs⟩ := hMe
      rw [hMe] at HM
      replace hMe := Lib.hid hMe
      replace hMs := Lib.hid hMs
      clear hmm hcnt hj hfj hbb a1 a2 a3 a4 a5 a6 a7 a8 a9 a10 a11 a12 a13 a14
      generalize hfA : (A : Int) = Ai at *
      clear hfA
      go_wp2_with fail
      refine (HZ.out _).mono ?_
      rintro e w2 ⟨rfl, hb2⟩
      have HP2 := Lib.hid (hBs hb2 HP.out)
      have HO2 := Lib.hid (HO.out.keep (Keeps.of_below (fun _ => False) hb2) (fun _ _ h => h))
      have HL2 := Lib.hid (HL.out.keep (Keeps.of_below (fun _ => False) hb2) (fun _ _ h => h))
      have HM2 := Lib.hid (HM.out.keep (Keeps.of_below (fun _ => False) hb2) (fun h => h))
      have HB2 : Hid (Below w.heap.size w w2) := bT HB.out hb2
      have HD2 := Lib.hid (HD.out.later HB2.out)
      have HK2 : Hid (Keeps (· ∈ Sd) w w2) := Keeps.of_below _ HB2.out
      have hbS : Hid (b ∉ Sd) := fun h => by have := HD.out.lt _ h; have := hbw.out; omega
      clear hA c7 hb2 HZ HD HP HO HL HM HB HB2
      have c2 : w2.cell? ⟨p, 2, none⟩ = some (.int .i64 G.n) := cell_at HP2.out 2
      generalize hZ : zeros 64 = Z at *
      replace hZ := Lib.hid hZ
      go_wp2_with fail
      go_loopw [59] (fun s wr => ∃ (i : Nat) (D' : Dev) (S' : List Nat), i ≤ G.n.toNat ∧ s = .int .i64 (i : Int) ∧ Hid (G.wp D M i = (D', 0)) ∧ Hid (DiskAt wr dp D' S') ∧ Hid (KMap wr b j M) ∧ Hid (wr.heap[p]? = some (.cells (lgC dp G (.slice av G.buf.size cv) lv) 81 (0, 0))) ∧ Hid (OwnS wr 5 1 (.slice av G.buf.size cv) G.buf.size (Lib.strCells G.buf)) ∧ Hid (OwnS wr 70 2 lv G.list.length (recV G.list)) ∧ Hid (Keeps (· ∈ Sd) w wr) ∧ Hid (∀ k ∈ S', k ∈ Sd ∨ w.heap.size ≤ k) ∧ Hid (b ∉ S')) (fun s _ => G.n.toNat - (intOf s).toNat)
      case atStart => exact ⟨0, D, Sd, by omega, rfl, rfl, HD2, HM2, HP2, HO2, HL2, HK2, fun k hk => .inl hk, hbS⟩
      case round =>
        clear HP2 HO2 HL2 HM2 HD2 HK2 hbS c2
        obtain ⟨i, D', S', hi, rfl, hwp, HD, HM, HP, HO, HL, HK, HS, hbS⟩ := hrel
        obtain ⟨n1, n2⟩ := hnb.out
        obtain ⟨n3, n4⟩ := hfb.out
        have hn := hnn.out
        have hsl : Hid (D'.soft.length ≤ 8000000004097) := by
          have h1 := wp_soft (G := G) (D := D) (M := M) i
          rw [hwp.out] at h1
          have h2 : D'.soft.length ≤ D.soft.length + i := h1
          show D'.soft.length ≤ 8000000004097
          omega
        by_cases hin : i < G.n.toNat
        · have hin' : (i : Int) < G.n := by omega
          have wri : IntKind.i64.wrap ((i : Int) + 1) = (i : Int) + 1 := by rw [IntKind.wrap_i64]; omega
          have wrf : IntKind.i64.wrap (G.first + (i : Int)) = G.first + (i : Int) := by rw [IntKind.wrap_i64]; omega
          have c0 : wr.cell? ⟨p, 0, none⟩ = some (.pointer (some ⟨dp, 0, none⟩)) := cell_at HP.out 0
          have c1 : wr.cell? ⟨p, 1, none⟩ = some (.int .i64 G.first) := cell_at HP.out 1
          obtain ⟨v, hget, hgv⟩ := HM.out.get (i : Int) (by omega)
          have HRd : Hid (∀ n, Calls Tryd.prog 15 #[.pointer (some ⟨dp, 0, none⟩), .int .i64 (G.first + (i : Int))] (wr.drewN n) fun e w' => e = .returned (.tuple #[.string (D'.read (G.first + (i : Int))).1, .int .i64 (D'.read (G.first + (i : Int))).2]) ∧ wr.drewN n = w') := fun n => (dsk_read dp (G.first + (i : Int)) D' S' (wr.drewN n) (HD.out.keep (keepN (fun _ => False) wr n) (fun _ _ h => h))).mono (fun _ _ h => ⟨h.1, h.2.symm⟩)
          have hstep : Hid (G.wp D M (i + 1) = if (D'.read (G.first + (i : Nat))).2 ≠ 0 then (D', (D'.read (G.first + (i : Nat))).2) else if (D'.read (G.first + (i : Nat))).1 = (M (i : Nat)).getD (zeros 64) then (D', 0) else D'.write (G.first + (i : Nat)) ((M (i : Nat)).getD (zeros 64))) := by
            show (if (Lg.wp G D M i).2 ≠ 0 then _ else _) = _
            rw [hwp.out, if_neg (fun h => h rfl)]
          obtain ⟨R, hR⟩ : ∃ R, (D'.read (G.first + (i : Int))).1 = R := ⟨_, rfl⟩
          obtain ⟨E, hE⟩ : ∃ E, (D'.read (G.first + (i : Int))).2 = E := ⟨_, rfl⟩
          rw [hR, hE] at HRd hstep
          rw [hZ.out] at hstep
          replace hR := Lib.hid hR
          replace hE := Lib.hid hE
          replace hin := Lib.hid hin
          replace hi := Lib.hid hi
          replace hn := Lib.hid hn
          cases hMi : M (i : Int) with
          | none =>
            have hwt : Hid ((M (i : Nat)).getD Z = Z) := by show _ = _; rw [show M ((i : Nat) : Int) = none from hMi]; rfl
            have hWs : Hid (Z.size ≤ maxLen) := by show _ ≤ _; rw [hz64.out]; unfold maxLen; omega
            rw [hMi] at hget
            replace hMi := Lib.hid hMi
            replace hgv := Lib.hid hgv
            by_cases hE0 : E = 0
            · subst hE0
              by_cases hq : R = Z
              · have b3 : (R.toList == Z.toList) = true := by subst hq; simp
                have hst : Hid (G.wp D M (i + 1) = (D', 0)) := by
                  show _ = _
                  rw [hstep.out, if_neg (fun h => h rfl), hwt.out, if_pos hq]
                clear hstep hq
                go_wp2_with fail
                go_quiet ((go_at_call 15; exact quiet_same (HRd.out _)))
                go_wp2_with fail
                go_roundw
                case rel => exact ⟨i + 1, D', S', hin.out, rfl, hst, HD.out.keep (keepN (fun _ => False) _ _) (fun _ _ h => h), HM.out.keep (keepN (fun _ => False) _ _) (fun h => h), HP.out, HO.out.keep (keepN (fun _ => False) _ _) (fun _ _ h => h), HL.out.keep (keepN (fun _ => False) _ _) (fun _ _ h => h), HK.out.trans (keepN (fun _ => False) _ _) (fun _ _ h => h.elim), HS, hbS⟩
                case measure => have := hin.out; simp [intOf]; omega
              · have b3 : (R.toList == Z.toList) = false := by
                  rw [beq_eq_false_iff_ne]
                  exact fun h => hq (bytes_toList h)
                have hst : Hid (G.wp D M (i + 1) = D'.write (G.first + (i : Nat)) Z) := by
                  show _ = _
                  rw [hstep.out, if_neg (fun h => h rfl), hwt.out, if_neg hq]
                clear hstep
                replace hq := Lib.hid hq
                go_wp2_with fail
                go_quiet ((go_at_call 15; exact quiet_same (HRd.out _)))
                go_wp2_with fail
                have HD3 := Lib.hid (HD.out.keep (S := S') (keepN (fun _ => False) wr nq).drew (fun _ _ h => h))
                have HM3 := Lib.hid (HM.out.keep (keepN (fun _ => False) wr nq).drew (fun h => h))
                have HP3 : Hid ((wr.drewN nq).drew.heap[p]? = _) := HP.out
                have HO3 := Lib.hid (HO.out.keep (keepN (fun _ => False) wr nq).drew (fun _ _ h => h))
                have HL3 := Lib.hid (HL.out.keep (keepN (fun _ => False) wr nq).drew (fun _ _ h => h))
                have HK3 : Hid (Keeps (· ∈ Sd) w (wr.drewN nq).drew) := HK.out.trans (keepN (fun _ => False) wr nq).drew (fun _ _ h => h.elim)
                clear HD HM HP HO HL HK c0 c1
                have hS0 : (wr.drewN nq).drew.cell? ⟨p, 0, none⟩ = some (.pointer (some ⟨dp, 0, none⟩)) ∧ (wr.drewN nq).drew.cell? ⟨p, 1, none⟩ = some (.int .i64 G.first) := ⟨cell_at HP3.out 0, cell_at HP3.out 1⟩
                refine wp_region_held_drew (S := fun w' => w'.cell? ⟨p, 0, none⟩ = some (.pointer (some ⟨dp, 0, none⟩)) ∧ w'.cell? ⟨p, 1, none⟩ = some (.int .i64 G.first)) (by kernel_rfl) hS0 (fun hHeld => ?_)
                clear hS0
                refine wpAnyH_take (i := 0) (oi := ⟨some 91, _, _, _, _, _⟩) (v := ?_) rfl (by kernel_rfl) (by kernel_rfl) (by kernel_rfl) (fun _ _ _ h => h) (Or.inl ⟨by rfl, ?_⟩) hHeld ?_
                rotate_left
                · intro w' hSw
                  obtain ⟨s0, s1⟩ := hSw
                  go_simp
                  try with_reducible rfl
                  try omega
                simp only [Act.put, List.setIfInBounds_toArray, List.set_cons_zero, List.set_cons_succ]
                refine wpAnyH_take (i := 1) (oi := ⟨some 92, _, _, _, _, _⟩) (v := ?_) rfl (by kernel_rfl) (by kernel_rfl) (by kernel_rfl) (fun _ _ _ h => h) (Or.inl ⟨by rfl, ?_⟩) hHeld ?_
                rotate_left
                · intro w' hSw
                  obtain ⟨s0, s1⟩ := hSw
                  go_simp
                  try with_reducible rfl
                  try omega
                simp only [Act.put, List.setIfInBounds_toArray, List.set_cons_zero, List.set_cons_succ]
                refine wpAnyH_take (i := 2) (oi := ⟨some 93, _, _, _, _, _⟩) (v := ?_) rfl (by kernel_rfl) (by kernel_rfl) (by kernel_rfl) (fun _ _ _ h => h) (Or.inl ⟨by rfl, ?_⟩) hHeld ?_
                rotate_left
                · intro w' hSw
                  obtain ⟨s0, s1⟩ := hSw
                  go_simp
                  try with_reducible rfl
                  try omega
                simp only [Act.put, List.setIfInBounds_toArray, List.set_cons_zero, List.set_cons_succ]
                refine wpAnyH_take (i := 3) (oi := ⟨some 94, _, _, _, _, _⟩) (v := ?_) rfl (by kernel_rfl) (by kernel_rfl) (by kernel_rfl) (fun _ _ _ h => h) (Or.inl ⟨by rfl, ?_⟩) hHeld ?_
                rotate_left
                · intro w' hSw
                  obtain ⟨s0, s1⟩ := hSw
                  go_simp
                  try with_reducible rfl
                  try omega
                simp only [Act.put, List.setIfInBounds_toArray, List.set_cons_zero, List.set_cons_succ]
                refine wpAnyH_take (i := 4) (oi := ⟨some 95, _, _, _, _, _⟩) (v := ?_) rfl (by kernel_rfl) (by kernel_rfl) (by kernel_rfl) (fun _ _ _ h => h) (Or.inl ⟨by rfl, ?_⟩) hHeld ?_
                rotate_left
                · intro w' hSw
                  obtain ⟨s0, s1⟩ := hSw
                  go_simp
                  try with_reducible rfl
                  try omega
                simp only [Act.put, List.setIfInBounds_toArray, List.set_cons_zero, List.set_cons_succ]
                refine wpAnyH_take (i := 5) (oi := ⟨some 96, _, _, _, _, _⟩) (v := ?_) rfl (by kernel_rfl) (by kernel_rfl) (by kernel_rfl) (fun _ _ _ h => h) (Or.inl ⟨by rfl, ?_⟩) hHeld ?_
                rotate_left
                · intro w' hSw
                  obtain ⟨s0, s1⟩ := hSw
                  go_simp
                  try with_reducible rfl
                  try omega
                simp only [Act.put, List.setIfInBounds_toArray, List.set_cons_zero, List.set_cons_succ]
                refine wpAnyH_take (i := 6) (oi := ⟨some 97, _, _, _, _, _⟩) (v := ?_) rfl (by kernel_rfl) (by kernel_rfl) (by kernel_rfl) (fun _ _ _ h => h) (Or.inl ⟨by rfl, ?_⟩) hHeld ?_
                rotate_left
                · intro w' hSw
                  obtain ⟨s0, s1⟩ := hSw
                  go_simp
                  try with_reducible rfl
                  try omega
                simp only [Act.put, List.setIfInBounds_toArray, List.set_cons_zero, List.set_cons_succ]
                refine wpAnyH_take (i := 7) (oi := ⟨some 98, _, _, _, _, _⟩) (v := ?_) rfl (by kernel_rfl) (by kernel_rfl) (by kernel_rfl) (fun _ _ _ h => h) (Or.inl ⟨by rfl, ?_⟩) hHeld ?_
                rotate_left
                · intro w' hSw
                  obtain ⟨s0, s1⟩ := hSw
                  go_simp
                  try with_reducible rfl
                  try omega
                simp only [Act.put, List.setIfInBounds_toArray, List.set_cons_zero, List.set_cons_succ]
                refine wpAnyH_take (i := 8) (oi := ⟨some 99, _, _, _, _, _⟩) (v := ?_) rfl (by kernel_rfl) (by kernel_rfl) (by kernel_rfl) (fun _ _ _ h => h) (Or.inl ⟨by rfl, ?_⟩) hHeld ?_
                rotate_left
                · intro w' hSw
                  obtain ⟨s0, s1⟩ := hSw
                  go_simp
                  try with_reducible rfl
                  try omega
                simp only [Act.put, List.setIfInBounds_toArray, List.set_cons_zero, List.set_cons_succ]
                refine wpAnyH_take (i := 9) (oi := ⟨some 100, _, _, _, _, _⟩) (v := ?_) rfl (by kernel_rfl) (by kernel_rfl) (by kernel_rfl) (fun _ _ _ h => h) (Or.inl ⟨by rfl, ?_⟩) hHeld ?_
                rotate_left
                · intro w' hSw
                  obtain ⟨s0, s1⟩ := hSw
                  go_simp
                  try with_reducible rfl
                  try omega
                simp only [Act.put, List.setIfInBounds_toArray, List.set_cons_zero, List.set_cons_succ]
                refine wpAnyH_take (i := 10) (oi := ⟨some 101, _, _, _, _, _⟩) (v := ?_) rfl (by kernel_rfl) (by kernel_rfl) (by kernel_rfl) (fun _ _ _ h => h) (Or.inl ⟨by rfl, ?_⟩) hHeld ?_
                rotate_left
                · intro w' hSw
                  obtain ⟨s0, s1⟩ := hSw
                  go_simp
                  try with_reducible rfl
                  try omega
                simp only [Act.put, List.setIfInBounds_toArray, List.set_cons_zero, List.set_cons_succ]
                refine wpAnyH_ready (rs := [11]) (by kernel_rfl) (by simp) ?_
                refine AllReadyH.cons (o := ⟨some 102, _, _, _, _, _⟩) rfl (fun K hK => ?_) AllReadyH.nil
                go_simp
                go_at_call 16
                have HW := dsk_write dp (G.first + (i : Int)) Z hWs.out D' S' (by have := hsl.out; omega) _ HD3.out
                refine HW.mono ?_
                rintro e w5 ⟨rfl, S5, hd5, hk5, hs5⟩
                have hnS : ∀ k ∈ p :: (blk (.slice av G.buf.size cv) ++ blk lv), k ∉ S' := fun k hk h => by
                  rcases HS.out k h with h' | h'
                  · exact hdis.out k (by rw [hS.out]; exact hk) h'
                  · have := hlow.out k (by rw [hS.out]; exact hk); omega
                have HP5 := Lib.hid (hk5.keep HP3.out (hnS p (by simp)))
                have HO5 := Lib.hid (HO3.out.keep hk5 (fun k hk => hnS k (by simp [hk])))
                have HL5 := Lib.hid (HL3.out.keep hk5 (fun k hk => hnS k (by simp [hk])))
                have HM5 := Lib.hid (HM3.out.keep hk5 hbS.out)
                have HD5 := Lib.hid hd5
                have HK5 : Hid (Keeps (· ∈ Sd) w w5) := HK3.out.trans hk5 (fun k hk h => (HS.out k h).resolve_right (by omega))
                have HS5 : Hid (∀ k ∈ S5, k ∈ Sd ∨ w.heap.size ≤ k) := fun k hk => by
                  rcases hs5 k hk with h | h
                  · exact HS.out k h
                  · have := HK3.out.size; exact .inr (by omega)
                have hbS5 : Hid (b ∉ S5) := fun h => by
                  rcases hs5 b h with h' | h'
                  · exact hbS.out h'
                  · have := HM3.out.lt; omega
                clear hk5 hs5 hd5 hnS HD3 HM3 HP3 HO3 HL3 HK3 hHeld HW HRd
                go_wp2_with fail
                refine hK.out _ _ ⟨cell_at HP5.out 0, cell_at HP5.out 1⟩ (fun hHeld => ?_)
                clear hK K
                try simp only [Act.put, List.setIfInBounds_toArray, List.set_cons_zero, List.set_cons_succ]
                refine wpAnyH_take (i := 12) (oi := ⟨some 12, _, _, _, _, _⟩) (v := ?_) rfl (by kernel_rfl) (by kernel_rfl) (by kernel_rfl) (fun _ _ _ h => h) (Or.inl ⟨by rfl, ?_⟩) hHeld ?_
                rotate_left
                · intro w' hSw
                  go_simp
                  try with_reducible rfl
                simp only [Act.put, List.setIfInBounds_toArray, List.set_cons_zero, List.set_cons_succ]
                clear hHeld
                refine wpAnyH_done (by kernel_rfl) ?_ _
                obtain ⟨c, hc⟩ : ∃ c, (D'.write (G.first + (i : Nat)) Z).2 = c := ⟨_, rfl⟩
                rw [hc]
                by_cases hc0 : c = 0
                · subst hc0
                  go_wp2_with fail
                  go_roundw
                  case rel => exact ⟨i + 1, _, S5, hin.out, rfl, (show _ = _ from by rw [hst.out, ← hc]), HD5, HM5, HP5, HO5, HL5, HK5, HS5, hbS5⟩
                  case measure => have := hin.out; simp [intOf]; omega
                · have b4 : (c != 0) = true := by simpa using hc0
                  replace hc0 := Lib.hid hc0
                  go_wp2_with fail
                  go_ret
                  have hst2 := wp_stop (G := G) (D := D) (M := M) (k := i + 1) (by rw [hst.out, hc]; exact hc0.out) G.n.toNat hin.out
                  have hfd : G.wiped D M = D'.write (G.first + (i : Nat)) Z := by
                    unfold Lg.wiped
                    rw [hst2, hst.out, if_pos (by rw [hc]; exact hc0.out)]
                  rw [hMe.out, hfd]
                  exact ⟨by rw [hc]; rfl, S5, ⟨hok.out, _, lv, HP5.out, HO5.out, HL5.out, hS.out, h6.out⟩, HD5.out, HK5.out, HS5.out⟩
            · have b4 : (E != 0) = true := by simpa using hE0
              have hst : Hid (G.wp D M (i + 1) = (D', E)) := by
                show _ = _
                rw [hstep.out, if_pos hE0]
              replace hE0 := Lib.hid hE0
              clear hstep
              go_wp2_with fail
              go_quiet ((go_at_call 15; exact quiet_same (HRd.out _)))
              go_wp2_with fail
              go_ret
              have hst2 := wp_stop (G := G) (D := D) (M := M) (k := i + 1) (by rw [hst.out]; exact hE0.out) G.n.toNat hin.out
              have hfd : G.wiped D M = (D', E) := by
                unfold Lg.wiped
                rw [hst2, hst.out, if_pos hE0.out]
              rw [hMe.out, hfd]
              exact ⟨rfl, S', ⟨hok.out, _, lv, HP.out, HO.out.keep (keepN (fun _ => False) _ _) (fun _ _ h => h), HL.out.keep (keepN (fun _ => False) _ _) (fun _ _ h => h), hS.out, h6.out⟩, HD.out.keep (keepN (fun _ => False) _ _) (fun _ _ h => h), HK.out.trans (keepN (fun _ => False) _ _) (fun _ _ h => h.elim), HS.out⟩
          | some s0 =>
            obtain rfl := hgv s0 hMi
            have hwt : Hid ((M (i : Nat)).getD Z = v) := by show _ = _; rw [show M ((i : Nat) : Int) = some v from hMi]; rfl
            have hWs : Hid (v.size ≤ maxLen) := by
              have := hMs.out (i : Int)
              rw [hMi] at this
              have h2 : v.size ≤ 118 := this
              show _ ≤ _
              unfold maxLen
              omega
            rw [hMi] at hget
            replace hMi := Lib.hid hMi
            replace hgv := Lib.hid hgv
            by_cases hE0 : E = 0
            · subst hE0
              by_cases hq : R = v
              · have b3 : (R.toList == v.toList) = true := by subst hq; simp
                have hst : Hid (G.wp D M (i + 1) = (D', 0)) := by
                  show _ = _
                  rw [hstep.out, if_neg (fun h => h rfl), hwt.out, if_pos hq]
                clear hstep hq
                go_wp2_with fail
                go_quiet ((go_at_call 15; exact quiet_same (HRd.out _)))
                go_wp2_with fail
                go_roundw
                case rel => exact ⟨i + 1, D', S', hin.out, rfl, hst, HD.out.keep (keepN (fun _ => False) _ _) (fun _ _ h => h), HM.out.keep (keepN (fun _ => False) _ _) (fun h => h), HP.out, HO.out.keep (keepN (fun _ => False) _ _) (fun _ _ h => h), HL.out.keep (keepN (fun _ => False) _ _) (fun _ _ h => h), HK.out.trans (keepN (fun _ => False) _ _) (fun _ _ h => h.elim), HS, hbS⟩
                case measure => have := hin.out; simp [intOf]; omega
              · have b3 : (R.toList == v.toList) = false := by
                  rw [beq_eq_false_iff_ne]
                  exact fun h => hq (bytes_toList h)
                have hst : Hid (G.wp D M (i + 1) = D'.write (G.first + (i : Nat)) v) := by
                  show _ = _
                  rw [hstep.out, if_neg (fun h => h rfl), hwt.out, if_neg hq]
                clear hstep
                replace hq := Lib.hid hq
                go_wp2_with fail
                go_quiet ((go_at_call 15; exact quiet_same (HRd.out _)))
                go_wp2_with fail
                have HD3 := Lib.hid (HD.out.keep (S := S') (keepN (fun _ => False) wr nq).drew (fun _ _ h => h))
                have HM3 := Lib.hid (HM.out.keep (keepN (fun _ => False) wr nq).drew (fun h => h))
                have HP3 : Hid ((wr.drewN nq).drew.heap[p]? = _) := HP.out
                have HO3 := Lib.hid (HO.out.keep (keepN (fun _ => False) wr nq).drew (fun _ _ h => h))
                have HL3 := Lib.hid (HL.out.keep (keepN (fun _ => False) wr nq).drew (fun _ _ h => h))
                have HK3 : Hid (Keeps (· ∈ Sd) w (wr.drewN nq).drew) := HK.out.trans (keepN (fun _ => False) wr nq).drew (fun _ _ h => h.elim)
                clear HD HM HP HO HL HK c0 c1
                have hS0 : (wr.drewN nq).drew.cell? ⟨p, 0, none⟩ = some (.pointer (some ⟨dp, 0, none⟩)) ∧ (wr.drewN nq).drew.cell? ⟨p, 1, none⟩ = some (.int .i64 G.first) := ⟨cell_at HP3.out 0, cell_at HP3.out 1⟩
                refine wp_region_held_drew (S := fun w' => w'.cell? ⟨p, 0, none⟩ = some (.pointer (some ⟨dp, 0, none⟩)) ∧ w'.cell? ⟨p, 1, none⟩ = some (.int .i64 G.first)) (by kernel_rfl) hS0 (fun hHeld => ?_)
                clear hS0
                refine wpAnyH_take (i := 0) (oi := ⟨some 91, _, _, _, _, _⟩) (v := ?_) rfl (by kernel_rfl) (by kernel_rfl) (by kernel_rfl) (fun _ _ _ h => h) (Or.inl ⟨by rfl, ?_⟩) hHeld ?_
                rotate_left
                · intro w' hSw
                  obtain ⟨s0, s1⟩ := hSw
                  go_simp
                  try with_reducible rfl
                  try omega
                simp only [Act.put, List.setIfInBounds_toArray, List.set_cons_zero, List.set_cons_succ]
                refine wpAnyH_take (i := 1) (oi := ⟨some 92, _, _, _, _, _⟩) (v := ?_) rfl (by kernel_rfl) (by kernel_rfl) (by kernel_rfl) (fun _ _ _ h => h) (Or.inl ⟨by rfl, ?_⟩) hHeld ?_
                rotate_left
                · intro w' hSw
                  obtain ⟨s0, s1⟩ := hSw
                  go_simp
                  try with_reducible rfl
                  try omega
                simp only [Act.put, List.setIfInBounds_toArray, List.set_cons_zero, List.set_cons_succ]
                refine wpAnyH_take (i := 2) (oi := ⟨some 93, _, _, _, _, _⟩) (v := ?_) rfl (by kernel_rfl) (by kernel_rfl) (by kernel_rfl) (fun _ _ _ h => h) (Or.inl ⟨by rfl, ?_⟩) hHeld ?_
                rotate_left
                · intro w' hSw
                  obtain ⟨s0, s1⟩ := hSw
                  go_simp
                  try with_reducible rfl
                  try omega
                simp only [Act.put, List.setIfInBounds_toArray, List.set_cons_zero, List.set_cons_succ]
                refine wpAnyH_take (i := 3) (oi := ⟨some 94, _, _, _, _, _⟩) (v := ?_) rfl (by kernel_rfl) (by kernel_rfl) (by kernel_rfl) (fun _ _ _ h => h) (Or.inl ⟨by rfl, ?_⟩) hHeld ?_
                rotate_left
                · intro w' hSw
                  obtain ⟨s0, s1⟩ := hSw
                  go_simp
                  try with_reducible rfl
                  try omega
                simp only [Act.put, List.setIfInBounds_toArray, List.set_cons_zero, List.set_cons_succ]
                refine wpAnyH_take (i := 4) (oi := ⟨some 95, _, _, _, _, _⟩) (v := ?_) rfl (by kernel_rfl) (by kernel_rfl) (by kernel_rfl) (fun _ _ _ h => h) (Or.inl ⟨by rfl, ?_⟩) hHeld ?_
                rotate_left
                · intro w' hSw
                  obtain ⟨s0, s1⟩ := hSw
                  go_simp
                  try with_reducible rfl
                  try omega
                simp only [Act.put, List.setIfInBounds_toArray, List.set_cons_zero, List.set_cons_succ]
                refine wpAnyH_take (i := 5) (oi := ⟨some 96, _, _, _, _, _⟩) (v := ?_) rfl (by kernel_rfl) (by kernel_rfl) (by kernel_rfl) (fun _ _ _ h => h) (Or.inl ⟨by rfl, ?_⟩) hHeld ?_
                rotate_left
                · intro w' hSw
                  obtain ⟨s0, s1⟩ := hSw
                  go_simp
                  try with_reducible rfl
                  try omega
                simp only [Act.put, List.setIfInBounds_toArray, List.set_cons_zero, List.set_cons_succ]
                refine wpAnyH_take (i := 6) (oi := ⟨some 97, _, _, _, _, _⟩) (v := ?_) rfl (by kernel_rfl) (by kernel_rfl) (by kernel_rfl) (fun _ _ _ h => h) (Or.inl ⟨by rfl, ?_⟩) hHeld ?_
                rotate_left
                · intro w' hSw
                  obtain ⟨s0, s1⟩ := hSw
                  go_simp
                  try with_reducible rfl
                  try omega
                simp only [Act.put, List.setIfInBounds_toArray, List.set_cons_zero, List.set_cons_succ]
                refine wpAnyH_take (i := 7) (oi := ⟨some 98, _, _, _, _, _⟩) (v := ?_) rfl (by kernel_rfl) (by kernel_rfl) (by kernel_rfl) (fun _ _ _ h => h) (Or.inl ⟨by rfl, ?_⟩) hHeld ?_
                rotate_left
                · intro w' hSw
                  obtain ⟨s0, s1⟩ := hSw
                  go_simp
                  try with_reducible rfl
                  try omega
                simp only [Act.put, List.setIfInBounds_toArray, List.set_cons_zero, List.set_cons_succ]
                refine wpAnyH_take (i := 8) (oi := ⟨some 99, _, _, _, _, _⟩) (v := ?_) rfl (by kernel_rfl) (by kernel_rfl) (by kernel_rfl) (fun _ _ _ h => h) (Or.inl ⟨by rfl, ?_⟩) hHeld ?_
                rotate_left
                · intro w' hSw
                  obtain ⟨s0, s1⟩ := hSw
                  go_simp
                  try with_reducible rfl
                  try omega
                simp only [Act.put, List.setIfInBounds_toArray, List.set_cons_zero, List.set_cons_succ]
                refine wpAnyH_take (i := 9) (oi := ⟨some 100, _, _, _, _, _⟩) (v := ?_) rfl (by kernel_rfl) (by kernel_rfl) (by kernel_rfl) (fun _ _ _ h => h) (Or.inl ⟨by rfl, ?_⟩) hHeld ?_
                rotate_left
                · intro w' hSw
                  obtain ⟨s0, s1⟩ := hSw
                  go_simp
                  try with_reducible rfl
                  try omega
                simp only [Act.put, List.setIfInBounds_toArray, List.set_cons_zero, List.set_cons_succ]
                refine wpAnyH_take (i := 10) (oi := ⟨some 101, _, _, _, _, _⟩) (v := ?_) rfl (by kernel_rfl) (by kernel_rfl) (by kernel_rfl) (fun _ _ _ h => h) (Or.inl ⟨by rfl, ?_⟩) hHeld ?_
                rotate_left
                · intro w' hSw
                  obtain ⟨s0, s1⟩ := hSw
                  go_simp
                  try with_reducible rfl
                  try omega
                simp only [Act.put, List.setIfInBounds_toArray, List.set_cons_zero, List.set_cons_succ]
                refine wpAnyH_ready (rs := [11]) (by kernel_rfl) (by simp) ?_
                refine AllReadyH.cons (o := ⟨some 102, _, _, _, _, _⟩) rfl (fun K hK => ?_) AllReadyH.nil
                go_simp
                go_at_call 16
                have HW := dsk_write dp (G.first + (i : Int)) v hWs.out D' S' (by have := hsl.out; omega) _ HD3.out
                refine HW.mono ?_
                rintro e w5 ⟨rfl, S5, hd5, hk5, hs5⟩
                have hnS : ∀ k ∈ p :: (blk (.slice av G.buf.size cv) ++ blk lv), k ∉ S' := fun k hk h => by
                  rcases HS.out k h with h' | h'
                  · exact hdis.out k (by rw [hS.out]; exact hk) h'
                  · have := hlow.out k (by rw [hS.out]; exact hk); omega
                have HP5 := Lib.hid (hk5.keep HP3.out (hnS p (by simp)))
                have HO5 := Lib.hid (HO3.out.keep hk5 (fun k hk => hnS k (by simp [hk])))
                have HL5 := Lib.hid (HL3.out.keep hk5 (fun k hk => hnS k (by simp [hk])))
                have HM5 := Lib.hid (HM3.out.keep hk5 hbS.out)
                have HD5 := Lib.hid hd5
                have HK5 : Hid (Keeps (· ∈ Sd) w w5) := HK3.out.trans hk5 (fun k hk h => (HS.out k h).resolve_right (by omega))
                have HS5 : Hid (∀ k ∈ S5, k ∈ Sd ∨ w.heap.size ≤ k) := fun k hk => by
                  rcases hs5 k hk with h | h
                  · exact HS.out k h
                  · have := HK3.out.size; exact .inr (by omega)
                have hbS5 : Hid (b ∉ S5) := fun h => by
                  rcases hs5 b h with h' | h'
                  · exact hbS.out h'
                  · have := HM3.out.lt; omega
                clear hk5 hs5 hd5 hnS HD3 HM3 HP3 HO3 HL3 HK3 hHeld HW HRd
                go_wp2_with fail
                refine hK.out _ _ ⟨cell_at HP5.out 0, cell_at HP5.out 1⟩ (fun hHeld => ?_)
                clear hK K
                try simp only [Act.put, List.setIfInBounds_toArray, List.set_cons_zero, List.set_cons_succ]
                refine wpAnyH_take (i := 12) (oi := ⟨some 12, _, _, _, _, _⟩) (v := ?_) rfl (by kernel_rfl) (by kernel_rfl) (by kernel_rfl) (fun _ _ _ h => h) (Or.inl ⟨by rfl, ?_⟩) hHeld ?_
                rotate_left
                · intro w' hSw
                  go_simp
                  try with_reducible rfl
                simp only [Act.put, List.setIfInBounds_toArray, List.set_cons_zero, List.set_cons_succ]
                clear hHeld
                refine wpAnyH_done (by kernel_rfl) ?_ _
                obtain ⟨c, hc⟩ : ∃ c, (D'.write (G.first + (i : Nat)) v).2 = c := ⟨_, rfl⟩
                rw [hc]
                by_cases hc0 : c = 0
                · subst hc0
                  go_wp2_with fail
                  go_roundw
                  case rel => exact ⟨i + 1, _, S5, hin.out, rfl, (show _ = _ from by rw [hst.out, ← hc]), HD5, HM5, HP5, HO5, HL5, HK5, HS5, hbS5⟩
                  case measure => have := hin.out; simp [intOf]; omega
                · have b4 : (c != 0) = true := by simpa using hc0
                  replace hc0 := Lib.hid hc0
                  go_wp2_with fail
                  go_ret
                  have hst2 := wp_stop (G := G) (D := D) (M := M) (k := i + 1) (by rw [hst.out, hc]; exact hc0.out) G.n.toNat hin.out
                  have hfd : G.wiped D M = D'.write (G.first + (i : Nat)) v := by
                    unfold Lg.wiped
                    rw [hst2, hst.out, if_pos (by rw [hc]; exact hc0.out)]
                  rw [hMe.out, hfd]
                  exact ⟨by rw [hc]; rfl, S5, ⟨hok.out, _, lv, HP5.out, HO5.out, HL5.out, hS.out, h6.out⟩, HD5.out, HK5.out, HS5.out⟩
            · have b4 : (E != 0) = true := by simpa using hE0
              have hst : Hid (G.wp D M (i + 1) = (D', E)) := by
                show _ = _
                rw [hstep.out, if_pos hE0]
              replace hE0 := Lib.hid hE0
              clear hstep
              go_wp2_with fail
              go_quiet ((go_at_call 15; exact quiet_same (HRd.out _)))
              go_wp2_with fail
              go_ret
              have hst2 := wp_stop (G := G) (D := D) (M := M) (k := i + 1) (by rw [hst.out]; exact hE0.out) G.n.toNat hin.out
              have hfd : G.wiped D M = (D', E) := by
                unfold Lg.wiped
                rw [hst2, hst.out, if_pos hE0.out]
              rw [hMe.out, hfd]
              exact ⟨rfl, S', ⟨hok.out, _, lv, HP.out, HO.out.keep (keepN (fun _ => False) _ _) (fun _ _ h => h), HL.out.keep (keepN (fun _ => False) _ _) (fun _ _ h => h), hS.out, h6.out⟩, HD.out.keep (keepN (fun _ => False) _ _) (fun _ _ h => h), HK.out.trans (keepN (fun _ => False) _ _) (fun _ _ h => h.elim), HS.out⟩
        · obtain rfl : i = G.n.toNat := by omega
          have hge : ¬ ((G.n.toNat : Nat) : Int) < G.n := by omega
          rw [hn] at *
          have c0 : wr.cell? ⟨p, 0, none⟩ = some (.pointer (some ⟨dp, 0, none⟩)) := cell_at HP.out 0
          have HW := Lib.hid (dsk_barrier dp D' S' wr HD.out)
          go_wp2_with fail
          refine (HW.out).mono ?_
          rintro e w5 ⟨rfl, S5, hd5, hk5, hs5⟩
          have hnS : ∀ k ∈ p :: (blk (.slice av G.buf.size cv) ++ blk lv), k ∉ S' := fun k hk h => by
            rcases HS.out k h with h' | h'
            · exact hdis.out k (by rw [hS.out]; exact hk) h'
            · have := hlow.out k (by rw [hS.out]; exact hk); omega
          have HP5 := Lib.hid (hk5.keep HP.out (hnS p (by simp)))
          have HO5 := Lib.hid (HO.out.keep hk5 (fun k hk => hnS k (by simp [hk])))
          have HL5 := Lib.hid (HL.out.keep hk5 (fun k hk => hnS k (by simp [hk])))
          have HD5 := Lib.hid hd5
          have HK5 : Hid (Keeps (· ∈ Sd) w w5) := HK.out.trans hk5 (fun k hk h => (HS.out k h).resolve_right (by omega))
          have HS5 : Hid (∀ k ∈ S5, k ∈ Sd ∨ w.heap.size ≤ k) := fun k hk => by
            rcases hs5 k hk with h | h
            · exact HS.out k h
            · have := HK.out.size; exact .inr (by omega)
          clear hk5 hs5 hd5 HW hnS c0
          go_wp2_with fail
          go_ret
          have hfd : G.wiped D M = D'.barrier := by
            unfold Lg.wiped
            rw [hwp.out, if_neg (fun h => h rfl)]
          rw [hMe.out, hfd]
          exact ⟨rfl, S5, ⟨hok.out, _, lv, HP5.out, HO5.out, HL5.out, hS.out, h6.out⟩, HD5.out, HK5.out, HS5.out⟩
end Go.Proofs.YtdkilpjebmhkkaaDoor
