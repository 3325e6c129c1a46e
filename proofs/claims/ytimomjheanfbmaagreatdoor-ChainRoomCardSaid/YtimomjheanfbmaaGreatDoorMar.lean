import Derived.Test.YtimomjheanfbmaaGreatDoorMaq
set_option linter.unusedSimpArgs false
set_option linter.unusedVariables false
namespace Go.Proofs.YtimomjheanfbmaaGreatDoor
open Go.RowKit

theorem cnt_le {b0 cnt : Nat} {firm fin base n : Int} (hcnt : ∀ k : Nat, k < cnt ↔ 54 * ((b0 + k : Nat) : Int) < fin) (hb0 : (b0 : Int) = firm / 54) (h : fin - base ≤ n * 54) (hn : n ≤ 4096) (hb : base ≤ firm) : cnt ≤ 4097 := by
  apply Classical.byContradiction
  intro hh
  obtain ⟨K, hK⟩ : ∃ K : Nat, K = 4097 := ⟨_, rfl⟩
  have h1 := (hcnt K).1 (by omega)
  have h2 : ((b0 + K : Nat) : Int) = b0 + K := by simp
  rw [h2] at h1
  omega
theorem fl_arith {b0 bb k I cnt : Nat} {firm fin base : Int} (hb0 : (b0 : Int) = firm / 54) (hbb : base = 54 * bb) (hb : base ≤ firm) (hf : firm < fin) (hfin : fin ≤ 1152921504606846976) (hI : I = b0 + k) (hk : k ≤ cnt) (hc : cnt ≤ 4097) : (I : Int) ≤ 21350398233464298 ∧ 54 * bb ≤ 54 * I := by
  have h1 : bb ≤ b0 := by omega
  constructor
  · omega
  · omega
theorem burn_soft (D : Dev) : D.burn.1.soft = D.soft := (burn_same D).2.2
theorem write_soft (D : Dev) (s : Int) (d : ByteArray) : (D.write s d).1.soft.length ≤ D.soft.length + 1 := by
  unfold Dev.write
  have hb := burn_soft D
  repeat' split
  all_goals (try simp only [List.length_append, List.length_singleton, hb])
  all_goals omega
/-- the sector number k of the stream, as the log has it -/
def Lg.secAt (G : Lg) (k : Nat) : ByteArray := secS k (G.buf.extract (54 * k - G.base.toNat) (min (54 * k - G.base.toNat + 54) G.buf.size))
/-- k sectors from number i on are written -/
def Lg.fl (G : Lg) (D : Dev) (i : Nat) : Nat → Dev × Int
  | 0 => (D, 0)
  | k + 1 => if (Lg.fl G D i k).2 ≠ 0 then Lg.fl G D i k else (Lg.fl G D i k).1.write (G.first + ((i + k : Nat) : Int) % G.n) (G.secAt (i + k))
theorem fl_stop {G : Lg} {D : Dev} {i k : Nat} (h : (G.fl D i k).2 ≠ 0) : ∀ j, k ≤ j → G.fl D i j = G.fl D i k := by
  intro j hj
  obtain ⟨d, rfl⟩ : ∃ d, j = k + d := ⟨j - k, by omega⟩
  clear hj
  induction d with
  | zero => rfl
  | succ d ih =>
    show (if (Lg.fl G D i (k + d)).2 ≠ 0 then Lg.fl G D i (k + d) else _) = _
    rw [ih, if_pos h]
theorem fl_soft {G : Lg} {D : Dev} {i : Nat} : ∀ k, (G.fl D i k).1.soft.length ≤ D.soft.length + k
  | 0 => Nat.le_refl _
  | k + 1 => by
    have ih := fl_soft (G := G) (D := D) (i := i) k
    rw [Lg.fl]
    split
    · omega
    · have := write_soft (Lg.fl G D i k).1 (G.first + ((i + k : Nat) : Int) % G.n) (G.secAt (i + k))
      omega
def FlS (w : World) (p dp : Nat) (G : Lg) (g c f : Nat) (s : ByteArray) (w' : World) : Prop := w'.cell? ⟨p, 0, none⟩ = some (.pointer (some ⟨dp, 0, none⟩)) ∧ w'.cell? ⟨p, 1, none⟩ = some (.int .i64 G.first) ∧ w'.cell? ⟨p, 2, none⟩ = some (.int .i64 G.n) ∧ w'.cell? ⟨p, 7, none⟩ = some (.slice (some ⟨g, 0, none⟩) G.buf.size c) ∧ Lib.Bytes w' g f s
theorem OwnS.bytes {w : World} {g c : Nat} {s : ByteArray} (h : OwnS w 5 1 (.slice (some ⟨g, 0, none⟩) s.size c) s.size (Lib.strCells s)) : Lib.Bytes w g 0 s := fun i hi => by
  rw [Nat.zero_add, World.ownsRow.cellAt h i (by omega), Lib.strCells, List.getElem?_map]
  have : s.data.toList[i]? = some s[i] := by
    rw [List.getElem?_eq_getElem (by simpa using hi)]
    rfl
  rw [this]; rfl
theorem Bytes.sub {w : World} {g o : Nat} {s : ByteArray} (h : Lib.Bytes w g o s) (f t : Nat) (hf : f ≤ t) (ht : t ≤ s.size) : Lib.Bytes w g (o + f) (s.extract f t) := fun i hi => by
  have hsz : (s.extract f t).size = t - f := by rw [ByteArray.size_extract]; omega
  have h1 := h (f + i) (by omega)
  rw [Nat.add_assoc, h1]
  congr 3
  rw [ByteArray.getElem_extract]
theorem FlS.mk' {w w' : World} {p dp : Nat} {G : Lg} {g c f t : Nat} {lv : Value} (hp : w'.heap[p]? = some (.cells (lgC dp G (.slice (some ⟨g, 0, none⟩) G.buf.size c) lv) 144 (0, 0))) (ho : OwnS w' 5 1 (.slice (some ⟨g, 0, none⟩) G.buf.size c) G.buf.size (Lib.strCells G.buf)) (hf : f ≤ t) (ht : t ≤ G.buf.size) : FlS w p dp G g c f (G.buf.extract f t) w' := by
  refine ⟨cell_at hp 0, cell_at hp 1, cell_at hp 2, cell_at hp 7, ?_⟩
  have := Bytes.sub (OwnS.bytes ho) f t hf ht
  rwa [Nat.zero_add] at this
theorem wal_flush_not (p dp : Nat) (G : Lg) (S : List Nat) (at_ : Int) (hat : at_ < G.firm ∨ G.firm = G.fin) (w : World) (h : LogAt w p dp G S) :
    Calls Tryz.prog 122 #[.pointer (some ⟨p, 0, none⟩), .int .i64 at_] w fun e w' => e = .returned (.int .i64 0) ∧ Below w.heap.size w w' := by
  obtain ⟨-, bv, lv, h1, -⟩ := h
  have c4 : w.cell? ⟨p, 4, none⟩ = some (.int .i64 G.fin) := cell_at h1 4
  have c5 : w.cell? ⟨p, 5, none⟩ = some (.int .i64 G.firm) := cell_at h1 5
  clear h1
  generalize G.fin = F at *
  generalize G.firm = M at *
  by_cases h0 : at_ < M
  · have b1 : decide (at_ < M) = true := by simpa using h0
    clear hat
    go_enter Tryz.func122, Tryz.ntmps122
    go_wp2_with fail
    go_quiet (fail)
    go_wp2_with fail
    go_ret
    exact ⟨rfl, bN bR _⟩
  · have b1 : decide (at_ < M) = false := by simpa using h0
    obtain rfl := hat.resolve_left h0
    go_enter Tryz.func122, Tryz.ntmps122
    go_wp2_with fail
    go_quiet (fail)
    go_wp2_with fail
    go_ret
    exact ⟨rfl, bN bR _⟩
/-- what Flush makes of a log and its device, where there is something to flush -/
def Lg.flushed (G : Lg) (D : Dev) (i n : Nat) : Lg × Dev × Int :=
  if (G.fl D i n).2 ≠ 0 then (G, (G.fl D i n).1, (G.fl D i n).2)
  else if (G.fl D i n).1.barrier.2 ≠ 0 then (G, (G.fl D i n).1.barrier.1, (G.fl D i n).1.barrier.2)
  else ({ G with firm := G.fin }, (G.fl D i n).1.barrier.1, 0)
set_option maxRecDepth 100000 in
set_option maxHeartbeats 3200000 in
theorem wal_flush (p dp : Nat) (G : Lg) (S Sd : List Nat) (D : Dev) (at_ : Int) (b0 cnt : Nat) (hat : G.firm ≤ at_) (hff : G.firm < G.fin) (hbf : G.base ≤ G.firm) (bb : Nat) (hbb : G.base = 54 * bb) (hb0 : (b0 : Int) = G.firm / 54) (hcnt : ∀ k : Nat, k < cnt ↔ 54 * ((b0 + k : Nat) : Int) < G.fin) (hsoft : D.soft.length ≤ 8000000000000)
    (w : World) (h : LogAt w p dp G S) (hd : DiskAt w dp D Sd) (hdis : ∀ k ∈ S, k ∉ Sd) :
    Calls Tryz.prog 122 #[.pointer (some ⟨p, 0, none⟩), .int .i64 at_] w fun e w' => e = .returned (.int .i64 (G.flushed D b0 cnt).2.2) ∧ ∃ Sd', LogAt w' p dp (G.flushed D b0 cnt).1 S ∧ DiskAt w' dp (G.flushed D b0 cnt).2.1 Sd' ∧ Keeps (fun k => k ∈ S ∨ k ∈ Sd) w w' ∧ ∀ k ∈ Sd', k ∈ Sd ∨ w.heap.size ≤ k := by
  have hlow := Lib.hid (show ∀ k ∈ S, k < w.heap.size from fun k hk => h.lt k hk)
  have hdis := Lib.hid hdis
  obtain ⟨hok, bv, lv, h1, h2, h3, hS, h6⟩ := h
  obtain ⟨a1, a2, a3, a4, a5, a6, a7, a8, a9, a10, a11, a12, a13, a14⟩ := id hok
  have hok := Lib.hid hok
  obtain ⟨g, c, rfl, hnc⟩ := (show ∃ g c, bv = .slice (some ⟨g, 0, none⟩) G.buf.size c ∧ G.buf.size ≤ c from by
    rcases h2.2 with ⟨_, e⟩ | ⟨g, cap, cur, rfl, _, _, hc, _⟩
    · omega
    · exact ⟨g, cap, rfl, hc⟩)
  have HP := Lib.hid h1
  have HO := Lib.hid h2
  have HL := Lib.hid h3
  have HD := Lib.hid hd
  have hS := Lib.hid hS
  have h6 := Lib.hid h6
  have b1 : decide (at_ < G.firm) = false := by simpa using hat
  have b2 : (G.firm == G.fin) = false := by simp; omega
  have c4 : w.cell? ⟨p, 4, none⟩ = some (.int .i64 G.fin) := cell_at h1 4
  have c5 : w.cell? ⟨p, 5, none⟩ = some (.int .i64 G.firm) := cell_at h1 5
  have hq : G.firm.tdiv 54 = (b0 : Int) := by rw [hb0, Int.tdiv_eq_ediv_of_nonneg a13]
  have wb0 : IntKind.i64.wrap (b0 : Int) = b0 := by rw [IntKind.wrap_i64]; omega
  have wb1 : wrap64 (b0 : Int) = b0 := by unfold wrap64; omega
  have hncI : (G.buf.size : Int) ≤ c := by omega
  have hcl : Hid (cnt ≤ 4097) := cnt_le hcnt hb0 a8 a2 hbf
  have hcnt := Lib.hid hcnt
  replace hb0 := Lib.hid hb0
  replace hbb := Lib.hid hbb
  clear h1 h2 h3 hd
  go_enter Tryz.func122, Tryz.ntmps122
  go_wp2_with fail
  go_quiet (fail)
  have HP1 : Hid ((w.drewN nq).heap[p]? = _) := HP.out
  have HO1 : Hid (OwnS (w.drewN nq) _ _ _ _ _) := HO.out.keep ((show Keeps (fun _ => False) w (w.drewN nq) from ⟨rfl, rfl, rfl, Nat.le_refl _, fun _ _ _ => rfl⟩)) (fun _ _ h => h)
  have HL1 : Hid (OwnS (w.drewN nq) _ _ _ _ _) := HL.out.keep ((show Keeps (fun _ => False) w (w.drewN nq) from ⟨rfl, rfl, rfl, Nat.le_refl _, fun _ _ _ => rfl⟩)) (fun _ _ h => h)
  have HD1 := Lib.hid (HD.out.keep ((show Keeps (fun _ => False) w (w.drewN nq) from ⟨rfl, rfl, rfl, Nat.le_refl _, fun _ _ _ => rfl⟩)) (fun _ _ h => h))
  have HK1 : Hid (Keeps (· ∈ Sd) w (w.drewN nq)) := ⟨rfl, rfl, rfl, Nat.le_refl _, fun _ _ _ => rfl⟩
  clear HP HO HL HD
  go_wp2_with fail
  clear c4 c5
  go_loopw [5] (fun s wr => ∃ (k I : Nat) (D' : Dev) (S' : List Nat), k ≤ cnt ∧ I = b0 + k ∧ s = .int .i64 (I : Int) ∧ Hid (G.fl D b0 k = (D', 0)) ∧ Hid (DiskAt wr dp D' S') ∧ Hid (wr.heap[p]? = some (.cells (lgC dp G (.slice (some ⟨g, 0, none⟩) G.buf.size c) lv) 144 (0, 0))) ∧ Hid (OwnS wr 5 1 (.slice (some ⟨g, 0, none⟩) G.buf.size c) G.buf.size (Lib.strCells G.buf)) ∧ Hid (OwnS wr 140 2 lv G.list.length (recV G.list)) ∧ Hid (Keeps (· ∈ Sd) w wr) ∧ Hid (∀ k ∈ S', k ∈ Sd ∨ w.heap.size ≤ k)) (fun s _ => cnt + b0 - (intOf s).toNat)
  case atStart => exact ⟨0, b0, D, Sd, by omega, rfl, by first | rfl | rw [wb1], rfl, HD1, HP1, HO1, HL1, HK1, fun k hk => .inl hk⟩
  case round =>
    clear HP1 HO1 HL1 HD1 HK1
    obtain ⟨k, I, D', S', hk, hI, rfl, hfl, HD, HP, HO, HL, HK, HS⟩ := hrel
    have hsl : D'.soft.length ≤ 8000000004097 := by
      have h1 := fl_soft (G := G) (D := D) (i := b0) k
      rw [hfl.out] at h1
      have h2 : D'.soft.length ≤ D.soft.length + k := h1
      have := hcl.out
      omega
    obtain ⟨hIb, hbI⟩ := fl_arith hb0.out hbb.out hbf hff a7 hI hk hcl.out
    have hlt := hcnt.out k
    rw [← hI] at hlt
    replace hI := Lib.hid hI
    have e1 : IntKind.i64.wrap ((I : Int) * 54) = (I : Int) * 54 := by rw [IntKind.wrap_i64]; omega
    have c4 : wr.cell? ⟨p, 4, none⟩ = some (.int .i64 G.fin) := cell_at HP.out 4
    have wrI : IntKind.i64.wrap ((I : Int) + 1) = (I : Int) + 1 := by rw [IntKind.wrap_i64]; omega
    by_cases hkc : k < cnt
    · have hlt := hlt.1 hkc
      have hltI : (I : Int) * 54 < G.fin := by omega
      obtain ⟨f, hf⟩ : ∃ f : Nat, f = 54 * I - 54 * bb := ⟨_, rfl⟩
      have hfI : (f : Int) = 54 * I - G.base := by have := hbb.out; omega
      have hfs : f < G.buf.size := by omega
      have e2 : IntKind.i64.wrap ((I : Int) * 54 - G.base) = (f : Int) := by rw [IntKind.wrap_i64]; omega
      have e3 : IntKind.i64.wrap ((f : Int) + 54) = (f : Int) + 54 := by rw [IntKind.wrap_i64]; omega
      have htm : (I : Int).tmod G.n = (I : Int) % G.n := Int.tmod_eq_emod_of_nonneg (by omega)
      have hm1 : 0 ≤ (I : Int) % G.n := Int.emod_nonneg _ (by omega)
      have hm2 : (I : Int) % G.n < G.n := Int.emod_lt_of_pos _ (by omega)
      have e4 : IntKind.i64.wrap (G.first + (I : Int) % G.n) = G.first + (I : Int) % G.n := by rw [IntKind.wrap_i64]; omega
      have c6 : wr.cell? ⟨p, 6, none⟩ = some (.int .i64 G.base) := cell_at HP.out 6
      have c7 : wr.cell? ⟨p, 7, none⟩ = some (.slice (some ⟨g, 0, none⟩) G.buf.size c) := cell_at HP.out 7
      have hcf : ¬ c = f := by omega
      have hf0 : (0 : Int) ≤ f := by omega
      obtain ⟨t, ht⟩ : ∃ t : Nat, t = min (f + 54) G.buf.size := ⟨_, rfl⟩
      have hmn : min ((f : Int) + 54) (G.buf.size : Int) = t := by omega
      have hft' : f ≤ t := by omega
      have hts' : t ≤ G.buf.size := by omega
      have ht54 : t - f ≤ 54 := by omega
      have hft : (f : Int) ≤ t := by omega
      have htc : (t : Int) ≤ c := by omega
      have ht0 : (0 : Int) ≤ t := by omega
      have hse : Hid ((G.buf.extract f t).size = t - f) := by show _ = _; rw [ByteArray.size_extract]; omega
      have hsecAt : Hid (secS (I : Int) (G.buf.extract f t) = G.secAt I) := by
        show _ = _
        unfold Lg.secAt
        rw [show 54 * I - G.base.toNat = f by omega, show min (f + 54) G.buf.size = t by omega]
      replace a1 := Lib.hid a1
      replace a2 := Lib.hid a2
      replace a3 := Lib.hid a3
      replace a4 := Lib.hid a4
      replace a5 := Lib.hid a5
      replace a6 := Lib.hid a6
      replace a7 := Lib.hid a7
      replace a8 := Lib.hid a8
      replace a9 := Lib.hid a9
      replace a10 := Lib.hid a10
      replace hf := Lib.hid hf
      replace hfI := Lib.hid hfI
      replace hat := Lib.hid hat
      replace hff := Lib.hid hff
      replace hbf := Lib.hid hbf
      replace hsl := Lib.hid hsl
      replace hIb := Lib.hid hIb
      replace hsoft := Lib.hid hsoft
      replace hlt := Lib.hid hlt
      replace hkc := Lib.hid hkc
      replace hk := Lib.hid hk
      clear ht hbI a11 a12 a13 a14 b1 b2 hq hnc
      go_wp2_with fail
      have hS0 : FlS w p dp G g c f (G.buf.extract f t) wr.drew := FlS.mk' (hDr HP.out) (HO.out.keep ((Keeps.refl (fun _ => False) _).drew) (fun _ _ h => h)) hft' hts'
      refine wp_region_held_drew (S := FlS w p dp G g c f (G.buf.extract f t)) (by kernel_rfl) hS0 (fun hHeld => ?_)
      clear hS0
      refine wpAnyH_take (i := 0) (oi := ⟨some 58, _, _, _, _, _⟩) (v := ?_) rfl (by kernel_rfl) (by kernel_rfl) (by kernel_rfl) (fun _ _ _ h => h) (Or.inl ⟨by rfl, ?_⟩) hHeld ?_
      rotate_left
      · intro w' hSw
        obtain ⟨s0, s1, s2, s7, -⟩ := hSw
        go_simp
        try with_reducible rfl
        try omega
      simp only [Act.put, List.setIfInBounds_toArray, List.set_cons_zero, List.set_cons_succ]
      refine wpAnyH_take (i := 1) (oi := ⟨some 59, _, _, _, _, _⟩) (v := ?_) rfl (by kernel_rfl) (by kernel_rfl) (by kernel_rfl) (fun _ _ _ h => h) (Or.inl ⟨by rfl, ?_⟩) hHeld ?_
      rotate_left
      · intro w' hSw
        obtain ⟨s0, s1, s2, s7, -⟩ := hSw
        go_simp
        try with_reducible rfl
        try omega
      simp only [Act.put, List.setIfInBounds_toArray, List.set_cons_zero, List.set_cons_succ]
      refine wpAnyH_take (i := 2) (oi := ⟨some 60, _, _, _, _, _⟩) (v := ?_) rfl (by kernel_rfl) (by kernel_rfl) (by kernel_rfl) (fun _ _ _ h => h) (Or.inl ⟨by rfl, ?_⟩) hHeld ?_
      rotate_left
      · intro w' hSw
        obtain ⟨s0, s1, s2, s7, -⟩ := hSw
        go_simp
        try with_reducible rfl
        try omega
      simp only [Act.put, List.setIfInBounds_toArray, List.set_cons_zero, List.set_cons_succ]
      refine wpAnyH_take (i := 3) (oi := ⟨some 61, _, _, _, _, _⟩) (v := ?_) rfl (by kernel_rfl) (by kernel_rfl) (by kernel_rfl) (fun _ _ _ h => h) (Or.inl ⟨by rfl, ?_⟩) hHeld ?_
      rotate_left
      · intro w' hSw
        obtain ⟨s0, s1, s2, s7, -⟩ := hSw
        go_simp
        try with_reducible rfl
        try omega
      simp only [Act.put, List.setIfInBounds_toArray, List.set_cons_zero, List.set_cons_succ]
      refine wpAnyH_take (i := 4) (oi := ⟨some 62, _, _, _, _, _⟩) (v := ?_) rfl (by kernel_rfl) (by kernel_rfl) (by kernel_rfl) (fun _ _ _ h => h) (Or.inl ⟨by rfl, ?_⟩) hHeld ?_
      rotate_left
      · intro w' hSw
        obtain ⟨s0, s1, s2, s7, -⟩ := hSw
        go_simp
        try with_reducible rfl
        try omega
      simp only [Act.put, List.setIfInBounds_toArray, List.set_cons_zero, List.set_cons_succ]
      refine wpAnyH_take (i := 5) (oi := ⟨some 63, _, _, _, _, _⟩) (v := ?_) rfl (by kernel_rfl) (by kernel_rfl) (by kernel_rfl) (fun _ _ _ h => h) (Or.inl ⟨by rfl, ?_⟩) hHeld ?_
      rotate_left
      · intro w' hSw
        obtain ⟨s0, s1, s2, s7, -⟩ := hSw
        go_simp
        try with_reducible rfl
        try omega
      simp only [Act.put, List.setIfInBounds_toArray, List.set_cons_zero, List.set_cons_succ]
      refine wpAnyH_take (i := 6) (oi := ⟨some 64, _, _, _, _, _⟩) (v := ?_) rfl (by kernel_rfl) (by kernel_rfl) (by kernel_rfl) (fun _ _ _ h => h) (Or.inl ⟨by rfl, ?_⟩) hHeld ?_
      rotate_left
      · intro w' hSw
        obtain ⟨s0, s1, s2, s7, -⟩ := hSw
        go_simp
        try with_reducible rfl
        try omega
      simp only [Act.put, List.setIfInBounds_toArray, List.set_cons_zero, List.set_cons_succ]
      refine wpAnyH_take (i := 7) (oi := ⟨some 65, _, _, _, _, _⟩) (v := ?_) rfl (by kernel_rfl) (by kernel_rfl) (by kernel_rfl) (fun _ _ _ h => h) (Or.inl ⟨by rfl, ?_⟩) hHeld ?_
      rotate_left
      · intro w' hSw
        obtain ⟨s0, s1, s2, s7, -⟩ := hSw
        go_simp
        try with_reducible rfl
        try omega
      simp only [Act.put, List.setIfInBounds_toArray, List.set_cons_zero, List.set_cons_succ]
      refine wpAnyH_take (i := 8) (oi := ⟨some 66, _, _, _, _, _⟩) (v := ?_) rfl (by kernel_rfl) (by kernel_rfl) (by kernel_rfl) (fun _ _ _ h => h) (Or.inl ⟨by rfl, ?_⟩) hHeld ?_
      rotate_left
      · intro w' hSw
        obtain ⟨s0, s1, s2, s7, -⟩ := hSw
        go_simp
        try with_reducible rfl
        try omega
      simp only [Act.put, List.setIfInBounds_toArray, List.set_cons_zero, List.set_cons_succ]
      refine wpAnyH_take (i := 9) (oi := ⟨some 67, _, _, _, _, _⟩) (v := ?_) rfl (by kernel_rfl) (by kernel_rfl) (by kernel_rfl) (fun _ _ _ h => h) (Or.inl ⟨by rfl, ?_⟩) hHeld ?_
      rotate_left
      · intro w' hSw
        obtain ⟨s0, s1, s2, s7, -⟩ := hSw
        go_simp
        try with_reducible rfl
        try omega
      simp only [Act.put, List.setIfInBounds_toArray, List.set_cons_zero, List.set_cons_succ]
      refine wpAnyH_take (i := 10) (oi := ⟨some 68, _, _, _, _, _⟩) (v := ?_) rfl (by kernel_rfl) (by kernel_rfl) (by kernel_rfl) (fun _ _ _ h => h) (Or.inl ⟨by rfl, ?_⟩) hHeld ?_
      rotate_left
      · intro w' hSw
        obtain ⟨s0, s1, s2, s7, -⟩ := hSw
        go_simp
        try with_reducible rfl
        try omega
      simp only [Act.put, List.setIfInBounds_toArray, List.set_cons_zero, List.set_cons_succ]
      refine wpAnyH_take (i := 11) (oi := ⟨some 69, _, _, _, _, _⟩) (v := ?_) rfl (by kernel_rfl) (by kernel_rfl) (by kernel_rfl) (fun _ _ _ h => h) (Or.inl ⟨by rfl, ?_⟩) hHeld ?_
      rotate_left
      · intro w' hSw
        obtain ⟨s0, s1, s2, s7, -⟩ := hSw
        go_simp
        try with_reducible rfl
        try omega
      simp only [Act.put, List.setIfInBounds_toArray, List.set_cons_zero, List.set_cons_succ]
      refine wpAnyH_take (i := 12) (oi := ⟨some 70, _, _, _, _, _⟩) (v := ?_) rfl (by kernel_rfl) (by kernel_rfl) (by kernel_rfl) (fun _ _ _ h => h) (Or.inl ⟨by rfl, ?_⟩) hHeld ?_
      rotate_left
      · intro w' hSw
        obtain ⟨s0, s1, s2, s7, -⟩ := hSw
        go_simp
        try with_reducible rfl
        try omega
      simp only [Act.put, List.setIfInBounds_toArray, List.set_cons_zero, List.set_cons_succ]
      refine wpAnyH_take (i := 13) (oi := ⟨some 71, _, _, _, _, _⟩) (v := .int .i64 ((I : Int) % G.n)) rfl (by kernel_rfl) (by kernel_rfl) (by kernel_rfl) (fun _ _ _ h => h) (Or.inl ⟨by rfl, ?_⟩) hHeld ?_
      · intro w' hSw
        obtain ⟨s0, s1, s2, s7, -⟩ := hSw
        go_simp
        try with_reducible rfl
        try omega
      simp only [Act.put, List.setIfInBounds_toArray, List.set_cons_zero, List.set_cons_succ]
      refine wpAnyH_take (i := 14) (oi := ⟨some 72, _, _, _, _, _⟩) (v := .int .i64 (G.first + (I : Int) % G.n)) rfl (by kernel_rfl) (by kernel_rfl) (by kernel_rfl) (fun _ _ _ h => h) (Or.inl ⟨by rfl, ?_⟩) hHeld ?_
      · intro w' hSw
        obtain ⟨s0, s1, s2, s7, -⟩ := hSw
        go_simp
        try with_reducible rfl
        try omega
      simp only [Act.put, List.setIfInBounds_toArray, List.set_cons_zero, List.set_cons_succ]
      refine wpAnyH_take (i := 15) (oi := ⟨some 73, _, _, _, _, _⟩) (v := ?_) rfl (by kernel_rfl) (by kernel_rfl) (by kernel_rfl) (fun _ _ _ h => h) (Or.inl ⟨by rfl, ?_⟩) hHeld ?_
      rotate_left
      · intro w' hSw
        obtain ⟨s0, s1, s2, s7, -⟩ := hSw
        go_simp
        try with_reducible rfl
        try omega
      simp only [Act.put, List.setIfInBounds_toArray, List.set_cons_zero, List.set_cons_succ]
      refine wpAnyH_take (i := 16) (oi := ⟨some 74, _, _, _, _, _⟩) (v := ?_) rfl (by kernel_rfl) (by kernel_rfl) (by kernel_rfl) (fun _ _ _ h => h) (Or.inl ⟨by rfl, ?_⟩) hHeld ?_
      rotate_left
      · intro w' hSw
        obtain ⟨s0, s1, s2, s7, -⟩ := hSw
        go_simp
        try with_reducible rfl
        try omega
      simp only [Act.put, List.setIfInBounds_toArray, List.set_cons_zero, List.set_cons_succ]
      refine wpAnyH_take (i := 17) (oi := ⟨some 75, _, _, _, _, _⟩) (v := ?_) rfl (by kernel_rfl) (by kernel_rfl) (by kernel_rfl) (fun _ _ _ h => h) (Or.inl ⟨by rfl, ?_⟩) hHeld ?_
      rotate_left
      · intro w' hSw
        obtain ⟨s0, s1, s2, s7, -⟩ := hSw
        go_simp
        try with_reducible rfl
        try omega
      simp only [Act.put, List.setIfInBounds_toArray, List.set_cons_zero, List.set_cons_succ]
      refine wpAnyH_take (i := 18) (oi := ⟨some 76, _, _, _, _, _⟩) (v := ?_) rfl (by kernel_rfl) (by kernel_rfl) (by kernel_rfl) (fun _ _ _ h => h) (Or.inl ⟨by rfl, ?_⟩) hHeld ?_
      rotate_left
      · intro w' hSw
        obtain ⟨s0, s1, s2, s7, -⟩ := hSw
        go_simp
        try with_reducible rfl
        try omega
      simp only [Act.put, List.setIfInBounds_toArray, List.set_cons_zero, List.set_cons_succ]
      refine wpAnyH_take (i := 19) (oi := ⟨some 77, _, _, _, _, _⟩) (v := ?_) rfl (by kernel_rfl) (by kernel_rfl) (by kernel_rfl) (fun _ _ _ h => h) (Or.inl ⟨by rfl, ?_⟩) hHeld ?_
      rotate_left
      · intro w' hSw
        obtain ⟨s0, s1, s2, s7, -⟩ := hSw
        go_simp
        try with_reducible rfl
        try omega
      simp only [Act.put, List.setIfInBounds_toArray, List.set_cons_zero, List.set_cons_succ]
      refine wpAnyH_take (i := 20) (oi := ⟨some 78, _, _, _, _, _⟩) (v := ?_) rfl (by kernel_rfl) (by kernel_rfl) (by kernel_rfl) (fun _ _ _ h => h) (Or.inl ⟨by rfl, ?_⟩) hHeld ?_
      rotate_left
      · intro w' hSw
        obtain ⟨s0, s1, s2, s7, -⟩ := hSw
        go_simp
        try with_reducible rfl
        try omega
      simp only [Act.put, List.setIfInBounds_toArray, List.set_cons_zero, List.set_cons_succ]
      refine wpAnyH_take (i := 21) (oi := ⟨some 79, _, _, _, _, _⟩) (v := ?_) rfl (by kernel_rfl) (by kernel_rfl) (by kernel_rfl) (fun _ _ _ h => h) (Or.inl ⟨by rfl, ?_⟩) hHeld ?_
      rotate_left
      · intro w' hSw
        obtain ⟨s0, s1, s2, s7, -⟩ := hSw
        go_simp
        try with_reducible rfl
        try omega
      simp only [Act.put, List.setIfInBounds_toArray, List.set_cons_zero, List.set_cons_succ]
      refine wpAnyH_take (i := 22) (oi := ⟨some 80, _, _, _, _, _⟩) (v := .slice (some ⟨g, f, none⟩) (t - f) (c - f)) rfl (by kernel_rfl) (by kernel_rfl) (by kernel_rfl) (fun _ _ _ h => h) (Or.inl ⟨by rfl, ?_⟩) hHeld ?_
      · intro w' hSw
        obtain ⟨s0, s1, s2, s7, -⟩ := hSw
        go_simp
        try with_reducible rfl
        try omega
      simp only [Act.put, List.setIfInBounds_toArray, List.set_cons_zero, List.set_cons_succ]
      refine wpAnyH_ready (rs := [23]) (by kernel_rfl) (by simp) ?_
      refine AllReadyH.cons (o := ⟨some 81, _, _, _, _, _⟩) rfl (fun K hK => ?_) AllReadyH.nil
      go_simp
      go_at_call 151
      have HSx := wal_sector (I : Int) (by have := hIb.out; omega) g f (c - f) (G.buf.extract f t) (by rw [hse.out]; exact ht54) wr.drew (HO.out.lt (by simp [blk, Value.ownBlock])) hHeld.2.2.2.2
      rw [hse.out] at HSx
      refine HSx.mono ?_
      rintro e w4 ⟨rfl, hb⟩
      rw [hsecAt.out]
      replace hb : Below wr.heap.size wr w4 := bT (bD bR) hb
      have HP4 := Lib.hid (hBs hb HP.out)
      have HO4 := Lib.hid (HO.out.keep (Keeps.of_below (fun _ => False) hb) (fun _ _ h => h))
      have HL4 := Lib.hid (HL.out.keep (Keeps.of_below (fun _ => False) hb) (fun _ _ h => h))
      have HD4 := Lib.hid (HD.out.later hb)
      have HK4 : Hid (Keeps (· ∈ Sd) w w4) := HK.out.trans (Keeps.of_below (fun _ => False) hb) (fun _ _ h => h.elim)
      have hs4 := Lib.hid hb.size
      clear hb HSx hHeld HP HO HL HD HK
      go_wp2_with fail
      refine hK.out _ _ (FlS.mk' HP4.out HO4.out hft' hts') (fun hHeld => ?_)
      clear hK K
      try simp only [Act.put, List.setIfInBounds_toArray, List.set_cons_zero, List.set_cons_succ]
      refine wpAnyH_ready (rs := [24]) (by kernel_rfl) (by simp) ?_
      refine AllReadyH.cons (o := ⟨some 82, _, _, _, _, _⟩) rfl (fun K hK => ?_) AllReadyH.nil
      go_simp
      go_at_call 72
      have HWx := dsk_write dp (G.first + (I : Int) % G.n) (secS (I : Int) (G.buf.extract f t)) (by rw [secS_size _ _ (by rw [hse.out]; exact ht54)]; unfold maxLen; omega) D' S' (by have := hsl.out; omega) w4 HD4.out
      rw [hsecAt.out] at HWx
      refine HWx.mono ?_
      rintro e w5 ⟨rfl, S5, hd5, hk5, hs5⟩
      have hnS : ∀ k ∈ p :: (blk (.slice (some ⟨g, 0, none⟩) G.buf.size c) ++ blk lv), k ∉ S' := fun k hk h => by
        rcases HS.out k h with h' | h'
        · exact hdis.out k (by rw [hS.out]; exact hk) h'
        · have := hlow.out k (by rw [hS.out]; exact hk); omega
      have HP5 := Lib.hid (hk5.keep HP4.out (hnS p (by simp)))
      have HO5 := Lib.hid (HO4.out.keep hk5 (fun k hk => hnS k (by simp [hk])))
      have HL5 := Lib.hid (HL4.out.keep hk5 (fun k hk => hnS k (by simp [hk])))
      have HD5 := Lib.hid hd5
      have HK5 : Hid (Keeps (· ∈ Sd) w w5) := HK4.out.trans hk5 (fun k hk h => (HS.out k h).resolve_right (by omega))
      have HS5 : Hid (∀ k ∈ S5, k ∈ Sd ∨ w.heap.size ≤ k) := fun k hk => by
        rcases hs5 k hk with h | h
        · exact HS.out k h
        · have := HK4.out.size; exact .inr (by omega)
      clear hk5 hs5 hd5 HWx HP4 HO4 HL4 HD4 HK4 hHeld hnS hs4
      go_wp2_with fail
      refine hK.out _ _ (FlS.mk' HP5.out HO5.out hft' hts') (fun hHeld => ?_)
      clear hK K
      try simp only [Act.put, List.setIfInBounds_toArray, List.set_cons_zero, List.set_cons_succ]
      refine wpAnyH_take (i := 25) (oi := ⟨some 8, _, _, _, _, _⟩) (v := ?_) rfl (by kernel_rfl) (by kernel_rfl) (by kernel_rfl) (fun _ _ _ h => h) (Or.inl ⟨by rfl, ?_⟩) hHeld ?_
      rotate_left
      · intro w' hSw
        obtain ⟨s0, s1, s2, s7, -⟩ := hSw
        go_simp
        try with_reducible rfl
        try omega
      simp only [Act.put, List.setIfInBounds_toArray, List.set_cons_zero, List.set_cons_succ]
      clear hHeld
      refine wpAnyH_done (by kernel_rfl) ?_ _
      by_cases hwe : (D'.write (G.first + (I : Int) % G.n) (G.secAt I)).2 = 0
      · have hn1 : G.fl D b0 (k + 1) = ((D'.write (G.first + (I : Int) % G.n) (G.secAt I)).1, 0) := by
          rw [Lg.fl, hfl.out, if_neg (by simp), ← hI.out]
          exact Prod.ext rfl hwe
        have hn1 := Lib.hid hn1
        rw [hwe]
        replace hwe := Lib.hid hwe
        go_wp2_with fail
        go_roundw
        case rel => exact ⟨k + 1, I + 1, _, S5, hkc.out, by have := hI.out; omega, rfl, hn1, HD5, HP5, HO5, HL5, HK5, HS5⟩
        case measure => have := hI.out; have := hkc.out; simp [intOf]; omega
      · have hn1 : G.fl D b0 (k + 1) = D'.write (G.first + (I : Int) % G.n) (G.secAt I) := by
          rw [Lg.fl, hfl.out, if_neg (by simp), ← hI.out]
        have hn1 := Lib.hid hn1
        have hwe2 : ((D'.write (G.first + (I : Int) % G.n) (G.secAt I)).2 != 0) = true := by simpa using hwe
        replace hwe := Lib.hid hwe
        go_wp2_with fail
        go_ret
        have hst := fl_stop (G := G) (D := D) (i := b0) (k := k + 1) (by rw [hn1.out]; exact hwe.out) cnt hkc.out
        have hfd : G.flushed D b0 cnt = (G, D'.write (G.first + (I : Int) % G.n) (G.secAt I)) := by
          unfold Lg.flushed
          rw [hst, hn1.out, if_pos hwe.out]
        rw [hfd]
        exact ⟨rfl, S5, ⟨hok.out, _, lv, HP5.out, HO5.out, HL5.out, hS.out, h6.out⟩, HD5.out, HK5.out.mono (fun _ _ h => .inr h), HS5.out⟩
    · obtain rfl : k = cnt := by omega
      have hge : ¬ ((I : Int) * 54 < G.fin) := by
        have : ¬ (54 * (I : Int) < G.fin) := fun h => absurd (hlt.2 h) (by omega)
        omega
      have c0 : wr.cell? ⟨p, 0, none⟩ = some (.pointer (some ⟨dp, 0, none⟩)) := cell_at HP.out 0
      have HW := Lib.hid (dsk_barrier dp D' S' wr HD.out)
      replace hlt := Lib.hid hlt
      go_wp2_with fail
      refine (HW.out).mono ?_
      rintro e w5 ⟨rfl, S5, hd5, hk5, hs5⟩
      have hnS : ∀ k ∈ p :: (blk (.slice (some ⟨g, 0, none⟩) G.buf.size c) ++ blk lv), k ∉ S' := fun k hk h => by
        rcases HS.out k h with h' | h'
        · exact hdis.out k (by rw [hS.out]; exact hk) h'
        · have := hlow.out k (by rw [hS.out]; exact hk); omega
      have HP5 := Lib.hid (hk5.keep HP.out (hnS p (by simp)))
      have HO5 := Lib.hid (HO.out.keep hk5 (fun k hk => hnS k (by simp [hk])))
      have HL5 := Lib.hid (HL.out.keep hk5 (fun k hk => hnS k (by simp [hk])))
      have HD5 := Lib.hid hd5
      have HK5 : Hid (Keeps (· ∈ Sd) w w5) := HK.out.trans hk5 (fun k hk h => (HS.out k h).resolve_right (by omega))
      have HS5 : Hid (∀ k ∈ S5, k ∈ Sd ∨ w.heap.size ≤ k) := fun k hk => by
        rcases hs5 k hk with h | h
        · exact HS.out k h
        · have := HK.out.size; exact .inr (by omega)
      clear hk5 hs5 hd5 HW hnS c4 c0
      by_cases hbe : D'.barrier.2 = 0
      · have hfd : G.flushed D b0 k = ({ G with firm := G.fin }, D'.barrier.1, 0) := by
          unfold Lg.flushed
          rw [hfl.out]
          simp only [ne_eq, not_true_eq_false, if_false, hbe]
        have hfd := Lib.hid hfd
        rw [hbe]
        replace hbe := Lib.hid hbe
        have c4 : w5.cell? ⟨p, 4, none⟩ = some (.int .i64 G.fin) := cell_at HP5.out 4
        have c5 : w5.cell? ⟨p, 5, none⟩ = some (.int .i64 G.firm) := cell_at HP5.out 5
        have f5 := free_at HP5.out 5
        go_wp2_with fail
        go_ret
        rw [hfd.out]
        have hps : ∀ k ∈ p :: (blk (.slice (some ⟨g, 0, none⟩) G.buf.size c) ++ blk lv), k ∉ S5 := fun k hk h => by
          rcases HS5.out k h with h' | h'
          · exact hdis.out k (by rw [hS.out]; exact hk) h'
          · have := hlow.out k (by rw [hS.out]; exact hk); omega
        have hnd := h6.out
        rw [hS.out] at hnd
        have hnp := (List.nodup_cons.1 hnd).1
        have K1 : Keeps (· = p) w5 (w5.setCell ⟨p, 5, none⟩ (.int .i64 G.fin)) := (Keeps.refl _ _).setCell _ _ (.inl rfl)
        refine ⟨rfl, S5, ⟨?_, .slice (some ⟨g, 0, none⟩) G.buf.size c, lv, heap_set HP5.out 5 _, HO5.out.keep K1 (fun k hk e => hnp (by subst e; simp [hk])), HL5.out.keep K1 (fun k hk e => hnp (by subst e; simp [hk])), hS.out, h6.out⟩, HD5.out.keep K1 (fun k hk e => hps p (by simp) (e ▸ hk)), ?_, HS5.out⟩
        · obtain ⟨q1, q2, q3, q4, q5, q6, q7, q8, q9, q10, q11, q12, q13, q14⟩ := hok.out
          exact ⟨q1, q2, q3, q4, q5, q6, q7, q8, q9, q10, q11, q12, by show 0 ≤ G.fin; omega, q7⟩
        · refine (HK5.out.mono (T := fun k => k ∈ S ∨ k ∈ Sd) (fun _ _ h => .inr h)).setCell _ _ (.inl (.inl ?_))
          rw [hS.out]; simp
      · have hfd : G.flushed D b0 k = (G, D'.barrier) := by
          unfold Lg.flushed
          rw [hfl.out]
          simp only [ne_eq, not_true_eq_false, if_false]
          rw [if_pos hbe]
        have hfd := Lib.hid hfd
        have hbe2 : (D'.barrier.2 != 0) = true := by simpa using hbe
        replace hbe := Lib.hid hbe
        go_wp2_with fail
        go_ret
        rw [hfd.out]
        exact ⟨rfl, S5, ⟨hok.out, _, lv, HP5.out, HO5.out, HL5.out, hS.out, h6.out⟩, HD5.out, HK5.out.mono (fun _ _ h => .inr h), HS5.out⟩
end Go.Proofs.YtimomjheanfbmaaGreatDoor
