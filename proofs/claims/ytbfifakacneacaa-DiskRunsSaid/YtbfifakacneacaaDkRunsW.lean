import Derived.Test.YtbfifakacneacaaDkRuns
set_option linter.unusedSimpArgs false
set_option linter.unusedVariables false
namespace Go.Proofs.Ytbfifakacneacaa
open Go.RowKit

set_option maxRecDepth 100000 in
theorem runs_bad (n : Int) (v : Value) (h : n < 1 ∨ 16384 < n) (w : World) (hv : ∃ a l c, v = .slice a l c) :
    Calls Try.prog 8 #[.int .i64 n, v] w fun e w' => e = .returned (.bool true) ∧ Below w.heap.size w w' := by
  obtain ⟨a, l, c, rfl⟩ := hv
  have HN := Lib.hid (dsk_new_bad n h)
  rcases h with h | h
  all_goals
    go_enter Try.func8, Try.ntmps8
    go_wp2_with fail
    refine (awake02 _).mono ?_
    rintro e w1 ⟨rfl, hb⟩
    have HB1 := Lib.hid hb
    clear hb
    go_wp2_with fail
    refine (HN.out _).mono ?_
    rintro e w2 ⟨rfl, rfl⟩
    go_wp2_with fail
    go_ret
    exact ⟨rfl, HB1.out⟩
set_option maxRecDepth 100000 in
set_option maxHeartbeats 12800000 in
theorem runs_good (n : Nat) (h0 : 0 < n) (h1 : n ≤ 16384) (v : Value) (cs : List CallA) (L0 : cs.length * 56 ≤ 140737488351232) (w : World) (SC : CallsAt w v cs) :
    Calls Try.prog 8 #[.int .i64 n, v] w fun e w' => e = .returned (.bool true) ∧ Below w.heap.size w w' := by
  have HN := Lib.hid (dsk_new n h0 h1)
  have HM := Lib.hid (ref_new n h0 h1)
  obtain ⟨ca, cc, rfl⟩ := SC.form
  have SC := Lib.hid SC
  have hn0 : (1 : Int) ≤ n := by omega
  have hn1 : (n : Int) ≤ 16384 := by omega
  have HRI : Hid (RunInv n 0 (Dev.new n)) := ⟨good_new n, by show (List.replicate n _).length = n; simp, Nat.le_refl _⟩
  have hfn : ((Dev.new n).firm.length : Int) = n := by show (((List.replicate n _).length : Nat) : Int) = n; simp
  go_enter Try.func8, Try.ntmps8
  go_wp2_with fail
  refine (awake02 _).mono ?_
  rintro e w1 ⟨rfl, hb⟩
  have HB1 := Lib.hid hb
  clear hb
  go_wp2_with fail
  refine (HN.out _).mono ?_
  rintro e w2 ⟨p, S, rfl, hD, hb, hS⟩
  have HD2 := Lib.hid hD
  have HB2 := Lib.hid (bT HB1.out hb)
  have HS2 : Hid (∀ k ∈ S, w.heap.size ≤ k) := fun k hk => Nat.le_trans HB1.out.size (hS k hk)
  clear hD hb hS
  go_wp2_with fail
  refine (dsk_size p _ S _ HD2.out).mono ?_
  rintro e w3 ⟨rfl, rfl⟩
  rw [hfn]
  go_wp2_with fail
  refine (HM.out _).mono ?_
  rintro e w4 ⟨m, T, rfl, hE, hb, hT⟩
  have HT4 : Hid (Two w.heap.size w4 p m (Dev.new n) (Dev.new n) S T) := ⟨HD2.out.later hb, hE, HS2.out, fun b hb => Nat.le_trans HB2.out.size (hT b hb), fun b h1 h2 => by have := HD2.out.lt b h1; have := hT b h2; omega⟩
  have HB4 := Lib.hid (bT HB2.out hb)
  clear hE hb hT hfn
  go_wp2_with fail
  go_loopw [5, 7, 53] (fun dv mv i wr => ∃ (k p m : Nat) (D : Dev) (R T : List Nat), k ≤ cs.length ∧ i = .int .i64 k ∧ dv = .pointer (some ⟨p, 0, none⟩) ∧ mv = .pointer (some ⟨m, 0, none⟩) ∧ Hid (RunInv n k D) ∧ Hid (Two w.heap.size wr p m D D R T) ∧ Below w.heap.size w wr) (fun _ _ i _ => cs.length - (intOf i).toNat)
  case atStart => exact ⟨0, p, m, _, S, T, by omega, rfl, rfl, rfl, HRI, HT4, HB4.out⟩
  case round =>
    obtain ⟨k, p, m, D, R, T, hk, rfl, rfl, rfl, HI, HT, hbr⟩ := hrel
    have HBr := Lib.hid hbr
    clear hbr HT4 HB4 HB2 HS2 HD2 HN HM HRI
    have hbr1 : w.heap.size ≤ wr.heap.size := HBr.out.size
    have hsf := HI.out.2.2
    by_cases hkm : k < cs.length
    · obtain ⟨b, off, rfl, hbl, y0, y1, y2, y3⟩ := SC.out.at HBr.out k hkm
      have hca := SC.out.2 cs[k] (List.getElem_mem _)
      have hblr : b < wr.heap.size := by omega
      generalize cs[k] = x at *
      obtain ⟨kd, sec, data, kv, ks⟩ := x
      dsimp only at y0 y1 y2 y3 hca
      obtain ⟨⟨hk1, hk2⟩, ⟨hs1, hs2⟩, hda, hkv⟩ := hca
      obtain ⟨ka, kc, rfl, -, -⟩ := id hkv
      have HKV := Lib.hid hkv
      have HP := Lib.hid (law_padded data hda)
      have hpm := Lib.hid (padS_le _ hda)
      clear hkv hda
      generalize padS data = A at *
      have HTa := Lib.hid (HT.out.later (bA (o := .cells #[.int .i64 kd, .int .i64 sec, .string data, .slice ka ks.length kc] 50) bR))
      have HBa : Hid (Below w.heap.size w (wr.alloc (.cells #[.int .i64 kd, .int .i64 sec, .string data, .slice ka ks.length kc] 50))) := bA HBr.out
      have HCa : Hid ((wr.alloc (.cells #[.int .i64 kd, .int .i64 sec, .string data, .slice ka ks.length kc] 50)).heap[wr.heap.size]? = some (.cells #[.int .i64 kd, .int .i64 sec, .string data, .slice ka ks.length kc] 50 (0, 0))) := hN rfl
      have hcR : Hid (∀ b ∈ R, b ≠ wr.heap.size) := fun b hb e => by have := HT.out.1.lt b hb; omega
      have hcT : Hid (∀ b ∈ T, b ≠ wr.heap.size) := fun b hb e => by have := HT.out.2.1.lt b hb; omega
      have hmT := HTa.out.2.1.mem
      have hpR := HTa.out.1.mem
      by_cases hk0 : kd = 0
      · obtain rfl := hk0
        have W1 := cell_at HCa.out 1
        have W2 := cell_at HCa.out 2
        have V1 : (World.drew (wr.alloc (.cells #[.int .i64 0, .int .i64 sec, .string data, .slice ka ks.length kc] 50))).cell? ⟨wr.heap.size, 1, none⟩ = some (.int .i64 sec) := W1
        have V2 : (World.drew (wr.alloc (.cells #[.int .i64 0, .int .i64 sec, .string data, .slice ka ks.length kc] 50))).cell? ⟨wr.heap.size, 2, none⟩ = some (.string data) := W2
        have hI1 := Lib.hid (run_write HI.out sec A)
        have hsfl : D.soft.length ≤ 9000000000000 := by omega
        go_wp2_with fail
        go_region_held3 (fun w' => w'.cell? ⟨wr.heap.size, 1, none⟩ = some (.int .i64 sec) ∧ w'.cell? ⟨wr.heap.size, 2, none⟩ = some (.string data))
          (first | exact ⟨Z1, Z2⟩ | exact ⟨Y1, Y2⟩ | exact ⟨X1, X2⟩ | exact ⟨V1, V2⟩ | go_keep)
          (first
            | (go_at_call 22; refine (ref_write m sec A hpm.out D T hsfl _ HTd.out.2.1).mono ?_; rintro e wE ⟨rfl, TE, hE, hk', hR⟩; (have HTe := Lib.hid (HTd.out.ref HBd.out.size hE hk' hR)); (have HBe := Lib.hid (below_keep HBd.out hk' HTd.out.2.2.2.1)); (have HCe := hk'.keep HCd.out (fun h => hcT.out _ h rfl)); (have Z1 := cell_at HCe 1); (have Z2 := cell_at HCe 2); (have HCe := Lib.hid HCe); clear hE hk' hR)
            | (go_at_call 13; refine (HP.out _).mono ?_; rintro e wD ⟨rfl, hb⟩; (have HTd := Lib.hid (HTc.out.later hb)); (have HBd := Lib.hid (bT HBc.out hb)); (have HCd := Lib.hid (hBs hb HCc.out)); (have Y1 := cell_at HCd.out 1); (have Y2 := cell_at HCd.out 2); clear hb)
            | (go_at_call 12; refine (dsk_write p sec A hpm.out D R hsfl _ HTb.out.1).mono ?_; rintro e wC ⟨rfl, RC, hD, hk', hR⟩; (have HTc := Lib.hid (HTb.out.dev HBb.out.size hD hk' hR)); (have HBc := Lib.hid (below_keep HBb.out hk' HTb.out.2.2.1)); (have HCc := Lib.hid (hk'.keep HCb.out (fun h => hcR.out _ h rfl))); (have Y1 := cell_at HCc.out 1); (have Y2 := cell_at HCc.out 2); clear hD hk' hR)
            | (go_at_call 13; refine (HP.out _).mono ?_; rintro e wB ⟨rfl, hb⟩; (have HTb := Lib.hid ((HTa.out.later (bD bR)).later hb)); (have HBb := Lib.hid (bT (bD HBa.out) hb)); (have HCb := Lib.hid (hBs hb (hDr HCa.out))); (have X1 := cell_at HCb.out 1); (have X2 := cell_at HCb.out 2); clear hb))
        generalize D.write sec A = DW at *
        obtain ⟨D5, r5⟩ := DW
        dsimp only at hI1 HTe ⊢
        have HPe : Hid (∀ n, Calls Try.prog 19 #[.pointer (some ⟨p, 0, none⟩)] (World.drewN _ n) fun e w' => e = .returned (.int .i64 (Dev.soft D5).length) ∧ World.drewN _ n = w') := fun n => (dsk_pending p _ _ _ (HTe.out.1.later (bDN bR n))).mono fun e w' h => ⟨h.1, h.2.symm⟩
        obtain ⟨sa, sc, hsoft⟩ := ref_soft HTe.out.2.1
        obtain ⟨sl, hsl⟩ : ∃ sl : Nat, (Dev.soft D5).length = sl := ⟨_, rfl⟩
        rw [hsl] at hsoft HPe
        clear hsl
        go_wp2_with fail
        go_quiet ((go_at_call 19; exact quiet_same (HPe.out _)))
        have HT9 := Lib.hid (HTe.out.later (bDN bR nq))
        have HB9 := Lib.hid (bDN HBe.out nq)
        go_wp2_with fail
        go_roundw
        case rel => exact ⟨k + 1, p, m, D5, RC, TE, by omega, rfl, rfl, rfl, hI1, HT9, HB9.out⟩
        case measure => simp [intOf]; omega
      · by_cases hk1' : kd = 1
        · obtain rfl := hk1'
          have hI1 := Lib.hid (run_barrier HTa.out.1.1 HI.out)
          go_wp2_with fail
          refine (dsk_barrier p D R _ HTa.out.1).mono ?_
          rintro e wA ⟨rfl, RA, hD, hk', hR⟩
          have HTb := Lib.hid (HTa.out.dev HBa.out.size hD hk' hR)
          have HBb := Lib.hid (below_keep HBa.out hk' HTa.out.2.2.1)
          clear hD hk' hR
          go_wp2_with fail
          refine (ref_barrier m D HI.out.1 T _ HTb.out.2.1).mono ?_
          rintro e wB ⟨rfl, TB, hE, hk', hR⟩
          have HTc := Lib.hid (HTb.out.ref HBb.out.size hE hk' hR)
          have HBc := Lib.hid (below_keep HBb.out hk' HTb.out.2.2.2.1)
          clear hE hk' hR
          generalize D.barrier = DB at *
          obtain ⟨D5, r5⟩ := DB
          dsimp only at hI1 HTc ⊢
          have HPe : Hid (∀ n, Calls Try.prog 19 #[.pointer (some ⟨p, 0, none⟩)] (World.drewN _ n) fun e w' => e = .returned (.int .i64 (Dev.soft D5).length) ∧ World.drewN _ n = w') := fun n => (dsk_pending p _ _ _ (HTc.out.1.later (bDN bR n))).mono fun e w' h => ⟨h.1, h.2.symm⟩
          obtain ⟨sa, sc, hsoft⟩ := ref_soft HTc.out.2.1
          obtain ⟨sl, hsl⟩ : ∃ sl : Nat, (Dev.soft D5).length = sl := ⟨_, rfl⟩
          rw [hsl] at hsoft HPe
          clear hsl
          go_wp2_with fail
          go_quiet ((go_at_call 19; exact quiet_same (HPe.out _)))
          have HT9 := Lib.hid (HTc.out.later (bDN bR nq))
          have HB9 := Lib.hid (bDN HBc.out nq)
          go_wp2_with fail
          go_roundw
          case rel => exact ⟨k + 1, p, m, D5, RA, TB, by omega, rfl, rfl, rfl, hI1, HT9, HB9.out⟩
          case measure => simp [intOf]; omega
        · by_cases hk2' : kd = 2
          · obtain rfl := hk2'
            have W1 := cell_at HCa.out 1
            have hI1 := Lib.hid (run_fuel HI.out (max sec (-1)))
            have hput : ∀ {w : World}, RefAt w m D T → _ := fun {w} h => ref_fuel (w := w) (max sec (-1)) (by omega) (by omega) h
            by_cases hsx : sec < -1
            · have hx : max sec (-1) = -1 := by omega
              rw [hx] at hI1 hput
              go_wp2_with fail
              refine (dsk_fuel p sec hs2 D R _ HTa.out.1).mono ?_
              rintro e wA ⟨rfl, hD, hk'⟩
              rw [hx] at hD
              have HTb := Lib.hid (HTa.out.dev HBa.out.size hD (hk'.mono fun i _ e => by subst e; exact hpR) (fun b hb => .inl hb))
              have HBb := Lib.hid (below_keep HBa.out hk' (fun b e => by subst e; exact HTa.out.2.2.1 _ hpR))
              have HCb := Lib.hid (hk'.keep HCa.out (fun e => hcR.out _ hpR e.symm))
              clear hD hk'
              have X1 := cell_at HCb.out 1
              obtain ⟨hfc, hff, hput⟩ := hput HTb.out.2.1
              have HTc := Lib.hid (HTb.out.ref HBb.out.size hput ((Keeps.refl (· ∈ T) _).setCell ⟨m, 2, none⟩ _ (.inl hmT)) (fun b hb => .inl hb))
              have HBc := Lib.hid (HBb.out.setCell (p := ⟨m, 2, none⟩) (HTb.out.2.2.2.1 _ hmT) (.int .i64 (-1)))
              clear hput
              have HPe : Hid (∀ n, Calls Try.prog 19 #[.pointer (some ⟨p, 0, none⟩)] (World.drewN _ n) fun e w' => e = .returned (.int .i64 (D.soft).length) ∧ World.drewN _ n = w') := fun n => (dsk_pending p _ _ _ (HTc.out.1.later (bDN bR n))).mono fun e w' h => ⟨h.1, h.2.symm⟩
              obtain ⟨sa, sc, hsoft⟩ := ref_soft HTc.out.2.1
              obtain ⟨sl, hsl⟩ : ∃ sl : Nat, (D.soft).length = sl := ⟨_, rfl⟩
              rw [hsl] at hsoft HPe
              clear hsl
              go_wp2_with fail
              go_quiet ((go_at_call 19; exact quiet_same (HPe.out _)))
              have HT9 := Lib.hid (HTc.out.later (bDN bR nq))
              have HB9 := Lib.hid (bDN HBc.out nq)
              go_wp2_with fail
              go_roundw
              case rel => exact ⟨k + 1, p, m, _, R, T, by omega, rfl, rfl, rfl, hI1, HT9, HB9.out⟩
              case measure => simp [intOf]; omega
            · have hx : max sec (-1) = sec := by omega
              rw [hx] at hI1 hput
              go_wp2_with fail
              refine (dsk_fuel p sec hs2 D R _ HTa.out.1).mono ?_
              rintro e wA ⟨rfl, hD, hk'⟩
              rw [hx] at hD
              have HTb := Lib.hid (HTa.out.dev HBa.out.size hD (hk'.mono fun i _ e => by subst e; exact hpR) (fun b hb => .inl hb))
              have HBb := Lib.hid (below_keep HBa.out hk' (fun b e => by subst e; exact HTa.out.2.2.1 _ hpR))
              have HCb := Lib.hid (hk'.keep HCa.out (fun e => hcR.out _ hpR e.symm))
              clear hD hk'
              have X1 := cell_at HCb.out 1
              obtain ⟨hfc, hff, hput⟩ := hput HTb.out.2.1
              have HTc := Lib.hid (HTb.out.ref HBb.out.size hput ((Keeps.refl (· ∈ T) _).setCell ⟨m, 2, none⟩ _ (.inl hmT)) (fun b hb => .inl hb))
              have HBc := Lib.hid (HBb.out.setCell (p := ⟨m, 2, none⟩) (HTb.out.2.2.2.1 _ hmT) (.int .i64 (sec)))
              clear hput
              have HPe : Hid (∀ n, Calls Try.prog 19 #[.pointer (some ⟨p, 0, none⟩)] (World.drewN _ n) fun e w' => e = .returned (.int .i64 (D.soft).length) ∧ World.drewN _ n = w') := fun n => (dsk_pending p _ _ _ (HTc.out.1.later (bDN bR n))).mono fun e w' h => ⟨h.1, h.2.symm⟩
              obtain ⟨sa, sc, hsoft⟩ := ref_soft HTc.out.2.1
              obtain ⟨sl, hsl⟩ : ∃ sl : Nat, (D.soft).length = sl := ⟨_, rfl⟩
              rw [hsl] at hsoft HPe
              clear hsl
              go_wp2_with fail
              go_quiet ((go_at_call 19; exact quiet_same (HPe.out _)))
              have HT9 := Lib.hid (HTc.out.later (bDN bR nq))
              have HB9 := Lib.hid (bDN HBc.out nq)
              go_wp2_with fail
              go_roundw
              case rel => exact ⟨k + 1, p, m, _, R, T, by omega, rfl, rfl, rfl, hI1, HT9, HB9.out⟩
              case measure => simp [intOf]; omega
          · by_cases hk3' : kd = 3
            · obtain rfl := hk3'
              have W3 := cell_at HCa.out 3
              have hI1 := Lib.hid (run_after HI.out ks)
              have hfn : D.firm.length = n := HI.out.2.1
              go_wp2_with fail
              refine (dsk_crash p D R w.heap.size _ ks _ HTa.out.1 (HKV.out.keep (Keeps.of_below (fun _ => False) HBa.out) (Nat.le_refl _) (fun _ h => h.elim)) HBa.out.size HTa.out.2.2.1).mono ?_
              rintro e wA ⟨p1, S1, rfl, hD, hC, hk', hS1⟩
              have HTb := Lib.hid (HTa.out.dev HBa.out.size hC (hk'.mono fun i _ e => by subst e; exact hpR) (fun b hb => .inr (hS1 b hb)))
              have HTo := Lib.hid (HTa.out.dev HBa.out.size hD (hk'.mono fun i _ e => by subst e; exact hpR) (fun b hb => .inl hb))
              have hRS : Hid (∀ b ∈ R, b ∉ S1) := fun b hb hb' => by have := HTa.out.1.lt b hb; have := hS1 b hb'; omega
              have HBb := Lib.hid (below_keep HBa.out hk' (fun b e => by subst e; exact HTa.out.2.2.1 _ hpR))
              have HCb := Lib.hid (hk'.keep HCa.out (fun e => hcR.out _ hpR e.symm))
              clear hD hC hk' hS1
              have X3 := cell_at HCb.out 3
              go_wp2_with fail
              refine (ref_crash m D T w.heap.size _ ks _ HTb.out.2.1 (HKV.out.keep (Keeps.of_below (fun _ => False) HBb.out) (Nat.le_refl _) (fun _ h => h.elim)) HBb.out.size HTb.out.2.2.2.1).mono ?_
              rintro e wB ⟨m1, T1, rfl, hE, hk', hT1⟩
              have HTc := Lib.hid (HTb.out.ref HBb.out.size hE (hk'.mono fun i _ e => by subst e; exact hmT) (fun b hb => .inr (hT1 b hb)))
              have HTp := Lib.hid (HTo.out.ref HBb.out.size hE (hk'.mono fun i _ e => by subst e; exact hmT) (fun b hb => .inr (hT1 b hb)))
              have HBc := Lib.hid (below_keep HBb.out hk' (fun b e => by subst e; exact HTb.out.2.2.2.1 _ hmT))
              clear hE hk' hT1
              go_wp2_with fail
              refine (dsk_read p 0 _ R _ HTp.out.1).mono ?_
              rintro e wC ⟨rfl, rfl⟩
              rw [down_ref]
              go_wp2_with fail
              refine (dsk_barrier p _ R _ HTp.out.1).mono ?_
              rintro e wC ⟨rfl, RC, hD, hk', hR⟩
              rw [show Dev.barrier { D with down := true } = ({ D with down := true }, 20) from rfl] at hD ⊢
              have HTd := Lib.hid (Two.mk2 HTc.out hRS.out HTp.out.2.2.2.2 hk')
              have HBd := Lib.hid (below_keep HBc.out hk' HTp.out.2.2.1)
              have HDo := Lib.hid hD
              clear hD hk' hR
              go_wp2_with fail
              refine (dsk_size p _ RC _ HDo.out).mono ?_
              rintro e wD ⟨rfl, rfl⟩
              rw [show ((Dev.firm { D with down := true }).length : Int) = n from by rw [← hfn]]
              generalize D.after ks = D5 at *
              have HPe : Hid (∀ n, Calls Try.prog 19 #[.pointer (some ⟨p1, 0, none⟩)] (World.drewN _ n) fun e w' => e = .returned (.int .i64 (Dev.soft D5).length) ∧ World.drewN _ n = w') := fun n => (dsk_pending p1 _ _ _ (HTd.out.1.later (bDN bR n))).mono fun e w' h => ⟨h.1, h.2.symm⟩
              obtain ⟨sa, sc, hsoft⟩ := ref_soft HTd.out.2.1
              obtain ⟨sl, hsl⟩ : ∃ sl : Nat, (Dev.soft D5).length = sl := ⟨_, rfl⟩
              rw [hsl] at hsoft HPe
              clear hsl
              go_wp2_with fail
              go_quiet ((go_at_call 19; exact quiet_same (HPe.out _)))
              have HT9 := Lib.hid (HTd.out.later (bDN bR nq))
              have HB9 := Lib.hid (bDN HBd.out nq)
              go_wp2_with fail
              go_roundw
              case rel => exact ⟨k + 1, p1, m1, D5, S1, T1, by omega, rfl, rfl, rfl, hI1, HT9, HB9.out⟩
              case measure => simp [intOf]; omega
            · have e0 : (kd == 0) = false := by simpa using hk0
              have e1 : (kd == 1) = false := by simpa using hk1'
              have e2 : (kd == 2) = false := by simpa using hk2'
              have e3 : (kd == 3) = false := by simpa using hk3'
              have W1 := cell_at HCa.out 1
              go_wp2_with fail
              refine (dsk_read p sec D R _ HTa.out.1).mono ?_
              rintro e wA ⟨rfl, rfl⟩
              go_wp2_with fail
              refine (ref_read m sec D HI.out.1 T _ HTa.out.2.1).mono ?_
              rintro e wA ⟨rfl, rfl⟩
              have hI1 := Lib.hid (run_mono HI.out)
              generalize D.read sec = rr at *
              obtain ⟨rs, re⟩ := rr
              dsimp only
              have HPe : Hid (∀ n, Calls Try.prog 19 #[.pointer (some ⟨p, 0, none⟩)] (World.drewN _ n) fun e w' => e = .returned (.int .i64 (Dev.soft D).length) ∧ World.drewN _ n = w') := fun n => (dsk_pending p _ _ _ (HTa.out.1.later (bDN bR n))).mono fun e w' h => ⟨h.1, h.2.symm⟩
              obtain ⟨sa, sc, hsoft⟩ := ref_soft HTa.out.2.1
              obtain ⟨sl, hsl⟩ : ∃ sl : Nat, (Dev.soft D).length = sl := ⟨_, rfl⟩
              rw [hsl] at hsoft HPe
              clear hsl
              go_wp2_with fail
              go_quiet ((go_at_call 19; exact quiet_same (HPe.out _)))
              have HT9 := Lib.hid (HTa.out.later (bDN bR nq))
              have HB9 := Lib.hid (bDN HBa.out nq)
              go_wp2_with fail
              go_roundw
              case rel => exact ⟨k + 1, p, m, D, R, T, by omega, rfl, rfl, rfl, hI1, HT9, HB9.out⟩
              case measure => simp [intOf]; omega
    · obtain rfl : k = cs.length := by omega
      have hfn := HI.out.2.1
      have hg := Lib.hid HI.out.1
      go_wp2_with fail
      go_loopw [17] (fun i wq => ∃ (k : Nat), k ≤ n ∧ i = .int .i64 k ∧ wq = wr) (fun i _ => n - (intOf i).toNat)
      case atStart => exact ⟨0, by omega, rfl, rfl⟩
      case round =>
        obtain ⟨k, hk, rfl, rfl⟩ := hrel
        by_cases hkn : k < n ∧ k < 50
        · have hk1 : (k : Int) < n := by omega
          have hk2 : (k : Int) < 50 := by omega
          go_wp2_with fail
          refine (dsk_read p k D R _ HT.out.1).mono ?_
          rintro e wA ⟨rfl, rfl⟩
          go_wp2_with fail
          refine (ref_read m k D hg.out T _ HT.out.2.1).mono ?_
          rintro e wA ⟨rfl, rfl⟩
          generalize D.read k = rr at *
          obtain ⟨rs, re⟩ := rr
          dsimp only
          go_wp2_with fail
          go_roundw
          case rel => exact ⟨k + 1, by omega, rfl, by trivial⟩
          case measure => simp [intOf]; omega
        · by_cases hk1 : k < n
          · have hk1' : (k : Int) < n := by omega
            have hk2 : (50 : Int) ≤ k := by omega
            go_wp2_with fail
            go_ret
            exact ⟨rfl, HBr.out⟩
          · have hk1' : (n : Int) ≤ k := by omega
            go_wp2_with fail
            go_ret
            exact ⟨rfl, HBr.out⟩
theorem diskRuns_walk (n : Int) (v : Value) (cs : List CallA) (hn : -9223372036854775808 ≤ n ∧ n ≤ 9223372036854775807) (L0 : cs.length * 56 ≤ 140737488351232) (w : World) (SC : CallsAt w v cs) :
    Calls Try.prog 8 #[.int .i64 n, v] w fun e w' => e = .returned (.bool true) ∧ Below w.heap.size w w' := by
  by_cases h : n < 1 ∨ 16384 < n
  · exact runs_bad n v h w (let ⟨a, c, h⟩ := SC.form; ⟨a, _, c, h⟩)
  · have := runs_good n.toNat (by omega) (by omega) v cs L0 w SC
    rwa [show ((n.toNat : Nat) : Int) = n from by omega] at this
end Go.Proofs.Ytbfifakacneacaa
