import Derived.Test.YtimomjheanfbmaaGreatDoorMba
set_option linter.unusedSimpArgs false
set_option linter.unusedVariables false
namespace Go.Proofs.YtimomjheanfbmaaGreatDoor
open Go.RowKit

/-- what a device shows at a place -/
def Dev.at (D : Dev) (b : Nat) : ByteArray := D.seen.getD b ⟨#[]⟩
/-- what is read of a page -/
def LdRel (D : Dev) (b : Nat) (Q : Pg) (t c : Int) : Prop := (D.down = true ∧ c = 20) ∨ (D.down = false ∧
  (((frOpen (D.at b) (D.at (b + 1)) (D.at (b + 2)) (D.at (b + 3))).2.2 ≠ 0 ∧ c = (frOpen (D.at b) (D.at (b + 1)) (D.at (b + 2)) (D.at (b + 3))).2.2) ∨
   ((frOpen (D.at b) (D.at (b + 1)) (D.at (b + 2)) (D.at (b + 3))).2.2 = 0 ∧ t = IntKind.i64.wrap (frOpen (D.at b) (D.at (b + 1)) (D.at (b + 2)) (D.at (b + 3))).2.1 ∧
     ((DecOk (frOpen (D.at b) (D.at (b + 1)) (D.at (b + 2)) (D.at (b + 3))).1 ∧ Q = decP (frOpen (D.at b) (D.at (b + 1)) (D.at (b + 2)) (D.at (b + 3))).1 ∧ c = 0) ∨
      (¬ DecOk (frOpen (D.at b) (D.at (b + 1)) (D.at (b + 2)) (D.at (b + 3))).1 ∧ c = 40)))))
theorem LdRel.bad {D : Dev} {b : Nat} {Q : Pg} {t : Int} {s0 s1 s2 s3 : ByteArray} {o : ByteArray × Int × Int} (hd : D.down = false) (e0 : D.at b = s0) (e1 : D.at (b + 1) = s1) (e2 : D.at (b + 2) = s2) (e3 : D.at (b + 3) = s3) (ho : frOpen s0 s1 s2 s3 = o) (h : o.2.2 ≠ 0) : LdRel D b Q t o.2.2 := by
  subst e0 e1 e2 e3 ho
  exact .inr ⟨hd, .inl ⟨h, rfl⟩⟩
theorem LdRel.none {D : Dev} {b : Nat} {Q : Pg} {t : Int} {s0 s1 s2 s3 : ByteArray} {ob : ByteArray} {os : Int} (hd : D.down = false) (e0 : D.at b = s0) (e1 : D.at (b + 1) = s1) (e2 : D.at (b + 2) = s2) (e3 : D.at (b + 3) = s3) (ho : frOpen s0 s1 s2 s3 = (ob, os, 0)) (ht : t = IntKind.i64.wrap os) (h : ¬ DecOk ob) : LdRel D b Q t 40 := by
  subst e0 e1 e2 e3
  refine .inr ⟨hd, .inr ⟨by rw [ho], by rw [ho]; exact ht, .inr ⟨by rw [ho]; exact h, rfl⟩⟩⟩
theorem LdRel.got {D : Dev} {b : Nat} {t : Int} {s0 s1 s2 s3 : ByteArray} {ob : ByteArray} {os : Int} (hd : D.down = false) (e0 : D.at b = s0) (e1 : D.at (b + 1) = s1) (e2 : D.at (b + 2) = s2) (e3 : D.at (b + 3) = s3) (ho : frOpen s0 s1 s2 s3 = (ob, os, 0)) (ht : t = IntKind.i64.wrap os) (h : DecOk ob) : LdRel D b (decP ob) t 0 := by
  subst e0 e1 e2 e3
  refine .inr ⟨hd, .inr ⟨by rw [ho], by rw [ho]; exact ht, .inl ⟨by rw [ho]; exact h, by rw [ho], rfl⟩⟩⟩
def arr4 (f : Nat → ByteArray) (k : Nat) : Array Value := #[.string (if 0 < k then f 0 else ⟨#[]⟩), .string (if 1 < k then f 1 else ⟨#[]⟩), .string (if 2 < k then f 2 else ⟨#[]⟩), .string (if 3 < k then f 3 else ⟨#[]⟩)]
theorem arr4_next (f : Nat → ByteArray) (k : Nat) (hk : k < 4) : (arr4 f k).setIfInBounds k (.string (f k)) = arr4 f (k + 1) := by
  match k, hk with
  | 0, _ => rfl
  | 1, _ => rfl
  | 2, _ => rfl
  | 3, _ => rfl
theorem arr4_cell (f : Nat → ByteArray) (k : Nat) (hk : k < 4) : ∃ v, (arr4 f k)[k]? = some v := by
  match k, hk with
  | 0, _ => exact ⟨_, rfl⟩
  | 1, _ => exact ⟨_, rfl⟩
  | 2, _ => exact ⟨_, rfl⟩
  | 3, _ => exact ⟨_, rfl⟩
theorem results_row_two {P : Program} {fn : Func} {p k m : Tmp} {ty : TypeId} (h : fn.results = #[.cell p ty, .tmp k, .tmp m]) (tmps : Array Value) (w : World) (g : Nat) (t : TypeId) (cs : Array Value) (fr : Nat × Nat) (d : TypeDesc)
    (hp : tmps.getD p undef = .pointer (some ⟨g, 0, none⟩)) (hg : w.heap[g]? = some (.cells cs t fr))
    (hu : P.underlying ty = some d) (hd : (match d with | .struct _ | .array _ _ => true | _ => false) = true) (hi : (P.info? ty).map (·.size) = some cs.size) :
    (results fn tmps).run P w = .ok (.tuple #[.agg cs, tmps.getD k undef, tmps.getD m undef]) w := by
  have hp' : tmps[p]?.getD undef = .pointer (some ⟨g, 0, none⟩) := by simpa using hp
  simp [results, h, hp', asAddr, run_loadVar_row w g t ty cs fr d hg hu hd hi]
set_option maxRecDepth 100000 in
set_option maxHeartbeats 800000 in
theorem pl_load {w : World} {p dp lp : Nat} {X : Pl} {sv : Value} {S Sd : List Nat} {D : Dev} (h : PoolAt w p dp lp X sv S) (hd : DiskAt w dp D Sd) (id : Nat) (hid : id < X.pages) (hfit : X.base + 4 * X.pages ≤ D.firm.length) :
    Calls Tryz.prog 77 #[.pointer (some ⟨p, 0, none⟩), .int .i64 id] w fun e w' => ∃ Q t c, e = .returned (.tuple #[pgV Q, .int .i64 t, .int .i64 c]) ∧ LdRel D (X.base + 4 * id) Q t c ∧ Below w.heap.size w w' := by
  obtain ⟨hok, h1, -⟩ := h
  obtain ⟨o1, o2, o3, -⟩ := hok
  have hlen : D.seen.length = D.firm.length := hd.1.2.2.1
  have hsz64 : ∀ j, j < 4 → (D.at (X.base + 4 * id + j)).size = 64 := fun j hj => by
    unfold Dev.at
    rw [List.getD_eq_getElem?_getD, List.getElem?_eq_getElem (by omega)]
    exact hd.1.2.2.2.2.2.2.1 _ (List.getElem_mem _)
  obtain ⟨base, hbase⟩ : ∃ b, X.base = b := ⟨_, rfl⟩
  have H1 := Lib.hid h1
  have HD := Lib.hid hd
  replace hlen := Lib.hid hlen
  clear h1 hd
  rw [hbase] at o1 hsz64 hfit ⊢
  have hw4 : IntKind.i64.wrap ((id : Int) * 4) = (id : Int) * 4 := by rw [IntKind.wrap_i64]; omega
  have hw5 : IntKind.i64.wrap ((base : Int) + (id : Int) * 4) = (base : Int) + (id : Int) * 4 := by rw [IntKind.wrap_i64]; omega
  have HB0 : Hid (Below w.heap.size w ((w.alloc (.cells (pgC pageZ) 49)).alloc (.cells (arr4 (fun j => D.at (base + 4 * id + j)) 0) 221))) := bA (bA bR)
  have HZ0 : Hid (((w.alloc (.cells (pgC pageZ) 49)).alloc (.cells (arr4 (fun j => D.at (base + 4 * id + j)) 0) 221)).heap[w.heap.size]? = some (.cells (pgC pageZ) 49 (0, 0))) := hO (hN rfl)
  have HA0 : Hid (((w.alloc (.cells (pgC pageZ) 49)).alloc (.cells (arr4 (fun j => D.at (base + 4 * id + j)) 0) 221)).heap[w.heap.size + 1]? = some (.cells (arr4 (fun j => D.at (base + 4 * id + j)) 0) 221 (0, 0))) := hN (by simp)
  go_enter Tryz.func77, Tryz.ntmps77
  go_wp2_with fail
  go_loopw [15] (fun x wr => ∃ k : Nat, k ≤ 4 ∧ x = .int .i64 k ∧ (0 < k → D.down = false) ∧ Hid (wr.heap[w.heap.size]? = some (.cells (pgC pageZ) 49 (0, 0))) ∧ Hid (wr.heap[w.heap.size + 1]? = some (.cells (arr4 (fun j => D.at (base + 4 * id + j)) k) 221 (0, 0))) ∧ Hid (Below w.heap.size w wr)) (fun x _ => 4 - (intOf x).toNat)
  case atStart => exact ⟨0, by omega, rfl, fun h => by omega, HZ0, HA0, HB0⟩
  case round =>
    obtain ⟨k, hk4, rfl, hup, HZ, HA, HB⟩ := hrel
    clear HB0 HZ0 HA0
    have P0 : wr.cell? ⟨p, 0, none⟩ = some (.pointer (some ⟨dp, 0, none⟩)) := cell_at (hBs HB.out H1.out) 0
    have P2 : wr.cell? ⟨p, 2, none⟩ = some (.int .i64 base) := by rw [cell_at (hBs HB.out H1.out) 2, ← hbase]; rfl
    by_cases hk : k < 4
    · have hkI : (k : Int) < 4 := by omega
      have hw6 : IntKind.i64.wrap ((base : Int) + (id : Int) * 4 + (k : Int)) = (base : Int) + (id : Int) * 4 + (k : Int) := by rw [IntKind.wrap_i64]; omega
      have HR := Lib.hid (fun nq => (dsk_read dp ((base : Int) + (id : Int) * 4 + (k : Int)) D Sd (wr.drewN nq) (HD.out.later (bDN HB.out nq))).mono (fun e w' ⟨he, hw⟩ => (⟨he, hw.symm⟩ : e = _ ∧ wr.drewN nq = w')))
      obtain ⟨r, hr⟩ : ∃ r, D.read ((base : Int) + (id : Int) * 4 + (k : Int)) = r := ⟨_, rfl⟩
      rw [hr] at HR
      cases hdn : D.down with
      | true =>
        obtain rfl : r = (⟨#[]⟩, 20) := by
          rw [← hr]; unfold Dev.read; rw [if_pos hdn]
        clear hr
        rw [hdn] at hup
        replace hdn := Lib.hid hdn
        replace hk4 := Lib.hid hk4
        have HZn := Lib.hid (fun nq => (show (wr.drewN nq).heap[w.heap.size]? = some (.cells (pgC pageZ) 49 (0, 0)) from HZ.out))
        go_wp2_with fail
        go_quiet ((go_at_call 120; exact quiet_same (HR.out _)))
        clear HR
        go_wp2_with (refine wpList_store_whole rfl 49 _ _ rfl _ (pgC pageZ) rfl rfl _ (pgC pageZ) (HZn.out _) rfl (by kernel_rfl) (pgC_one _) ?_; intro wz HRz KZ)
        refine bodyPost_ret (results_row_two Tryz.results77 _ _ _ _ _ _ _ rfl HRz.out Tryz.underlying49 rfl (by kernel_rfl)) rfl ?_
        exact ⟨pageZ, 0, 20, rfl, .inl ⟨hdn.out, rfl⟩, bK (bDN HB.out _) KZ.out (fun j hj => by omega)⟩
      | false =>
        obtain rfl : r = (D.at (base + 4 * id + k), 0) := by
          rw [← hr, up_read hdn _ (by omega) (by have := hlen.out; omega)]
          unfold Dev.at
          rw [show ((base : Int) + (id : Int) * 4 + (k : Int)).toNat = base + 4 * id + k by omega]
        clear hr
        rw [hdn] at hup
        replace hdn := Lib.hid hdn
        obtain ⟨v, hv⟩ := arr4_cell (fun j => D.at (base + 4 * id + j)) k hk
        have A1 := (cell_at HA.out k).trans hv
        have A2 := free_at HA.out k
        have hnx := Lib.hid (arr4_next (fun j => D.at (base + 4 * id + j)) k hk)
        replace hk4 := Lib.hid hk4
        clear hv
        go_wp2_with fail
        go_quiet ((go_at_call 120; exact quiet_same (HR.out _)))
        clear HR
        go_wp2_with fail
        go_roundw
        case rel => exact ⟨k + 1, by omega, rfl, fun _ => (by first | exact hdn.out | trivial), hSO HZ.out (by simp), heap_set_eq (w := wr.drewN _) HA.out hnx.out, bS (bDN HB.out _) (by simp)⟩
        case measure => simp [intOf]; omega
    · obtain rfl : k = 4 := by omega
      replace hup := Lib.hid (hup (by omega))
      have hA4 : arr4 (fun j => D.at (base + 4 * id + j)) 4 = #[.string (D.at (base + 4 * id)), .string (D.at (base + 4 * id + 1)), .string (D.at (base + 4 * id + 2)), .string (D.at (base + 4 * id + 3))] := rfl
      rw [hA4] at HA
      clear hA4
      have z0 := hsz64 0 (by omega)
      have z1 := hsz64 1 (by omega)
      have z2 := hsz64 2 (by omega)
      have z3 := hsz64 3 (by omega)
      rw [Nat.add_zero] at z0
      have HO := Lib.hid (fun w => frm_open (D.at (base + 4 * id)) (D.at (base + 4 * id + 1)) (D.at (base + 4 * id + 2)) (D.at (base + 4 * id + 3)) (by unfold maxLen; omega) (by unfold maxLen; omega) (by unfold maxLen; omega) (by unfold maxLen; omega) w)
      obtain ⟨s0, e0⟩ : ∃ s, D.at (base + 4 * id) = s := ⟨_, rfl⟩
      obtain ⟨s1, e1⟩ : ∃ s, D.at (base + 4 * id + 1) = s := ⟨_, rfl⟩
      obtain ⟨s2, e2⟩ : ∃ s, D.at (base + 4 * id + 2) = s := ⟨_, rfl⟩
      obtain ⟨s3, e3⟩ : ∃ s, D.at (base + 4 * id + 3) = s := ⟨_, rfl⟩
      rw [e0, e1, e2, e3] at HO HA
      rw [e0] at z0
      rw [e1] at z1
      rw [e2] at z2
      rw [e3] at z3
      replace e0 := Lib.hid e0
      replace e1 := Lib.hid e1
      replace e2 := Lib.hid e2
      replace e3 := Lib.hid e3
      have hso : (frOpen s0 s1 s2 s3).1.size ≤ 1000 := by
        unfold frOpen
        repeat' split
        all_goals simp [hd, ByteArray.size_append, ByteArray.size_extract]
        all_goals first | omega | exact Nat.zero_le _ | decide
      obtain ⟨o, ho⟩ : ∃ o, frOpen s0 s1 s2 s3 = o := ⟨_, rfl⟩
      rw [ho] at HO hso
      replace ho := Lib.hid ho
      obtain ⟨ob, os, oc⟩ := o
      dsimp only at HO hso
      clear hk z0 z1 z2 z3 hsz64
      go_wp2_with (refine wpList_load_row rfl 221 _ rfl _ rfl 221 _ _ _ HA.out Tryz.underlying221 rfl (by kernel_rfl) ?_)
      refine (HO.out _).mono ?_
      rintro e w5 ⟨rfl, hb5⟩
      have HB5 := Lib.hid (bT HB.out hb5)
      have HZ5 := Lib.hid (hBs hb5 HZ.out)
      clear hb5 HO HB HZ HA
      by_cases hoc : oc = 0
      rotate_left
      · have hoc' := Lib.hid hoc
        go_wp2_with (refine wpList_store_whole rfl 49 _ _ rfl _ (pgC pageZ) rfl rfl _ (pgC pageZ) HZ5.out rfl (by kernel_rfl) (pgC_one _) ?_; intro wz HRz KZ)
        refine bodyPost_ret (results_row_two Tryz.results77 _ _ _ _ _ _ _ rfl HRz.out Tryz.underlying49 rfl (by kernel_rfl)) rfl ?_
        exact ⟨pageZ, 0, oc, rfl, LdRel.bad hup.out e0.out e1.out e2.out e3.out ho.out hoc'.out, bK HB5.out KZ.out (fun j hj => by omega)⟩
      · subst hoc
        have HDe := Lib.hid (fun w => pg_decode ob (by unfold maxLen; omega) w)
        unfold pgV at HDe
        go_wp2_with fail
        refine (HDe.out _).mono ?_
        rintro e w6 ⟨h, hb6⟩
        have HB6 := Lib.hid (bT HB5.out hb6)
        have HZ6 := Lib.hid (hBs hb6 HZ5.out)
        have HN6 : Hid ((w6.alloc (.cells (pgC pageZ) 49)).heap[w6.heap.size]? = some (.cells (pgC pageZ) 49 (0, 0))) := hN rfl
        have hzl : Hid (w.heap.size < w6.heap.size) := block_lt HZ6.out
        clear hb6 HDe HB5 HZ5
        obtain ⟨Q, c, hQ, hfin, rfl⟩ : ∃ Q c, Hid (∀ i, i < 6 → True) ∧ Hid (LdRel D (base + 4 * id) Q (IntKind.i64.wrap os) c) ∧ e = .returned (.tuple #[.agg (pgC Q), .int .i64 c]) := by
          rcases h with ⟨rfl, hok⟩ | ⟨rfl, hno⟩
          · exact ⟨decP ob, 0, fun _ _ => trivial, LdRel.got hup.out e0.out e1.out e2.out e3.out ho.out rfl hok, rfl⟩
          · exact ⟨pageZ, 40, fun _ _ => trivial, LdRel.none hup.out e0.out e1.out e2.out e3.out ho.out rfl hno, rfl⟩
        clear h hQ
        go_wp2_with (first
          | (refine wpList_store_whole rfl 49 _ _ rfl _ (pgC Q) rfl rfl _ (pgC pageZ) HN6.out rfl (by kernel_rfl) (pgC_one _) ?_; intro w7 HR7 K7; (have HZ7 := Lib.hid (K7.keep (hO HZ6.out) (by have := hzl.out; omega))); (have HB7 := Lib.hid (bK (bA HB6.out) K7 (fun j hj => by have := hzl.out; omega))); clear HN6 HZ6 HB6)
          | (refine wpList_load_row rfl 49 _ rfl _ rfl 49 _ _ _ HR7.out Tryz.underlying49 rfl (by kernel_rfl) ?_)
          | (refine wpList_store_whole rfl 49 _ _ rfl _ (pgC Q) rfl rfl _ (pgC pageZ) HZ7.out rfl (by kernel_rfl) (pgC_one _) ?_; intro wz HRz KZ))
        refine bodyPost_ret (results_row_two Tryz.results77 _ _ _ _ _ _ _ rfl HRz.out Tryz.underlying49 rfl (by kernel_rfl)) rfl ?_
        exact ⟨Q, wrap64 os, c, rfl, (show IntKind.i64.wrap os = wrap64 os from by unfold wrap64; exact IntKind.wrap_i64 os) ▸ hfin.out, bK HB7.out KZ.out (fun j hj => by omega)⟩
end Go.Proofs.YtimomjheanfbmaaGreatDoor
