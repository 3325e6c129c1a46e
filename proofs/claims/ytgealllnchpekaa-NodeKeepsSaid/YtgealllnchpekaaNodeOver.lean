import Derived.Test.YtgealllnchpekaaNodeV
import Derived.Test.YtgealllnchpekaaNodeZB
import Derived.Test.YtgealllnchpekaaNodePut
set_option linter.unusedSimpArgs false
set_option linter.unusedVariables false
namespace Go.Proofs.Ytgealllnchpekaa
open Go.RowKit

def overPg (P L : Pg) (m : Nat) : Pg := { P with st := fun j => if j < m then L.st j else P.st j, dt := fun j => if j < m then L.dt j else P.dt j }
def withPg (P L : Pg) (m k : Nat) : Pg := { P with st := fun j => if j < k then (if j < m then L.st j else 0) else P.st j, dt := fun j => if j < k then (if j < m then L.dt j else ⟨#[]⟩) else P.dt j }
theorem set_pg (P Q : Pg) (k : Nat) (s : Int) (d : ByteArray) (hk : k < 6) (h0 : Q.kind = P.kind ∧ Q.level = P.level ∧ Q.store = P.store ∧ Q.next = P.next) (hs : Q.st k = s) (hd : Q.dt k = d)
    (h : ∀ j, j ≠ k → Q.st j = P.st j ∧ Q.dt j = P.dt j) : ((pgC P).setIfInBounds (4 + k * 2) (.int .i64 s)).setIfInBounds (4 + k * 2 + 1) (.string d) = pgC Q := by
  obtain ⟨a, b, c, e⟩ := h0
  match k, hk with
  | 0, _ => simp [pgC, a, b, c, e, hs, hd, h 1 (by omega), h 2 (by omega), h 3 (by omega), h 4 (by omega), h 5 (by omega)]
  | 1, _ => simp [pgC, a, b, c, e, hs, hd, h 0 (by omega), h 2 (by omega), h 3 (by omega), h 4 (by omega), h 5 (by omega)]
  | 2, _ => simp [pgC, a, b, c, e, hs, hd, h 1 (by omega), h 0 (by omega), h 3 (by omega), h 4 (by omega), h 5 (by omega)]
  | 3, _ => simp [pgC, a, b, c, e, hs, hd, h 1 (by omega), h 2 (by omega), h 0 (by omega), h 4 (by omega), h 5 (by omega)]
  | 4, _ => simp [pgC, a, b, c, e, hs, hd, h 1 (by omega), h 2 (by omega), h 3 (by omega), h 0 (by omega), h 5 (by omega)]
  | 5, _ => simp [pgC, a, b, c, e, hs, hd, h 1 (by omega), h 2 (by omega), h 3 (by omega), h 4 (by omega), h 0 (by omega)]
theorem over_next (P L : Pg) (k : Nat) (hk : k < 6) : ((pgC (overPg P L k)).setIfInBounds (4 + k * 2) (.int .i64 (L.st k))).setIfInBounds (4 + k * 2 + 1) (.string (L.dt k)) = pgC (overPg P L (k + 1)) :=
  set_pg _ _ k _ _ hk ⟨rfl, rfl, rfl, rfl⟩ (by simp [overPg]) (by simp [overPg]) (fun j hj => by
    have : (j < k + 1) ↔ (j < k) := by omega
    simp [overPg, this])
theorem over_none (P L : Pg) : pgC (overPg P L 0) = pgC P := rfl
theorem with_zero (P L : Pg) (m k : Nat) (hk : k < 6) (hm : m ≤ k) : ((pgC (withPg P L m k)).setIfInBounds (4 + k * 2) (.int .i64 0)).setIfInBounds (4 + k * 2 + 1) (.string ⟨#[]⟩) = pgC (withPg P L m (k + 1)) :=
  set_pg _ _ k _ _ hk ⟨rfl, rfl, rfl, rfl⟩ (by have : ¬ k < m := by omega
                                               simp [withPg, this]) (by have : ¬ k < m := by omega
                                                                        simp [withPg, this]) (fun j hj => by
    have : (j < k + 1) ↔ (j < k) := by omega
    simp [withPg, this])
theorem with_cell (P L : Pg) (m k : Nat) (hk : k < 6) (hm : k < m) : ((((pgC (withPg P L m k)).setIfInBounds (4 + k * 2) (.int .i64 0)).setIfInBounds (4 + k * 2 + 1) (.string ⟨#[]⟩)).setIfInBounds (4 + k * 2) (.int .i64 (L.st k))).setIfInBounds (4 + k * 2 + 1) (.string (L.dt k)) = pgC (withPg P L m (k + 1)) := by
  obtain ⟨Z, hZ⟩ : ∃ Z : Pg, Z = { withPg P L m k with st := fun j => if j = k then 0 else (withPg P L m k).st j, dt := fun j => if j = k then ⟨#[]⟩ else (withPg P L m k).dt j } := ⟨_, rfl⟩
  rw [set_pg (withPg P L m k) Z k 0 ⟨#[]⟩ hk (by subst hZ; exact ⟨rfl, rfl, rfl, rfl⟩) (by subst hZ; simp) (by subst hZ; simp) (fun j hj => by subst hZ; simp [hj])]
  refine set_pg Z _ k _ _ hk (by subst hZ; exact ⟨rfl, rfl, rfl, rfl⟩) (by simp [withPg, hm]) (by simp [withPg, hm]) (fun j hj => ?_)
  have : (j < k + 1) ↔ (j < k) := by omega
  subst hZ
  simp [withPg, this, hj]
theorem results_one_row {P : Program} {fn : Func} {p : Tmp} {ty : TypeId} (h : fn.results = #[.cell p ty]) (tmps : Array Value) (w : World) (g : Nat) (t : TypeId) (cs : Array Value) (fr : Nat × Nat) (d : TypeDesc)
    (hp : tmps.getD p undef = .pointer (some ⟨g, 0, none⟩)) (hg : w.heap[g]? = some (.cells cs t fr))
    (hu : P.underlying ty = some d) (hd : (match d with | .struct _ | .array _ _ => true | _ => false) = true) (hi : (P.info? ty).map (·.size) = some cs.size) :
    (results fn tmps).run P w = .ok (.agg cs) w := results_cell_row h tmps w g t cs fr d hp hg hu hd hi
set_option maxRecDepth 100000 in
set_option maxHeartbeats 3200000 in
theorem rf_over (P L : Pg) (m : Nat) (hm : m ≤ 6) (v : Value) (w : World) (h : CellsAt w 0 v L m) :
    Calls Try.prog 45 #[pgV P, v] w fun e w' => e = .returned (pgV (overPg P L m)) ∧ Below w.heap.size w w' := by
  obtain ⟨ad, cc, rfl⟩ := h.1.form
  unfold pgV at *
  have HV : Hid (CellsAt ((w.alloc (.cells (pgC P) 26)).alloc (.cells (pgC pageZ) 26)) 0 (.slice ad m cc) L m) := h.keep (((Keeps.refl (fun _ => False) w).alloc _).alloc _) (fun _ _ e => e)
  have hlt : Hid (∀ k ∈ blk (.slice ad m cc), k < w.heap.size) := fun k hk => h.1.lt hk
  have HQ : Hid (((w.alloc (.cells (pgC P) 26)).alloc (.cells (pgC pageZ) 26)).heap[w.heap.size]? = some (.cells (pgC P) 26 (0, 0))) := hO (hN rfl)
  have HR : Hid (((w.alloc (.cells (pgC P) 26)).alloc (.cells (pgC pageZ) 26)).heap[w.heap.size + 1]? = some (.cells (pgC pageZ) 26 (0, 0))) := hN (by simp)
  rw [← over_none P L] at HQ
  have hm' : (m : Int) ≤ 6 := by omega
  go_enter Try.func45, Try.ntmps45
  go_wp2_with fail
  go_loopw [5] (fun s wr => ∃ (k : Nat), k ≤ m ∧ s = .int .i64 k ∧ Hid (wr.heap[w.heap.size]? = some (.cells (pgC (overPg P L k)) 26 (0, 0))) ∧ Hid (wr.heap[w.heap.size + 1]? = some (.cells (pgC pageZ) 26 (0, 0))) ∧ Hid (CellsAt wr 0 (.slice ad m cc) L m) ∧ Hid (Below w.heap.size w wr)) (fun s _ => 6 - (intOf s).toNat)
  case atStart => exact ⟨0, by omega, rfl, HQ, HR, HV, bA (bA bR)⟩
  case round =>
    clear HQ HR HV h
    obtain ⟨k, hk, rfl, HQ, HR, HV, HB⟩ := hrel
    by_cases hkm : k < m
    · obtain ⟨g, c, hv⟩ := HV.out.1.has (by omega)
      obtain ⟨rfl, rfl⟩ : ad = some ⟨g, 0, none⟩ ∧ cc = c := by simpa using hv
      clear hv
      have hg := hlt.out g (by simp [blk, Value.ownBlock])
      obtain ⟨c0, c1⟩ := HV.out.at k hkm
      obtain ⟨d0, d1⟩ := pg_at HQ.out k (by omega)
      have f0 := free_at HQ.out (4 + k * 2)
      have f1 := free_at HQ.out (4 + k * 2 + 1)
      have hk' : (k : Int) < m := by omega
      have hk6 : (k : Int) < 6 := by omega
      have KK : Hid (Keeps (· = w.heap.size) wr ((wr.setCell ⟨w.heap.size, 4 + k * 2, none⟩ (.int .i64 (L.st k))).setCell ⟨w.heap.size, 4 + k * 2 + 1, none⟩ (.string (L.dt k)))) := ((Keeps.refl (· = w.heap.size) wr).setCell _ _ (.inl rfl)).setCell _ _ (.inl rfl)
      have HQ' : Hid (((wr.setCell ⟨w.heap.size, 4 + k * 2, none⟩ (.int .i64 (L.st k))).setCell ⟨w.heap.size, 4 + k * 2 + 1, none⟩ (.string (L.dt k))).heap[w.heap.size]? = some (.cells (pgC (overPg P L (k + 1))) 26 (0, 0))) := by
        have := heap_set (heap_set HQ.out (4 + k * 2) (.int .i64 (L.st k))) (4 + k * 2 + 1) (.string (L.dt k))
        rw [over_next P L k (by omega)] at this
        exact this
      go_wp2_with fail
      go_roundw
      case rel => exact ⟨k + 1, by omega, rfl, HQ', KK.out.keep HR.out (by omega), ⟨HV.out.1.keep KK.out (fun j hj e => by subst e; exact Nat.lt_irrefl _ (hlt.out _ hj)), HV.out.2⟩, bK HB.out KK.out (fun j e => by omega)⟩
      case measure => simp [intOf]; omega
    · obtain rfl : k = m := by omega
      have HQc := HQ
      go_wp2_with (first
        | (refine wpList_load_row rfl 26 _ rfl _ rfl 26 _ _ _ HQc.out Try.underlying26 rfl (by kernel_rfl) ?_)
        | (refine wpList_store_whole rfl 26 _ _ rfl _ (pgC (overPg P L k)) rfl rfl _ _ HR.out rfl (by kernel_rfl) (pgC_one _) ?_; intro wz HRz HKz))
      exact bodyPost_ret (results_one_row Try.results45 _ _ _ _ _ _ _ rfl HRz.out Try.underlying26 rfl (by kernel_rfl)) rfl ⟨rfl, bK HB.out HKz.out (fun j e => by omega)⟩
set_option maxRecDepth 100000 in
set_option maxHeartbeats 3200000 in
theorem rf_with (P L : Pg) (m : Nat) (hm : m ≤ 6) (v : Value) (w : World) (h : CellsAt w 0 v L m) :
    Calls Try.prog 46 #[pgV P, v] w fun e w' => e = .returned (pgV (withPg P L m 6)) ∧ Below w.heap.size w w' := by
  obtain ⟨ad, cc, rfl⟩ := h.1.form
  unfold pgV at *
  have HV : Hid (CellsAt ((w.alloc (.cells (pgC P) 26)).alloc (.cells (pgC pageZ) 26)) 0 (.slice ad m cc) L m) := h.keep (((Keeps.refl (fun _ => False) w).alloc _).alloc _) (fun _ _ e => e)
  have hlt : Hid (∀ k ∈ blk (.slice ad m cc), k < w.heap.size) := fun k hk => h.1.lt hk
  have HQ : Hid (((w.alloc (.cells (pgC P) 26)).alloc (.cells (pgC pageZ) 26)).heap[w.heap.size]? = some (.cells (pgC (withPg P L m 0)) 26 (0, 0))) := hO (hN rfl)
  have HR : Hid (((w.alloc (.cells (pgC P) 26)).alloc (.cells (pgC pageZ) 26)).heap[w.heap.size + 1]? = some (.cells (pgC pageZ) 26 (0, 0))) := hN (by simp)
  have hm' : (m : Int) ≤ 6 := by omega
  go_enter Try.func46, Try.ntmps46
  go_wp2_with fail
  go_loopw [5] (fun s wr => ∃ (k : Nat), k ≤ 6 ∧ s = .int .i64 k ∧ Hid (wr.heap[w.heap.size]? = some (.cells (pgC (withPg P L m k)) 26 (0, 0))) ∧ Hid (wr.heap[w.heap.size + 1]? = some (.cells (pgC pageZ) 26 (0, 0))) ∧ Hid (CellsAt wr 0 (.slice ad m cc) L m) ∧ Hid (Below w.heap.size w wr)) (fun s _ => 6 - (intOf s).toNat)
  case atStart => exact ⟨0, by omega, rfl, HQ, HR, HV, bA (bA bR)⟩
  case round =>
    clear HQ HR HV h
    obtain ⟨k, hk, rfl, HQ, HR, HV, HB⟩ := hrel
    by_cases hk6 : k < 6
    rotate_left
    · obtain rfl : k = 6 := by omega
      have HQc := HQ
      go_wp2_with (first
        | (refine wpList_load_row rfl 26 _ rfl _ rfl 26 _ _ _ HQc.out Try.underlying26 rfl (by kernel_rfl) ?_)
        | (refine wpList_store_whole rfl 26 _ _ rfl _ (pgC (withPg P L m 6)) rfl rfl _ _ HR.out rfl (by kernel_rfl) (pgC_one _) ?_; intro wz HRz HKz))
      exact bodyPost_ret (results_one_row Try.results46 _ _ _ _ _ _ _ rfl HRz.out Try.underlying26 rfl (by kernel_rfl)) rfl ⟨rfl, bK HB.out HKz.out (fun j e => by omega)⟩
    have hk6' : (k : Int) < 6 := by omega
    obtain ⟨d0, d1⟩ := pg_at HQ.out k hk6
    have f0 := free_at HQ.out (4 + k * 2)
    have f1 := free_at HQ.out (4 + k * 2 + 1)
    by_cases hkm : k < m
    · obtain ⟨g, c, hv⟩ := HV.out.1.has (by omega)
      obtain ⟨rfl, rfl⟩ : ad = some ⟨g, 0, none⟩ ∧ cc = c := by simpa using hv
      clear hv
      have hg := hlt.out g (by simp [blk, Value.ownBlock])
      obtain ⟨c0, c1⟩ := HV.out.at k hkm
      have hk' : (k : Int) < m := by omega
      have KK : Hid (Keeps (· = w.heap.size) wr ((((wr.setCell ⟨w.heap.size, 4 + k * 2, none⟩ (.int .i64 0)).setCell ⟨w.heap.size, 4 + k * 2 + 1, none⟩ (.string ⟨#[]⟩)).setCell ⟨w.heap.size, 4 + k * 2, none⟩ (.int .i64 (L.st k))).setCell ⟨w.heap.size, 4 + k * 2 + 1, none⟩ (.string (L.dt k)))) :=
        ((((Keeps.refl (· = w.heap.size) wr).setCell _ _ (.inl rfl)).setCell _ _ (.inl rfl)).setCell _ _ (.inl rfl)).setCell _ _ (.inl rfl)
      have HQ' : Hid (((((wr.setCell ⟨w.heap.size, 4 + k * 2, none⟩ (.int .i64 0)).setCell ⟨w.heap.size, 4 + k * 2 + 1, none⟩ (.string ⟨#[]⟩)).setCell ⟨w.heap.size, 4 + k * 2, none⟩ (.int .i64 (L.st k))).setCell ⟨w.heap.size, 4 + k * 2 + 1, none⟩ (.string (L.dt k))).heap[w.heap.size]? = some (.cells (pgC (withPg P L m (k + 1))) 26 (0, 0))) := by
        have := heap_set (heap_set (heap_set (heap_set HQ.out (4 + k * 2) (.int .i64 0)) (4 + k * 2 + 1) (.string ⟨#[]⟩)) (4 + k * 2) (.int .i64 (L.st k))) (4 + k * 2 + 1) (.string (L.dt k))
        rw [with_cell P L m k hk6 hkm] at this
        exact this
      go_wp2_with fail
      go_roundw
      case rel => exact ⟨k + 1, by omega, rfl, HQ', KK.out.keep HR.out (by omega), ⟨HV.out.1.keep KK.out (fun j hj e => by subst e; exact Nat.lt_irrefl _ (hlt.out _ hj)), HV.out.2⟩, bK HB.out KK.out (fun j e => by omega)⟩
      case measure => simp [intOf]; omega
    · have hk' : (m : Int) ≤ k := by omega
      have KK : Hid (Keeps (· = w.heap.size) wr ((wr.setCell ⟨w.heap.size, 4 + k * 2, none⟩ (.int .i64 0)).setCell ⟨w.heap.size, 4 + k * 2 + 1, none⟩ (.string ⟨#[]⟩))) := ((Keeps.refl (· = w.heap.size) wr).setCell _ _ (.inl rfl)).setCell _ _ (.inl rfl)
      have HQ' : Hid (((wr.setCell ⟨w.heap.size, 4 + k * 2, none⟩ (.int .i64 0)).setCell ⟨w.heap.size, 4 + k * 2 + 1, none⟩ (.string ⟨#[]⟩)).heap[w.heap.size]? = some (.cells (pgC (withPg P L m (k + 1))) 26 (0, 0))) := by
        have := heap_set (heap_set HQ.out (4 + k * 2) (.int .i64 0)) (4 + k * 2 + 1) (.string ⟨#[]⟩)
        rw [with_zero P L m k hk6 (by omega)] at this
        exact this
      go_wp2_with fail
      go_roundw
      case rel => exact ⟨k + 1, by omega, rfl, HQ', KK.out.keep HR.out (by omega), ⟨HV.out.1.keep KK.out (fun j hj e => by subst e; exact Nat.lt_irrefl _ (hlt.out _ hj)), HV.out.2⟩, bK HB.out KK.out (fun j e => by omega)⟩
      case measure => simp [intOf]; omega
end Go.Proofs.Ytgealllnchpekaa
