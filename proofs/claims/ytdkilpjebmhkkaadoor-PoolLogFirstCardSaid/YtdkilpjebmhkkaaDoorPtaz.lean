import Derived.Test.YtdkilpjebmhkkaaDoorPsaz
set_option linter.unusedSimpArgs false
set_option linter.unusedVariables false
namespace Go.Proofs.YtdkilpjebmhkkaaDoor
open Go.RowKit

def opn (D : Dev) (b : Nat) : ByteArray × Int × Int := frOpen (D.at b) (D.at (b + 1)) (D.at (b + 2)) (D.at (b + 3))
set_option maxRecDepth 100000 in
set_option maxHeartbeats 400000 in
theorem law_read {w : World} {dp : Nat} {Sd : List Nat} {D : Dev} (hd : DiskAt w dp D Sd) (hdn : D.down = false) (id : Nat) (hid : id ≤ 1024) (hfit : 128 + 4 * id + 4 ≤ D.firm.length) :
    Calls Tryd.prog 21 #[.pointer (some ⟨dp, 0, none⟩), .int .i64 id] w fun e w' => e = .returned (.tuple #[.string (opn D (128 + 4 * id)).1, .int .u64 (opn D (128 + 4 * id)).2.1, .int .i64 (opn D (128 + 4 * id)).2.2]) ∧ Below w.heap.size w w' := by
  have hlen : D.seen.length = D.firm.length := hd.1.2.2.1
  obtain ⟨⟨ob, os, oc⟩, ho⟩ : ∃ o, opn D (128 + 4 * id) = o := ⟨_, rfl⟩
  rw [ho]
  dsimp only
  replace ho := Lib.hid ho
  have hsz64 : ∀ j, j < 4 → (D.at (128 + 4 * id + j)).size = 64 := fun j hj => by
    unfold Dev.at
    rw [List.getD_eq_getElem?_getD, List.getElem?_eq_getElem (by omega)]
    exact hd.1.2.2.2.2.2.2.1 _ (List.getElem_mem _)
  have HD := Lib.hid hd
  replace hlen := Lib.hid hlen
  clear hd
  have hw4 : IntKind.i64.wrap (4 * (id : Int)) = 4 * (id : Int) := by rw [IntKind.wrap_i64]; omega
  have hw5 : IntKind.i64.wrap (128 + 4 * (id : Int)) = 128 + 4 * (id : Int) := by rw [IntKind.wrap_i64]; omega
  have HB0 : Hid (Below w.heap.size w (w.alloc (.cells (arr4 (fun j => D.at (128 + 4 * id + j)) 0) 104))) := bA bR
  have HA0 : Hid ((w.alloc (.cells (arr4 (fun j => D.at (128 + 4 * id + j)) 0) 104)).heap[w.heap.size]? = some (.cells (arr4 (fun j => D.at (128 + 4 * id + j)) 0) 104 (0, 0))) := hN (by simp)
  go_enter Tryd.func21, Tryd.ntmps21
  go_wp2_with fail
  go_loopw [11] (fun x wr => ∃ k : Nat, k ≤ 4 ∧ x = .int .i64 k ∧ Hid (wr.heap[w.heap.size]? = some (.cells (arr4 (fun j => D.at (128 + 4 * id + j)) k) 104 (0, 0))) ∧ Hid (Below w.heap.size w wr)) (fun x _ => 4 - (intOf x).toNat)
  case atStart => exact ⟨0, by omega, rfl, HA0, HB0⟩
  case round =>
    obtain ⟨k, hk4, rfl, HA, HB⟩ := hrel
    clear HB0 HA0
    by_cases hk : k < 4
    · have hkI : (k : Int) < 4 := by omega
      have hw6 : IntKind.i64.wrap (128 + 4 * (id : Int) + (k : Int)) = 128 + 4 * (id : Int) + (k : Int) := by rw [IntKind.wrap_i64]; omega
      have hr : D.read (128 + 4 * (id : Int) + (k : Int)) = (D.at (128 + 4 * id + k), 0) := by
        rw [up_read hdn _ (by omega) (by have := hlen.out; omega)]
        unfold Dev.at
        rw [show (128 + 4 * (id : Int) + (k : Int)).toNat = 128 + 4 * id + k by omega]
      have HR := Lib.hid ((dsk_read dp (128 + 4 * (id : Int) + (k : Int)) D Sd wr (HD.out.later HB.out)))
      rw [hr] at HR
      replace hr := Lib.hid hr
      obtain ⟨v, hv⟩ := arr4_cell (fun j => D.at (128 + 4 * id + j)) k hk
      have A1 := (cell_at HA.out k).trans hv
      have A2 := free_at HA.out k
      have hnx := Lib.hid (arr4_next (fun j => D.at (128 + 4 * id + j)) k hk)
      replace hk4 := Lib.hid hk4
      clear hv
      go_wp2_with fail
      refine (HR.out).mono ?_
      rintro e w1 ⟨rfl, rfl⟩
      clear HR
      go_wp2_with fail
      go_roundw
      case rel => exact ⟨k + 1, by omega, rfl, heap_set_eq HA.out hnx.out, bS HB.out (by simp)⟩
      case measure => simp [intOf]; omega
    · obtain rfl : k = 4 := by omega
      have hA4 : arr4 (fun j => D.at (128 + 4 * id + j)) 4 = #[.string (D.at (128 + 4 * id)), .string (D.at (128 + 4 * id + 1)), .string (D.at (128 + 4 * id + 2)), .string (D.at (128 + 4 * id + 3))] := rfl
      rw [hA4] at HA
      clear hA4
      have z0 := hsz64 0 (by omega)
      have z1 := hsz64 1 (by omega)
      have z2 := hsz64 2 (by omega)
      have z3 := hsz64 3 (by omega)
      rw [Nat.add_zero] at z0
      have HO := Lib.hid (fun w => rfm_open (D.at (128 + 4 * id)) (D.at (128 + 4 * id + 1)) (D.at (128 + 4 * id + 2)) (D.at (128 + 4 * id + 3)) (by unfold maxLen; omega) (by unfold maxLen; omega) (by unfold maxLen; omega) (by unfold maxLen; omega) w)
      change Hid (∀ w, Calls Tryd.prog _ _ w fun e w' => e = .returned (.tuple #[.string (opn D (128 + 4 * id)).1, .int .u64 (opn D (128 + 4 * id)).2.1, .int .i64 (opn D (128 + 4 * id)).2.2]) ∧ Below w.heap.size w w') at HO
      obtain ⟨s0, e0⟩ : ∃ s, D.at (128 + 4 * id) = s := ⟨_, rfl⟩
      obtain ⟨s1, e1⟩ : ∃ s, D.at (128 + 4 * id + 1) = s := ⟨_, rfl⟩
      obtain ⟨s2, e2⟩ : ∃ s, D.at (128 + 4 * id + 2) = s := ⟨_, rfl⟩
      obtain ⟨s3, e3⟩ : ∃ s, D.at (128 + 4 * id + 3) = s := ⟨_, rfl⟩
      rw [e0, e1, e2, e3] at HO HA
      clear e0 e1 e2 e3 z0 z1 z2 z3 hsz64 hk
      rw [ho.out] at HO
      dsimp only at HO
      go_wp2_with (refine wpList_load_row rfl 104 _ rfl _ rfl 104 _ _ _ HA.out Tryd.underlying104 rfl (by kernel_rfl) ?_)
      refine (HO.out _).mono ?_
      rintro e w5 ⟨rfl, hb5⟩
      have HB5 := Lib.hid (bT HB.out hb5)
      clear hb5 HO HB HA
      go_wp2_with fail
      go_ret3
      exact ⟨rfl, HB5.out⟩
end Go.Proofs.YtdkilpjebmhkkaaDoor
