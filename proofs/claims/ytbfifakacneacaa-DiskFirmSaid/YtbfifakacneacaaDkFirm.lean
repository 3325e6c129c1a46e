import Derived.Test.YtbfifakacneacaaDkUp
set_option linter.unusedSimpArgs false
set_option linter.unusedVariables false
namespace Go.Proofs.Ytbfifakacneacaa
open Go.RowKit

def arr3 (f : Nat → ByteArray) (k : Nat) : Array Value := #[.string (if 0 < k then f 0 else .empty), .string (if 1 < k then f 1 else .empty), .string (if 2 < k then f 2 else .empty)]
theorem arr3_set (f : Nat → ByteArray) (k : Nat) (h : k < 3) : (arr3 f k).setIfInBounds k (.string (f k)) = arr3 f (k + 1) := by
  match k, h with
  | 0, _ => simp [arr3]
  | 1, _ => simp [arr3]
  | 2, _ => simp [arr3]
theorem arr3_get (f : Nat → ByteArray) (k : Nat) (h : k < 3) : (arr3 f 3)[k]? = some (.string (f k)) := by
  match k, h with
  | 0, _ => rfl
  | 1, _ => rfl
  | 2, _ => rfl
set_option maxRecDepth 100000 in
set_option maxHeartbeats 3200000 in
theorem diskFirm_walk (v0 : Value) (ss : List ByteArray) (v1 : Value) (ks : List Bool) (L0 : ss.length * 16 ≤ 140737488351232) (w : World) (S0 : StrSl w v0 ss) (S1 : BoolsAt w w.heap.size v1 ks) :
    Calls Try.prog 7 #[v0, v1] w fun e w' => e = .returned (.bool true) ∧ Below w.heap.size w w' := by
  have HN := Lib.hid (dsk_new 3 (by omega) (by omega))
  obtain ⟨sa, sc, rfl, hsl⟩ := S0.form
  have S0 := Lib.hid S0
  have S1 := Lib.hid S1
  unfold maxLen at hsl
  obtain ⟨ka, kc, hv1, -, -⟩ := S1.out
  go_enter Try.func7, Try.ntmps7
  go_wp2_with fail
  refine (awake02 _).mono ?_
  rintro e w1 ⟨rfl, hb⟩
  have HB1 := Lib.hid hb
  clear hb
  go_wp2_with fail
  refine (HN.out _).mono ?_
  rintro e w2 ⟨p, S, rfl, hD, hb, hS⟩
  have HD2 := Lib.hid hD
  have HB2 := Lib.hid (bT HB1.out hb)
  have HS2 : Hid (∀ k ∈ S, w.heap.size ≤ k) := fun k hk => Nat.le_trans HB1.out.size (hS k hk)
  clear hD hb hS
  go_wp2_with fail
  go_loopw [25] (fun i wr => ∃ (k : Nat) (D : Dev) (R : List Nat), k ≤ ss.length ∧ i = .int .i64 k ∧ Hid (D.up ∧ D.firm.length = 3 ∧ D.soft.length ≤ k) ∧ Hid (DiskAt wr p D R) ∧ Hid (∀ b ∈ R, w.heap.size ≤ b) ∧ Below w.heap.size w wr) (fun i _ => ss.length - (intOf i).toNat)
  case atStart => exact ⟨0, _, S, by omega, rfl, ⟨up_new 3, rfl, Nat.le_refl _⟩, HD2, HS2, HB2.out⟩
  case round =>
    obtain ⟨k, D, R, hk, rfl, HI, HD, HR, hbr⟩ := hrel
    have HBr := Lib.hid hbr
    clear hbr
    have hbr1 : w.heap.size ≤ wr.heap.size := HBr.out.size
    have hup := HI.out.1
    have hfl := HI.out.2.1
    have hsf := HI.out.2.2
    have hup := Lib.hid hup
    by_cases hkm : k < ss.length
    · obtain ⟨b, off, rfl, hbl, hcs, hsm⟩ := S0.out.at HBr.out k hkm
      have hblr : b < wr.heap.size := by omega
      have HP := Lib.hid (law_padded (ss.getD k ⟨#[]⟩) hsm)
      have hpm := padS_le _ hsm
      generalize ss.getD k ⟨#[]⟩ = s at *
      go_wp2_with fail
      refine (HP.out _).mono ?_
      rintro e w4 ⟨rfl, hb4⟩
      have HDx := Lib.hid (HD.out.later hb4)
      have HBx := Lib.hid (bT HBr.out hb4)
      clear hb4
      generalize padS s = A at *
      go_wp2_with fail
      refine (dsk_write p ((k : Int) % 3) A hpm D R (by omega) _ HDx.out).mono ?_
      rintro e w5 ⟨rfl, R', hD, hk', hR⟩
      have HR' := Lib.hid (below_newS HBx.out HR.out hR)
      have HB4 := Lib.hid (below_keep HBx.out hk' HR.out)
      have HD4 := Lib.hid hD
      clear hD hk' hR
      go_wp2_with fail
      go_roundw
      case rel =>
        obtain ⟨u1, u2, u3⟩ := up_write_up hup.out ((k : Int) % 3) A
        exact ⟨k + 1, _, R', by omega, rfl, ⟨u1, by rw [u2]; exact hfl, by omega⟩, HD4, HR', HB4.out⟩
      case measure => simp [intOf]; omega
    · obtain rfl : k = ss.length := by omega
      subst hv1
      have hbar := Lib.hid (up_barrier hup.out)
      have hse : D.seen.length = 3 := by rw [HD.out.1.2.2.1]; exact hfl
      have hus : Dev.up { D with firm := D.seen, soft := [] } := hup.out
      have hus := Lib.hid hus
      go_wp2_with fail
      refine (dsk_barrier p D R _ HD.out).mono ?_
      rintro e w5 ⟨rfl, R5, hD, hk', hR⟩
      rw [hbar.out] at hD ⊢
      have HR5 := Lib.hid (below_newS HBr.out HR.out hR)
      have HB5 := Lib.hid (below_keep HBr.out hk' HR.out)
      have HD5 := Lib.hid hD
      have HR5n := Lib.hid hD.lt
      clear hD hk' hR
      go_wp2_with fail
      refine (dsk_pending p _ R5 _ HD5.out).mono ?_
      rintro e w6 ⟨rfl, rfl⟩
      rw [show ((Dev.soft { D with firm := D.seen, soft := [] }).length : Int) = 0 from rfl]
      obtain ⟨E, hE⟩ : ∃ E : Dev, { D with firm := D.seen, soft := [] } = E := ⟨_, rfl⟩
      have HX : Hid (∀ k : Nat, k < 3 → E.read (k : Int) = (E.seen.getD k ⟨#[]⟩, 0)) := fun k hk => by
        have := up_read (D := { D with firm := D.seen, soft := [] }) hus.out.2 (k : Int) (by omega) (by show (k : Int) < D.seen.length; omega)
        rw [Int.toNat_natCast] at this
        rw [← hE]; exact this
      have HY : Hid (∀ k : Nat, k < 3 → (E.after ks).read (k : Int) = (E.seen.getD k ⟨#[]⟩, 0)) := fun k hk => by
        rw [← hE]
        have := up_read (D := Dev.after { D with firm := D.seen, soft := [] } ks) rfl (k : Int) (by omega) (by show (k : Int) < D.seen.length; omega)
        rw [Int.toNat_natCast] at this
        exact this
      rw [hE] at HD5
      clear hE hus hbar
      have hD5 := HD5.out.lt _ HD5.out.mem
      obtain ⟨f, hf⟩ : ∃ f : Nat → ByteArray, ∀ k, E.seen.getD k ⟨#[]⟩ = f k := ⟨_, fun _ => rfl⟩
      have HX : Hid (∀ k : Nat, k < 3 → E.read (k : Int) = (f k, 0)) := fun k hk => by rw [← hf]; exact HX.out k hk
      have HY : Hid (∀ k : Nat, k < 3 → (E.after ks).read (k : Int) = (f k, 0)) := fun k hk => by rw [← hf]; exact HY.out k hk
      clear hf
      have HB6 := HB5
      clear HB5
      have h6 : w.heap.size ≤ w6.heap.size := HB6.out.size
      go_wp2_with fail
      go_loopw [45] (fun i wq => ∃ (k : Nat), k ≤ 3 ∧ i = .int .i64 k ∧ Hid (DiskAt wq p E R5) ∧ Hid (wq.heap[w6.heap.size]? = some (.cells (arr3 f k) 45 (0, 0))) ∧ Below w.heap.size w wq) (fun i _ => 3 - (intOf i).toNat)
      case atStart => exact ⟨0, by omega, rfl, HD5.out.keep ((Keeps.refl (fun _ => False) _).alloc _) (fun _ _ => id), hN rfl, bA HB6.out⟩
      case round =>
        obtain ⟨k, hk, rfl, HDq, HQ, hbq⟩ := hrel
        have HBq := Lib.hid hbq
        clear hbq
        have hpq : p ≠ w6.heap.size := by omega
        by_cases hk3 : k < 3
        · have hx := HX.out k hk3
          have hq := HQ.out
          have hkz : k < (arr3 f k).size := hk3
          have C := cell_at hq k
          rw [Array.getElem?_eq_getElem hkz] at C
          have F := free_at hq k
          go_wp2_with fail
          refine (dsk_read p k E R5 _ HDq.out).mono ?_
          rintro e w7 ⟨rfl, rfl⟩
          rw [hx]
          go_wp2_with fail
          go_roundw
          case rel =>
            refine ⟨k + 1, by omega, rfl, HDq.out.keep ((Keeps.refl (· = w6.heap.size) _).setCell _ _ (.inl rfl)) ?_, ?_, ?_⟩
            · rintro b hb e
              have := HR5n.out b hb
              omega
            · show _ = _
              rw [← arr3_set f k hk3]
              exact heap_set hq k _
            · exact bS HBq.out h6
          case measure => simp [intOf]; omega
        · obtain rfl : k = 3 := by omega
          have hbq : w.heap.size ≤ _ := HBq.out.size
          have hqlt := block_lt HQ.out
          go_wp2_with fail
          refine (dsk_crash p E R5 w.heap.size _ ks _ HDq.out (S1.out.keep (Keeps.of_below (fun _ => False) HBq.out) (Nat.le_refl _) (fun _ h => h.elim)) hbq HR5.out).mono ?_
          rintro e w8 ⟨p8, S8, rfl, hD, hC, hk', hS8⟩
          have HB8 := Lib.hid (below_keep HBq.out hk' (fun k e => by subst e; exact HR5.out _ HDq.out.mem))
          have HC8 := Lib.hid hC
          have HQ8 := Lib.hid (hk'.keep HQ.out (fun e => hpq e.symm))
          clear hD hC hk' hS8
          go_wp2_with fail
          go_loopw [60] (fun i wx => ∃ (k : Nat), k ≤ 3 ∧ i = .int .i64 k ∧ wx = w8) (fun i _ => 3 - (intOf i).toNat)
          case atStart => exact ⟨0, by omega, rfl, rfl⟩
          case round =>
            obtain ⟨k, hk, rfl, rfl⟩ := hrel
            by_cases hk3 : k < 3
            · have hy := HY.out k hk3
              have C := cell_at HQ8.out k
              rw [arr3_get f k hk3] at C
              go_wp2_with fail
              refine (dsk_read p8 k _ S8 _ HC8.out).mono ?_
              rintro e w9 ⟨rfl, rfl⟩
              rw [hy]
              go_wp2_with fail
              go_roundw
              case rel => exact ⟨k + 1, by omega, rfl, by trivial⟩
              case measure => simp [intOf]; omega
            · obtain rfl : k = 3 := by omega
              go_wp2_with fail
              go_ret
              exact ⟨rfl, HB8.out⟩
end Go.Proofs.Ytbfifakacneacaa
