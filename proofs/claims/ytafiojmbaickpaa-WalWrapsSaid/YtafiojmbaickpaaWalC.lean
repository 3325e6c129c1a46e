import Derived.Test.YtafiojmbaickpaaWalB
import Derived.Test.YtafiojmbaickpaaDkUp
import Derived.Deep.RegionHeld3
set_option linter.unusedSimpArgs false
set_option linter.unusedVariables false
namespace Go.Proofs.Ytafiojmbaickpaa
open Go.RowKit

/-- a sector of the stream: number k, holding s -/
def secS (k : Int) (s : ByteArray) : ByteArray := leS (k + 1) 8 ++ leS s.size 2 ++ s ++ zeros (54 - s.size)
theorem secS_size (k : Int) (s : ByteArray) (hs : s.size ≤ 54) : (secS k s).size = 64 := by
  unfold secS
  rw [ByteArray.size_append, ByteArray.size_append, ByteArray.size_append, leS_size, leS_size, zeros_size]
  omega
theorem Bytes_later {w w' : World} {g o : Nat} {s : ByteArray} (h : Lib.Bytes w g o s) (hg : g < w.heap.size) (hb : Below w.heap.size w w') : Lib.Bytes w' g o s := fun i hi => by
  have := h i hi
  rw [← this]
  simp [World.cell?, hb.block g hg]
set_option maxRecDepth 100000 in
set_option maxHeartbeats 800000 in
theorem wal_sector (k : Int) (hk : 0 ≤ k ∧ k ≤ 1152921504606846976) (g o dc : Nat) (s : ByteArray) (hs : s.size ≤ 54) (w : World) (hg : g < w.heap.size) (hB : Lib.Bytes w g o s) :
    Calls Try.prog 29 #[.int .i64 k, .slice (some ⟨g, o, none⟩) s.size dc] w fun e w' => e = .returned (.string (secS k s)) ∧ Below w.heap.size w w' := by
  have hu1 : IntKind.u64.wrap (k + 1) = k + 1 := wrap_u64_in _ (by omega) (by omega)
  have hu2 : IntKind.u64.wrap (s.size : Int) = s.size := wrap_u64_in _ (by omega) (by omega)
  have HN1 := Lib.hid (fun w2 => oct_num_ok (k + 1) 8 (by omega) (by omega) (by omega) (fun h => absurd h (by omega)) w2)
  have HN2 := Lib.hid (fun w2 => oct_num_ok (s.size : Int) 2 (by omega) (by omega) (by omega) (fun _ => by rw [show (2 : Int) ^ (8 * (2 : Int).toNat) = 65536 by decide]; omega) w2)
  have HZ := Lib.hid (fun w2 => str_repeat ⟨#[0]⟩ rfl (54 - s.size) (by omega) w2)
  have hz : ((54 - s.size : Nat) : Int) = 54 - (s.size : Int) := by omega
  rw [hz] at HZ
  have HC : Hid (∀ w', Lib.Bytes w' g o s → (convert 62 9 (.slice (some ⟨g, o, none⟩) s.size dc)).run Try.prog w' = .ok (.string s) w') := fun w' h =>
    Lib.run_convert_whole (P := Try.prog) w' 62 5 9 Try.underlying62 Try.underlying5 Try.underlying9 g o s h dc
  have hm1 : (leS (k + 1) 8).size = 8 := leS_size _ _
  have hm2 : (leS (s.size : Int) 2).size = 2 := leS_size _ _
  have hm3 := zeros_size (54 - s.size)
  have hsec : Hid (secS k s = leS (k + 1) 8 ++ leS s.size 2 ++ s ++ zeros (54 - s.size)) := rfl
  rw [show (8 : Int).toNat = 8 from rfl] at HN1
  rw [show (2 : Int).toNat = 2 from rfl] at HN2
  generalize zeros (54 - s.size) = Z at *
  generalize leS (k + 1) 8 = M1 at *
  generalize leS (s.size : Int) 2 = M2 at *
  have hB := Lib.hid hB
  have hw54 : IntKind.i64.wrap (54 - (s.size : Int)) = 54 - (s.size : Int) := by rw [IntKind.wrap_i64]; omega
  have hl1 : ¬ 9223372036854775807 < 10 + s.size := by omega
  have hl2 : ¬ 9223372036854775807 < 10 + s.size + Z.size := by omega
  go_enter Try.func29, Try.ntmps29
  go_wp2_with fail
  refine (HN1.out w).mono ?_
  rintro e w1 ⟨rfl, hb⟩
  have HB1 := Lib.hid hb
  clear hb HN1
  go_wp2_with fail
  refine (HN2.out w1).mono ?_
  rintro e w2 ⟨rfl, hb⟩
  have HB2 := Lib.hid (bT HB1.out hb)
  clear hb HN2 HB1
  go_wp2_with fail
  have hS0 : Lib.Bytes w2.drew g o s := Bytes_later hB.out hg (bD HB2.out)
  refine wp_region_held_drew (S := fun w' => Lib.Bytes w' g o s) (by kernel_rfl) hS0 (fun hHeld => ?_)
  clear hS0
  refine wpAnyH_take (i := 0) (oi := ⟨some 23, _, _, _, _, _⟩) (v := ?_) rfl (by kernel_rfl) (by kernel_rfl) (by kernel_rfl) (fun _ _ _ h => h) (Or.inl ⟨by rfl, ?_⟩) hHeld ?_
  rotate_left
  · intro w' hSw
    go_simp
    try with_reducible rfl
    try omega
  simp only [Act.put, List.setIfInBounds_toArray, List.set_cons_zero, List.set_cons_succ]
  refine wpAnyH_take (i := 1) (oi := ⟨some 24, _, _, _, _, _⟩) (v := ?_) rfl (by kernel_rfl) (by kernel_rfl) (by kernel_rfl) (fun _ _ _ h => h) (Or.inl ⟨by rfl, ?_⟩) hHeld ?_
  rotate_left
  · intro w' hSw
    go_simp
    try with_reducible rfl
    try omega
  simp only [Act.put, List.setIfInBounds_toArray, List.set_cons_zero, List.set_cons_succ]
  refine wpAnyH_take (i := 2) (oi := ⟨some 25, _, _, _, _, _⟩) (v := ?_) rfl (by kernel_rfl) (by kernel_rfl) (by kernel_rfl) (fun _ _ _ h => h) (Or.inl ⟨by rfl, ?_⟩) hHeld ?_
  rotate_left
  · intro w' hSw
    go_simp
    try with_reducible rfl
    try omega
  simp only [Act.put, List.setIfInBounds_toArray, List.set_cons_zero, List.set_cons_succ]
  refine wpAnyH_take (i := 3) (oi := ⟨some 26, _, _, _, _, _⟩) (v := ?_) rfl (by kernel_rfl) (by kernel_rfl) (by kernel_rfl) (fun _ _ _ h => h) (Or.inl ⟨by rfl, ?_⟩) hHeld ?_
  rotate_left
  · intro w' hSw
    go_simp
    try with_reducible rfl
    try omega
  simp only [Act.put, List.setIfInBounds_toArray, List.set_cons_zero, List.set_cons_succ]
  refine wpAnyH_take (i := 4) (oi := ⟨some 27, _, _, _, _, _⟩) (v := .string s) rfl (by kernel_rfl) (by kernel_rfl) (by kernel_rfl) (fun _ _ _ h => h) (Or.inl ⟨by rfl, ?_⟩) hHeld ?_
  · intro w' hSw
    have hcv := HC.out w' hSw
    go_simp
    try with_reducible rfl
    try omega
  simp only [Act.put, List.setIfInBounds_toArray, List.set_cons_zero, List.set_cons_succ]
  refine wpAnyH_take (i := 5) (oi := ⟨some 28, _, _, _, _, _⟩) (v := .string (M1 ++ M2 ++ s)) rfl (by kernel_rfl) (by kernel_rfl) (by kernel_rfl) (fun _ _ _ h => h) (Or.inl ⟨by rfl, ?_⟩) hHeld ?_
  · intro w' hSw
    go_simp
    try with_reducible rfl
    try omega
  simp only [Act.put, List.setIfInBounds_toArray, List.set_cons_zero, List.set_cons_succ]
  refine wpAnyH_take (i := 6) (oi := ⟨some 29, _, _, _, _, _⟩) (v := ?_) rfl (by kernel_rfl) (by kernel_rfl) (by kernel_rfl) (fun _ _ _ h => h) (Or.inl ⟨by rfl, ?_⟩) hHeld ?_
  rotate_left
  · intro w' hSw
    go_simp
    try with_reducible rfl
    try omega
  simp only [Act.put, List.setIfInBounds_toArray, List.set_cons_zero, List.set_cons_succ]
  refine wpAnyH_take (i := 7) (oi := ⟨some 30, _, _, _, _, _⟩) (v := ?_) rfl (by kernel_rfl) (by kernel_rfl) (by kernel_rfl) (fun _ _ _ h => h) (Or.inl ⟨by rfl, ?_⟩) hHeld ?_
  rotate_left
  · intro w' hSw
    go_simp
    try with_reducible rfl
    try omega
  simp only [Act.put, List.setIfInBounds_toArray, List.set_cons_zero, List.set_cons_succ]
  refine wpAnyH_take (i := 8) (oi := ⟨some 31, _, _, _, _, _⟩) (v := .int .i64 (54 - (s.size : Int))) rfl (by kernel_rfl) (by kernel_rfl) (by kernel_rfl) (fun _ _ _ h => h) (Or.inl ⟨by rfl, ?_⟩) hHeld ?_
  · intro w' hSw
    go_simp
    try with_reducible rfl
    try omega
  simp only [Act.put, List.setIfInBounds_toArray, List.set_cons_zero, List.set_cons_succ]
  refine wpAnyH_ready (rs := [9]) (by kernel_rfl) (by simp) ?_
  refine AllReadyH.cons (o := ⟨some 32, _, _, _, _, _⟩) rfl (fun K hK => ?_) AllReadyH.nil
  go_simp
  go_at_call 25
  refine (HZ.out _).mono ?_
  rintro e w3 ⟨rfl, hb⟩
  have HB3 := Lib.hid (bT (bD HB2.out) hb)
  clear hb HB2 HZ hHeld
  go_wp2_with fail
  refine hK.out _ _ (Bytes_later hB.out hg HB3.out) (fun hHeld => ?_)
  clear hK K
  try simp only [Act.put, List.setIfInBounds_toArray, List.set_cons_zero, List.set_cons_succ]
  refine wpAnyH_take (i := 10) (oi := ⟨some 33, _, _, _, _, _⟩) (v := .string (M1 ++ M2 ++ s ++ Z)) rfl (by kernel_rfl) (by kernel_rfl) (by kernel_rfl) (fun _ _ _ h => h) (Or.inl ⟨by rfl, ?_⟩) hHeld ?_
  · intro w' hSw
    go_simp
    try with_reducible rfl
    try omega
  simp only [Act.put, List.setIfInBounds_toArray, List.set_cons_zero, List.set_cons_succ]
  refine wpAnyH_take (i := 11) (oi := ⟨some 4, _, _, _, _, _⟩) (v := ?_) rfl (by kernel_rfl) (by kernel_rfl) (by kernel_rfl) (fun _ _ _ h => h) (Or.inl ⟨by rfl, ?_⟩) hHeld ?_
  rotate_left
  · intro w' hSw
    go_simp
    try with_reducible rfl
    try omega
  simp only [Act.put, List.setIfInBounds_toArray, List.set_cons_zero, List.set_cons_succ]
  refine wpAnyH_done (by kernel_rfl) ?_ _
  refine ‹∀ (a : Act) (w : World), Code.wp Try.prog Code.ret _ a w → _› _ _ ?_
  go_wp2_with fail
  go_ret
  exact ⟨by rw [hsec.out]; rfl, HB3.out⟩
theorem wal_ring_yes (dp : Nat) (D : Dev) (Sd : List Nat) (first n : Int) (h1 : 128 ≤ n) (h2 : n ≤ 4096) (h3 : 0 ≤ first) (h4 : first ≤ D.firm.length - n) (w : World) (h : DiskAt w dp D Sd) :
    Calls Try.prog 24 #[.pointer (some ⟨dp, 0, none⟩), .int .i64 first, .int .i64 n] w fun e w' => e = .returned (.bool true) ∧ w' = w := by
  have HS := Lib.hid (dsk_size dp D Sd w h)
  have hl := h.1.2.1
  have e1 : IntKind.i64.wrap ((D.firm.length : Int) - n) = (D.firm.length : Int) - n := by rw [IntKind.wrap_i64]; omega
  clear h
  go_enter Try.func24, Try.ntmps24
  go_wp2_with fail
  refine (HS.out).mono ?_
  rintro e w1 ⟨rfl, rfl⟩
  go_wp2_with fail
  go_ret
  exact ⟨rfl, rfl⟩
end Go.Proofs.Ytafiojmbaickpaa
