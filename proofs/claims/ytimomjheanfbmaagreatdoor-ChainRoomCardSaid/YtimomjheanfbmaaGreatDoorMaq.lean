import Derived.Test.YtimomjheanfbmaaGreatDoorMap
import Derived.Deep.RegionHeld3
set_option linter.unusedSimpArgs false
set_option linter.unusedVariables false
namespace Go.Proofs.YtimomjheanfbmaaGreatDoor
open Go.RowKit

/-- a sector of the stream: number k, holding s -/
def secS (k : Int) (s : ByteArray) : ByteArray := leS (k + 1) 8 ++ leS s.size 2 ++ s ++ zeros (54 - s.size)
theorem secS_size (k : Int) (s : ByteArray) (hs : s.size ≤ 54) : (secS k s).size = 64 := by
  unfold secS
  rw [ByteArray.size_append, ByteArray.size_append, ByteArray.size_append, leS_size, leS_size, zeros_size]
  omega
theorem Bytes_later {w w' : World} {g o : Nat} {s : ByteArray} (h : Lib.Bytes w g o s) (hg : g < w.heap.size) (hb : Below w.heap.size w w') : Lib.Bytes w' g o s := fun i hi => by
  have := h i hi
  rw [← this]
  simp [World.cell?, hb.block g hg]
set_option maxRecDepth 100000 in
set_option maxHeartbeats 800000 in
theorem wal_sector (k : Int) (hk : 0 ≤ k ∧ k ≤ 1152921504606846976) (g o dc : Nat) (s : ByteArray) (hs : s.size ≤ 54) (w : World) (hg : g < w.heap.size) (hB : Lib.Bytes w g o s) :
    Calls Tryz.prog 151 #[.int .i64 k, .slice (some ⟨g, o, none⟩) s.size dc] w fun e w' => e = .returned (.string (secS k s)) ∧ Below w.heap.size w w' := by
  have hu1 : IntKind.u64.wrap (k + 1) = k + 1 := wrap_u64_in _ (by omega) (by omega)
  have hu2 : IntKind.u64.wrap (s.size : Int) = s.size := wrap_u64_in _ (by omega) (by omega)
  have HN1 := Lib.hid (fun w2 => oct_num_ok (k + 1) 8 (by omega) (by omega) (by omega) (fun h => absurd h (by omega)) w2)
  have HN2 := Lib.hid (fun w2 => oct_num_ok (s.size : Int) 2 (by omega) (by omega) (by omega) (fun _ => by rw [show (2 : Int) ^ (8 * (2 : Int).toNat) = 65536 by decide]; omega) w2)
  have HZ := Lib.hid (fun w2 => str_zeros ⟨#[0]⟩ rfl (54 - s.size) (by omega) w2)
  have hz : ((54 - s.size : Nat) : Int) = 54 - (s.size : Int) := by omega
  rw [hz] at HZ
  have HC : Hid (∀ w', Lib.Bytes w' g o s → (convert 141 9 (.slice (some ⟨g, o, none⟩) s.size dc)).run Tryz.prog w' = .ok (.string s) w') := fun w' h =>
    Lib.run_convert_whole (P := Tryz.prog) w' 141 5 9 Tryz.underlying141 Tryz.underlying5 Tryz.underlying9 g o s h dc
  have hm1 : (leS (k + 1) 8).size = 8 := leS_size _ _
  have hm2 : (leS (s.size : Int) 2).size = 2 := leS_size _ _
  have hm3 := zeros_size (54 - s.size)
  have hsec : Hid (secS k s = leS (k + 1) 8 ++ leS s.size 2 ++ s ++ zeros (54 - s.size)) := rfl
  rw [show (8 : Int).toNat = 8 from rfl] at HN1
  rw [show (2 : Int).toNat = 2 from rfl] at HN2
  generalize zeros (54 - s.size) = Z at *
  generalize leS (k + 1) 8 = M1 at *
  generalize leS (s.size : Int) 2 = M2 at *
  have hB := Lib.hid hB
  have hw54 : IntKind.i64.wrap (54 - (s.size : Int)) = 54 - (s.size : Int) := by rw [IntKind.wrap_i64]; omega
  have hl1 : ¬ 9223372036854775807 < 10 + s.size := by omega
  have hl2 : ¬ 9223372036854775807 < 10 + s.size + Z.size := by omega
  go_enter Tryz.func151, Tryz.ntmps151
  go_wp2_with fail
  refine (HN1.out w).mono ?_
  rintro e w1 ⟨rfl, hb⟩
  have HB1 := Lib.hid hb
  clear hb HN1
  go_wp2_with fail
  refine (HN2.out w1).mono ?_
  rintro e w2 ⟨rfl, hb⟩
  have HB2 := Lib.hid (bT HB1.out hb)
  clear hb HN2 HB1
  go_wp2_with fail
  have hS0 : Lib.Bytes w2.drew g o s := Bytes_later hB.out hg (bD HB2.out)
  refine wp_region_held_drew (S := fun w' => Lib.Bytes w' g o s) (by kernel_rfl) hS0 (fun hHeld => ?_)
  clear hS0
  refine wpAnyH_take (i := 0) (oi := ⟨some 23, _, _, _, _, _⟩) (v := ?_) rfl (by kernel_rfl) (by kernel_rfl) (by kernel_rfl) (fun _ _ _ h => h) (Or.inl ⟨by rfl, ?_⟩) hHeld ?_
  rotate_left
  · intro w' hSw
    go_simp
    try with_reducible rfl
    try omega
  simp only [Act.put, List.setIfInBounds_toArray, List.set_cons_zero, List.set_cons_succ]
  refine wpAnyH_take (i := 1) (oi := ⟨some 24, _, _, _, _, _⟩) (v := ?_) rfl (by kernel_rfl) (by kernel_rfl) (by kernel_rfl) (fun _ _ _ h => h) (Or.inl ⟨by rfl, ?_⟩) hHeld ?_
  rotate_left
  · intro w' hSw
    go_simp
    try with_reducible rfl
    try omega
  simp only [Act.put, List.setIfInBounds_toArray, List.set_cons_zero, List.set_cons_succ]
  refine wpAnyH_take (i := 2) (oi := ⟨some 25, _, _, _, _, _⟩) (v := ?_) rfl (by kernel_rfl) (by kernel_rfl) (by kernel_rfl) (fun _ _ _ h => h) (Or.inl ⟨by rfl, ?_⟩) hHeld ?_
  rotate_left
  · intro w' hSw
    go_simp
    try with_reducible rfl
    try omega
  simp only [Act.put, List.setIfInBounds_toArray, List.set_cons_zero, List.set_cons_succ]
  refine wpAnyH_take (i := 3) (oi := ⟨some 26, _, _, _, _, _⟩) (v := ?_) rfl (by kernel_rfl) (by kernel_rfl) (by kernel_rfl) (fun _ _ _ h => h) (Or.inl ⟨by rfl, ?_⟩) hHeld ?_
  rotate_left
  · intro w' hSw
    go_simp
    try with_reducible rfl
    try omega
  simp only [Act.put, List.setIfInBounds_toArray, List.set_cons_zero, List.set_cons_succ]
  refine wpAnyH_take (i := 4) (oi := ⟨some 27, _, _, _, _, _⟩) (v := .string s) rfl (by kernel_rfl) (by kernel_rfl) (by kernel_rfl) (fun _ _ _ h => h) (Or.inl ⟨by rfl, ?_⟩) hHeld ?_
  · intro w' hSw
    have hcv := HC.out w' hSw
    go_simp
    try with_reducible rfl
    try omega
  simp only [Act.put, List.setIfInBounds_toArray, List.set_cons_zero, List.set_cons_succ]
  refine wpAnyH_take (i := 5) (oi := ⟨some 28, _, _, _, _, _⟩) (v := .string (M1 ++ M2 ++ s)) rfl (by kernel_rfl) (by kernel_rfl) (by kernel_rfl) (fun _ _ _ h => h) (Or.inl ⟨by rfl, ?_⟩) hHeld ?_
  · intro w' hSw
    go_simp
    try with_reducible rfl
    try omega
  simp only [Act.put, List.setIfInBounds_toArray, List.set_cons_zero, List.set_cons_succ]
  refine wpAnyH_take (i := 6) (oi := ⟨some 29, _, _, _, _, _⟩) (v := ?_) rfl (by kernel_rfl) (by kernel_rfl) (by kernel_rfl) (fun _ _ _ h => h) (Or.inl ⟨by rfl, ?_⟩) hHeld ?_
  rotate_left
  · intro w' hSw
    go_simp
    try with_reducible rfl
    try omega
  simp only [Act.put, List.setIfInBounds_toArray, List.set_cons_zero, List.set_cons_succ]
  refine wpAnyH_take (i := 7) (oi := ⟨some 30, _, _, _, _, _⟩) (v := ?_) rfl (by kernel_rfl) (by kernel_rfl) (by kernel_rfl) (fun _ _ _ h => h) (Or.inl ⟨by rfl, ?_⟩) hHeld ?_
  rotate_left
  · intro w' hSw
    go_simp
    try with_reducible rfl
    try omega
  simp only [Act.put, List.setIfInBounds_toArray, List.set_cons_zero, List.set_cons_succ]
  refine wpAnyH_take (i := 8) (oi := ⟨some 31, _, _, _, _, _⟩) (v := .int .i64 (54 - (s.size : Int))) rfl (by kernel_rfl) (by kernel_rfl) (by kernel_rfl) (fun _ _ _ h => h) (Or.inl ⟨by rfl, ?_⟩) hHeld ?_
  · intro w' hSw
    go_simp
    try with_reducible rfl
    try omega
  simp only [Act.put, List.setIfInBounds_toArray, List.set_cons_zero, List.set_cons_succ]
  refine wpAnyH_ready (rs := [9]) (by kernel_rfl) (by simp) ?_
  refine AllReadyH.cons (o := ⟨some 32, _, _, _, _, _⟩) rfl (fun K hK => ?_) AllReadyH.nil
  go_simp
  go_at_call 71
  refine (HZ.out _).mono ?_
  rintro e w3 ⟨rfl, hb⟩
  have HB3 := Lib.hid (bT (bD HB2.out) hb)
  clear hb HB2 HZ hHeld
  go_wp2_with fail
  refine hK.out _ _ (Bytes_later hB.out hg HB3.out) (fun hHeld => ?_)
  clear hK K
  try simp only [Act.put, List.setIfInBounds_toArray, List.set_cons_zero, List.set_cons_succ]
  refine wpAnyH_take (i := 10) (oi := ⟨some 33, _, _, _, _, _⟩) (v := .string (M1 ++ M2 ++ s ++ Z)) rfl (by kernel_rfl) (by kernel_rfl) (by kernel_rfl) (fun _ _ _ h => h) (Or.inl ⟨by rfl, ?_⟩) hHeld ?_
  · intro w' hSw
    go_simp
    try with_reducible rfl
    try omega
  simp only [Act.put, List.setIfInBounds_toArray, List.set_cons_zero, List.set_cons_succ]
  refine wpAnyH_take (i := 11) (oi := ⟨some 4, _, _, _, _, _⟩) (v := ?_) rfl (by kernel_rfl) (by kernel_rfl) (by kernel_rfl) (fun _ _ _ h => h) (Or.inl ⟨by rfl, ?_⟩) hHeld ?_
  rotate_left
  · intro w' hSw
    go_simp
    try with_reducible rfl
    try omega
  simp only [Act.put, List.setIfInBounds_toArray, List.set_cons_zero, List.set_cons_succ]
  refine wpAnyH_done (by kernel_rfl) ?_ _
  refine ‹∀ (a : Act) (w : World), Code.wp Tryz.prog Code.ret _ a w → _› _ _ ?_
  go_wp2_with fail
  go_ret
  exact ⟨by rw [hsec.out]; rfl, HB3.out⟩
theorem wal_ring_yes (dp : Nat) (D : Dev) (Sd : List Nat) (first n : Int) (h1 : 128 ≤ n) (h2 : n ≤ 4096) (h3 : 0 ≤ first) (h4 : first ≤ D.firm.length - n) (w : World) (h : DiskAt w dp D Sd) :
    Calls Tryz.prog 70 #[.pointer (some ⟨dp, 0, none⟩), .int .i64 first, .int .i64 n] w fun e w' => e = .returned (.bool true) ∧ w' = w := by
  have HS := Lib.hid (dsk_size dp D Sd w h)
  have hl := h.1.2.1
  have e1 : IntKind.i64.wrap ((D.firm.length : Int) - n) = (D.firm.length : Int) - n := by rw [IntKind.wrap_i64]; omega
  clear h
  go_enter Tryz.func70, Tryz.ntmps70
  go_wp2_with fail
  refine (HS.out).mono ?_
  rintro e w1 ⟨rfl, rfl⟩
  go_wp2_with fail
  go_ret
  exact ⟨rfl, rfl⟩
end Go.Proofs.YtimomjheanfbmaaGreatDoor

namespace Go.Proofs.YtimomjheanfbmaaGreatDoor
open Go.RowKit

def Lg.new (first n : Int) : Lg := { first := first, n := n, start := 54, fin := 54, firm := 54, base := 54, buf := ⟨#[]⟩, list := [] }
theorem Lg.new_ok (first n : Int) (h1 : 128 ≤ n) (h2 : n ≤ 4096) (h3 : 0 ≤ first) (h4 : first ≤ 16384) : LgOk (Lg.new first n) := by
  refine ⟨h1, h2, h3, h4, ?_, ?_, ?_, ?_, rfl, ?_, ?_, ?_, ?_, ?_⟩ <;> simp [Lg.new] <;> omega
theorem replicate_set_same {α : Type} (a : α) (n i : Nat) : (List.replicate n a).set i a = List.replicate n a := by
  apply List.ext_getElem?
  intro j
  rw [List.getElem?_set, List.getElem?_replicate]
  by_cases h : i = j
  · subst h; simp
  · simp [h]
/-- a device of blank sectors, some of them written blank anew -/
def Blank (D : Dev) (N i : Nat) : Prop := D.up ∧ D.firm = List.replicate N (zeros 64) ∧ D.seen = List.replicate N (zeros 64) ∧ D.soft.length = i
theorem Blank.write {D : Dev} {N i : Nat} (h : Blank D N i) (s : Int) (h0 : 0 ≤ s) (h1 : s < N) : ∃ D2, D.write s (zeros 64) = (D2, 0) ∧ Blank D2 N (i + 1) := by
  obtain ⟨hu, hf, hs, hl⟩ := h
  have hz := zeros_size 64
  rw [up_write hu, if_pos ⟨h0, by rw [hf, List.length_replicate]; exact h1, hz⟩]
  refine ⟨_, rfl, hu, hf, ?_, by simp [hl]⟩
  show D.seen.set _ _ = _
  rw [hs, replicate_set_same]
theorem Blank.barrier {D : Dev} {N i : Nat} (h : Blank D N i) : D.barrier = (Dev.new N, 0) := by
  obtain ⟨hu, hf, hs, hl⟩ := h
  rw [up_barrier hu]
  obtain ⟨f, so, se, fu, dn⟩ := D
  obtain ⟨h1, h2⟩ := hu
  simp only at hf hs hl h1 h2
  subst hf hs h1 h2
  rfl
set_option maxRecDepth 100000 in
set_option maxHeartbeats 1600000 in
theorem wal_create (dp N : Nat) (Sd : List Nat) (first n : Nat) (hNN : N ≤ 16384) (h1 : 128 ≤ n) (h2 : n ≤ 4096) (h3 : first + n ≤ N) (w : World) (h : DiskAt w dp (Dev.new N) Sd) :
    Calls Tryz.prog 21 #[.pointer (some ⟨dp, 0, none⟩), .int .i64 first, .int .i64 n] w fun e w' => ∃ p S Sd', e = .returned (.tuple #[.pointer (some ⟨p, 0, none⟩), .int .i64 0]) ∧ LogAt w' p dp (Lg.new first n) S ∧ DiskAt w' dp (Dev.new N) Sd' ∧ Keeps (· ∈ Sd) w w' ∧ (∀ k ∈ S, w.heap.size ≤ k ∧ k ∉ Sd') ∧ ∀ k ∈ Sd', k ∈ Sd ∨ w.heap.size ≤ k := by
  have HG := Lib.hid (wal_ring_yes dp (Dev.new N) Sd first n (by omega) (by omega) (by omega) (by show (first : Int) ≤ ((List.replicate N (zeros 64)).length : Int) - n; rw [List.length_replicate]; omega) w h)
  have HZ := Lib.hid (fun w2 => str_zeros ⟨#[0]⟩ rfl 64 (by omega) w2)
  have hlg := Lib.hid (Lg.new_ok first n (by omega) (by omega) (by omega) (by omega))
  have hz64 := zeros_size 64
  have HD := Lib.hid h
  generalize hZ : zeros 64 = Z at *
  clear h
  go_enter Tryz.func21, Tryz.ntmps21
  go_wp2_with fail
  refine (HG.out).mono ?_
  rintro e w1 ⟨rfl, rfl⟩
  go_wp2_with fail
  refine (HZ.out _).mono ?_
  rintro e w2 ⟨rfl, hb⟩
  have HD2 := Lib.hid (HD.out.later hb)
  have HK2 : Hid (Keeps (· ∈ Sd) w1 w2) := Keeps.of_below _ hb
  clear hb HZ HG HD
  go_wp2_with fail
  go_loopw [19] (fun s wr => ∃ (i : Nat) (D' : Dev) (S' : List Nat), i ≤ n ∧ s = .int .i64 i ∧ Hid (DiskAt wr dp D' S') ∧ Hid (Blank D' N i) ∧ Hid (Keeps (· ∈ Sd) w1 wr) ∧ Hid (∀ k ∈ S', k ∈ Sd ∨ w1.heap.size ≤ k)) (fun s _ => n - (intOf s).toNat)
  case atStart => exact ⟨0, _, _, by omega, rfl, HD2, ⟨up_new N, rfl, rfl, rfl⟩, HK2, fun k hk => .inl hk⟩
  case round =>
    clear HD2 HK2
    obtain ⟨i, D', S', hi, rfl, HD, HBl, HK, HS⟩ := hrel
    by_cases hin : i < n
    · have hi' : (i : Int) < n := by omega
      have wri : IntKind.i64.wrap ((i : Int) + 1) = (i : Int) + 1 := by rw [IntKind.wrap_i64]; omega
      have wrf : IntKind.i64.wrap ((first : Int) + i) = (first : Int) + i := by rw [IntKind.wrap_i64]; omega
      obtain ⟨D2, hw, hbl2⟩ := HBl.out.write ((first : Int) + i) (by omega) (by omega)
      rw [hZ] at hw
      have HW := Lib.hid (dsk_write dp ((first : Int) + i) Z (by rw [hz64]; unfold maxLen; omega) D' S' (by have := HBl.out.2.2.2; omega) wr HD.out)
      rw [hw] at HW
      replace hbl2 := Lib.hid hbl2
      replace hw := Lib.hid hw
      go_wp2_with fail
      refine (HW.out).mono ?_
      rintro e w3 ⟨rfl, S2, hd2, hk2, hs2⟩
      have HD3 := Lib.hid hd2
      have HK3 : Hid (Keeps (· ∈ Sd) w1 w3) := HK.out.trans hk2 (fun k hk h => (HS.out k h).resolve_right (by omega))
      have HS3 : Hid (∀ k ∈ S2, k ∈ Sd ∨ w1.heap.size ≤ k) := fun k hk => by
        rcases hs2 k hk with h | h
        · exact HS.out k h
        · have := HK.out.size; exact .inr (by omega)
      clear hd2 hk2 hs2 HW
      go_wp2_with fail
      go_roundw
      case rel => exact ⟨i + 1, D2, S2, by omega, rfl, HD3, hbl2, HK3, HS3⟩
      case measure => simp [intOf]; omega
    · obtain rfl : i = n := by omega
      have HW := Lib.hid (dsk_barrier dp D' S' wr HD.out)
      rw [HBl.out.barrier] at HW
      go_wp2_with fail
      refine (HW.out).mono ?_
      rintro e w3 ⟨rfl, S2, hd2, hk2, hs2⟩
      have HD3 := Lib.hid hd2
      have HK3 : Hid (Keeps (· ∈ Sd) w1 w3) := HK.out.trans hk2 (fun k hk h => (HS.out k h).resolve_right (by omega))
      have HS3 : Hid (∀ k ∈ S2, k ∈ Sd ∨ w1.heap.size ≤ k) := fun k hk => by
        rcases hs2 k hk with h | h
        · exact HS.out k h
        · have := HK.out.size; exact .inr (by omega)
      clear hd2 hk2 hs2 HW
      go_wp2_with fail
      go_ret2
      refine ⟨w3.heap.size, [w3.heap.size], S2, rfl, ⟨hlg.out, .slice none 0 0, .slice none 0 0, hN rfl, OwnS.nil _ _ _, OwnS.nil _ _ _, rfl, by simp⟩, HD3.out.later (bA bR), HK3.out.trans ((Keeps.refl (fun _ => False) w3).alloc _) (fun _ _ h => h.elim), fun k hk => ?_, HS3.out⟩
      have hk : k = w3.heap.size := by simpa using hk
      subst hk
      exact ⟨HK3.out.size, fun h => by have := HD3.out.lt _ h; omega⟩
end Go.Proofs.YtimomjheanfbmaaGreatDoor
