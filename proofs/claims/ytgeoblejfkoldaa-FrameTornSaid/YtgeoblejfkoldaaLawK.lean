import Derived.Test.YtgeoblejfkoldaaLawJ
set_option linter.unusedSimpArgs false
set_option linter.unusedVariables false
namespace Go.Proofs.Ytgeoblejfkoldaa
open Go.RowKit

theorem BytesAt.drew {w : World} {e : TypeId} {B : Nat} {l : List Int} (h : BytesAt w e B l) : BytesAt w.drew e B l := h
theorem xor_torn (S : ByteArray) (hS : S.size = 64) (b : Nat) :
    0 ≤ bits .xor .u8 ((byteL S)[56 + b / 8 % 8]?.getD 0) (2 ^ (b % 8) % 256) ∧ bits .xor .u8 ((byteL S)[56 + b / 8 % 8]?.getD 0) (2 ^ (b % 8) % 256) < 256 ∧
    bits .xor .u8 ((byteL S)[56 + b / 8 % 8]?.getD 0) (2 ^ (b % 8) % 256) ≠ (byteL S).getD (56 + b / 8 % 8) 0 := by
  have hl : 56 + b / 8 % 8 < S.data.toList.length := by
    rw [Array.length_toList]
    show 56 + b / 8 % 8 < S.size
    omega
  have e : (byteL S)[56 + b / 8 % 8]?.getD 0 = ((S.data.toList[56 + b / 8 % 8].toNat : Nat) : Int) := by
    unfold byteL
    rw [List.getElem?_map, List.getElem?_eq_getElem hl]; rfl
  have hm : (2 : Int) ^ (b % 8) % 256 = 2 ^ (b % 8) := by
    have : (2 : Int) ^ (b % 8) = ((2 ^ (b % 8) : Nat) : Int) := by rw [Int.natCast_pow]; rfl
    have h2 : 2 ^ (b % 8) ≤ 2 ^ 7 := Nat.pow_le_pow_right (by omega) (by omega)
    rw [this]; exact Int.emod_eq_of_lt (Int.natCast_nonneg _) (by omega)
  obtain ⟨h1, h2, h3⟩ := xor_moves S.data.toList[56 + b / 8 % 8].toNat (b % 8) (UInt8.toNat_lt _) (by omega) _ hm
  rw [List.getD_eq_getElem?_getD, e]
  exact ⟨h2, h3, h1⟩

set_option maxHeartbeats 3200000 in
theorem torn_pos (body : ByteArray) (stamp : Int) (place : Int) (h : body.size = 224) (h0 : 0 ≤ stamp) (hp0 : 0 ≤ place) (hp1 : place ≤ 9223372036854775807) (w : World) :
    Calls Try.prog 6 #[.string body, .int .u64 stamp, .int .i64 (place)] w fun e w' => e = .returned (.bool true) ∧ Below w.heap.size w w' := by
  have N1 := Lib.hid (frm_seal_ok body stamp h h0)
  have z0 := sec_size body stamp 0 h (by omega)
  have z1 := sec_size body stamp 1 h (by omega)
  have z2 := sec_size body stamp 2 h (by omega)
  have z3 := sec_size body stamp 3 h (by omega)
  obtain ⟨b, hb, hb64⟩ : ∃ b : Nat, place / 4 % 64 = b ∧ b < 64 := ⟨(place / 4 % 64).toNat, by omega, by omega⟩
  have hT0 := Lib.hid (xor_torn _ z0 b)
  have hT1 := Lib.hid (xor_torn _ z1 b)
  have hT2 := Lib.hid (xor_torn _ z2 b)
  have hT3 := Lib.hid (xor_torn _ z3 b)
  have hFT := Lib.hid (fun x h0 h1 => frOpen_torn body stamp h (b / 8 % 8) (by omega) x h0 h1)
  have hB0 : 0 ≤ (b : Int) := by omega
  have hB1 : (b : Int) < 64 := by omega
  have hr4 : place % 4 = 0 ∨ place % 4 = 1 ∨ place % 4 = 2 ∨ place % 4 = 3 := by omega
  clear h h0
  rcases hr4 with hr | hr | hr | hr
  · have hcv := fun w => run_bytes_of_string (P := Try.prog) w 9 39 5 (sec body stamp 0) Try.underlying9 Try.underlying39 Try.underlying5
    generalize sec body stamp 0 = S0 at *
    generalize sec body stamp 1 = S1 at *
    generalize sec body stamp 2 = S2 at *
    generalize sec body stamp 3 = S3 at *
    obtain ⟨x0, x1, x2⟩ := hT0.out
    have hfo := (hFT.out _ x0 x1).1 x2
    have HO := Lib.hid (frm_open (setB S0 (56 + b / 8 % 8) (bits .xor .u8 ((byteL S0)[56 + b / 8 % 8]?.getD 0) (2 ^ (b % 8) % 256))) S1 S2 S3 (by rw [setB_size, z0]; decide) (by rw [z1]; decide) (by rw [z2]; decide) (by rw [z3]; decide))
    rw [hfo] at HO
    clear hT0 hT1 hT2 hT3 hFT hfo x0 x1 x2
    go_enter Try.func6, Try.ntmps6
    go_wp2_with fail
    refine (awake03 _).mono ?_
    rintro e w1 ⟨rfl, hb1⟩
    go_wp2_with fail
    refine (N1.out _).mono ?_
    rintro e w2 ⟨rfl, hb2⟩
    have HB2 := Lib.hid (bT hb1 hb2)
    go_wp2_with fail
    have hcapge := grownCap_ge (w2.alloc (.cells #[.string S0, .string S1, .string S2, .string S3] 23)) 64 0 5
    have hbn := bytesAt_new (w2.alloc (.cells #[.string S0, .string S1, .string S2, .string S3] 23)) 5 S0 (grownCap (w2.alloc (.cells #[.string S0, .string S1, .string S2, .string S3] 23)) 64 0 5) (by omega)
    generalize grownCap (w2.alloc (.cells #[.string S0, .string S1, .string S2, .string S3] 23)) 64 0 5 = cap at *
    have hzz : (w2.alloc (.cells #[.string S0, .string S1, .string S2, .string S3] 23)).heap.size = w2.heap.size + 1 := by simp
    rw [hzz] at hbn
    refine name_world (fun W => W.heap[w2.heap.size]? = some (.cells #[.string S0, .string S1, .string S2, .string S3] 23 (0, 0)) ∧ BytesAt W 5 (w2.heap.size + 1) (byteL S0) ∧ Below w.heap.size w W) ⟨hDr (hO (hN rfl)), hbn, bD (bA (bA HB2.out))⟩ ?_
    rintro W ⟨hA, hB, hbW⟩
    have hl : (byteL S0).length = 64 := by rw [byteL_length]; omega
    have hcell := hB.cell (56 + b / 8 % 8) (by omega)
    have hfr := hB.free (56 + b / 8 % 8) (by omega)
    clear hb1 hb2 hbn hcapge hzz
    have a0 := cell_at hA 0
    have a1 := cell_at hA 1
    have a2 := cell_at hA 2
    have a3 := cell_at hA 3
    have g0 := free_at hA 0
    have g1 := free_at hA 1
    have g2 := free_at hA 2
    have g3 := free_at hA 3
    have HB := Lib.hid (hB.set (56 + b / 8 % 8) (bits .xor .u8 ((byteL S0)[56 + b / 8 % 8]?.getD 0) (2 ^ (b % 8) % 256)))
    have HW := Lib.hid hbW
    have hwz : w.heap.size ≤ w2.heap.size := HB2.out.size
    clear hA hB hbW
    go_region
    have hx : (convert 39 9 (.slice (some ⟨w2.heap.size + 1, 0, none⟩) 64 cap)).run Try.prog (W.setCell ⟨w2.heap.size + 1, 56 + b / 8 % 8, none⟩ (.int .u8 (bits .xor .u8 ((byteL S0)[56 + b / 8 % 8]?.getD 0) (2 ^ (b % 8) % 256)))).drew =
        .ok (.string (setB S0 (56 + b / 8 % 8) (bits .xor .u8 ((byteL S0)[56 + b / 8 % 8]?.getD 0) (2 ^ (b % 8) % 256)))) (W.setCell ⟨w2.heap.size + 1, 56 + b / 8 % 8, none⟩ (.int .u8 (bits .xor .u8 ((byteL S0)[56 + b / 8 % 8]?.getD 0) (2 ^ (b % 8) % 256)))).drew :=
      BytesAt.str (P := Try.prog) HB.out.drew 39 Try.underlying39 Try.underlying5 64 cap (by rw [List.length_set]; exact hl) 9 Try.underlying9
    go_wp2_with fail
    refine (HO.out _).mono ?_
    rintro e w5 ⟨rfl, hb5⟩
    go_wp2_with fail
    go_ret
    refine ⟨rfl, bT ?_ hb5⟩
    repeat (first | (with_reducible exact HW.out) | (with_reducible apply bD) | (with_reducible refine bS ?_ (by first | (show w.heap.size ≤ w2.heap.size + 1; omega) | (show w.heap.size ≤ w2.heap.size; omega))))
  · have hcv := fun w => run_bytes_of_string (P := Try.prog) w 9 39 5 (sec body stamp 1) Try.underlying9 Try.underlying39 Try.underlying5
    generalize sec body stamp 0 = S0 at *
    generalize sec body stamp 1 = S1 at *
    generalize sec body stamp 2 = S2 at *
    generalize sec body stamp 3 = S3 at *
    obtain ⟨x0, x1, x2⟩ := hT1.out
    have hfo := (hFT.out _ x0 x1).2.1 x2
    have HO := Lib.hid (frm_open S0 (setB S1 (56 + b / 8 % 8) (bits .xor .u8 ((byteL S1)[56 + b / 8 % 8]?.getD 0) (2 ^ (b % 8) % 256))) S2 S3 (by rw [z0]; decide) (by rw [setB_size, z1]; decide) (by rw [z2]; decide) (by rw [z3]; decide))
    rw [hfo] at HO
    clear hT0 hT1 hT2 hT3 hFT hfo x0 x1 x2
    go_enter Try.func6, Try.ntmps6
    go_wp2_with fail
    refine (awake03 _).mono ?_
    rintro e w1 ⟨rfl, hb1⟩
    go_wp2_with fail
    refine (N1.out _).mono ?_
    rintro e w2 ⟨rfl, hb2⟩
    have HB2 := Lib.hid (bT hb1 hb2)
    go_wp2_with fail
    have hcapge := grownCap_ge (w2.alloc (.cells #[.string S0, .string S1, .string S2, .string S3] 23)) 64 0 5
    have hbn := bytesAt_new (w2.alloc (.cells #[.string S0, .string S1, .string S2, .string S3] 23)) 5 S1 (grownCap (w2.alloc (.cells #[.string S0, .string S1, .string S2, .string S3] 23)) 64 0 5) (by omega)
    generalize grownCap (w2.alloc (.cells #[.string S0, .string S1, .string S2, .string S3] 23)) 64 0 5 = cap at *
    have hzz : (w2.alloc (.cells #[.string S0, .string S1, .string S2, .string S3] 23)).heap.size = w2.heap.size + 1 := by simp
    rw [hzz] at hbn
    refine name_world (fun W => W.heap[w2.heap.size]? = some (.cells #[.string S0, .string S1, .string S2, .string S3] 23 (0, 0)) ∧ BytesAt W 5 (w2.heap.size + 1) (byteL S1) ∧ Below w.heap.size w W) ⟨hDr (hO (hN rfl)), hbn, bD (bA (bA HB2.out))⟩ ?_
    rintro W ⟨hA, hB, hbW⟩
    have hl : (byteL S1).length = 64 := by rw [byteL_length]; omega
    have hcell := hB.cell (56 + b / 8 % 8) (by omega)
    have hfr := hB.free (56 + b / 8 % 8) (by omega)
    clear hb1 hb2 hbn hcapge hzz
    have a0 := cell_at hA 0
    have a1 := cell_at hA 1
    have a2 := cell_at hA 2
    have a3 := cell_at hA 3
    have g0 := free_at hA 0
    have g1 := free_at hA 1
    have g2 := free_at hA 2
    have g3 := free_at hA 3
    have HB := Lib.hid (hB.set (56 + b / 8 % 8) (bits .xor .u8 ((byteL S1)[56 + b / 8 % 8]?.getD 0) (2 ^ (b % 8) % 256)))
    have HW := Lib.hid hbW
    have hwz : w.heap.size ≤ w2.heap.size := HB2.out.size
    clear hA hB hbW
    go_region
    have hx : (convert 39 9 (.slice (some ⟨w2.heap.size + 1, 0, none⟩) 64 cap)).run Try.prog (W.setCell ⟨w2.heap.size + 1, 56 + b / 8 % 8, none⟩ (.int .u8 (bits .xor .u8 ((byteL S1)[56 + b / 8 % 8]?.getD 0) (2 ^ (b % 8) % 256)))).drew =
        .ok (.string (setB S1 (56 + b / 8 % 8) (bits .xor .u8 ((byteL S1)[56 + b / 8 % 8]?.getD 0) (2 ^ (b % 8) % 256)))) (W.setCell ⟨w2.heap.size + 1, 56 + b / 8 % 8, none⟩ (.int .u8 (bits .xor .u8 ((byteL S1)[56 + b / 8 % 8]?.getD 0) (2 ^ (b % 8) % 256)))).drew :=
      BytesAt.str (P := Try.prog) HB.out.drew 39 Try.underlying39 Try.underlying5 64 cap (by rw [List.length_set]; exact hl) 9 Try.underlying9
    go_wp2_with fail
    refine (HO.out _).mono ?_
    rintro e w5 ⟨rfl, hb5⟩
    go_wp2_with fail
    go_ret
    refine ⟨rfl, bT ?_ hb5⟩
    repeat (first | (with_reducible exact HW.out) | (with_reducible apply bD) | (with_reducible refine bS ?_ (by first | (show w.heap.size ≤ w2.heap.size + 1; omega) | (show w.heap.size ≤ w2.heap.size; omega))))
  · have hcv := fun w => run_bytes_of_string (P := Try.prog) w 9 39 5 (sec body stamp 2) Try.underlying9 Try.underlying39 Try.underlying5
    generalize sec body stamp 0 = S0 at *
    generalize sec body stamp 1 = S1 at *
    generalize sec body stamp 2 = S2 at *
    generalize sec body stamp 3 = S3 at *
    obtain ⟨x0, x1, x2⟩ := hT2.out
    have hfo := (hFT.out _ x0 x1).2.2.1 x2
    have HO := Lib.hid (frm_open S0 S1 (setB S2 (56 + b / 8 % 8) (bits .xor .u8 ((byteL S2)[56 + b / 8 % 8]?.getD 0) (2 ^ (b % 8) % 256))) S3 (by rw [z0]; decide) (by rw [z1]; decide) (by rw [setB_size, z2]; decide) (by rw [z3]; decide))
    rw [hfo] at HO
    clear hT0 hT1 hT2 hT3 hFT hfo x0 x1 x2
    go_enter Try.func6, Try.ntmps6
    go_wp2_with fail
    refine (awake03 _).mono ?_
    rintro e w1 ⟨rfl, hb1⟩
    go_wp2_with fail
    refine (N1.out _).mono ?_
    rintro e w2 ⟨rfl, hb2⟩
    have HB2 := Lib.hid (bT hb1 hb2)
    go_wp2_with fail
    have hcapge := grownCap_ge (w2.alloc (.cells #[.string S0, .string S1, .string S2, .string S3] 23)) 64 0 5
    have hbn := bytesAt_new (w2.alloc (.cells #[.string S0, .string S1, .string S2, .string S3] 23)) 5 S2 (grownCap (w2.alloc (.cells #[.string S0, .string S1, .string S2, .string S3] 23)) 64 0 5) (by omega)
    generalize grownCap (w2.alloc (.cells #[.string S0, .string S1, .string S2, .string S3] 23)) 64 0 5 = cap at *
    have hzz : (w2.alloc (.cells #[.string S0, .string S1, .string S2, .string S3] 23)).heap.size = w2.heap.size + 1 := by simp
    rw [hzz] at hbn
    refine name_world (fun W => W.heap[w2.heap.size]? = some (.cells #[.string S0, .string S1, .string S2, .string S3] 23 (0, 0)) ∧ BytesAt W 5 (w2.heap.size + 1) (byteL S2) ∧ Below w.heap.size w W) ⟨hDr (hO (hN rfl)), hbn, bD (bA (bA HB2.out))⟩ ?_
    rintro W ⟨hA, hB, hbW⟩
    have hl : (byteL S2).length = 64 := by rw [byteL_length]; omega
    have hcell := hB.cell (56 + b / 8 % 8) (by omega)
    have hfr := hB.free (56 + b / 8 % 8) (by omega)
    clear hb1 hb2 hbn hcapge hzz
    have a0 := cell_at hA 0
    have a1 := cell_at hA 1
    have a2 := cell_at hA 2
    have a3 := cell_at hA 3
    have g0 := free_at hA 0
    have g1 := free_at hA 1
    have g2 := free_at hA 2
    have g3 := free_at hA 3
    have HB := Lib.hid (hB.set (56 + b / 8 % 8) (bits .xor .u8 ((byteL S2)[56 + b / 8 % 8]?.getD 0) (2 ^ (b % 8) % 256)))
    have HW := Lib.hid hbW
    have hwz : w.heap.size ≤ w2.heap.size := HB2.out.size
    clear hA hB hbW
    go_region
    have hx : (convert 39 9 (.slice (some ⟨w2.heap.size + 1, 0, none⟩) 64 cap)).run Try.prog (W.setCell ⟨w2.heap.size + 1, 56 + b / 8 % 8, none⟩ (.int .u8 (bits .xor .u8 ((byteL S2)[56 + b / 8 % 8]?.getD 0) (2 ^ (b % 8) % 256)))).drew =
        .ok (.string (setB S2 (56 + b / 8 % 8) (bits .xor .u8 ((byteL S2)[56 + b / 8 % 8]?.getD 0) (2 ^ (b % 8) % 256)))) (W.setCell ⟨w2.heap.size + 1, 56 + b / 8 % 8, none⟩ (.int .u8 (bits .xor .u8 ((byteL S2)[56 + b / 8 % 8]?.getD 0) (2 ^ (b % 8) % 256)))).drew :=
      BytesAt.str (P := Try.prog) HB.out.drew 39 Try.underlying39 Try.underlying5 64 cap (by rw [List.length_set]; exact hl) 9 Try.underlying9
    go_wp2_with fail
    refine (HO.out _).mono ?_
    rintro e w5 ⟨rfl, hb5⟩
    go_wp2_with fail
    go_ret
    refine ⟨rfl, bT ?_ hb5⟩
    repeat (first | (with_reducible exact HW.out) | (with_reducible apply bD) | (with_reducible refine bS ?_ (by first | (show w.heap.size ≤ w2.heap.size + 1; omega) | (show w.heap.size ≤ w2.heap.size; omega))))
  · have hcv := fun w => run_bytes_of_string (P := Try.prog) w 9 39 5 (sec body stamp 3) Try.underlying9 Try.underlying39 Try.underlying5
    generalize sec body stamp 0 = S0 at *
    generalize sec body stamp 1 = S1 at *
    generalize sec body stamp 2 = S2 at *
    generalize sec body stamp 3 = S3 at *
    obtain ⟨x0, x1, x2⟩ := hT3.out
    have hfo := (hFT.out _ x0 x1).2.2.2 x2
    have HO := Lib.hid (frm_open S0 S1 S2 (setB S3 (56 + b / 8 % 8) (bits .xor .u8 ((byteL S3)[56 + b / 8 % 8]?.getD 0) (2 ^ (b % 8) % 256))) (by rw [z0]; decide) (by rw [z1]; decide) (by rw [z2]; decide) (by rw [setB_size, z3]; decide))
    rw [hfo] at HO
    clear hT0 hT1 hT2 hT3 hFT hfo x0 x1 x2
    go_enter Try.func6, Try.ntmps6
    go_wp2_with fail
    refine (awake03 _).mono ?_
    rintro e w1 ⟨rfl, hb1⟩
    go_wp2_with fail
    refine (N1.out _).mono ?_
    rintro e w2 ⟨rfl, hb2⟩
    have HB2 := Lib.hid (bT hb1 hb2)
    go_wp2_with fail
    have hcapge := grownCap_ge (w2.alloc (.cells #[.string S0, .string S1, .string S2, .string S3] 23)) 64 0 5
    have hbn := bytesAt_new (w2.alloc (.cells #[.string S0, .string S1, .string S2, .string S3] 23)) 5 S3 (grownCap (w2.alloc (.cells #[.string S0, .string S1, .string S2, .string S3] 23)) 64 0 5) (by omega)
    generalize grownCap (w2.alloc (.cells #[.string S0, .string S1, .string S2, .string S3] 23)) 64 0 5 = cap at *
    have hzz : (w2.alloc (.cells #[.string S0, .string S1, .string S2, .string S3] 23)).heap.size = w2.heap.size + 1 := by simp
    rw [hzz] at hbn
    refine name_world (fun W => W.heap[w2.heap.size]? = some (.cells #[.string S0, .string S1, .string S2, .string S3] 23 (0, 0)) ∧ BytesAt W 5 (w2.heap.size + 1) (byteL S3) ∧ Below w.heap.size w W) ⟨hDr (hO (hN rfl)), hbn, bD (bA (bA HB2.out))⟩ ?_
    rintro W ⟨hA, hB, hbW⟩
    have hl : (byteL S3).length = 64 := by rw [byteL_length]; omega
    have hcell := hB.cell (56 + b / 8 % 8) (by omega)
    have hfr := hB.free (56 + b / 8 % 8) (by omega)
    clear hb1 hb2 hbn hcapge hzz
    have a0 := cell_at hA 0
    have a1 := cell_at hA 1
    have a2 := cell_at hA 2
    have a3 := cell_at hA 3
    have g0 := free_at hA 0
    have g1 := free_at hA 1
    have g2 := free_at hA 2
    have g3 := free_at hA 3
    have HB := Lib.hid (hB.set (56 + b / 8 % 8) (bits .xor .u8 ((byteL S3)[56 + b / 8 % 8]?.getD 0) (2 ^ (b % 8) % 256)))
    have HW := Lib.hid hbW
    have hwz : w.heap.size ≤ w2.heap.size := HB2.out.size
    clear hA hB hbW
    go_region
    have hx : (convert 39 9 (.slice (some ⟨w2.heap.size + 1, 0, none⟩) 64 cap)).run Try.prog (W.setCell ⟨w2.heap.size + 1, 56 + b / 8 % 8, none⟩ (.int .u8 (bits .xor .u8 ((byteL S3)[56 + b / 8 % 8]?.getD 0) (2 ^ (b % 8) % 256)))).drew =
        .ok (.string (setB S3 (56 + b / 8 % 8) (bits .xor .u8 ((byteL S3)[56 + b / 8 % 8]?.getD 0) (2 ^ (b % 8) % 256)))) (W.setCell ⟨w2.heap.size + 1, 56 + b / 8 % 8, none⟩ (.int .u8 (bits .xor .u8 ((byteL S3)[56 + b / 8 % 8]?.getD 0) (2 ^ (b % 8) % 256)))).drew :=
      BytesAt.str (P := Try.prog) HB.out.drew 39 Try.underlying39 Try.underlying5 64 cap (by rw [List.length_set]; exact hl) 9 Try.underlying9
    go_wp2_with fail
    refine (HO.out _).mono ?_
    rintro e w5 ⟨rfl, hb5⟩
    go_wp2_with fail
    go_ret
    refine ⟨rfl, bT ?_ hb5⟩
    repeat (first | (with_reducible exact HW.out) | (with_reducible apply bD) | (with_reducible refine bS ?_ (by first | (show w.heap.size ≤ w2.heap.size + 1; omega) | (show w.heap.size ≤ w2.heap.size; omega))))
set_option maxHeartbeats 3200000 in
theorem torn_neg (body : ByteArray) (stamp : Int) (place : Int) (h : body.size = 224) (h0 : 0 ≤ stamp) (hp0 : 0 ≤ place) (hp1 : place ≤ 9223372036854775807) (w : World) :
    Calls Try.prog 6 #[.string body, .int .u64 stamp, .int .i64 (-1 - place)] w fun e w' => e = .returned (.bool true) ∧ Below w.heap.size w w' := by
  have N1 := Lib.hid (frm_seal_ok body stamp h h0)
  have z0 := sec_size body stamp 0 h (by omega)
  have z1 := sec_size body stamp 1 h (by omega)
  have z2 := sec_size body stamp 2 h (by omega)
  have z3 := sec_size body stamp 3 h (by omega)
  obtain ⟨b, hb, hb64⟩ : ∃ b : Nat, place / 4 % 64 = b ∧ b < 64 := ⟨(place / 4 % 64).toNat, by omega, by omega⟩
  have hT0 := Lib.hid (xor_torn _ z0 b)
  have hT1 := Lib.hid (xor_torn _ z1 b)
  have hT2 := Lib.hid (xor_torn _ z2 b)
  have hT3 := Lib.hid (xor_torn _ z3 b)
  have hFT := Lib.hid (fun x h0 h1 => frOpen_torn body stamp h (b / 8 % 8) (by omega) x h0 h1)
  have hB0 : 0 ≤ (b : Int) := by omega
  have hB1 : (b : Int) < 64 := by omega
  have hr4 : place % 4 = 0 ∨ place % 4 = 1 ∨ place % 4 = 2 ∨ place % 4 = 3 := by omega
  clear h h0
  have hn : -1 - (-1 - place) = place := by omega
  have hl0 : -1 - place < 0 := by omega
  rcases hr4 with hr | hr | hr | hr
  · have hcv := fun w => run_bytes_of_string (P := Try.prog) w 9 39 5 (sec body stamp 0) Try.underlying9 Try.underlying39 Try.underlying5
    generalize sec body stamp 0 = S0 at *
    generalize sec body stamp 1 = S1 at *
    generalize sec body stamp 2 = S2 at *
    generalize sec body stamp 3 = S3 at *
    obtain ⟨x0, x1, x2⟩ := hT0.out
    have hfo := (hFT.out _ x0 x1).1 x2
    have HO := Lib.hid (frm_open (setB S0 (56 + b / 8 % 8) (bits .xor .u8 ((byteL S0)[56 + b / 8 % 8]?.getD 0) (2 ^ (b % 8) % 256))) S1 S2 S3 (by rw [setB_size, z0]; decide) (by rw [z1]; decide) (by rw [z2]; decide) (by rw [z3]; decide))
    rw [hfo] at HO
    clear hT0 hT1 hT2 hT3 hFT hfo x0 x1 x2
    go_enter Try.func6, Try.ntmps6
    go_wp2_with fail
    refine (awake03 _).mono ?_
    rintro e w1 ⟨rfl, hb1⟩
    go_wp2_with fail
    refine (N1.out _).mono ?_
    rintro e w2 ⟨rfl, hb2⟩
    have HB2 := Lib.hid (bT hb1 hb2)
    go_wp2_with fail
    have hcapge := grownCap_ge (w2.alloc (.cells #[.string S0, .string S1, .string S2, .string S3] 23)) 64 0 5
    have hbn := bytesAt_new (w2.alloc (.cells #[.string S0, .string S1, .string S2, .string S3] 23)) 5 S0 (grownCap (w2.alloc (.cells #[.string S0, .string S1, .string S2, .string S3] 23)) 64 0 5) (by omega)
    generalize grownCap (w2.alloc (.cells #[.string S0, .string S1, .string S2, .string S3] 23)) 64 0 5 = cap at *
    have hzz : (w2.alloc (.cells #[.string S0, .string S1, .string S2, .string S3] 23)).heap.size = w2.heap.size + 1 := by simp
    rw [hzz] at hbn
    refine name_world (fun W => W.heap[w2.heap.size]? = some (.cells #[.string S0, .string S1, .string S2, .string S3] 23 (0, 0)) ∧ BytesAt W 5 (w2.heap.size + 1) (byteL S0) ∧ Below w.heap.size w W) ⟨hDr (hO (hN rfl)), hbn, bD (bA (bA HB2.out))⟩ ?_
    rintro W ⟨hA, hB, hbW⟩
    have hl : (byteL S0).length = 64 := by rw [byteL_length]; omega
    have hcell := hB.cell (56 + b / 8 % 8) (by omega)
    have hfr := hB.free (56 + b / 8 % 8) (by omega)
    clear hb1 hb2 hbn hcapge hzz
    have a0 := cell_at hA 0
    have a1 := cell_at hA 1
    have a2 := cell_at hA 2
    have a3 := cell_at hA 3
    have g0 := free_at hA 0
    have g1 := free_at hA 1
    have g2 := free_at hA 2
    have g3 := free_at hA 3
    have HB := Lib.hid (hB.set (56 + b / 8 % 8) (bits .xor .u8 ((byteL S0)[56 + b / 8 % 8]?.getD 0) (2 ^ (b % 8) % 256)))
    have HW := Lib.hid hbW
    have hwz : w.heap.size ≤ w2.heap.size := HB2.out.size
    clear hA hB hbW
    go_region
    have hx : (convert 39 9 (.slice (some ⟨w2.heap.size + 1, 0, none⟩) 64 cap)).run Try.prog (W.setCell ⟨w2.heap.size + 1, 56 + b / 8 % 8, none⟩ (.int .u8 (bits .xor .u8 ((byteL S0)[56 + b / 8 % 8]?.getD 0) (2 ^ (b % 8) % 256)))).drew =
        .ok (.string (setB S0 (56 + b / 8 % 8) (bits .xor .u8 ((byteL S0)[56 + b / 8 % 8]?.getD 0) (2 ^ (b % 8) % 256)))) (W.setCell ⟨w2.heap.size + 1, 56 + b / 8 % 8, none⟩ (.int .u8 (bits .xor .u8 ((byteL S0)[56 + b / 8 % 8]?.getD 0) (2 ^ (b % 8) % 256)))).drew :=
      BytesAt.str (P := Try.prog) HB.out.drew 39 Try.underlying39 Try.underlying5 64 cap (by rw [List.length_set]; exact hl) 9 Try.underlying9
    go_wp2_with fail
    refine (HO.out _).mono ?_
    rintro e w5 ⟨rfl, hb5⟩
    go_wp2_with fail
    go_ret
    refine ⟨rfl, bT ?_ hb5⟩
    repeat (first | (with_reducible exact HW.out) | (with_reducible apply bD) | (with_reducible refine bS ?_ (by first | (show w.heap.size ≤ w2.heap.size + 1; omega) | (show w.heap.size ≤ w2.heap.size; omega))))
  · have hcv := fun w => run_bytes_of_string (P := Try.prog) w 9 39 5 (sec body stamp 1) Try.underlying9 Try.underlying39 Try.underlying5
    generalize sec body stamp 0 = S0 at *
    generalize sec body stamp 1 = S1 at *
    generalize sec body stamp 2 = S2 at *
    generalize sec body stamp 3 = S3 at *
    obtain ⟨x0, x1, x2⟩ := hT1.out
    have hfo := (hFT.out _ x0 x1).2.1 x2
    have HO := Lib.hid (frm_open S0 (setB S1 (56 + b / 8 % 8) (bits .xor .u8 ((byteL S1)[56 + b / 8 % 8]?.getD 0) (2 ^ (b % 8) % 256))) S2 S3 (by rw [z0]; decide) (by rw [setB_size, z1]; decide) (by rw [z2]; decide) (by rw [z3]; decide))
    rw [hfo] at HO
    clear hT0 hT1 hT2 hT3 hFT hfo x0 x1 x2
    go_enter Try.func6, Try.ntmps6
    go_wp2_with fail
    refine (awake03 _).mono ?_
    rintro e w1 ⟨rfl, hb1⟩
    go_wp2_with fail
    refine (N1.out _).mono ?_
    rintro e w2 ⟨rfl, hb2⟩
    have HB2 := Lib.hid (bT hb1 hb2)
    go_wp2_with fail
    have hcapge := grownCap_ge (w2.alloc (.cells #[.string S0, .string S1, .string S2, .string S3] 23)) 64 0 5
    have hbn := bytesAt_new (w2.alloc (.cells #[.string S0, .string S1, .string S2, .string S3] 23)) 5 S1 (grownCap (w2.alloc (.cells #[.string S0, .string S1, .string S2, .string S3] 23)) 64 0 5) (by omega)
    generalize grownCap (w2.alloc (.cells #[.string S0, .string S1, .string S2, .string S3] 23)) 64 0 5 = cap at *
    have hzz : (w2.alloc (.cells #[.string S0, .string S1, .string S2, .string S3] 23)).heap.size = w2.heap.size + 1 := by simp
    rw [hzz] at hbn
    refine name_world (fun W => W.heap[w2.heap.size]? = some (.cells #[.string S0, .string S1, .string S2, .string S3] 23 (0, 0)) ∧ BytesAt W 5 (w2.heap.size + 1) (byteL S1) ∧ Below w.heap.size w W) ⟨hDr (hO (hN rfl)), hbn, bD (bA (bA HB2.out))⟩ ?_
    rintro W ⟨hA, hB, hbW⟩
    have hl : (byteL S1).length = 64 := by rw [byteL_length]; omega
    have hcell := hB.cell (56 + b / 8 % 8) (by omega)
    have hfr := hB.free (56 + b / 8 % 8) (by omega)
    clear hb1 hb2 hbn hcapge hzz
    have a0 := cell_at hA 0
    have a1 := cell_at hA 1
    have a2 := cell_at hA 2
    have a3 := cell_at hA 3
    have g0 := free_at hA 0
    have g1 := free_at hA 1
    have g2 := free_at hA 2
    have g3 := free_at hA 3
    have HB := Lib.hid (hB.set (56 + b / 8 % 8) (bits .xor .u8 ((byteL S1)[56 + b / 8 % 8]?.getD 0) (2 ^ (b % 8) % 256)))
    have HW := Lib.hid hbW
    have hwz : w.heap.size ≤ w2.heap.size := HB2.out.size
    clear hA hB hbW
    go_region
    have hx : (convert 39 9 (.slice (some ⟨w2.heap.size + 1, 0, none⟩) 64 cap)).run Try.prog (W.setCell ⟨w2.heap.size + 1, 56 + b / 8 % 8, none⟩ (.int .u8 (bits .xor .u8 ((byteL S1)[56 + b / 8 % 8]?.getD 0) (2 ^ (b % 8) % 256)))).drew =
        .ok (.string (setB S1 (56 + b / 8 % 8) (bits .xor .u8 ((byteL S1)[56 + b / 8 % 8]?.getD 0) (2 ^ (b % 8) % 256)))) (W.setCell ⟨w2.heap.size + 1, 56 + b / 8 % 8, none⟩ (.int .u8 (bits .xor .u8 ((byteL S1)[56 + b / 8 % 8]?.getD 0) (2 ^ (b % 8) % 256)))).drew :=
      BytesAt.str (P := Try.prog) HB.out.drew 39 Try.underlying39 Try.underlying5 64 cap (by rw [List.length_set]; exact hl) 9 Try.underlying9
    go_wp2_with fail
    refine (HO.out _).mono ?_
    rintro e w5 ⟨rfl, hb5⟩
    go_wp2_with fail
    go_ret
    refine ⟨rfl, bT ?_ hb5⟩
    repeat (first | (with_reducible exact HW.out) | (with_reducible apply bD) | (with_reducible refine bS ?_ (by first | (show w.heap.size ≤ w2.heap.size + 1; omega) | (show w.heap.size ≤ w2.heap.size; omega))))
  · have hcv := fun w => run_bytes_of_string (P := Try.prog) w 9 39 5 (sec body stamp 2) Try.underlying9 Try.underlying39 Try.underlying5
    generalize sec body stamp 0 = S0 at *
    generalize sec body stamp 1 = S1 at *
    generalize sec body stamp 2 = S2 at *
    generalize sec body stamp 3 = S3 at *
    obtain ⟨x0, x1, x2⟩ := hT2.out
    have hfo := (hFT.out _ x0 x1).2.2.1 x2
    have HO := Lib.hid (frm_open S0 S1 (setB S2 (56 + b / 8 % 8) (bits .xor .u8 ((byteL S2)[56 + b / 8 % 8]?.getD 0) (2 ^ (b % 8) % 256))) S3 (by rw [z0]; decide) (by rw [z1]; decide) (by rw [setB_size, z2]; decide) (by rw [z3]; decide))
    rw [hfo] at HO
    clear hT0 hT1 hT2 hT3 hFT hfo x0 x1 x2
    go_enter Try.func6, Try.ntmps6
    go_wp2_with fail
    refine (awake03 _).mono ?_
    rintro e w1 ⟨rfl, hb1⟩
    go_wp2_with fail
    refine (N1.out _).mono ?_
    rintro e w2 ⟨rfl, hb2⟩
    have HB2 := Lib.hid (bT hb1 hb2)
    go_wp2_with fail
    have hcapge := grownCap_ge (w2.alloc (.cells #[.string S0, .string S1, .string S2, .string S3] 23)) 64 0 5
    have hbn := bytesAt_new (w2.alloc (.cells #[.string S0, .string S1, .string S2, .string S3] 23)) 5 S2 (grownCap (w2.alloc (.cells #[.string S0, .string S1, .string S2, .string S3] 23)) 64 0 5) (by omega)
    generalize grownCap (w2.alloc (.cells #[.string S0, .string S1, .string S2, .string S3] 23)) 64 0 5 = cap at *
    have hzz : (w2.alloc (.cells #[.string S0, .string S1, .string S2, .string S3] 23)).heap.size = w2.heap.size + 1 := by simp
    rw [hzz] at hbn
    refine name_world (fun W => W.heap[w2.heap.size]? = some (.cells #[.string S0, .string S1, .string S2, .string S3] 23 (0, 0)) ∧ BytesAt W 5 (w2.heap.size + 1) (byteL S2) ∧ Below w.heap.size w W) ⟨hDr (hO (hN rfl)), hbn, bD (bA (bA HB2.out))⟩ ?_
    rintro W ⟨hA, hB, hbW⟩
    have hl : (byteL S2).length = 64 := by rw [byteL_length]; omega
    have hcell := hB.cell (56 + b / 8 % 8) (by omega)
    have hfr := hB.free (56 + b / 8 % 8) (by omega)
    clear hb1 hb2 hbn hcapge hzz
    have a0 := cell_at hA 0
    have a1 := cell_at hA 1
    have a2 := cell_at hA 2
    have a3 := cell_at hA 3
    have g0 := free_at hA 0
    have g1 := free_at hA 1
    have g2 := free_at hA 2
    have g3 := free_at hA 3
    have HB := Lib.hid (hB.set (56 + b / 8 % 8) (bits .xor .u8 ((byteL S2)[56 + b / 8 % 8]?.getD 0) (2 ^ (b % 8) % 256)))
    have HW := Lib.hid hbW
    have hwz : w.heap.size ≤ w2.heap.size := HB2.out.size
    clear hA hB hbW
    go_region
    have hx : (convert 39 9 (.slice (some ⟨w2.heap.size + 1, 0, none⟩) 64 cap)).run Try.prog (W.setCell ⟨w2.heap.size + 1, 56 + b / 8 % 8, none⟩ (.int .u8 (bits .xor .u8 ((byteL S2)[56 + b / 8 % 8]?.getD 0) (2 ^ (b % 8) % 256)))).drew =
        .ok (.string (setB S2 (56 + b / 8 % 8) (bits .xor .u8 ((byteL S2)[56 + b / 8 % 8]?.getD 0) (2 ^ (b % 8) % 256)))) (W.setCell ⟨w2.heap.size + 1, 56 + b / 8 % 8, none⟩ (.int .u8 (bits .xor .u8 ((byteL S2)[56 + b / 8 % 8]?.getD 0) (2 ^ (b % 8) % 256)))).drew :=
      BytesAt.str (P := Try.prog) HB.out.drew 39 Try.underlying39 Try.underlying5 64 cap (by rw [List.length_set]; exact hl) 9 Try.underlying9
    go_wp2_with fail
    refine (HO.out _).mono ?_
    rintro e w5 ⟨rfl, hb5⟩
    go_wp2_with fail
    go_ret
    refine ⟨rfl, bT ?_ hb5⟩
    repeat (first | (with_reducible exact HW.out) | (with_reducible apply bD) | (with_reducible refine bS ?_ (by first | (show w.heap.size ≤ w2.heap.size + 1; omega) | (show w.heap.size ≤ w2.heap.size; omega))))
  · have hcv := fun w => run_bytes_of_string (P := Try.prog) w 9 39 5 (sec body stamp 3) Try.underlying9 Try.underlying39 Try.underlying5
    generalize sec body stamp 0 = S0 at *
    generalize sec body stamp 1 = S1 at *
    generalize sec body stamp 2 = S2 at *
    generalize sec body stamp 3 = S3 at *
    obtain ⟨x0, x1, x2⟩ := hT3.out
    have hfo := (hFT.out _ x0 x1).2.2.2 x2
    have HO := Lib.hid (frm_open S0 S1 S2 (setB S3 (56 + b / 8 % 8) (bits .xor .u8 ((byteL S3)[56 + b / 8 % 8]?.getD 0) (2 ^ (b % 8) % 256))) (by rw [z0]; decide) (by rw [z1]; decide) (by rw [z2]; decide) (by rw [setB_size, z3]; decide))
    rw [hfo] at HO
    clear hT0 hT1 hT2 hT3 hFT hfo x0 x1 x2
    go_enter Try.func6, Try.ntmps6
    go_wp2_with fail
    refine (awake03 _).mono ?_
    rintro e w1 ⟨rfl, hb1⟩
    go_wp2_with fail
    refine (N1.out _).mono ?_
    rintro e w2 ⟨rfl, hb2⟩
    have HB2 := Lib.hid (bT hb1 hb2)
    go_wp2_with fail
    have hcapge := grownCap_ge (w2.alloc (.cells #[.string S0, .string S1, .string S2, .string S3] 23)) 64 0 5
    have hbn := bytesAt_new (w2.alloc (.cells #[.string S0, .string S1, .string S2, .string S3] 23)) 5 S3 (grownCap (w2.alloc (.cells #[.string S0, .string S1, .string S2, .string S3] 23)) 64 0 5) (by omega)
    generalize grownCap (w2.alloc (.cells #[.string S0, .string S1, .string S2, .string S3] 23)) 64 0 5 = cap at *
    have hzz : (w2.alloc (.cells #[.string S0, .string S1, .string S2, .string S3] 23)).heap.size = w2.heap.size + 1 := by simp
    rw [hzz] at hbn
    refine name_world (fun W => W.heap[w2.heap.size]? = some (.cells #[.string S0, .string S1, .string S2, .string S3] 23 (0, 0)) ∧ BytesAt W 5 (w2.heap.size + 1) (byteL S3) ∧ Below w.heap.size w W) ⟨hDr (hO (hN rfl)), hbn, bD (bA (bA HB2.out))⟩ ?_
    rintro W ⟨hA, hB, hbW⟩
    have hl : (byteL S3).length = 64 := by rw [byteL_length]; omega
    have hcell := hB.cell (56 + b / 8 % 8) (by omega)
    have hfr := hB.free (56 + b / 8 % 8) (by omega)
    clear hb1 hb2 hbn hcapge hzz
    have a0 := cell_at hA 0
    have a1 := cell_at hA 1
    have a2 := cell_at hA 2
    have a3 := cell_at hA 3
    have g0 := free_at hA 0
    have g1 := free_at hA 1
    have g2 := free_at hA 2
    have g3 := free_at hA 3
    have HB := Lib.hid (hB.set (56 + b / 8 % 8) (bits .xor .u8 ((byteL S3)[56 + b / 8 % 8]?.getD 0) (2 ^ (b % 8) % 256)))
    have HW := Lib.hid hbW
    have hwz : w.heap.size ≤ w2.heap.size := HB2.out.size
    clear hA hB hbW
    go_region
    have hx : (convert 39 9 (.slice (some ⟨w2.heap.size + 1, 0, none⟩) 64 cap)).run Try.prog (W.setCell ⟨w2.heap.size + 1, 56 + b / 8 % 8, none⟩ (.int .u8 (bits .xor .u8 ((byteL S3)[56 + b / 8 % 8]?.getD 0) (2 ^ (b % 8) % 256)))).drew =
        .ok (.string (setB S3 (56 + b / 8 % 8) (bits .xor .u8 ((byteL S3)[56 + b / 8 % 8]?.getD 0) (2 ^ (b % 8) % 256)))) (W.setCell ⟨w2.heap.size + 1, 56 + b / 8 % 8, none⟩ (.int .u8 (bits .xor .u8 ((byteL S3)[56 + b / 8 % 8]?.getD 0) (2 ^ (b % 8) % 256)))).drew :=
      BytesAt.str (P := Try.prog) HB.out.drew 39 Try.underlying39 Try.underlying5 64 cap (by rw [List.length_set]; exact hl) 9 Try.underlying9
    go_wp2_with fail
    refine (HO.out _).mono ?_
    rintro e w5 ⟨rfl, hb5⟩
    go_wp2_with fail
    go_ret
    refine ⟨rfl, bT ?_ hb5⟩
    repeat (first | (with_reducible exact HW.out) | (with_reducible apply bD) | (with_reducible refine bS ?_ (by first | (show w.heap.size ≤ w2.heap.size + 1; omega) | (show w.heap.size ≤ w2.heap.size; omega))))
set_option maxHeartbeats 800000 in
theorem torn_bad (body : ByteArray) (stamp place : Int) (h : body.size ≠ 224) (hs : body.size ≤ maxLen) (hp0 : -9223372036854775808 ≤ place) (hp1 : place ≤ 9223372036854775807) (w : World) :
    Calls Try.prog 6 #[.string body, .int .u64 stamp, .int .i64 place] w fun e w' => e = .returned (.bool true) ∧ Below w.heap.size w w' := by
  have N1 := Lib.hid (frm_seal_bad body stamp h hs)
  have h1 : ((body.size : Int) != 224) = true := by simp; omega
  unfold maxLen at hs
  clear h
  by_cases hp : place < 0
  all_goals
    go_enter Try.func6, Try.ntmps6
    go_wp2_with fail
    refine (awake03 _).mono ?_
    rintro e w1 ⟨rfl, hb1⟩
    go_wp2_with fail
    refine (N1.out _).mono ?_
    rintro e w2 ⟨rfl, hb2⟩
    have HB2 := Lib.hid (bT hb1 hb2)
    go_wp2_with fail
    go_ret
    exact ⟨rfl, bA HB2.out⟩
theorem frameTorn_walk (body : ByteArray) (stamp place : Int) (hs : body.size ≤ maxLen) (h0 : 0 ≤ stamp ∧ stamp ≤ 18446744073709551615) (hp : -9223372036854775808 ≤ place ∧ place ≤ 9223372036854775807) (w : World) :
    Calls Try.prog 6 #[.string body, .int .u64 stamp, .int .i64 place] w fun e w' => e = .returned (.bool true) ∧ Below w.heap.size w w' := by
  by_cases h : body.size = 224
  · by_cases hn : place < 0
    · have := torn_neg body stamp (-1 - place) h h0.1 (by omega) (by omega) w
      rw [show -1 - (-1 - place) = place from by omega] at this
      exact this
    · exact torn_pos body stamp place h h0.1 (by omega) hp.2 w
  · exact torn_bad body stamp place h hs hp.1 hp.2 w
end Go.Proofs.Ytgeoblejfkoldaa

