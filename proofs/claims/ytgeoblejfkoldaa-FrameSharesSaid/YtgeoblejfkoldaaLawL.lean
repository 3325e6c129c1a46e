import Derived.Test.YtgeoblejfkoldaaLawJ
import Derived.BigQuiet
set_option linter.unusedSimpArgs false
set_option linter.unusedVariables false
namespace Go.Proofs.Ytgeoblejfkoldaa
open Go.RowKit

theorem sec_list (b : ByteArray) (st : Int) (i : Nat) : (sec b st i).toList = (b.data.toList.drop (56 * i)).take 56 ++ (leS st 8).data.toList := by
  unfold sec
  rw [ByteArray.toList_eq]
  simp
theorem sec_set (b : ByteArray) (st : Int) (h : b.size = 224) (a : Nat) (ha : a < 224) (x : Int) (hx0 : 0 ≤ x) (hx1 : x < 256) (hne : x ≠ (byteL b).getD a 0) (i : Nat) (hi : i < 4) :
    ((sec b st i).toList == (sec (setB b a x) st i).toList) = decide (i ≠ a / 56) := by
  have hl : b.data.toList.length = 224 := by rw [Array.length_toList]; exact h
  rw [sec_list, sec_list, setB_list]
  by_cases hc : i = a / 56
  · have : ((b.data.toList.drop (56 * i)).take 56 ++ (leS st 8).data.toList) ≠ (((b.data.toList.set a (UInt8.ofNat x.toNat)).drop (56 * i)).take 56 ++ (leS st 8).data.toList) := by
      intro he
      have h2 := (List.append_cancel_right he)
      have h3 := congrArg (fun l => l[a - 56 * i]?) h2
      have e1 : a - 56 * i < 56 := by omega
      have e2 : 56 * i + (a - 56 * i) = a := by omega
      simp only [List.getElem?_take, List.getElem?_drop, e1, if_true, e2, List.getElem?_set, hl, ha] at h3
      rw [List.getElem?_eq_getElem (by omega)] at h3
      have h4 := congrArg UInt8.toNat (Option.some.inj h3)
      rw [UInt8.toNat_ofNat'] at h4
      apply hne
      unfold byteL
      rw [List.getD_eq_getElem?_getD, List.getElem?_map, List.getElem?_eq_getElem (by omega)]
      simp only [Option.map_some, Option.getD_some]
      omega
    have h1 : decide (i ≠ a / 56) = false := by simp [hc]
    rw [h1]
    exact beq_eq_false_iff_ne.2 this
  · have : (((b.data.toList.set a (UInt8.ofNat x.toNat)).drop (56 * i)).take 56) = ((b.data.toList.drop (56 * i)).take 56) := by
      apply List.ext_getElem?
      intro j
      simp only [List.getElem?_take, List.getElem?_drop, List.getElem?_set]
      split
      · rw [if_neg (by omega)]
      · rfl
    rw [this]
    simp [hc]
theorem xor255 (b : ByteArray) (a : Nat) (ha : a < b.size) :
    0 ≤ bits .xor .u8 ((byteL b)[a]?.getD 0) 255 ∧ bits .xor .u8 ((byteL b)[a]?.getD 0) 255 < 256 ∧ bits .xor .u8 ((byteL b)[a]?.getD 0) 255 ≠ (byteL b).getD a 0 := by
  have hl : a < b.data.toList.length := by rw [Array.length_toList]; exact ha
  have e : (byteL b)[a]?.getD 0 = ((b.data.toList[a].toNat : Nat) : Int) := by
    unfold byteL
    rw [List.getElem?_map, List.getElem?_eq_getElem hl]; rfl
  have key : ∀ c : Fin 256, 0 ≤ bits .xor .u8 ((c.val : Nat) : Int) 255 ∧ bits .xor .u8 ((c.val : Nat) : Int) 255 < 256 ∧ bits .xor .u8 ((c.val : Nat) : Int) 255 ≠ ((c.val : Nat) : Int) := by decide +kernel
  rw [List.getD_eq_getElem?_getD, e]
  exact key ⟨b.data.toList[a].toNat, UInt8.toNat_lt _⟩
theorem at_pos (x : Int) : ∃ a : Nat, (wrap64 (x.tmod 224 + 224)).tmod 224 = (a : Int) ∧ a < 224 := by
  have h1 : -224 < x.tmod 224 ∧ x.tmod 224 < 224 := by
    constructor
    · exact Int.lt_tmod_of_pos x (by omega)
    · exact Int.tmod_lt_of_pos x (by omega)
  have h2 : wrap64 (x.tmod 224 + 224) = x.tmod 224 + 224 := by unfold wrap64; omega
  rw [h2, Int.tmod_eq_emod_of_nonneg (by omega)]
  exact ⟨((x.tmod 224 + 224) % 224).toNat, by omega, by omega⟩
set_option maxHeartbeats 1600000 in
theorem shares_walk0 (body : ByteArray) (stamp : Int) (at_ : Int) (h : body.size = 224) (h0 : 0 ≤ stamp) (hp0 : -9223372036854775808 ≤ at_) (hp1 : at_ ≤ 9223372036854775807) (w : World) :
    Calls Try.prog 5 #[.string body, .int .u64 stamp, .int .i64 at_] w fun e w' => e = .returned (.bool true) ∧ Below w.heap.size w w' := by
  have N1 := Lib.hid (frm_seal_ok body stamp h h0)
  obtain ⟨a, hA, ha⟩ := at_pos at_
  obtain ⟨u, hu, x0, x1, x2⟩ : ∃ u, (byteL body).getD a 0 = u ∧ 0 ≤ bits .xor .u8 u 255 ∧ bits .xor .u8 u 255 < 256 ∧ bits .xor .u8 u 255 ≠ (byteL body).getD a 0 :=
    ⟨_, rfl, xor255 body a (by omega)⟩
  have hx : Hid (∀ i, i < 4 → ((sec body stamp i).toList == (sec (setB body a (bits .xor .u8 u 255)) stamp i).toList) = decide (i ≠ a / 56)) := fun i hi => sec_set body stamp h a ha _ x0 x1 x2 i hi
  have N2 := Lib.hid (frm_seal_ok (setB body a (bits .xor .u8 u 255)) stamp (by rw [setB_size]; exact h) h0)
  have hcv := Lib.hid <| fun w => run_bytes_of_string (P := Try.prog) w 9 39 5 body Try.underlying9 Try.underlying39 Try.underlying5
  have hd0 : hd (sec body stamp 0) = body.extract 0 56 := sec_hd body stamp 0 h (by omega)
  have hd1 : hd (sec body stamp 1) = body.extract 56 112 := sec_hd body stamp 1 h (by omega)
  have hd2 : hd (sec body stamp 2) = body.extract 112 168 := sec_hd body stamp 2 h (by omega)
  have hd3 : hd (sec body stamp 3) = body.extract 168 224 := sec_hd body stamp 3 h (by omega)
  unfold hd at hd0 hd1 hd2 hd3
  have z0 := sec_size body stamp 0 h (by omega)
  have z1 := sec_size body stamp 1 h (by omega)
  have z2 := sec_size body stamp 2 h (by omega)
  have z3 := sec_size body stamp 3 h (by omega)
  have e0 := hx.out 0 (by omega)
  have e1 := hx.out 1 (by omega)
  have e2 := hx.out 2 (by omega)
  have e3 := hx.out 3 (by omega)
  generalize sec body stamp 0 = S0 at *
  generalize sec body stamp 1 = S1 at *
  generalize sec body stamp 2 = S2 at *
  generalize sec body stamp 3 = S3 at *
  generalize sec (setB body a (bits .xor .u8 u 255)) stamp 0 = T0 at *
  generalize sec (setB body a (bits .xor .u8 u 255)) stamp 1 = T1 at *
  generalize sec (setB body a (bits .xor .u8 u 255)) stamp 2 = T2 at *
  generalize sec (setB body a (bits .xor .u8 u 255)) stamp 3 = T3 at *
  have hq : a / 56 = 0 ∨ a / 56 = 1 ∨ a / 56 = 2 ∨ a / 56 = 3 := by omega
  have E := Lib.hid (And.intro e0 (And.intro e1 (And.intro e2 e3)))
  have D := Lib.hid (And.intro hd0 (And.intro hd1 (And.intro hd2 hd3)))
  clear hx x0 x1 x2 e0 e1 e2 e3 hd0 hd1 hd2 hd3 h0 hp0 hp1
  have hq := Lib.hid hq
  go_enter Try.func5, Try.ntmps5
  go_wp2_with fail
  refine (awake03 _).mono ?_
  rintro e w1 ⟨rfl, hb1⟩
  go_wp2_with fail
  refine (N1.out _).mono ?_
  rintro e w2 ⟨rfl, hb2⟩
  have HB2 := Lib.hid (bT hb1 hb2)
  obtain ⟨W, cap, hc, hA', hB', hbW⟩ : ∃ W cap, (convert 9 39 (.string body)).run Try.prog (w2.alloc (.cells #[.string S0, .string S1, .string S2, .string S3] 23)) = .ok (.slice (some ⟨w2.heap.size + 1, 0, none⟩) 224 cap) W ∧
      W.heap[w2.heap.size]? = some (.cells #[.string S0, .string S1, .string S2, .string S3] 23 (0, 0)) ∧ BytesAt W 5 (w2.heap.size + 1) (byteL body) ∧ Below w.heap.size w W := by
    have hcapge := grownCap_ge (w2.alloc (.cells #[.string S0, .string S1, .string S2, .string S3] 23)) 224 0 5
    have hbn := bytesAt_new (w2.alloc (.cells #[.string S0, .string S1, .string S2, .string S3] 23)) 5 body (grownCap (w2.alloc (.cells #[.string S0, .string S1, .string S2, .string S3] 23)) 224 0 5) (by omega)
    have hzz : (w2.alloc (.cells #[.string S0, .string S1, .string S2, .string S3] 23)).heap.size = w2.heap.size + 1 := by simp
    have hc := hcv.out (w2.alloc (.cells #[.string S0, .string S1, .string S2, .string S3] 23))
    rw [h, hzz] at hc
    rw [hzz] at hbn
    exact ⟨_, _, hc, hDr (hO (hN rfl)), hbn, bD (bA (bA HB2.out))⟩
  have hl : (byteL body).length = 224 := by rw [byteL_length]; omega
  have hcell := hB'.cell a (by omega)
  rw [hu] at hcell
  have hu := Lib.hid hu
  have hfr := hB'.free a (by omega)
  have HB' := Lib.hid (hB'.set a (bits .xor .u8 u 255))
  have HA := Lib.hid hA'
  have HW := Lib.hid hbW
  have hwz : w.heap.size ≤ w2.heap.size := HB2.out.size
  clear hb1 hb2 hA' hB' hbW
  have hx : (convert 39 9 (.slice (some ⟨w2.heap.size + 1, 0, none⟩) 224 cap)).run Try.prog (W.setCell ⟨w2.heap.size + 1, a, none⟩ (.int .u8 (bits .xor .u8 u 255))) =
        .ok (.string (setB body a (bits .xor .u8 u 255))) (W.setCell ⟨w2.heap.size + 1, a, none⟩ (.int .u8 (bits .xor .u8 u 255))) :=
    BytesAt.str (P := Try.prog) HB'.out 39 Try.underlying39 Try.underlying5 224 cap (by rw [List.length_set]; exact hl) 9 Try.underlying9
  go_wp2_with fail
  refine (N2.out _).mono ?_
  rintro e w5 ⟨rfl, hb5⟩
  have hA5 := hBs hb5 (hSO (p := ⟨w2.heap.size + 1, a, none⟩) (u := .int .u8 (bits .xor .u8 u 255)) HA.out (by simp))
  have HB5 := Lib.hid (bT (bS HW.out (p := ⟨w2.heap.size + 1, a, none⟩) (u := .int .u8 (bits .xor .u8 u 255)) (by show w.heap.size ≤ w2.heap.size + 1; omega)) hb5)
  have a0 := cell_at (hO hA5 (o := .cells #[.string T0, .string T1, .string T2, .string T3] 23 (0, 0))) 0
  have a1 := cell_at (hO hA5 (o := .cells #[.string T0, .string T1, .string T2, .string T3] 23 (0, 0))) 1
  have a2 := cell_at (hO hA5 (o := .cells #[.string T0, .string T1, .string T2, .string T3] 23 (0, 0))) 2
  have a3 := cell_at (hO hA5 (o := .cells #[.string T0, .string T1, .string T2, .string T3] 23 (0, 0))) 3
  have hlt := block_lt hA5
  clear hb5 hA5
  obtain ⟨d0, d1, d2, d3⟩ := D.out
  have hq1 : (a : Int) / 56 = 0 ∨ (a : Int) / 56 = 1 ∨ (a : Int) / 56 = 2 ∨ (a : Int) / 56 = 3 := by have := hq.out; omega
  obtain ⟨e0, e1, e2, e3⟩ := E.out
  rcases hq.out with hq' | hq' | hq' | hq'
  all_goals
    rw [hq'] at e0 e1 e2 e3
    have n0 := congrArg Bool.not e0
    have n1 := congrArg Bool.not e1
    have n2 := congrArg Bool.not e2
    have n3 := congrArg Bool.not e3
    simp only [show ∀ x y : List UInt8, (!(x == y)) = (x != y) from fun _ _ => rfl] at n0 n1 n2 n3
    simp only [Nat.reduceEqDiff, ne_eq, not_true, not_false_eq_true, decide_true, decide_false, Bool.not_true, Bool.not_false, show (0 = 1) = False from by decide, show (0 = 2) = False from by decide, show (0 = 3) = False from by decide] at e0 e1 e2 e3 n0 n1 n2 n3
  · have hq2 : (a : Int) / 56 = 0 := by omega
    go_wp2_with fail
    refine wp_loop_rounds 5 ?_
    rw [rounds_succ]
    go_wp2_with fail
    go_quiet (fail)
    go_wp2_with fail
    rw [rounds_succ]
    go_wp2_with fail
    go_quiet (fail)
    go_wp2_with fail
    rw [rounds_succ]
    go_wp2_with fail
    go_quiet (fail)
    go_wp2_with fail
    rw [rounds_succ]
    go_wp2_with fail
    go_quiet (fail)
    go_wp2_with fail
    rw [rounds_succ]
    go_wp2_with fail
    go_ret
    exact ⟨rfl, bDN (bA HB5.out) _⟩
  · have hq2 : (a : Int) / 56 = 1 := by omega
    go_wp2_with fail
    refine wp_loop_rounds 5 ?_
    rw [rounds_succ]
    go_wp2_with fail
    go_quiet (fail)
    go_wp2_with fail
    rw [rounds_succ]
    go_wp2_with fail
    go_quiet (fail)
    go_wp2_with fail
    rw [rounds_succ]
    go_wp2_with fail
    go_quiet (fail)
    go_wp2_with fail
    rw [rounds_succ]
    go_wp2_with fail
    go_quiet (fail)
    go_wp2_with fail
    rw [rounds_succ]
    go_wp2_with fail
    go_ret
    exact ⟨rfl, bDN (bA HB5.out) _⟩
  · have hq2 : (a : Int) / 56 = 2 := by omega
    go_wp2_with fail
    refine wp_loop_rounds 5 ?_
    rw [rounds_succ]
    go_wp2_with fail
    go_quiet (fail)
    go_wp2_with fail
    rw [rounds_succ]
    go_wp2_with fail
    go_quiet (fail)
    go_wp2_with fail
    rw [rounds_succ]
    go_wp2_with fail
    go_quiet (fail)
    go_wp2_with fail
    rw [rounds_succ]
    go_wp2_with fail
    go_quiet (fail)
    go_wp2_with fail
    rw [rounds_succ]
    go_wp2_with fail
    go_ret
    exact ⟨rfl, bDN (bA HB5.out) _⟩
  · have hq2 : (a : Int) / 56 = 3 := by omega
    go_wp2_with fail
    refine wp_loop_rounds 5 ?_
    rw [rounds_succ]
    go_wp2_with fail
    go_quiet (fail)
    go_wp2_with fail
    rw [rounds_succ]
    go_wp2_with fail
    go_quiet (fail)
    go_wp2_with fail
    rw [rounds_succ]
    go_wp2_with fail
    go_quiet (fail)
    go_wp2_with fail
    rw [rounds_succ]
    go_wp2_with fail
    go_quiet (fail)
    go_wp2_with fail
    rw [rounds_succ]
    go_wp2_with fail
    go_ret
    exact ⟨rfl, bDN (bA HB5.out) _⟩
set_option maxHeartbeats 800000 in
theorem shares_bad (body : ByteArray) (stamp at_ : Int) (h : body.size ≠ 224) (hs : body.size ≤ maxLen) (w : World) :
    Calls Try.prog 5 #[.string body, .int .u64 stamp, .int .i64 at_] w fun e w' => e = .returned (.bool true) ∧ Below w.heap.size w w' := by
  have N1 := Lib.hid (frm_seal_bad body stamp h hs)
  have h1 : ((body.size : Int) != 224) = true := by simp; omega
  have hq := eq_arr4 ⟨#[]⟩ ⟨#[]⟩ ⟨#[]⟩ ⟨#[]⟩ ⟨#[]⟩ ⟨#[]⟩ ⟨#[]⟩ ⟨#[]⟩
  unfold maxLen at hs
  clear h
  go_enter Try.func5, Try.ntmps5
  go_wp2_with fail
  refine (awake03 _).mono ?_
  rintro e w1 ⟨rfl, hb1⟩
  go_wp2_with fail
  refine (N1.out _).mono ?_
  rintro e w2 ⟨rfl, hb2⟩
  have HB2 := Lib.hid (bT hb1 hb2)
  go_wp2_with fail
  go_ret
  exact ⟨rfl, bA HB2.out⟩
theorem frameShares_walk (body : ByteArray) (stamp at_ : Int) (hs : body.size ≤ maxLen) (h0 : 0 ≤ stamp ∧ stamp ≤ 18446744073709551615) (hp : -9223372036854775808 ≤ at_ ∧ at_ ≤ 9223372036854775807) (w : World) :
    Calls Try.prog 5 #[.string body, .int .u64 stamp, .int .i64 at_] w fun e w' => e = .returned (.bool true) ∧ Below w.heap.size w w' := by
  by_cases h : body.size = 224
  · exact shares_walk0 body stamp at_ h h0.1 hp.1 hp.2 w
  · exact shares_bad body stamp at_ h hs w
end Go.Proofs.Ytgeoblejfkoldaa
