import Derived.Test.YtimomjheanfbmaaGreatDoorMan
set_option linter.unusedSimpArgs false
set_option linter.unusedVariables false
namespace Go.Proofs.YtimomjheanfbmaaGreatDoor
open Go.RowKit

/-! ### a page's bytes -/
theorem PgOk.small {P : Pg} (h : PgOk P) : ∀ i, i < 6 → (P.dt i).size ≤ 34 := fun i hi => (h.2 i hi).2.2.1
theorem pg_check_ok (P : Pg) (hok : PgOk P) (w : World) : Calls Tryz.prog 80 #[pgV P] w fun e w' => e = .returned (.int .i64 0) ∧ Below w.heap.size w w' :=
  (pg_check P (fun i hi => by have := hok.small i hi; unfold maxLen; omega) w).mono fun e w' ⟨h, hb⟩ => ⟨h.elim (fun h => h.1) (fun h => absurd hok h.2), hb⟩
def numP (P : Pg) : Nat → Int
  | 0 => P.kind
  | 1 => P.level
  | 2 => P.store
  | _ => P.next
def widP : Nat → Nat
  | 0 => 1
  | 1 => 1
  | 2 => 2
  | _ => 4
def headN (P : Pg) : Nat → List UInt8
  | 0 => []
  | k + 1 => headN P k ++ (leS (numP P k) (widP k)).data.toList
def cellL (s : Int) (d : ByteArray) : List UInt8 := ([UInt8.ofNat s.toNat] ++ (textS d).data.toList) ++ List.replicate (34 - d.size) 0
def bodyL (P : Pg) : Nat → List UInt8
  | 0 => headN P 4
  | n + 1 => bodyL P n ++ cellL (P.st n) (P.dt n)
def pageS (P : Pg) : ByteArray := ⟨(bodyL P 6).toArray⟩
theorem list_size (s : ByteArray) : s.data.toList.length = s.size := Array.length_toList
theorem headN_four (P : Pg) : (headN P 4).length = 8 := by simp [headN, list_size, leS_size, widP]
theorem headN_le (P : Pg) (k : Nat) (hk : k ≤ 4) : (headN P k).length ≤ 8 := by
  match k, hk with
  | 0, _ => simp [headN, list_size, leS_size, widP]
  | 1, _ => simp [headN, list_size, leS_size, widP]
  | 2, _ => simp [headN, list_size, leS_size, widP]
  | 3, _ => simp [headN, list_size, leS_size, widP]
  | 4, _ => simp [headN, list_size, leS_size, widP]
theorem textS_size (t : ByteArray) : (textS t).size = t.size + 1 := by
  unfold textS; rw [bytes_size, strOfNums_one]; omega
theorem cellL_length (s : Int) (d : ByteArray) (h : d.size ≤ 34) : (cellL s d).length = 36 := by
  simp [cellL, list_size, textS_size]; omega
theorem bodyL_length (P : Pg) : ∀ n, (∀ i, i < n → (P.dt i).size ≤ 34) → (bodyL P n).length = 8 + 36 * n
  | 0, _ => headN_four P
  | n + 1, h => by
    rw [bodyL, List.length_append, bodyL_length P n (fun i hi => h i (by omega)), cellL_length _ _ (h n (by omega))]; omega
theorem pageS_size {P : Pg} (h : PgOk P) : (pageS P).size = 224 := by
  show (bodyL P 6).toArray.size = 224
  rw [List.size_toArray, bodyL_length P 6 (fun i hi => (h.2 i hi).2.2.1)]
theorem pg_range {w : World} {b : Nat} {P : Pg} {T : TypeId} {f : Nat × Nat} (h : w.heap[b]? = some (.cells (pgC P) T f)) : w.rangeAt b 4 (pgA P).toList := World.rangeAt_of_block h 4 12
def hdA (a b c d : Int) : Array Value := #[.int .i64 a, .int .i64 1, .int .i64 b, .int .i64 1, .int .i64 c, .int .i64 2, .int .i64 d, .int .i64 4]
theorem run_index_hd (a b c d : Int) : (∀ w, (Instr.index 256 (.agg (hdA a b c d)) (.int .i64 0)).run Tryz.prog w = .ok (.agg #[.int .i64 a, .int .i64 1]) w) ∧ (∀ w, (Instr.index 256 (.agg (hdA a b c d)) (.int .i64 1)).run Tryz.prog w = .ok (.agg #[.int .i64 b, .int .i64 1]) w)
    ∧ (∀ w, (Instr.index 256 (.agg (hdA a b c d)) (.int .i64 2)).run Tryz.prog w = .ok (.agg #[.int .i64 c, .int .i64 2]) w) ∧ (∀ w, (Instr.index 256 (.agg (hdA a b c d)) (.int .i64 3)).run Tryz.prog w = .ok (.agg #[.int .i64 d, .int .i64 4]) w) := by
  refine ⟨fun w => ?_, fun w => ?_, fun w => ?_, fun w => ?_⟩ <;> simp [Instr.index, asIntOf, go_sem, hdA]
theorem pow_one : (2 : Int) ^ (8 * Int.toNat 1) = 256 := by decide
theorem pow_two : (2 : Int) ^ (8 * Int.toNat 2) = 65536 := by decide
theorem pow_four : (2 : Int) ^ (8 * Int.toNat 4) = 4294967296 := by decide
theorem fit_one {n : Int} (h0 : 0 ≤ n) (h : n ≤ 255) : n / 2 ^ (8 * Int.toNat 1) = 0 := by rw [pow_one]; omega
theorem fit_two {n : Int} (h0 : 0 ≤ n) (h : n ≤ 65535) : n / 2 ^ (8 * Int.toNat 2) = 0 := by rw [pow_two]; omega
theorem fit_four {n : Int} (h0 : 0 ≤ n) (h : n < 1024) : n / 2 ^ (8 * Int.toNat 4) = 0 := by rw [pow_four]; omega
/-- BdAt, and what lies below -/
theorem bB {B b : Nat} {w w1 w2 : World} (h : Below B w w1) (hb : B ≤ b) (k : Below b w1 w2) : Below B w w2 := h.trans (k.mono hb)
set_option maxRecDepth 100000 in
set_option maxHeartbeats 16000000 in
theorem pg_encode_no (P : Pg) (hd : ∀ i, i < 6 → (P.dt i).size ≤ maxLen) (hok : ¬ PgOk P) (w : World) : Calls Tryz.prog 123 #[pgV P] w fun e w' => e = .returned (.tuple #[.string ⟨#[]⟩, .int .i64 1]) ∧ Below w.heap.size w w' := by
  have HC := Lib.hid (fun w => pg_check P hd w)
  have HQc : Hid ((w.alloc (.cells (pgC P) 49)).heap[w.heap.size]? = some (.cells (pgC P) 49 (0, 0))) := hN rfl
  unfold pgV at *
  go_enter Tryz.func123, Tryz.ntmps123
  go_wp2_with (refine wpList_load_row rfl 49 _ rfl _ rfl 49 _ _ _ HQc.out Tryz.underlying49 rfl (by kernel_rfl) ?_)
  refine (HC.out _).mono ?_
  rintro e w1 ⟨h, hb⟩
  obtain rfl : e = .returned (.int .i64 1) := h.elim (fun h => absurd h.2 hok) (fun h => h.1)
  have HB1 := Lib.hid (bT (bA bR) hb)
  clear hb h
  go_wp2_with fail
  go_ret2
  exact ⟨rfl, HB1.out⟩
set_option maxRecDepth 100000 in
set_option maxHeartbeats 16000000 in
theorem pg_encode_ok (P : Pg) (hok : PgOk P) (w : World) : Calls Tryz.prog 123 #[pgV P] w fun e w' => e = .returned (.tuple #[.string (pageS P), .int .i64 0]) ∧ Below w.heap.size w w' := by
  have HC := Lib.hid (fun w => pg_check_ok P hok w)
  have HQc : Hid ((w.alloc (.cells (pgC P) 49)).heap[w.heap.size]? = some (.cells (pgC P) 49 (0, 0))) := hN rfl
  obtain ⟨⟨h1, h2, h3, h4, h5, h6, h7, h8⟩, hcl⟩ := hok
  replace hcl := Lib.hid hcl
  have hut := Lib.hid Tryz.underlying47
  have hi12 : Hid ((Tryz.prog.info? 47).map (·.size) = some (pgA P).toList.length) := (by kernel_rfl : (Tryz.prog.info? 47).map (·.size) = some (pgA P).toList.length)
  unfold pgV at *
  go_enter Tryz.func123, Tryz.ntmps123
  go_wp2_with (refine wpList_load_row rfl 49 _ rfl _ rfl 49 _ _ _ HQc.out Tryz.underlying49 rfl (by kernel_rfl) ?_)
  refine (HC.out _).mono ?_
  rintro e w1 ⟨rfl, hb⟩
  have HB1 := Lib.hid (bT (bA bR) hb)
  have HQ1 := Lib.hid (hBs hb HQc.out)
  have hw1 := block_lt HQ1.out
  clear hb HC HQc
  have p0 : (w1.alloc (.cells #[.pointer none, .slice none 0 0] 212)).cell? ⟨w.heap.size, 0, none⟩ = some (.int .i64 P.kind) := cell_at (hO HQ1.out) 0
  have p1 : (w1.alloc (.cells #[.pointer none, .slice none 0 0] 212)).cell? ⟨w.heap.size, 1, none⟩ = some (.int .i64 P.level) := cell_at (hO HQ1.out) 1
  have p2 : (w1.alloc (.cells #[.pointer none, .slice none 0 0] 212)).cell? ⟨w.heap.size, 2, none⟩ = some (.int .i64 P.store) := cell_at (hO HQ1.out) 2
  have p3 : (w1.alloc (.cells #[.pointer none, .slice none 0 0] 212)).cell? ⟨w.heap.size, 3, none⟩ = some (.int .i64 P.next) := cell_at (hO HQ1.out) 3
  go_wp2_with fail
  clear p0 p1 p2 p3
  go_loopw [32] (fun i wr => ∃ (k : Nat), k ≤ 4 ∧ i = .int .i64 k ∧ Hid (BdAt wr w1.heap.size (headN P k)) ∧ Hid (wr.heap[w.heap.size]? = some (.cells (pgC P) 49 (0, 0))) ∧ Hid (Below w.heap.size w wr)) (fun i _ => 4 - (intOf i).toNat)
  case atStart => exact ⟨0, by omega, rfl, BdAt.new _, hO HQ1.out, bA HB1.out⟩
  case round =>
    obtain ⟨k, hk, rfl, HBd, HQ, HB⟩ := hrel
    clear HB1 HQ1
    by_cases hk4 : k < 4
    · have hlen := headN_le P k hk
      have HX := Lib.hid (run_index_hd P.kind P.level P.store P.next)
      unfold hdA at HX
      obtain rfl | rfl | rfl | rfl : k = 0 ∨ k = 1 ∨ k = 2 ∨ k = 3 := by omega
      · go_wp2_with fail
        rw [HX.out.1]
        simp only [Result.andThen]
        rw [Oper.upon_value]
        go_wp2_with fail
        refine (oct_num_ok P.kind 1 (by decide) (by decide) (by omega) (fun _ => fit_one h1 (by omega)) _).mono ?_
        rintro e w2 ⟨rfl, hb⟩
        have HBd2 := Lib.hid ((HBd.out.alloc (.cells #[.int .i64 P.kind, .int .i64 1] 255)).later hb)
        have HQ2 := Lib.hid (hBs hb (hO HQ.out))
        have HB2 := Lib.hid (bT (bA HB.out) hb)
        clear hb
        go_wp2_with fail
        refine (bd_string _ _ _ _ HBd2.out (by rw [leS_size]; show _ + 1 ≤ _; omega)).mono ?_
        rintro e w3 ⟨rfl, HBd3, hb, -⟩
        have HQ3 := Lib.hid (hB hb hw1 HQ2.out)
        have HB3 := Lib.hid (bB HB2.out (by omega) hb)
        replace HBd3 := Lib.hid HBd3
        clear hb
        go_wp2_with fail
        go_roundw
        case rel => exact ⟨1, by omega, rfl, HBd3.out, HQ3, HB3⟩
        case measure => simp [intOf]
      · go_wp2_with fail
        rw [HX.out.2.1]
        simp only [Result.andThen]
        rw [Oper.upon_value]
        go_wp2_with fail
        refine (oct_num_ok P.level 1 (by decide) (by decide) (by omega) (fun _ => fit_one h3 h4) _).mono ?_
        rintro e w2 ⟨rfl, hb⟩
        have HBd2 := Lib.hid ((HBd.out.alloc (.cells #[.int .i64 P.level, .int .i64 1] 255)).later hb)
        have HQ2 := Lib.hid (hBs hb (hO HQ.out))
        have HB2 := Lib.hid (bT (bA HB.out) hb)
        clear hb
        go_wp2_with fail
        refine (bd_string _ _ _ _ HBd2.out (by rw [leS_size]; show _ + 1 ≤ _; omega)).mono ?_
        rintro e w3 ⟨rfl, HBd3, hb, -⟩
        have HQ3 := Lib.hid (hB hb hw1 HQ2.out)
        have HB3 := Lib.hid (bB HB2.out (by omega) hb)
        replace HBd3 := Lib.hid HBd3
        clear hb
        go_wp2_with fail
        go_roundw
        case rel => exact ⟨2, by omega, rfl, HBd3.out, HQ3, HB3⟩
        case measure => simp [intOf]
      · go_wp2_with fail
        rw [HX.out.2.2.1]
        simp only [Result.andThen]
        rw [Oper.upon_value]
        go_wp2_with fail
        refine (oct_num_ok P.store 2 (by decide) (by decide) (by omega) (fun _ => fit_two h5 h6) _).mono ?_
        rintro e w2 ⟨rfl, hb⟩
        have HBd2 := Lib.hid ((HBd.out.alloc (.cells #[.int .i64 P.store, .int .i64 2] 255)).later hb)
        have HQ2 := Lib.hid (hBs hb (hO HQ.out))
        have HB2 := Lib.hid (bT (bA HB.out) hb)
        clear hb
        go_wp2_with fail
        refine (bd_string _ _ _ _ HBd2.out (by rw [leS_size]; show _ + 2 ≤ _; omega)).mono ?_
        rintro e w3 ⟨rfl, HBd3, hb, -⟩
        have HQ3 := Lib.hid (hB hb hw1 HQ2.out)
        have HB3 := Lib.hid (bB HB2.out (by omega) hb)
        replace HBd3 := Lib.hid HBd3
        clear hb
        go_wp2_with fail
        go_roundw
        case rel => exact ⟨3, by omega, rfl, HBd3.out, HQ3, HB3⟩
        case measure => simp [intOf]
      · go_wp2_with fail
        rw [HX.out.2.2.2]
        simp only [Result.andThen]
        rw [Oper.upon_value]
        go_wp2_with fail
        refine (oct_num_ok P.next 4 (by decide) (by decide) (by omega) (fun _ => fit_four h7 h8) _).mono ?_
        rintro e w2 ⟨rfl, hb⟩
        have HBd2 := Lib.hid ((HBd.out.alloc (.cells #[.int .i64 P.next, .int .i64 4] 255)).later hb)
        have HQ2 := Lib.hid (hBs hb (hO HQ.out))
        have HB2 := Lib.hid (bT (bA HB.out) hb)
        clear hb
        go_wp2_with fail
        refine (bd_string _ _ _ _ HBd2.out (by rw [leS_size]; show _ + 4 ≤ _; omega)).mono ?_
        rintro e w3 ⟨rfl, HBd3, hb, -⟩
        have HQ3 := Lib.hid (hB hb hw1 HQ2.out)
        have HB3 := Lib.hid (bB HB2.out (by omega) hb)
        replace HBd3 := Lib.hid HBd3
        clear hb
        go_wp2_with fail
        go_roundw
        case rel => exact ⟨4, by omega, rfl, HBd3.out, HQ3, HB3⟩
        case measure => simp [intOf]
    obtain rfl : k = 4 := by omega
    replace HBd : Hid (BdAt wr w1.heap.size (bodyL P 0)) := HBd
    clear h1 h2 h3 h4 h5 h6 h7 h8
    have hpr := Lib.hid (pg_range HQ.out)
    have hix := Lib.hid (fun k hk => run_index_pg P k hk)
    generalize pgA P = C at *
    go_wp2_with (refine wpList_load_mid rfl 47 _ rfl w.heap.size 4 rfl C.toList _ hpr.out hut.out rfl hi12.out ?_)
    clear hpr HQ
    go_loopw [49] (fun i wr => ∃ (k : Nat), k ≤ 6 ∧ i = .int .i64 k ∧ Hid (BdAt wr w1.heap.size (bodyL P k)) ∧ Hid (Below w.heap.size w wr)) (fun i _ => 6 - (intOf i).toNat)
    case atStart => exact ⟨0, by omega, rfl, HBd, HB⟩
    case round =>
      obtain ⟨k, hk, rfl, HBd, HB⟩ := hrel
      have hbw := HBd.out.lt
      by_cases hk6 : k < 6
      rotate_left
      · obtain rfl : k = 6 := by omega
        go_wp2_with fail
        refine (bd_done _ _ _ HBd.out).mono ?_
        rintro e w2 ⟨rfl, hb⟩
        have HB2 := Lib.hid (bB HB.out (by omega) hb)
        clear hb
        go_wp2_with fail
        go_ret2
        exact ⟨rfl, HB2.out⟩
      have hk6' : (k : Int) < 6 := by omega
      have hixk := hix.out k hk6
      obtain ⟨g1, g2, g3, g4⟩ := hcl.out k hk6
      have hlen := bodyL_length P k (fun i hi => (hcl.out i (by omega)).2.2.1)
      have hbody : Hid (bodyL P (k + 1) = bodyL P k ++ cellL (P.st k) (P.dt k)) := rfl
      obtain ⟨c, hc⟩ : ∃ c : UInt8, P.st k = (c.toNat : Int) := ⟨UInt8.ofNat (P.st k).toNat, by simp [UInt8.toNat_ofNat']; omega⟩
      obtain ⟨d, ed⟩ : ∃ d, P.dt k = d := ⟨_, rfl⟩
      have hcz : c.toNat ≤ 2 := by omega
      unfold cellL at hbody
      rw [hc, ed, Int.toNat_natCast, UInt8.ofNat_toNat] at hbody
      rw [hc, ed] at hixk
      rw [ed] at g3
      clear g1 g2 g4 hc ed
      obtain ⟨l, el⟩ : ∃ l, bodyL P k = l := ⟨_, rfl⟩
      rw [el] at hbody hlen HBd
      clear el
      obtain ⟨m, hm⟩ : ∃ m : Nat, d.size + m = 34 := ⟨34 - d.size, by omega⟩
      rw [show 34 - d.size = m by omega] at hbody
      have hm' : (34 : Int) - d.size = m := by omega
      have htl : (textS d).data.toList.length = d.size + 1 := by rw [list_size, textS_size]
      have hts := textS_size d
      have hC0 := Lib.hid (hN (w := wr) (o := .cells #[.int .i64 c.toNat, .string d] 33) rfl)
      go_wp2_with fail
      refine (oct_text_ok d (by omega) _).mono ?_
      rintro e w2 ⟨rfl, hb⟩
      have HBd2 := Lib.hid ((HBd.out.alloc _).later hb)
      have HB2 := Lib.hid (bT (bA HB.out) hb)
      have hC2 := Lib.hid (hBs hb hC0.out)
      clear hb HBd HB hC0
      have c0 := cell_at hC2.out 0
      have c1 := cell_at hC2.out 1
      go_wp2_with fail
      refine (bd_byte _ _ c _ HBd2.out (by omega)).mono ?_
      rintro e w3 ⟨rfl, HBd3, hb, hk3⟩
      have HB3 := Lib.hid (bB HB2.out (by omega) hb)
      have hC3 := Lib.hid (kept_block hk3 hC2.out (by omega) (by decide))
      replace HBd3 := Lib.hid HBd3
      clear hb hk3 HBd2 HB2 hC2 c0 c1
      go_wp2_with fail
      refine (bd_string _ _ _ _ HBd3.out (by rw [List.length_append, List.length_singleton, hts]; omega)).mono ?_
      rintro e w4 ⟨rfl, HBd4, hb, hk4⟩
      have HB4 := Lib.hid (bB HB3.out (by omega) hb)
      have hC4 := Lib.hid (kept_block hk4 hC3.out (by omega) (by decide))
      replace HBd4 := Lib.hid HBd4
      clear hb hk4 HBd3 HB3 hC3
      have c0 := cell_at hC4.out 0
      have c1 := cell_at hC4.out 1
      go_wp2_with fail
      refine (str_repeat m (by omega) _).mono ?_
      rintro e w5 ⟨rfl, hb⟩
      have HB5 := Lib.hid (bT HB4.out hb)
      have HBd5 := Lib.hid (HBd4.out.later hb)
      clear hb HB4 HBd4 hC4 c0 c1
      go_wp2_with fail
      refine (bd_string _ _ _ _ HBd5.out (by show _ + (List.replicate m (0 : UInt8)).toArray.size ≤ _; simp [htl]; omega)).mono ?_
      rintro e w6 ⟨rfl, HBd6, hb, -⟩
      have HB6 := Lib.hid (bB HB5.out (by omega) hb)
      replace HBd6 := Lib.hid HBd6
      clear hb HB5 HBd5
      go_wp2_with fail
      go_roundw
      case rel =>
        refine ⟨k + 1, by omega, rfl, ?_, HB6⟩
        rw [hbody.out, ← List.append_assoc, ← List.append_assoc]
        exact HBd6
      case measure => simp [intOf]; omega
theorem pg_encode (P : Pg) (hd : ∀ i, i < 6 → (P.dt i).size ≤ maxLen) (w : World) : Calls Tryz.prog 123 #[pgV P] w fun e w' => (e = .returned (.tuple #[.string (pageS P), .int .i64 0]) ∧ PgOk P ∨ e = .returned (.tuple #[.string ⟨#[]⟩, .int .i64 1]) ∧ ¬ PgOk P) ∧ Below w.heap.size w w' := by
  by_cases h : PgOk P
  · exact (pg_encode_ok P h w).mono fun e w' ⟨he, hb⟩ => ⟨.inl ⟨he, h⟩, hb⟩
  · exact (pg_encode_no P hd h w).mono fun e w' ⟨he, hb⟩ => ⟨.inr ⟨he, h⟩, hb⟩
end Go.Proofs.YtimomjheanfbmaaGreatDoor
