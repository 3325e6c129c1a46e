import Derived.Test.YtejekbeonhmbeaaLawA
import Derived.Test.YtejekbeonhmbeaaLibC
set_option linter.unusedSimpArgs false
set_option linter.unusedVariables false
namespace Go.Proofs.Ytejekbeonhmbeaa
open Go.RowKit

def cutN (i : Nat) (n : Int) : Int := if i % 8 + 1 < 8 then n % 2 ^ (8 * (i % 8 + 1)) else n
def numB (i : Nat) (n : Int) : ByteArray := leS (cutN i n) (i % 8 + 1)
def catN : Nat → List Int → ByteArray
  | _, [] => ⟨#[]⟩
  | i, n :: r => numB i n ++ catN (i + 1) r
def catT : List ByteArray → ByteArray
  | [] => ⟨#[]⟩
  | t :: r => textS t ++ catT r
theorem catN_snoc : ∀ (l : List Int) (i : Nat) (x : Int), catN i (l ++ [x]) = catN i l ++ numB (i + l.length) x
  | [], i, x => by simp [catN, bytes_nil_right, bytes_nil_left]
  | n :: l, i, x => by
    simp only [List.cons_append, catN, catN_snoc l (i + 1) x, bytes_assoc, List.length_cons]
    rw [show i + 1 + l.length = i + (l.length + 1) from by omega]
theorem catT_snoc : ∀ (l : List ByteArray) (x : ByteArray), catT (l ++ [x]) = catT l ++ textS x
  | [], x => by simp [catT, bytes_nil_right, bytes_nil_left]
  | n :: l, x => by simp only [List.cons_append, catT, catT_snoc l x, bytes_assoc]
theorem numB_size (i : Nat) (n : Int) : (numB i n).size = i % 8 + 1 := leS_size _ _
theorem catN_size : ∀ (l : List Int) (i : Nat), (catN i l).size ≤ 8 * l.length
  | [], _ => Nat.zero_le _
  | n :: l, i => by
    have := catN_size l (i + 1)
    simp only [catN, bytes_size, numB_size, List.length_cons]
    omega
theorem textS_size (t : ByteArray) : (textS t).size = t.size + 1 := by
  unfold textS; rw [bytes_size, strOfNums_one]; omega
theorem catT_size : ∀ (l : List ByteArray), (∀ t ∈ l, t.size ≤ 255) → (catT l).size ≤ 256 * l.length
  | [], _ => Nat.zero_le _
  | t :: l, h => by
    have h1 := catT_size l (fun t ht => h t (by simp [ht]))
    have h2 := h t (by simp)
    simp only [catT, bytes_size, textS_size, List.length_cons]
    omega
theorem cutN_range (i : Nat) (n : Int) (h0 : 0 ≤ n) (h : n ≤ 18446744073709551615) : 0 ≤ cutN i n ∧ cutN i n ≤ 18446744073709551615 ∧ cutN i n < 256 ^ (i % 8 + 1) := by
  unfold cutN
  split
  · rename_i h8
    have hp : (0 : Int) < 2 ^ (8 * (i % 8 + 1)) := Int.pow_pos (by omega)
    have h1 := Int.emod_nonneg n (show (2 : Int) ^ (8 * (i % 8 + 1)) ≠ 0 by omega)
    have h2 := Int.emod_lt_of_pos n hp
    have h3 : n % 2 ^ (8 * (i % 8 + 1)) ≤ n := by
      have := Int.mul_ediv_add_emod n (2 ^ (8 * (i % 8 + 1)))
      have h4 : 0 ≤ n / 2 ^ (8 * (i % 8 + 1)) := Int.ediv_nonneg h0 (by omega)
      have h5 := Int.mul_nonneg (Int.le_of_lt hp) h4
      omega
    refine ⟨h1, by omega, ?_⟩
    rw [← two_pow_8]; exact h2
  · rename_i h8
    have e : i % 8 + 1 = 8 := by omega
    rw [e]
    have : (256 : Int) ^ 8 = 18446744073709551616 := by decide
    omega
theorem rdNum_cat (i : Nat) (n : Int) (R : ByteArray) (h0 : 0 ≤ n) (h : n ≤ 18446744073709551615) : rdNum (numB i n ++ R) false ((i % 8 + 1 : Nat) : Int) = (cutN i n, R, false) := by
  obtain ⟨h1, h2, h3⟩ := cutN_range i n h0 h
  unfold rdNum
  rw [if_neg (by omega), rdBytes_yes ⟨rfl, by omega, by rw [bytes_size, numB_size]; omega⟩]
  simp only [Int.toNat_natCast]
  have hz := numB_size i n
  have hl := bytes_left (numB i n) R
  have hr := bytes_right (numB i n) R
  rw [hz] at hl hr
  rw [hl, hr, numB, valS_leS _ _ h1 h3]
theorem valS_one (x : Nat) (h : x ≤ 255) : valS (strOfNums [(x : Int)]) = x := by
  have h1 : (strOfNums [(x : Int)]).data.toList = [UInt8.ofNat x] := by rw [strOfNums_data]; simp
  unfold valS
  rw [h1]
  simp only [valL]
  rw [UInt8.toNat_ofNat']
  omega
theorem rdText_cat (t R : ByteArray) (h : t.size ≤ 255) : rdText (textS t ++ R) false = (t, R, false) := by
  have h1 : rdNum (textS t ++ R) false 1 = ((t.size : Int), t ++ R, false) := by
    unfold rdNum
    rw [if_neg (by omega), rdBytes_yes ⟨rfl, by omega, by rw [bytes_size, textS_size]; omega⟩]
    unfold textS
    rw [bytes_assoc]
    have hl := bytes_left (strOfNums [(t.size : Int)]) (t ++ R)
    have hr := bytes_right (strOfNums [(t.size : Int)]) (t ++ R)
    rw [strOfNums_one] at hl hr
    rw [show (1 : Int).toNat = 1 from rfl, hl, hr, valS_one _ h]
  unfold rdText
  rw [h1]
  show rdBytes (t ++ R) false (t.size : Int) = _
  rw [rdBytes_yes ⟨rfl, by omega, by rw [bytes_size]; omega⟩, Int.toNat_natCast, bytes_left, bytes_right]

theorem cutN_lt (k : Nat) (n : Int) (h : k % 8 + 1 < 8) : n % IntKind.u64.wrap (2 ^ (8 * (k % 8 + 1))) = cutN k n := by
  unfold cutN
  rw [if_pos h]
  have := wrap_pow ((k % 8 + 1 : Nat) : Int) (by omega) (by omega)
  rw [show (8 * ((k % 8 + 1 : Nat) : Int)).toNat = 8 * (k % 8 + 1) from by omega, Int.toNat_natCast] at this
  rw [this]
theorem cutN_nz (k : Nat) (h : k % 8 + 1 < 8) : IntKind.u64.wrap (2 ^ (8 * (k % 8 + 1))) ≠ 0 := by
  have := wrap_pow ((k % 8 + 1 : Nat) : Int) (by omega) (by omega)
  rw [show (8 * ((k % 8 + 1 : Nat) : Int)).toNat = 8 * (k % 8 + 1) from by omega, Int.toNat_natCast] at this
  rw [this]
  have : (0 : Int) < 2 ^ (8 * (k % 8 + 1)) := Int.pow_pos (by omega)
  omega
theorem cutN_ge (k : Nat) (n : Int) (h : ¬ k % 8 + 1 < 8) : n = cutN k n := by unfold cutN; rw [if_neg h]
theorem num_cut (k : Nat) (n : Int) (h0 : 0 ≤ n) (h : n ≤ 18446744073709551615) (w : World) :
    Calls Try.prog 10 #[.int .u64 (cutN k n), .int .i64 ((k : Int) % 8 + 1)] w fun e w' => e = .returned (.tuple #[.string (numB k n), .int .i64 0]) ∧ Below w.heap.size w w' := by
  obtain ⟨h1, h2, h3⟩ := cutN_range k n h0 h
  have := oct_num_ok (cutN k n) ((k : Int) % 8 + 1) (by omega) (by omega) h1 (fun h8 => by
    rw [show ((k : Int) % 8 + 1).toNat = k % 8 + 1 from by omega]
    rw [← two_pow_8] at h3
    exact (div_zero_iff _ _ h1).2 h3) w
  rw [show ((k : Int) % 8 + 1).toNat = k % 8 + 1 from by omega] at this
  exact this
theorem val_cut (k : Nat) (n : Int) (h0 : 0 ≤ n) (h : n ≤ 18446744073709551615) (w : World) :
    Calls Try.prog 12 #[.string (numB k n)] w fun e w' => e = .returned (.tuple #[.int .u64 (cutN k n), .int .i64 0]) ∧ w = w' := by
  obtain ⟨h1, h2, h3⟩ := cutN_range k n h0 h
  have := oct_val_ok (numB k n) (by rw [numB_size]; omega) (by rw [numB_size]; omega) w
  rw [numB, valS_leS _ _ h1 h3] at this
  exact this

def restN (ns : List Int) (ts : List ByteArray) (k : Nat) : ByteArray := catN k (ns.drop k) ++ catT ts
theorem restN_step (ns : List Int) (ts : List ByteArray) (k : Nat) (h : k < ns.length) : restN ns ts k = numB k ns[k] ++ restN ns ts (k + 1) := by
  unfold restN; rw [List.drop_eq_getElem_cons h]; simp only [catN, bytes_assoc]
theorem restN_size (ns : List Int) (ts : List ByteArray) (k : Nat) (h : ∀ t ∈ ts, t.size ≤ 255) : (restN ns ts k).size ≤ 8 * ns.length + 256 * ts.length := by
  unfold restN
  have h1 := catN_size (ns.drop k) k
  have h2 := catT_size ts h
  rw [List.length_drop] at h1
  rw [bytes_size]; omega
theorem restN_last (ns : List Int) (ts : List ByteArray) : restN ns ts ns.length = catT ts := by
  unfold restN; rw [List.drop_length]; exact bytes_nil_left _
theorem catT_drop (ts : List ByteArray) (k : Nat) (h : k < ts.length) : catT (ts.drop k) = textS ts[k] ++ catT (ts.drop (k + 1)) := by
  rw [List.drop_eq_getElem_cons h]; rfl
theorem rnum_cut (b k : Nat) (n : Int) (R : ByteArray) (h0 : 0 ≤ n) (h : n ≤ 18446744073709551615) (hs : (numB k n ++ R).size ≤ maxLen) (w : World) (hR : Rd w b (numB k n ++ R) false) :
    Calls Try.prog 19 #[.pointer (some ⟨b, 0, none⟩), .int .i64 ((k : Int) % 8 + 1)] w fun e w' =>
      e = .returned (.int .u64 (cutN k n)) ∧ Rd w' b R false ∧ Keeps (· = b) w w' := by
  have := oct_rnum b (numB k n ++ R) false ((k : Int) % 8 + 1) w hR hs
  rw [show ((k : Int) % 8 + 1) = ((k % 8 + 1 : Nat) : Int) from by omega, rdNum_cat k n R h0 h] at this
  rw [show ((k : Int) % 8 + 1) = ((k % 8 + 1 : Nat) : Int) from by omega]
  exact this
theorem rtext_cut (b : Nat) (t R : ByteArray) (h : t.size ≤ 255) (hs : (textS t ++ R).size ≤ maxLen) (w : World) (hR : Rd w b (textS t ++ R) false) :
    Calls Try.prog 21 #[.pointer (some ⟨b, 0, none⟩)] w fun e w' =>
      e = .returned (.string t) ∧ Rd w' b R false ∧ Keeps (· = b) w w' := by
  have := oct_rtext b (textS t ++ R) false w hR hs
  rw [rdText_cat t R h] at this
  exact this
set_option maxRecDepth 100000 in
set_option maxHeartbeats 1000000 in
theorem octetBack_walk (v0 : Value) (ns : List Int) (v1 : Value) (ts : List ByteArray) (L0 : ns.length * 8 ≤ 140737488351232) (L1 : ts.length * 16 ≤ 140737488351232) (w : World) (S0 : IntSl w v0 .u64 ns) (S1 : StrSl w v1 ts) :
    Calls Try.prog 7 #[v0, v1] w fun e w' => e = .returned (.bool true) ∧ Below w.heap.size w w' := by
  obtain ⟨⟨a0, cap0, rfl, -, hc0⟩, hw0⟩ := S0
  obtain ⟨⟨a1, cap1, rfl, -, hc1⟩, hw1⟩ := S1
  rw [List.length_map] at hc0 hc1 ⊢
  rw [List.length_map]
  have HC0 := Lib.hid hc0
  have HC1 := Lib.hid hc1
  have HW0 : Hid (∀ n ∈ ns, 0 ≤ n ∧ n ≤ 18446744073709551615) := fun n hn => bounds_u64 (hw0 n hn)
  have HW1 := Lib.hid hw1
  clear hc0 hc1 hw0 hw1
  have hm0 : (ns.length : Int) ≤ 17592186044416 := by omega
  have hm1 : (ts.length : Int) ≤ 17592186044416 := by omega
  go_enter Try.func7, Try.ntmps7
  go_wp2_with fail
  refine (awake01 _).mono ?_
  rintro e w1 ⟨rfl, hb1⟩
  go_wp2_with fail
  go_loopw [5, 27] (fun al i wr => ∃ k : Nat, k ≤ ns.length ∧ i = .int .i64 k ∧ al = .string (catN 0 (ns.take k)) ∧ Below w.heap.size w wr) (fun _ i _ => ns.length - (intOf i).toNat)
  case atStart => exact ⟨0, Nat.zero_le _, rfl, by simp [catN], hb1⟩
  case round =>
    obtain ⟨k, hk, rfl, rfl, hbw⟩ := hrel
    by_cases hlt : k < ns.length
    · have hne : ns.map (fun n => [Value.int IntKind.u64 n]) ≠ [] := by intro h; rw [List.map_eq_nil_iff] at h; rw [h] at hlt; simp at hlt
      obtain ⟨bk, off, rfl, hbk, hcell⟩ := HC0.out hne
      have e0 := hcell k hlt 0 (by omega)
      rw [List.getElem?_map, List.getElem?_eq_getElem hlt] at e0
      have hr := HW0.out _ (List.getElem_mem hlt)
      have HT : Hid (catN 0 (ns.take (k + 1)) = catN 0 (ns.take k) ++ numB k ns[k]) := by
        show _ = _
        rw [List.take_succ_eq_append_getElem hlt, catN_snoc, List.length_take, Nat.min_eq_left (by omega), Nat.zero_add]
      generalize ns[k] = n at *
      simp at e0
      have c0 : wr.cell? ⟨bk, off + k, none⟩ = some (.int .u64 n) := (hbw.cell (p := ⟨bk, off + k, none⟩) hbk).trans e0
      obtain ⟨hn0, hn1⟩ := hr
      have hz : (catN 0 (ns.take k)).size ≤ 8 * k := by
        have := catN_size (ns.take k) 0
        rw [List.length_take, Nat.min_eq_left (by omega)] at this
        exact this
      generalize catN 0 (ns.take k) = A at *
      have HBW := Lib.hid hbw
      clear e0 hcell hne hbw
      have HN := Lib.hid (num_cut k n hn0 hn1)
      have HV := Lib.hid (val_cut k n hn0 hn1)
      have hsz : A.size + (numB k n).size ≤ 9223372036854775807 := by rw [numB_size]; omega
      by_cases h8 : k % 8 + 1 < 8
      · have hcut := cutN_lt k n h8
        rw [← hcut] at HN HV
        have hnz := cutN_nz k h8
        clear hcut hn1 HC1
        go_wp2_with fail
        refine (HN.out _).mono ?_
        rintro e w2 ⟨rfl, hb2⟩
        go_wp2_with fail
        refine (HV.out _).mono ?_
        rintro e w3 ⟨rfl, rfl⟩
        go_wp2_with fail
        go_roundw
        case rel => exact ⟨k + 1, by omega, by go_num, by rw [HT.out], bT HBW.out hb2⟩
        case measure => simp [intOf]; omega
      · have hcut := cutN_ge k n h8
        rw [← hcut] at HN HV
        clear hcut hn0 hn1 HC1
        have h8' : ¬ ((k : Int) % 8 + 1 < 8) := by omega
        go_wp2_with fail
        refine (HN.out _).mono ?_
        rintro e w2 ⟨rfl, hb2⟩
        go_wp2_with fail
        refine (HV.out _).mono ?_
        rintro e w3 ⟨rfl, rfl⟩
        go_wp2_with fail
        go_roundw
        case rel => exact ⟨k + 1, by omega, by go_num, by rw [HT.out], bT HBW.out hb2⟩
        case measure => simp [intOf]; omega
    · obtain rfl : k = ns.length := by omega
      rw [List.take_length]
      have hz := catN_size ns 0
      have HBW := Lib.hid hbw
      clear hbw
      have HP : Hid (∀ l : List ByteArray, (catN 0 ns ++ catT l) = catN 0 ns ++ catT l) := fun _ => rfl
      go_wp2_with fail
      go_loopw [5, 70] (fun al i wr => ∃ k : Nat, k ≤ ts.length ∧ i = .int .i64 k ∧ al = .string (catN 0 ns ++ catT (ts.take k)) ∧ Hid (∀ t ∈ ts.take k, t.size ≤ 255) ∧ Below w.heap.size w wr) (fun _ i _ => ts.length - (intOf i).toNat)
      case atStart => exact ⟨0, Nat.zero_le _, rfl, by simp [catT, bytes_nil_right], by simp [Hid], HBW.out⟩
      case round =>
        obtain ⟨k, hk, rfl, rfl, HS, hbw⟩ := hrel
        by_cases hlt : k < ts.length
        · have hne : ts.map (fun s => [Value.string s]) ≠ [] := by intro h; rw [List.map_eq_nil_iff] at h; rw [h] at hlt; simp at hlt
          obtain ⟨bk, off, rfl, hbk, hcell⟩ := HC1.out hne
          have e0 := hcell k hlt 0 (by omega)
          rw [List.getElem?_map, List.getElem?_eq_getElem hlt] at e0
          have hr := HW1.out _ (List.getElem_mem hlt)
          have hT : catT (ts.take (k + 1)) = catT (ts.take k) ++ textS ts[k] := by rw [List.take_succ_eq_append_getElem hlt, catT_snoc]
          have HT := Lib.hid hT
          have HSS : Hid (ts[k].size ≤ 255 → ∀ t ∈ ts.take (k + 1), t.size ≤ 255) := by
            intro h t ht
            rw [List.take_succ_eq_append_getElem hlt, List.mem_append] at ht
            rcases ht with ht | ht
            · exact HS.out t ht
            · simp at ht; rw [ht]; exact h
          have hz2 : (catT (ts.take k)).size ≤ 256 * k := by
            have := catT_size (ts.take k) HS.out
            rw [List.length_take, Nat.min_eq_left (by omega)] at this
            exact this
          clear hT
          generalize ts[k] = t at *
          simp at e0
          have c0 : wr.cell? ⟨bk, off + k, none⟩ = some (.string t) := (hbw.cell (p := ⟨bk, off + k, none⟩) hbk).trans e0
          have hA : (catN 0 ns ++ catT (ts.take k)).size ≤ 8 * ns.length + 256 * k := by rw [bytes_size]; omega
          have HAA : Hid (catN 0 ns ++ catT (ts.take (k + 1)) = catN 0 ns ++ catT (ts.take k) ++ textS t) := by show _ = _; rw [HT.out, bytes_assoc]
          generalize catN 0 ns ++ catT (ts.take k) = A at *
          have HBW2 := Lib.hid hbw
          clear e0 hcell hne hbw HT hz2 HP
          by_cases h255 : 255 < (t.size : Int)
          · have HX := Lib.hid (oct_text_long t h255 hr)
            have hr' : (t.size : Int) ≤ 9223372036854775807 := by unfold maxLen at hr; omega
            go_wp2_with fail
            refine (HX.out _).mono ?_
            rintro e w2 ⟨rfl, rfl⟩
            go_wp2_with fail
            go_ret
            exact ⟨rfl, HBW2.out⟩
          · have HX := Lib.hid (oct_text_ok t (by omega))
            have hsz : A.size + (textS t).size ≤ 9223372036854775807 := by rw [textS_size]; omega
            go_wp2_with fail
            refine (HX.out _).mono ?_
            rintro e w2 ⟨rfl, hb2⟩
            go_wp2_with fail
            go_roundw
            case rel => exact ⟨k + 1, by omega, by go_num, by rw [HAA.out], HSS.out (by omega), bT HBW2.out hb2⟩
            case measure => simp [intOf]; omega
        · obtain rfl : k = ts.length := by omega
          rw [List.take_length] at HS ⊢
          have HBW2 := Lib.hid hbw
          have HRZ : Hid (∀ k, (restN ns ts k).size ≤ maxLen) := fun k => Nat.le_trans (restN_size ns ts k HS.out) (by unfold maxLen; omega)
          have e0 : catN 0 ns ++ catT ts = restN ns ts 0 := rfl
          rw [e0]
          have HO := Lib.hid (oct_read (restN ns ts 0))
          clear e0 hbw HP
          go_wp2_with fail
          refine (HO.out _).mono ?_
          rintro e w2 ⟨rfl, hR2, hb2⟩
          have HR2 := Lib.hid hR2
          have HB2 := Lib.hid (bT HBW2.out hb2)
          have hzr : w.heap.size ≤ wr.heap.size := HBW2.out.size
          clear hR2 hb2
          generalize wr.heap.size = R at *
          go_wp2_with fail
          go_loopw [92] (fun i wx => ∃ k : Nat, k ≤ ns.length ∧ i = .int .i64 k ∧ Rd wx R (restN ns ts k) false ∧ Below w.heap.size w wx) (fun i _ => ns.length - (intOf i).toNat)
          case atStart => exact ⟨0, Nat.zero_le _, rfl, HR2.out, HB2.out⟩
          case round =>
            obtain ⟨k, hk, rfl, hR, hbw⟩ := hrel
            by_cases hlt : k < ns.length
            · have hne : ns.map (fun n => [Value.int IntKind.u64 n]) ≠ [] := by intro h; rw [List.map_eq_nil_iff] at h; rw [h] at hlt; simp at hlt
              obtain ⟨bk, off, rfl, hbk, hcell⟩ := HC0.out hne
              have e0 := hcell k hlt 0 (by omega)
              rw [List.getElem?_map, List.getElem?_eq_getElem hlt] at e0
              have hr := HW0.out _ (List.getElem_mem hlt)
              have hst := restN_step ns ts k hlt
              have hzz := HRZ.out k
              rw [hst] at hR hzz
              clear hst
              generalize ns[k] = n at *
              simp at e0
              have c0 : wr.cell? ⟨bk, off + k, none⟩ = some (.int .u64 n) := (hbw.cell (p := ⟨bk, off + k, none⟩) hbk).trans e0
              obtain ⟨hn0, hn1⟩ := hr
              have HNum := Lib.hid (rnum_cut R k n (restN ns ts (k + 1)) hn0 hn1 hzz wr hR)
              have HBW3 := Lib.hid hbw
              clear e0 hcell hne hbw hR hzz
              by_cases h8 : k % 8 + 1 < 8
              · have hcut := cutN_lt k n h8
                rw [← hcut] at HNum
                have hnz := cutN_nz k h8
                clear hcut hn1
                go_wp2_with fail
                refine HNum.out.mono ?_
                rintro e w5 ⟨rfl, hR5, hk5⟩
                have HR5 := Lib.hid hR5
                have HB5 := Lib.hid (bK HBW3.out hk5 (by rintro i rfl; exact hzr))
                clear hR5 hk5
                go_wp2_with fail
                go_roundw
                case rel => exact ⟨k + 1, by omega, by go_num, HR5.out, HB5.out⟩
                case measure => simp [intOf]; omega
              · have hcut := cutN_ge k n h8
                rw [← hcut] at HNum
                clear hcut hn1
                have h8' : ¬ ((k : Int) % 8 + 1 < 8) := by omega
                go_wp2_with fail
                refine HNum.out.mono ?_
                rintro e w5 ⟨rfl, hR5, hk5⟩
                have HR5 := Lib.hid hR5
                have HB5 := Lib.hid (bK HBW3.out hk5 (by rintro i rfl; exact hzr))
                clear hR5 hk5
                go_wp2_with fail
                go_roundw
                case rel => exact ⟨k + 1, by omega, by go_num, HR5.out, HB5.out⟩
                case measure => simp [intOf]; omega
            · obtain rfl : k = ns.length := by omega
              rw [restN_last] at hR
              have HR3 := Lib.hid hR
              have HB3 := Lib.hid hbw
              clear hR hbw
              go_wp2_with fail
              go_loopw [115] (fun i wy => ∃ k : Nat, k ≤ ts.length ∧ i = .int .i64 k ∧ Rd wy R (catT (ts.drop k)) false ∧ Below w.heap.size w wy) (fun i _ => ts.length - (intOf i).toNat)
              case atStart => exact ⟨0, Nat.zero_le _, rfl, HR3.out, HB3.out⟩
              case round =>
                obtain ⟨k, hk, rfl, hR, hbw⟩ := hrel
                by_cases hlt : k < ts.length
                · have hne : ts.map (fun s => [Value.string s]) ≠ [] := by intro h; rw [List.map_eq_nil_iff] at h; rw [h] at hlt; simp at hlt
                  obtain ⟨bk, off, rfl, hbk, hcell⟩ := HC1.out hne
                  have e0 := hcell k hlt 0 (by omega)
                  rw [List.getElem?_map, List.getElem?_eq_getElem hlt] at e0
                  have hr := HS.out _ (List.getElem_mem hlt)
                  have hzz : (catT (ts.drop k)).size ≤ maxLen := by
                    have := catT_size (ts.drop k) (fun t ht => HS.out t (List.mem_of_mem_drop ht))
                    rw [List.length_drop] at this
                    unfold maxLen; omega
                  rw [catT_drop ts k hlt] at hR hzz
                  generalize ts[k] = t at *
                  simp at e0
                  have c0 : wr.cell? ⟨bk, off + k, none⟩ = some (.string t) := (hbw.cell (p := ⟨bk, off + k, none⟩) hbk).trans e0
                  have HNum := Lib.hid (rtext_cut R t (catT (ts.drop (k + 1))) hr hzz wr hR)
                  have HBW3 := Lib.hid hbw
                  clear e0 hcell hne hbw hR hzz
                  go_wp2_with fail
                  refine HNum.out.mono ?_
                  rintro e w5 ⟨rfl, hR5, hk5⟩
                  have HR5 := Lib.hid hR5
                  have HB5 := Lib.hid (bK HBW3.out hk5 (by rintro i rfl; exact hzr))
                  clear hR5 hk5
                  go_wp2_with fail
                  go_roundw
                  case rel => exact ⟨k + 1, by omega, by go_num, HR5.out, HB5.out⟩
                  case measure => simp [intOf]; omega
                · obtain rfl : k = ts.length := by omega
                  rw [List.drop_length] at hR
                  have HR4 := Lib.hid hR
                  have HB4 := Lib.hid hbw
                  clear hR hbw
                  go_wp2_with fail
                  refine (oct_bad R _ _ _ HR4.out).mono ?_
                  rintro e w5 ⟨rfl, rfl⟩
                  go_wp2_with fail
                  refine (oct_left R _ _ _ HR4.out (Nat.zero_le _)).mono ?_
                  rintro e w5 ⟨rfl, rfl⟩
                  have hl : rdLeft (catT []) false = 0 := rfl
                  go_wp2_with fail
                  go_ret
                  exact ⟨rfl, HB4.out⟩
end Go.Proofs.Ytejekbeonhmbeaa
