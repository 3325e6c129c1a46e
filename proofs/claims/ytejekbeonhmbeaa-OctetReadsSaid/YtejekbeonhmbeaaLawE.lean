import Derived.Test.YtejekbeonhmbeaaLawD
import Derived.Test.YtejekbeonhmbeaaLibB
set_option linter.unusedSimpArgs false
set_option linter.unusedVariables false
namespace Go.Proofs.Ytejekbeonhmbeaa
open Go.RowKit

theorem list_of {α β : Type} {f : β → α} {p : β → Prop} : ∀ {xs : List α} (h : ∀ x ∈ xs, ∃ b, x = f b ∧ p b), ∃ bs : List β, xs = bs.map f ∧ ∀ b ∈ bs, p b
  | [], _ => ⟨[], rfl, by simp⟩
  | x :: xs, h => by
    obtain ⟨b, rfl, hb⟩ := h x (by simp)
    obtain ⟨bs, rfl, hbs⟩ := list_of (xs := xs) (fun y hy => h y (by simp [hy]))
    exact ⟨b :: bs, rfl, by simpa using ⟨hb, hbs⟩⟩
def askCells (a : Int × Int) : List Value := [.int .i64 a.1, .int .i64 a.2]
def Asks (w : World) (v : Value) (qs : List (Int × Int)) : Prop := Sl w v 2 (qs.map askCells) ∧ ∀ a ∈ qs, (-9223372036854775808 ≤ a.1 ∧ a.1 ≤ 9223372036854775807) ∧ (-9223372036854775808 ≤ a.2 ∧ a.2 ≤ 9223372036854775807)
theorem Try.cellsAsk : Try.prog.cellsOf 44 = 2 := by kernel_rfl
theorem Try.cellsInt : Try.prog.cellsOf 3 = 1 := by kernel_rfl
theorem asks_of {H : Type} {enc : TypeId × Value → H} {W : World} {base : Nat} {v : Value} {d : DataW H} {p : List MemPlace} (hok : Value.okWide Try.prog W .any base 38 v)
    (h : DataW.Trod enc Try.prog W 0 (fun _ => true) true 38 v d p) : ∃ qs, Asks W v qs := by
  obtain ⟨xs, hs, hx⟩ := Sl_of Try.underlying38 Try.cellsAsk (by omega) (WideShapes.okWide_slice Try.underlying38 hok) h
  have : ∀ x ∈ xs, ∃ a : Int × Int, x = askCells a ∧ ((-9223372036854775808 ≤ a.1 ∧ a.1 ≤ 9223372036854775807) ∧ (-9223372036854775808 ≤ a.2 ∧ a.2 ≤ 9223372036854775807)) := by
    intro x hxm
    obtain ⟨hl, fuel, y, hy⟩ := hx x hxm
    obtain ⟨y0, y1, n, _, _, h0, h1⟩ := ChangeShapes.trod_struct2 Try.underlying44 hy
    match x, hl with
    | [c0, c1], _ =>
      rw [Try.cellsInt] at h0 h1
      obtain ⟨a, e0, _, wa⟩ := DataW.trod_int Try.underlying3 h0
      obtain ⟨b, e1, _, wb⟩ := DataW.trod_int Try.underlying3 h1
      simp at e0 e1
      subst e0 e1
      exact ⟨(a, b), rfl, bounds_i64 wa, bounds_i64 wb⟩
  obtain ⟨qs, rfl, ha⟩ := list_of this
  exact ⟨qs, hs, ha⟩

/-- the reader and the reference's hold the same -/
def Sim (s : ByteArray) (b : Bool) (t : ByteArray) (c : Bool) : Prop := b = c ∧ (b = false → s = t) ∧ (b = true → t = ⟨#[]⟩)
theorem sim_bytes {s t : ByteArray} {b c : Bool} (h : Sim s b t c) (n : Int) : (rdBytes s b n).1 = (rfBytes t c n).1 ∧ Sim (rdBytes s b n).2.1 (rdBytes s b n).2.2 (rfBytes t c n).2.1 (rfBytes t c n).2.2 := by
  obtain ⟨rfl, h2, h3⟩ := h
  cases b with
  | true => rw [rdBytes_no (by simp), rfBytes_no (by simp)]; exact ⟨rfl, rfl, by simp, fun _ => rfl⟩
  | false =>
    obtain rfl := h2 rfl
    by_cases hn : 0 ≤ n ∧ n ≤ s.size
    · rw [rdBytes_yes ⟨rfl, hn⟩, rfBytes_yes ⟨rfl, hn⟩]; exact ⟨rfl, rfl, fun _ => rfl, by simp⟩
    · rw [rdBytes_no (by simpa using hn), rfBytes_no (by simpa using hn)]; exact ⟨rfl, rfl, by simp, fun _ => rfl⟩
theorem sim_num {s t : ByteArray} {b c : Bool} (h : Sim s b t c) (n : Int) : (rdNum s b n).1 = (rfNum t c n).1 ∧ Sim (rdNum s b n).2.1 (rdNum s b n).2.2 (rfNum t c n).2.1 (rfNum t c n).2.2 := by
  unfold rdNum rfNum
  by_cases hn : n < 1 ∨ 8 < n
  · rw [if_pos hn, if_pos hn]; exact ⟨rfl, rfl, by simp, fun _ => rfl⟩
  · rw [if_neg hn, if_neg hn]
    obtain ⟨h1, h2⟩ := sim_bytes h n
    exact ⟨by rw [h1], h2⟩
theorem sim_text {s t : ByteArray} {b c : Bool} (h : Sim s b t c) : (rdText s b).1 = (rfText t c).1 ∧ Sim (rdText s b).2.1 (rdText s b).2.2 (rfText t c).2.1 (rfText t c).2.2 := by
  unfold rdText rfText
  obtain ⟨h1, h2⟩ := sim_num h 1
  rw [← h1]
  exact sim_bytes h2 _
theorem sim_left {s t : ByteArray} {b c : Bool} (h : Sim s b t c) : rdLeft s b = t.size := by
  obtain ⟨rfl, h2, h3⟩ := h
  unfold rdLeft
  cases b with
  | true => rw [h3 rfl]; rfl
  | false => rw [h2 rfl]; rfl
/-- a world by its facts alone -/
theorem name_world {P : Program} {c : Code} {Q : Exit → Act → World → Prop} {a : Act} {W : World} (F : World → Prop) (hF : F W) (h : ∀ W', F W' → c.wp P Q a W') : c.wp P Q a W := h W hF

theorem rdText_size (s : ByteArray) (b : Bool) : (rdText s b).2.1.size ≤ s.size := Nat.le_trans (rdBytes_size _ _ _).1 (rdNum_size s b 1)
theorem rfText_size (s : ByteArray) (b : Bool) : (rfText s b).2.1.size ≤ s.size := Nat.le_trans (rfBytes_size _ _ _) (rfNum_size s b 1)
def ReadInv (w wr : World) (R M : Nat) : Prop :=
  ∃ s b t, Sim s b t b ∧ s.size ≤ maxLen ∧ t.size ≤ maxLen ∧ Rd wr R s b ∧ wr.heap[M]? = some (.cells #[.string t, .bool b] 42 (0, 0)) ∧ Below w.heap.size w wr

set_option maxRecDepth 100000 in
set_option maxHeartbeats 1000000 in
theorem octetReads_walk (s : ByteArray) (v : Value) (qs : List (Int × Int)) (hs : s.size ≤ maxLen) (w : World) (S : Asks w v qs) :
    Calls Try.prog 6 #[.string s, v] w fun e w' => e = .returned (.bool true) ∧ Below w.heap.size w w' := by
  obtain ⟨S, hb⟩ := S
  obtain ⟨a, cap, rfl, hlen, hc⟩ := S
  rw [List.length_map] at hlen hc ⊢
  have HC := Lib.hid hc
  have HB := Lib.hid hb
  clear hc hb
  have hm : (qs.length : Int) ≤ 9223372036854775807 := by unfold maxLen at hlen; omega
  go_enter Try.func6, Try.ntmps6
  go_wp2_with fail
  refine (awake01 _).mono ?_
  rintro e w1 ⟨rfl, hb1⟩
  go_wp2_with fail
  refine (oct_read s _).mono ?_
  rintro e w2 ⟨rfl, hR2, hb2⟩
  have HR2 := Lib.hid hR2
  have hz2 : w1.heap.size < w2.heap.size := block_lt hR2
  have hz1 : w.heap.size ≤ w1.heap.size := hb1.size
  clear hR2
  go_wp2_with fail
  go_loopw [27] (fun i wr => ∃ k : Nat, k ≤ qs.length ∧ i = .int .i64 k ∧ ReadInv w wr w1.heap.size w2.heap.size) (fun i _ => qs.length - (intOf i).toNat)
  case atStart => exact ⟨0, Nat.zero_le _, rfl, s, false, s, ⟨rfl, fun _ => rfl, by simp⟩, hs, hs, hO HR2.out, hN rfl, bA (bT hb1 hb2)⟩
  case round =>
    obtain ⟨k, hk, rfl, ⟨s, b, t, hsim, hss, hts, hR, hM, hbw⟩⟩ := hrel
    have hz3 : w2.heap.size < wr.heap.size := block_lt hM
    by_cases hlt : k < qs.length
    · have hne : qs.map askCells ≠ [] := by intro h; rw [List.map_eq_nil_iff] at h; rw [h] at hlt; simp at hlt
      obtain ⟨bk, off, rfl, hbk, hcell⟩ := HC.out hne
      have e0 := hcell k hlt 0 (by omega)
      have e1 := hcell k hlt 1 (by omega)
      rw [List.getElem?_map, List.getElem?_eq_getElem hlt] at e0 e1
      have b1 := (HB.out _ (List.getElem_mem hlt)).1
      have b2 := (HB.out _ (List.getElem_mem hlt)).2
      generalize qs[k] = q at *
      obtain ⟨kind, n⟩ := q
      simp [askCells] at e0 e1 b1 b2
      have c0 : wr.cell? ⟨bk, off + k * 2, none⟩ = some (.int .i64 kind) := (hbw.cell (p := ⟨bk, off + k * 2, none⟩) hbk).trans e0
      have c1 : wr.cell? ⟨bk, off + k * 2 + 1, none⟩ = some (.int .i64 n) := (hbw.cell (p := ⟨bk, off + k * 2 + 1, none⟩) hbk).trans e1
      have hoff : bk < wr.heap.size := Nat.lt_of_lt_of_le hbk hbw.size
      clear e0 e1 hcell hne
      have HR := Lib.hid hR
      have HM := Lib.hid hM
      have HBW := Lib.hid hbw
      clear hR hM hbw
      by_cases k0 : kind = 0
      · subst k0
        have H1 := Lib.hid (fun w h => oct_bytes w1.heap.size s b n w h hss)
        have H2 := Lib.hid (fun w => ref_bytes t b n w hts)
        have z1 : (rdBytes s b n).2.1.size ≤ s.size := (rdBytes_size s b n).1
        have z2 : (rfBytes t b n).2.1.size ≤ t.size := rfBytes_size t b n
        obtain ⟨hx, hsim'⟩ := sim_bytes hsim n
        generalize rdBytes s b n = r at *
        generalize rfBytes t b n = r' at *
        obtain ⟨x, s', b'⟩ := r
        obtain ⟨y, t', c'⟩ := r'
        dsimp only at *
        obtain ⟨rfl, hst, hem⟩ := hsim'
        subst hx
        go_wp2_with fail
        refine (H1.out _ (hO HR.out)).mono ?_
        rintro e w4 ⟨rfl, hR4, hk4⟩
        have hM4 := hk4.keep (hO HM.out) (by omega)
        have hA4 := hk4.keep (hN rfl) (by omega)
        obtain ⟨m0, m1, m2, m3⟩ := two_at hM4
        obtain ⟨a0, a1, a2, a3⟩ := two_at hA4
        have HR4 := Lib.hid hR4
        have HM4 := Lib.hid hM4
        have HA4 := Lib.hid hA4
        clear hR4 hM4 hA4
        go_wp2_with fail
        refine (H2.out _).mono ?_
        rintro e w5 ⟨rfl, hb5⟩
        have hM5 := hBs hb5 HM4.out
        have hA5 := hBs hb5 HA4.out
        have hz5 := block_lt hM5
        clear m0 m1 m2 m3 a0 a1 a2 a3
        obtain ⟨m0, m1, m2, m3⟩ := two_at hM5
        obtain ⟨a0, a1, a2, a3⟩ := two_at hA5
        have HR5 := Lib.hid (hBs hb5 HR4.out)
        have HM5 := Lib.hid hM5
        clear hM5 hA5
        go_wp2_with fail
        refine name_world (fun W => ReadInv w W w1.heap.size w2.heap.size) ?_ ?_
        · refine ⟨s', b', t', ⟨rfl, hst, hem⟩, Nat.le_trans z1 hss, Nat.le_trans z2 hts, ?_, ?_, ?_⟩
          · exact hO (hSO (hSO HR5.out (by simp; omega)) (by simp; omega))
          · exact hO (heap_set (heap_set HM5.out 0 _) 1 _)
          · refine bA (bS (bS (bT (bK (bA HBW.out) hk4 ?_) hb5) ?_) ?_)
            · rintro i rfl; exact hz1
            · simp; omega
            · simp; omega
        rintro W ⟨s, b, t, hsim, hss, hts, hR, hM, hbw⟩
        obtain ⟨m0, m1, m2, m3⟩ := two_at hM
        have hl : (rdLeft s b != (t.size : Int)) = false := by rw [sim_left hsim]; simp
        have H3 := Lib.hid (oct_bad w1.heap.size s b)
        have H4 := Lib.hid (fun w h => oct_left w1.heap.size s b w h hss)
        have HR := Lib.hid hR
        have HI : Hid (∀ n, ReadInv w (W.drewN n) w1.heap.size w2.heap.size) := fun n => ⟨s, b, t, hsim, hss, hts, hR, hM, bDN hbw n⟩
        clear hR hM hbw hsim
        go_quiet ((first | (go_at_call 23; exact quiet_same (H3.out _ HR.out)) | (go_at_call 24; exact quiet_same (H4.out _ HR.out))))
        go_wp2_with fail
        go_roundw
        case rel => exact ⟨k + 1, by omega, by go_num, HI.out _⟩
        case measure => simp [intOf]; omega
      by_cases k1 : kind = 1
      · subst k1
        have H1 := Lib.hid (fun w h => oct_rnum w1.heap.size s b n w h hss)
        have H2 := Lib.hid (fun w => ref_rnum t b n w hts)
        have z1 : (rdNum s b n).2.1.size ≤ s.size := rdNum_size s b n
        have z2 : (rfNum t b n).2.1.size ≤ t.size := rfNum_size t b n
        obtain ⟨hx, hsim'⟩ := sim_num hsim n
        generalize rdNum s b n = r at *
        generalize rfNum t b n = r' at *
        obtain ⟨x, s', b'⟩ := r
        obtain ⟨y, t', c'⟩ := r'
        dsimp only at *
        obtain ⟨rfl, hst, hem⟩ := hsim'
        subst hx
        go_wp2_with fail
        refine (H1.out _ (hO HR.out)).mono ?_
        rintro e w4 ⟨rfl, hR4, hk4⟩
        have hM4 := hk4.keep (hO HM.out) (by omega)
        have hA4 := hk4.keep (hN rfl) (by omega)
        obtain ⟨m0, m1, m2, m3⟩ := two_at hM4
        obtain ⟨a0, a1, a2, a3⟩ := two_at hA4
        have HR4 := Lib.hid hR4
        have HM4 := Lib.hid hM4
        have HA4 := Lib.hid hA4
        clear hR4 hM4 hA4
        go_wp2_with fail
        refine (H2.out _).mono ?_
        rintro e w5 ⟨rfl, hb5⟩
        have hM5 := hBs hb5 HM4.out
        have hA5 := hBs hb5 HA4.out
        have hz5 := block_lt hM5
        clear m0 m1 m2 m3 a0 a1 a2 a3
        obtain ⟨m0, m1, m2, m3⟩ := two_at hM5
        obtain ⟨a0, a1, a2, a3⟩ := two_at hA5
        have HR5 := Lib.hid (hBs hb5 HR4.out)
        have HM5 := Lib.hid hM5
        clear hM5 hA5
        go_wp2_with fail
        refine name_world (fun W => ReadInv w W w1.heap.size w2.heap.size) ?_ ?_
        · refine ⟨s', b', t', ⟨rfl, hst, hem⟩, Nat.le_trans z1 hss, Nat.le_trans z2 hts, ?_, ?_, ?_⟩
          · exact hO (hSO (hSO HR5.out (by simp; omega)) (by simp; omega))
          · exact hO (heap_set (heap_set HM5.out 0 _) 1 _)
          · refine bA (bS (bS (bT (bK (bA HBW.out) hk4 ?_) hb5) ?_) ?_)
            · rintro i rfl; exact hz1
            · simp; omega
            · simp; omega
        rintro W ⟨s, b, t, hsim, hss, hts, hR, hM, hbw⟩
        obtain ⟨m0, m1, m2, m3⟩ := two_at hM
        have hl : (rdLeft s b != (t.size : Int)) = false := by rw [sim_left hsim]; simp
        have H3 := Lib.hid (oct_bad w1.heap.size s b)
        have H4 := Lib.hid (fun w h => oct_left w1.heap.size s b w h hss)
        have HR := Lib.hid hR
        have HI : Hid (∀ n, ReadInv w (W.drewN n) w1.heap.size w2.heap.size) := fun n => ⟨s, b, t, hsim, hss, hts, hR, hM, bDN hbw n⟩
        clear hR hM hbw hsim
        go_quiet ((first | (go_at_call 23; exact quiet_same (H3.out _ HR.out)) | (go_at_call 24; exact quiet_same (H4.out _ HR.out))))
        go_wp2_with fail
        go_roundw
        case rel => exact ⟨k + 1, by omega, by go_num, HI.out _⟩
        case measure => simp [intOf]; omega
      by_cases k2 : kind = 2
      · subst k2
        have H1 := Lib.hid (fun w h => oct_rtext w1.heap.size s b w h hss)
        have H2 := Lib.hid (fun w => ref_rtext t b w hts)
        have z1 : (rdText s b).2.1.size ≤ s.size := rdText_size s b
        have z2 : (rfText t b).2.1.size ≤ t.size := rfText_size t b
        obtain ⟨hx, hsim'⟩ := sim_text hsim
        generalize rdText s b = r at *
        generalize rfText t b = r' at *
        obtain ⟨x, s', b'⟩ := r
        obtain ⟨y, t', c'⟩ := r'
        dsimp only at *
        obtain ⟨rfl, hst, hem⟩ := hsim'
        subst hx
        go_wp2_with fail
        refine (H1.out _ (hO HR.out)).mono ?_
        rintro e w4 ⟨rfl, hR4, hk4⟩
        have hM4 := hk4.keep (hO HM.out) (by omega)
        have hA4 := hk4.keep (hN rfl) (by omega)
        obtain ⟨m0, m1, m2, m3⟩ := two_at hM4
        obtain ⟨a0, a1, a2, a3⟩ := two_at hA4
        have HR4 := Lib.hid hR4
        have HM4 := Lib.hid hM4
        have HA4 := Lib.hid hA4
        clear hR4 hM4 hA4
        go_wp2_with fail
        refine (H2.out _).mono ?_
        rintro e w5 ⟨rfl, hb5⟩
        have hM5 := hBs hb5 HM4.out
        have hA5 := hBs hb5 HA4.out
        have hz5 := block_lt hM5
        clear m0 m1 m2 m3 a0 a1 a2 a3
        obtain ⟨m0, m1, m2, m3⟩ := two_at hM5
        obtain ⟨a0, a1, a2, a3⟩ := two_at hA5
        have HR5 := Lib.hid (hBs hb5 HR4.out)
        have HM5 := Lib.hid hM5
        clear hM5 hA5
        go_wp2_with fail
        refine name_world (fun W => ReadInv w W w1.heap.size w2.heap.size) ?_ ?_
        · refine ⟨s', b', t', ⟨rfl, hst, hem⟩, Nat.le_trans z1 hss, Nat.le_trans z2 hts, ?_, ?_, ?_⟩
          · exact hO (hSO (hSO HR5.out (by simp; omega)) (by simp; omega))
          · exact hO (heap_set (heap_set HM5.out 0 _) 1 _)
          · refine bA (bS (bS (bT (bK (bA HBW.out) hk4 ?_) hb5) ?_) ?_)
            · rintro i rfl; exact hz1
            · simp; omega
            · simp; omega
        rintro W ⟨s, b, t, hsim, hss, hts, hR, hM, hbw⟩
        obtain ⟨m0, m1, m2, m3⟩ := two_at hM
        have hl : (rdLeft s b != (t.size : Int)) = false := by rw [sim_left hsim]; simp
        have H3 := Lib.hid (oct_bad w1.heap.size s b)
        have H4 := Lib.hid (fun w h => oct_left w1.heap.size s b w h hss)
        have HR := Lib.hid hR
        have HI : Hid (∀ n, ReadInv w (W.drewN n) w1.heap.size w2.heap.size) := fun n => ⟨s, b, t, hsim, hss, hts, hR, hM, bDN hbw n⟩
        clear hR hM hbw hsim
        go_quiet ((first | (go_at_call 23; exact quiet_same (H3.out _ HR.out)) | (go_at_call 24; exact quiet_same (H4.out _ HR.out))))
        go_wp2_with fail
        go_roundw
        case rel => exact ⟨k + 1, by omega, by go_num, HI.out _⟩
        case measure => simp [intOf]; omega
      · have e0 : (kind == 0) = false := by simp [k0]
        have e1 : (kind == 1) = false := by simp [k1]
        have e2 : (kind == 2) = false := by simp [k2]
        clear k0 k1 k2
        go_wp2_with fail
        refine name_world (fun W => ReadInv w W w1.heap.size w2.heap.size) ?_ ?_
        · exact ⟨s, b, t, hsim, hss, hts, hO HR.out, hO HM.out, bA HBW.out⟩
        rintro W ⟨s, b, t, hsim, hss, hts, hR, hM, hbw⟩
        obtain ⟨m0, m1, m2, m3⟩ := two_at hM
        have hl : (rdLeft s b != (t.size : Int)) = false := by rw [sim_left hsim]; simp
        have H3 := Lib.hid (oct_bad w1.heap.size s b)
        have H4 := Lib.hid (fun w h => oct_left w1.heap.size s b w h hss)
        have HR := Lib.hid hR
        have HI : Hid (∀ n, ReadInv w (W.drewN n) w1.heap.size w2.heap.size) := fun n => ⟨s, b, t, hsim, hss, hts, hR, hM, bDN hbw n⟩
        clear hR hM hbw hsim
        go_quiet ((first | (go_at_call 23; exact quiet_same (H3.out _ HR.out)) | (go_at_call 24; exact quiet_same (H4.out _ HR.out))))
        go_wp2_with fail
        go_roundw
        case rel => exact ⟨k + 1, by omega, by go_num, HI.out _⟩
        case measure => simp [intOf]; omega
    · obtain rfl : k = qs.length := by omega
      have HBW := Lib.hid hbw
      clear hR hM hbw HC
      go_wp2_with (first | (go_at_call 23; refine (oct_bad_nil _).mono ?_; rintro e w' ⟨rfl, rfl⟩) | (go_at_call 24; refine (oct_left_nil _).mono ?_; rintro e w' ⟨rfl, rfl⟩) | (go_at_call 21; refine (oct_rtext_nil _).mono ?_; rintro e w' ⟨rfl, rfl⟩) | (go_at_call 19; refine (oct_rnum_nil _ _).mono ?_; rintro e w' ⟨rfl, rfl⟩) | (go_at_call 17; refine (oct_bytes_nil _ _).mono ?_; rintro e w' ⟨rfl, rfl⟩))
      go_ret
      exact ⟨rfl, HBW.out⟩
end Go.Proofs.Ytejekbeonhmbeaa
