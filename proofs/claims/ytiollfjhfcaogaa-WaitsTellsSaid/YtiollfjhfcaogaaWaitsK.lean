import Derived.Test.YtiollfjhfcaogaaWaitsJ
import Derived.Test.YtiollfjhfcaogaaLibC
set_option linter.unusedSimpArgs false
set_option linter.unusedVariables false
namespace Go.Proofs.Ytiollfjhfcaogaa
open Go.RowKit

theorem ints_sl {w : World} {v : Value} {ns : List Int} (h : IntSl w v .i64 ns) : ∃ ad c, v = .slice ad ns.length c ∧ ns.length ≤ maxLen ∧ Ints w ad ns.length (fun j => ns.getD j 0) := by
  obtain ⟨⟨ad, c, rfl, hl, hc⟩, _⟩ := h
  simp only [List.length_map] at hl hc ⊢
  refine ⟨ad, c, rfl, hl, fun j hj => ?_⟩
  obtain ⟨b, off, rfl, hb, hcell⟩ := hc (fun e => by rw [List.map_eq_nil_iff] at e; rw [e] at hj; simp at hj)
  refine ⟨b, off, rfl, hb, ?_⟩
  have := hcell j hj 0 (by omega)
  rw [Nat.mul_one, Nat.add_zero] at this
  show _ = some (Value.int .i64 (ns.getD j 0))
  rw [this, List.getElem?_map, List.getElem?_eq_getElem hj, List.getD_eq_getElem?_getD, List.getElem?_eq_getElem hj]
  rfl
theorem words_sl {w : World} {v : Value} {ns : List Int} (h : IntSl w v .u64 ns) : ∃ ad c, v = .slice ad ns.length c ∧ ns.length ≤ maxLen ∧ Words w ad ns.length (fun j => ((BitVec.ofInt 64 (ns.getD j 0)).toNat : Int)) := by
  obtain ⟨⟨ad, c, rfl, hl, hc⟩, hw⟩ := h
  simp only [List.length_map] at hl hc ⊢
  refine ⟨ad, c, rfl, hl, fun j hj => ?_⟩
  obtain ⟨b, off, rfl, hb, hcell⟩ := hc (fun e => by rw [List.map_eq_nil_iff] at e; rw [e] at hj; simp at hj)
  refine ⟨b, off, rfl, hb, ?_⟩
  have := hcell j hj 0 (by omega)
  rw [Nat.mul_one, Nat.add_zero] at this
  have hmem : ns[j] ∈ ns := List.getElem_mem _
  have hwf := bounds_u64 (hw _ hmem)
  show _ = some (Value.int .u64 ((BitVec.ofInt 64 (ns.getD j 0)).toNat : Int))
  rw [this, List.getElem?_map, List.getElem?_eq_getElem hj, List.getD_eq_getElem?_getD, List.getElem?_eq_getElem hj]
  simp only [Option.map_some, Option.getD_some, List.getElem?_cons_zero]
  congr 2
  rw [BitVec.toNat_ofInt]
  omega
def FoundV (f : Value) (k : Nat) (L : Nat → Int) (v : Int) : Prop := ∃ b : Bool, f = .bool b ∧ (b = true ↔ ∃ j, j < k ∧ L j = v)
def FoundIff (b : Bool) (k : Nat) (L : Nat → Int) (v : Int) : Prop := b = true ↔ ∃ j, j < k ∧ L j = v
set_option maxRecDepth 100000 in
set_option maxHeartbeats 1600000 in
theorem victims_walk' (ad : Option Addr) (m c : Nat) (L : Nat → Int) (hm : m ≤ maxLen) (w : World) (h : Ints w ad m L) :
    Calls Try.prog 6 #[.slice ad m c] w fun e w' => e = .returned (.bool true) ∧ Below w.heap.size w w' := by
  have HA := Lib.hid (awake_true w)
  have HV := Lib.hid (fun w1 => wt_victim ad m c L hm w1)
  have h := Lib.hid h
  unfold maxLen at hm
  go_enter Try.func6, Try.ntmps6
  go_wp2_with fail
  refine (HA.out).mono ?_
  rintro e w1 ⟨rfl, hb⟩
  have hI : Ints w1 ad m L := fun j hj => by
    obtain ⟨g, o, e, hg, hc⟩ := h.out j hj
    exact ⟨g, o, e, Nat.lt_of_lt_of_le hg hb.size, (cell_below hb hg).trans hc⟩
  have HV1 := Lib.hid (HV.out w1 hI)
  have HB := Lib.hid hb
  have hI := Lib.hid hI
  clear hb HA HV
  by_cases h0 : m = 0
  · subst h0
    go_wp2_with fail
    refine (HV1.out).mono ?_
    rintro e w2 ⟨v, -, hv0, rfl, rfl⟩
    obtain rfl := hv0 (by simp)
    clear hv0
    go_wp2_with fail
    go_ret
    exact ⟨rfl, HB.out⟩
  · have h3 : decide (0 < m) = true := by simp; omega
    have hm0 : ((m : Int) == 0) = false := by simpa using h0
    replace h0 := Lib.hid h0
    go_wp2_with fail
    refine (HV1.out).mono ?_
    rintro e w2 ⟨v, hmx, -, rfl, rfl⟩
    have hmx := Lib.hid (hmx (by have := h0.out; omega))
    rw [h3]
    go_wp2_with fail
    go_loopw [26, 5] (fun i f wr => ∃ k : Nat, k ≤ m ∧ i = .int .i64 k ∧ FoundV f k L v ∧ wr = w2) (fun i _ _ => m - (intOf i).toNat)
    case atStart => exact ⟨0, by omega, rfl, ⟨false, rfl, ⟨fun h => (by cases h), fun ⟨j, hj, _⟩ => (by omega)⟩⟩, rfl⟩
    case round =>
      obtain ⟨k, hk, rfl, ⟨b, rfl, hbb⟩, rfl⟩ := hrel
      replace hbb : Hid (FoundIff b k L v) := hbb
      by_cases hkm : k < m
      · obtain ⟨g, o, rfl, hg, c0⟩ := hI.out k hkm
        have hk' : (k : Int) < m := by omega
        have hk0 : (0 : Int) ≤ k := by omega
        have wrk : IntKind.i64.wrap ((k : Int) + 1) = (k : Int) + 1 := by rw [IntKind.wrap_i64]; omega
        have hle := hmx.out.1 k hkm
        obtain ⟨x, ex⟩ : ∃ x, L k = x := ⟨_, rfl⟩
        rw [ex] at c0 hle
        replace ex := Lib.hid ex
        have hnlt : ¬ v < x := by omega
        by_cases hxv : x = v
        · have hq : (x == v) = true := by simpa using hxv
          have hnew : Hid (FoundIff true (k + 1) L v) := ⟨fun _ => ⟨k, by omega, by rw [ex.out]; exact hxv⟩, fun _ => rfl⟩
          replace hxv := Lib.hid hxv
          cases b
          · go_wp2_with fail
            go_roundw
            case rel => exact ⟨k + 1, by omega, rfl, ⟨true, rfl, hnew.out⟩, by simp⟩
            case measure => simp [intOf]; omega
          · go_wp2_with fail
            go_roundw
            case rel => exact ⟨k + 1, by omega, rfl, ⟨true, rfl, hnew.out⟩, by simp⟩
            case measure => simp [intOf]; omega
        · have hq : (x == v) = false := by simpa using hxv
          have hnew : Hid (FoundIff b (k + 1) L v) := by
            refine ⟨fun hb => ?_, fun ⟨j, hj, e⟩ => ?_⟩
            · obtain ⟨j, hj, e⟩ := hbb.out.1 hb
              exact ⟨j, by omega, e⟩
            · refine hbb.out.2 ⟨j, ?_, e⟩
              by_cases e' : j = k
              · subst e'
                exact absurd (ex.out.symm.trans e) hxv
              · omega
          replace hxv := Lib.hid hxv
          cases b
          · go_wp2_with fail
            go_roundw
            case rel => exact ⟨k + 1, by omega, rfl, ⟨false, rfl, hnew.out⟩, by simp⟩
            case measure => simp [intOf]; omega
          · go_wp2_with fail
            go_roundw
            case rel => exact ⟨k + 1, by omega, rfl, ⟨true, rfl, hnew.out⟩, by simp⟩
            case measure => simp [intOf]; omega
      · obtain rfl : k = m := by omega
        have hbt : b = true := hbb.out.2 hmx.out.2
        subst hbt
        go_wp2_with fail
        go_ret
        exact ⟨rfl, HB.out⟩
theorem waitsVictims_walk (v : Value) (ns : List Int) (w : World) (h : IntSl w v .i64 ns) :
    Calls Try.prog 6 #[v] w fun e w' => e = .returned (.bool true) ∧ Below w.heap.size w w' := by
  obtain ⟨ad, c, rfl, hl, hI⟩ := ints_sl h
  exact victims_walk' ad ns.length c _ hl w hI
end Go.Proofs.Ytiollfjhfcaogaa
