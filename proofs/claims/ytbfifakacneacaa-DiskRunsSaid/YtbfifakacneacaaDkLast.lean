import Derived.Test.YtbfifakacneacaaDkUp
import Derived.Test.YtbfifakacneacaaLibF
import Derived.Lib.SmallJoins
import Derived.SizedLaws
set_option linter.unusedSimpArgs false
set_option linter.unusedVariables false
namespace Go.Proofs.Ytbfifakacneacaa
open Go.RowKit

theorem bools_of_trod {H : Type} {enc : TypeId × Value → H} {W : World} {v : Value} {d : DataW H} {p : List MemPlace} (hok : ∃ a l c, v = .slice a l c)
    (h : DataW.Trod enc Try.prog W 0 (fun _ => true) true 23 v d p) : ∃ ks, BoolsAt W W.heap.size v ks := by
  obtain ⟨xs, hs, hd, hx⟩ := Sl_of2 Try.underlying23 (show Try.prog.cellsOf 4 = 1 by kernel_rfl) (by omega) hok h
  have : ∀ x ∈ xs, ∃ b : Bool, x = [Value.bool b] ∧ True := by
    intro x hxm
    obtain ⟨hl, fuel, y, hy⟩ := hx x hxm
    obtain ⟨c, rfl⟩ := len1 hl
    obtain ⟨a, e0, _⟩ := DataW.trod_bool Try.underlying4 hy
    simp at e0
    exact ⟨a, by rw [e0], trivial⟩
  obtain ⟨ks, rfl, -⟩ := list_of this
  exact ⟨ks, bools_at hs⟩
structure LastArg where
  vw : Value
  ss : List ByteArray
  sector : Int
  mine : ByteArray
  vb : Value
  ks : List Bool
def LastAt (W : World) (v : Value) (x : LastArg) : Prop := v = .agg #[x.vw, .int .i64 x.sector, .string x.mine, x.vb] ∧ StrSl W x.vw x.ss ∧ BoolsAt W W.heap.size x.vb x.ks ∧
  (-9223372036854775808 ≤ x.sector ∧ x.sector ≤ 9223372036854775807) ∧ x.mine.size ≤ maxLen
theorem fa1 {H : Type} {enc : TypeId × Value → H} {P : Program} {W : World} {sp : Nat → Bool} {held : Bool} {k : Kd} {ks : List Kd} {cs : List Value} (h : Fa enc P W sp held (k :: ks) cs) : ∃ c r, cs = c :: r ∧ KdOk enc P W sp held k c ∧ Fa enc P W sp held ks r := by
  match cs, h with
  | c :: r, h => exact ⟨c, r, rfl, h.1, h.2⟩
theorem fa0 {H : Type} {enc : TypeId × Value → H} {P : Program} {W : World} {sp : Nat → Bool} {held : Bool} {cs : List Value} (h : Fa enc P W sp held [] cs) : cs = [] := by
  match cs, h with
  | [], _ => rfl
theorem flatLast : flat Try.prog 3 25 = some [.sl 22, .i .i64, .s, .sl 23] := by kernel_rfl
theorem last_of {H : Type} {enc : TypeId × Value → H} {W : World} {base : Nat} {v : Value} {d : DataW H} {p : List MemPlace} (hok : Value.okWide Try.prog W .any base 25 v)
    (h : DataW.Trod enc Try.prog W 0 (fun _ => true) true 25 v d p) (hsz : ∀ n ∈ d.weights Try.prog 25, n ≤ reachBytes) : ∃ x, LastAt W v x ∧ x.ss.length * 16 ≤ 140737488351232 := by
  obtain ⟨cs, rfl, hfa⟩ := agg_of 3 flatLast (by rw [Try.underlying25]) hok h
  obtain ⟨c0, r0, e0, ⟨f0, -⟩, g1⟩ := fa1 hfa
  obtain ⟨c1, r1, rfl, ⟨n, rfl, wn⟩, g2⟩ := fa1 g1
  obtain ⟨c2, r2, rfl, ⟨s, rfl, ws⟩, g3⟩ := fa1 g2
  obtain ⟨c3, r3, rfl, ⟨f3, -⟩, g4⟩ := fa1 g3
  obtain rfl := fa0 g4
  have ec : cs = #[c0, .int .i64 n, .string s, c3] := by rw [← Array.toList_inj, e0]
  subst ec
  obtain ⟨fuel, hf⟩ := h
  obtain ⟨y0, y1, y2, y3, m, he, hl, h0, h1, h2, h3⟩ := Joins.trod_struct4 Try.underlying25 hf
  simp only [Prod.mk.injEq] at he
  obtain ⟨rfl, -⟩ := he
  rw [show Try.prog.cellsOf 22 = 1 by kernel_rfl] at h0
  rw [show Try.prog.cellsOf 23 = 1 by kernel_rfl] at h3
  have hc0 : c0.cells = #[c0] := by obtain ⟨a, l, c, rfl⟩ := f0; rfl
  have hc3 : c3.cells = #[c3] := by obtain ⟨a, l, c, rfl⟩ := f3; rfl
  obtain ⟨ss, S0, hd⟩ := strs_of (v := c0) (d := y0.1) (ps := y0.2) Try.underlying22 Try.underlying9 (by kernel_rfl) f0 ⟨m, by rw [hc0]; exact h0⟩
  obtain ⟨ks, S1⟩ := bools_of_trod (v := c3) (d := y3.1) (p := y3.2) f3 ⟨m, by rw [hc3]; exact h3⟩
  refine ⟨⟨c0, ss, n, s, c3, ks⟩, ⟨rfl, S0, S1, bounds_i64 wn, ws⟩, ?_⟩
  show ss.length * 16 ≤ _
  rcases hd with ⟨_, rfl⟩ | ⟨el, sp, e, hl⟩
  · simp
  · have := hsz ((el.length + sp.length) * Try.prog.bytesOf 9) (by
      rw [e]
      simp [DataW.weights, DataW.weightsEach, Try.underlying25, Try.underlying22])
    rw [show Try.prog.bytesOf 9 = 16 from by kernel_rfl, hl, Nat.add_mul] at this
    have e : reachBytes = 140737488351232 := rfl
    omega
theorem last_pos (x : Int) : ∃ a : Nat, (wrap64 (x.tmod 5 + 5)).tmod 5 = (a : Int) ∧ a < 5 := by
  have h1 : -5 < x.tmod 5 ∧ x.tmod 5 < 5 := by
    constructor
    · exact Int.lt_tmod_of_pos x (by omega)
    · exact Int.tmod_lt_of_pos x (by omega)
  have h2 : wrap64 (x.tmod 5 + 5) = x.tmod 5 + 5 := by unfold wrap64; omega
  rw [h2, Int.tmod_eq_emod_of_nonneg (by omega)]
  exact ⟨((x.tmod 5 + 5) % 5).toNat, by omega, by omega⟩
def LastInv (a : Nat) (M : ByteArray) (k : Nat) (D : Dev) : Prop := D.up ∧ D.firm.length = 5 ∧ D.seen.length = 5 ∧ D.soft.length ≤ k + 1 ∧ D.seen.getD a ⟨#[]⟩ = M
theorem last_write {a : Nat} {M : ByteArray} {k : Nat} {D : Dev} (h : LastInv a M k D) (i : Nat) (hi : i ≠ a) (d : ByteArray) : LastInv a M (k + 1) (D.write i d).1 := by
  obtain ⟨h1, h2, h3, h4, h5⟩ := h
  rw [up_write h1]
  split
  · refine ⟨h1, h2, by show (D.seen.set _ _).length = 5; rw [List.length_set]; exact h3, by show (D.soft ++ _).length ≤ _; simp; omega, ?_⟩
    show (D.seen.set (i : Int).toNat d).getD a ⟨#[]⟩ = M
    rw [Int.toNat_natCast, List.getD_eq_getElem?_getD, List.getElem?_set_ne hi, ← List.getD_eq_getElem?_getD]
    exact h5
  · exact ⟨h1, h2, h3, by show D.soft.length ≤ _; omega, h5⟩
theorem last_mono {a : Nat} {M : ByteArray} {k : Nat} {D : Dev} (h : LastInv a M k D) : LastInv a M (k + 1) D := ⟨h.1, h.2.1, h.2.2.1, by have := h.2.2.2.1; omega, h.2.2.2.2⟩
theorem last_barrier {a : Nat} {M : ByteArray} {k : Nat} {D : Dev} (h : LastInv a M k D) : LastInv a M k D.barrier.1 ∧ D.barrier.2 = 0 := by
  rw [up_barrier h.1]
  exact ⟨⟨h.1, h.2.2.1, h.2.2.1, by simp, h.2.2.2.2⟩, rfl⟩
theorem last_read {a : Nat} {M : ByteArray} {k : Nat} {D : Dev} (ha : a < 5) (h : LastInv a M k D) : D.read (a : Int) = (M, 0) := by
  rw [up_read h.1.2 (a : Int) (by omega) (by rw [h.2.1]; omega), Int.toNat_natCast, h.2.2.2.2]
theorem last_first {a : Nat} {M : ByteArray} (ha : a < 5) (hM : M.size = 64) : ((Dev.new 5).write (a : Int) M).2 = 0 ∧ LastInv a M 0 ((Dev.new 5).write (a : Int) M).1 := by
  rw [up_write (up_new 5), if_pos ⟨by omega, by show (a : Int) < ((Dev.new 5).firm.length : Int); rw [show (Dev.new 5).firm.length = 5 from rfl]; omega, hM⟩]
  refine ⟨rfl, ⟨rfl, rfl⟩, rfl, by show ((Dev.new 5).seen.set _ _).length = 5; rw [List.length_set]; rfl, by show ([] ++ [_]).length ≤ _; simp, ?_⟩
  show ((Dev.new 5).seen.set (a : Int).toNat M).getD a ⟨#[]⟩ = M
  rw [Int.toNat_natCast, List.getD_eq_getElem?_getD, List.getElem?_set_self (by rw [show (Dev.new 5).seen.length = 5 from rfl]; omega)]
  rfl
theorem bools_at_k {w wr : World} {v : Value} {ks : List Bool} (h : BoolsAt w w.heap.size v ks) (hb : Below w.heap.size w wr) (k : Nat) (hk : k < ks.length) :
    ∃ b off c, v = .slice (some ⟨b, off, none⟩) ks.length c ∧ b < w.heap.size ∧ wr.cell? ⟨b, off + k, none⟩ = some (.bool (ks.getD k false)) := by
  obtain ⟨a, c, rfl, -, h3⟩ := h
  obtain ⟨b, off, rfl, hbl, hc⟩ := h3 (by intro e; subst e; simp at hk)
  exact ⟨b, off, c, rfl, hbl, by rw [hb.cell (p := ⟨b, off + k, none⟩) hbl, hc k hk]⟩
end Go.Proofs.Ytbfifakacneacaa
