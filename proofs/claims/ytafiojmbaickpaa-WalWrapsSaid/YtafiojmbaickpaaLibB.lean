import Derived.Test.YtafiojmbaickpaaLib
import Derived.Deep.QuietTactic
import Derived.BigQuiet
import Derived.ProofKit
import Derived.OpenShut
import Derived.Deep.Slices
set_option linter.unusedSimpArgs false
set_option linter.unusedVariables false
namespace Go.Proofs.Ytafiojmbaickpaa
open Go.RowKit

/-- a callee that leaves the world alone, inside a region that draws -/
theorem quiet_same {P : Program} {f : FuncId} {args : Array Value} {w : World} {n : Nat} {v : Value}
    (h : Calls P f args (w.drewN n) fun e w' => e = .returned v ∧ w.drewN n = w') : Calls P f args (w.drewN n) fun e w'' => e = .returned v ∧ ∃ m, w'' = w.drewN m :=
  h.mono fun _ _ ⟨he, hm⟩ => ⟨he, n, hm.symm⟩
theorem heap_drewN (w : World) (n : Nat) : (w.drewN n).heap = w.heap := rfl
theorem bDN {B : Nat} {a w : World} (h : Below B a w) (n : Nat) : Below B a (w.drewN n) := ⟨h.os, h.tape, h.output, h.size, h.block⟩
theorem two_at {w : World} {b : Nat} {x y : Value} {T : TypeId} (h : w.heap[b]? = some (.cells #[x, y] T (0, 0))) :
    w.cell? ⟨b, 0, none⟩ = some x ∧ w.cell? ⟨b, 1, none⟩ = some y ∧ w.frozen? ⟨b, 0, none⟩ = false ∧ w.frozen? ⟨b, 1, none⟩ = false :=
  ⟨cell_at h 0, cell_at h 1, free_at h 0, free_at h 1⟩

/-! ### a slice that came in: n cells an element; xs: the elements' cells -/
def Sl (w : World) (v : Value) (n : Nat) (xs : List (List Value)) : Prop :=
  ∃ a cap, v = .slice a xs.length cap ∧ xs.length ≤ maxLen ∧ (xs ≠ [] → ∃ b off, a = some ⟨b, off, none⟩ ∧ b < w.heap.size ∧ ∀ i, i < xs.length → ∀ j, j < n → w.cell? ⟨b, off + i * n + j, none⟩ = (xs[i]?.getD [])[j]?)
theorem mapM_some {α β : Type} {f : α → Option β} : ∀ {l : List α} {r : List β}, l.mapM f = some r → r.length = l.length ∧ ∀ (j : Nat) (a : α), l[j]? = some a → f a = r[j]?
  | [], r, h => by simp at h; subst h; simp
  | x :: l, r, h => by
    simp only [List.mapM_cons, Option.bind_eq_bind, Option.bind_eq_some_iff] at h
    obtain ⟨y, hy, ys, hys, hr⟩ := h
    obtain rfl : y :: ys = r := by simpa using hr
    obtain ⟨h1, h2⟩ := mapM_some hys
    refine ⟨by simp [h1], fun j a ha => ?_⟩
    cases j with
    | zero => simp at ha; subst ha; simpa using hy
    | succ j => simpa using h2 j a (by simpa using ha)
theorem cells?_at {w : World} {a : Addr} {n : Nat} {cs : List Value} (h : w.cells? 0 a n = some cs) : cs.length = n ∧ ∀ j, j < n → w.cell? (a.add j) = cs[j]? := by
  unfold World.cells? at h
  rw [if_pos (Nat.zero_le _)] at h
  obtain ⟨h1, h2⟩ := mapM_some h
  exact ⟨by simpa using h1, fun j hj => h2 j j (by simp [hj])⟩
theorem Sl_of {H : Type} {enc : TypeId × Value → H} {P : Program} {W : World} {sp : Nat → Bool} {held : Bool} {t e : TypeId} {v : Value} {d : DataW H} {ps : List MemPlace} {n : Nat} (ht : P.underlying t = some (.slice e)) (hn : P.cellsOf e = n) (hpos : 0 < n)
    (hok : ∃ a len cap, v = .slice a len cap) (h : DataW.Trod enc P W 0 sp held t v d ps) :
    ∃ xs : List (List Value), Sl W v n xs ∧ ∀ x ∈ xs, x.length = n ∧ ∃ fuel y, DataW.trod enc P W 0 sp held fuel e x = some y := by
  obtain ⟨fuel, hf⟩ := h
  obtain ⟨a, len, cap, rfl⟩ := hok
  rcases Deep.open_slice ht hf with ⟨hcs, _⟩ | ⟨a', len', cap', m, k, D, Pl, hcs, _, hl, hm, hmm, hx, hel⟩
  · simp [Value.cells] at hcs
    obtain ⟨rfl, rfl, rfl⟩ := hcs
    exact ⟨[], ⟨none, 0, rfl, Nat.zero_le _, fun h => (h rfl).elim⟩, by simp⟩
  · simp [Value.cells] at hcs
    obtain ⟨rfl, rfl, rfl⟩ := hcs
    rw [hn] at hel
    have hlm : len ≤ m := by rw [hmm]; split <;> omega
    let xs : List (List Value) := (List.range len).map fun i => (W.cells? 0 (a'.add (i * n)) n).getD []
    have hlen : xs.length = len := by simp [xs]
    have hget : ∀ i, i < len → ∃ cs, xs[i]? = some cs ∧ W.cells? 0 (a'.add (i * n)) n = some cs ∧ ∃ y, DataW.trod enc P W 0 sp held k e cs = some y := by
      intro i hi
      obtain ⟨cs, h1, h2⟩ := hel i (by omega)
      exact ⟨cs, by simp [xs, hi, h1], h1, _, h2⟩
    refine ⟨xs, ⟨some a', cap, by rw [hlen], by omega, fun hne => ?_⟩, ?_⟩
    · have h0 : 0 < len := by
        rcases Nat.eq_zero_or_pos len with h | h
        · exact (hne (List.eq_nil_of_length_eq_zero (by rw [hlen, h]))).elim
        · exact h
      obtain ⟨cs0, _, hc0, _⟩ := hget 0 h0
      have hz := (cells?_at hc0).2 0 hpos
      have hl0 := (cells?_at hc0).1
      have hsome : W.cell? a' = some (cs0[0]'(by omega)) := by
        simpa [Addr.add, List.getElem?_eq_getElem (show 0 < cs0.length by omega)] using hz
      have hspot : a'.spot = none := World.cell?_spot hsome
      obtain ⟨b, off, sp'⟩ := a'
      dsimp only at hspot
      subst hspot
      refine ⟨b, off, rfl, World.block_lt_of_cell? W _ hsome, fun i hi j hj => ?_⟩
      obtain ⟨cs, h1, h2, _⟩ := hget i (by omega)
      have := (cells?_at h2).2 j hj
      rw [h1]
      rw [← show (Addr.add (Addr.add ⟨b, off, none⟩ (i * n)) j) = ⟨b, off + i * n + j, none⟩ from by unfold Addr.add; split <;> split <;> simp_all]
      exact this
    · intro x hx
      simp only [xs, List.mem_map, List.mem_range] at hx
      obtain ⟨i, hi, rfl⟩ := hx
      obtain ⟨cs, _, h2, y, h3⟩ := hget i hi
      rw [h2]
      exact ⟨(cells?_at h2).1, k, y, h3⟩
/-- what is read of a slice's element in a later world -/
theorem Sl.later {w w' : World} {v : Value} {n : Nat} {xs : List (List Value)} (h : Sl w v n xs) (hb : Below w.heap.size w w') : Sl w' v n xs := by
  obtain ⟨a, cap, hv, hl, hx⟩ := h
  refine ⟨a, cap, hv, hl, fun hne => ?_⟩
  obtain ⟨b, off, ha, hbk, hc⟩ := hx hne
  exact ⟨b, off, ha, Nat.lt_of_lt_of_le hbk hb.size, fun i hi j hj => (hb.cell (p := ⟨b, off + i * n + j, none⟩) hbk).trans (hc i hi j hj)⟩

end Go.Proofs.Ytafiojmbaickpaa
