import Derived.Test.YtgeoblejfkoldaaLawH
set_option linter.unusedSimpArgs false
set_option linter.unusedVariables false
namespace Go.Proofs.Ytgeoblejfkoldaa
open Go.RowKit

def byteL (s : ByteArray) : List Int := s.data.toList.map fun b => (b.toNat : Int)
/-- block B holds the bytes l, and may be written there -/
def BytesAt (w : World) (e : TypeId) (B : Nat) (l : List Int) : Prop :=
  ∃ (C : Array Value) (f : Nat × Nat), w.heap[B]? = some (.cells C e f) ∧ l.length ≤ C.size ∧ l.length ≤ f.1 ∧ ∀ j, j < l.length → C[j]? = some (.int .u8 (l.getD j 0))
theorem BytesAt.cell {w : World} {e : TypeId} {B : Nat} {l : List Int} (h : BytesAt w e B l) (j : Nat) (hj : j < l.length) : w.cell? ⟨B, j, none⟩ = some (.int .u8 (l.getD j 0)) := by
  obtain ⟨C, f, h1, h2, h3, h4⟩ := h
  rw [cell_at h1]; exact h4 j hj
theorem BytesAt.free {w : World} {e : TypeId} {B : Nat} {l : List Int} (h : BytesAt w e B l) (j : Nat) (hj : j < l.length) : w.frozen? ⟨B, j, none⟩ = false := by
  obtain ⟨C, f, h1, h2, h3, h4⟩ := h
  obtain ⟨a, b⟩ := f
  simp only [World.frozen?, h1]
  simp at h3 ⊢; omega
theorem BytesAt.set {w : World} {e : TypeId} {B : Nat} {l : List Int} (h : BytesAt w e B l) (j : Nat) (x : Int) : BytesAt (w.setCell ⟨B, j, none⟩ (.int .u8 x)) e B (l.set j x) := by
  obtain ⟨C, f, h1, h2, h3, h4⟩ := h
  refine ⟨C.setIfInBounds j (.int .u8 x), f, heap_set h1 j _, by simpa using h2, by simpa using h3, fun i hi => ?_⟩
  rw [List.length_set] at hi
  have := h4 i hi
  by_cases hij : j = i
  · subst hij
    rw [Array.getElem?_setIfInBounds_self]
    have hC : j < C.size := by omega
    simp [hC, List.getD, hi]
  · rw [Array.getElem?_setIfInBounds_ne hij, this]
    simp [List.getD, List.getElem?_set_ne hij]
theorem BytesAt.keep {S : Nat → Prop} {w w' : World} {e : TypeId} {B : Nat} {l : List Int} (h : BytesAt w e B l) (hk : Keeps S w w') (hS : ¬ S B) : BytesAt w' e B l := by
  obtain ⟨C, f, h1, h2⟩ := h
  exact ⟨C, f, hk.keep h1 hS, h2⟩
theorem BytesAt.str {P : Program} {w : World} {e : TypeId} {B : Nat} {l : List Int} (h : BytesAt w e B l) (src : TypeId) (hs : P.underlying src = some (.slice e)) (he : P.underlying e = some (.int .u8)) (len cap : Nat) (hl : l.length = len) :
    ∀ dst, P.underlying dst = some .string → (convert src dst (.slice (some ⟨B, 0, none⟩) len cap)).run P w = .ok (.string (strOfNums l)) w :=
  run_convert_bytes_arg (P := P) w src e hs he B 0 len cap l hl (fun i hi => by rw [Nat.zero_add]; exact h.cell i (by omega))
theorem bytesAt_new (w : World) (e : TypeId) (s : ByteArray) (cap : Nat) (hc : s.size ≤ cap) :
    BytesAt (w.alloc (.cells (bytesRow s cap) e ((bytesRow s cap).size, (bytesRow s cap).size + 1))) e w.heap.size (byteL s) := by
  have hl : (byteL s).length = s.size := by unfold byteL; rw [List.length_map, Array.length_toList]; rfl
  have hz : (bytesRow s cap).size = cap := by
    unfold bytesRow
    rw [Array.size_append, Array.size_map, Array.size_replicate]
    show s.size + (cap - s.size) = cap
    omega
  refine ⟨_, _, hN rfl, by omega, by show _ ≤ (bytesRow s cap).size; omega, ?_⟩
  intro j hj
  have hjs : j < s.data.size := by have : s.data.size = s.size := rfl; omega
  unfold bytesRow byteL
  rw [Array.getElem?_append_left (by simpa using hjs)]
  rw [Array.getElem?_map, List.getD_eq_getElem?_getD, List.getElem?_map, Array.getElem?_toList, Array.getElem?_eq_getElem hjs]
  rfl
theorem byteL_length (s : ByteArray) : (byteL s).length = s.size := by unfold byteL; rw [List.length_map, Array.length_toList]; rfl
/-- one byte set -/
def setB (s : ByteArray) (j : Nat) (x : Int) : ByteArray := strOfNums ((byteL s).set j x)
theorem setB_size (s : ByteArray) (j : Nat) (x : Int) : (setB s j x).size = s.size := by unfold setB; rw [strOfNums_size, List.length_set, byteL_length]
theorem setB_list (s : ByteArray) (j : Nat) (x : Int) : (setB s j x).data.toList = s.data.toList.set j (UInt8.ofNat x.toNat) := by
  unfold setB byteL
  rw [strOfNums_data]
  apply List.ext_getElem?
  intro i
  rw [List.getElem?_map, List.getElem?_set, List.getElem?_set, List.length_map]
  split
  · split <;> simp
  · rw [List.getElem?_map]
    cases s.data.toList[i]? <;> simp
theorem tl_list (s : ByteArray) : (tl s).toList = (s.data.toList.drop 56).take 8 := by
  unfold tl
  rw [ByteArray.toList_eq]
  simp
theorem xor_moves (c : Nat) (k : Nat) (hc : c < 256) (hk : k < 8) (m : Int) (hm : m = 2 ^ k) : bits .xor .u8 (c : Int) m ≠ (c : Int) ∧ 0 ≤ bits .xor .u8 (c : Int) m ∧ bits .xor .u8 (c : Int) m < 256 := by
  subst hm
  have key : ∀ c : Fin 256, ∀ k : Fin 8, bits .xor .u8 ((c.val : Nat) : Int) (2 ^ k.val) ≠ ((c.val : Nat) : Int) ∧ 0 ≤ bits .xor .u8 ((c.val : Nat) : Int) (2 ^ k.val) ∧ bits .xor .u8 ((c.val : Nat) : Int) (2 ^ k.val) < 256 := by decide +kernel
  exact key ⟨c, hc⟩ ⟨k, hk⟩
theorem tlSame_set (s t : ByteArray) (hs : s.size = 64) (p : Nat) (hp : p < 8) (x : Int) (hx0 : 0 ≤ x) (hx1 : x < 256) (ht : tl t = tl s) (hne : x ≠ (byteL s).getD (56 + p) 0) :
    tlSame (setB s (56 + p) x) t = false ∧ tlSame t (setB s (56 + p) x) = false := by
  have hl : s.data.toList.length = 64 := by rw [Array.length_toList]; exact hs
  have key : (tl (setB s (56 + p) x)).toList ≠ (tl t).toList := by
    intro h
    rw [ht, tl_list, tl_list, setB_list] at h
    have h2 := congrArg (fun l => l[p]?) h
    simp only [List.getElem?_take, List.getElem?_drop, hp, if_true, List.getElem?_set, hl] at h2
    rw [if_pos (by omega), List.getElem?_eq_getElem (by omega)] at h2
    have h3 := congrArg UInt8.toNat (Option.some.inj h2)
    rw [UInt8.toNat_ofNat'] at h3
    apply hne
    unfold byteL
    rw [List.getD_eq_getElem?_getD, List.getElem?_map, List.getElem?_eq_getElem (by omega)]
    simp only [Option.map_some, Option.getD_some]
    omega
  refine ⟨?_, ?_⟩
  · rw [tlSame_eq]; simpa using key
  · rw [tlSame_eq]; simpa using fun h => key h.symm
theorem frOpen_torn (b : ByteArray) (st : Int) (h : b.size = 224) (p : Nat) (hp : p < 8) (x : Int) (hx0 : 0 ≤ x) (hx1 : x < 256) :
    (x ≠ (byteL (sec b st 0)).getD (56 + p) 0 → frOpen (setB (sec b st 0) (56 + p) x) (sec b st 1) (sec b st 2) (sec b st 3) = (⟨#[]⟩, 0, 30)) ∧
    (x ≠ (byteL (sec b st 1)).getD (56 + p) 0 → frOpen (sec b st 0) (setB (sec b st 1) (56 + p) x) (sec b st 2) (sec b st 3) = (⟨#[]⟩, 0, 30)) ∧
    (x ≠ (byteL (sec b st 2)).getD (56 + p) 0 → frOpen (sec b st 0) (sec b st 1) (setB (sec b st 2) (56 + p) x) (sec b st 3) = (⟨#[]⟩, 0, 30)) ∧
    (x ≠ (byteL (sec b st 3)).getD (56 + p) 0 → frOpen (sec b st 0) (sec b st 1) (sec b st 2) (setB (sec b st 3) (56 + p) x) = (⟨#[]⟩, 0, 30)) := by
  have z0 := sec_size b st 0 h (by omega)
  have z1 := sec_size b st 1 h (by omega)
  have z2 := sec_size b st 2 h (by omega)
  have z3 := sec_size b st 3 h (by omega)
  have t0 := sec_tl b st 0 h (by omega)
  have t1 := sec_tl b st 1 h (by omega)
  have t2 := sec_tl b st 2 h (by omega)
  have t3 := sec_tl b st 3 h (by omega)
  have same : ∀ s t, tl s = tl t → tlSame s t = true := fun s t h => by rw [tlSame_eq, h]; simp
  refine ⟨fun hne => ?_, fun hne => ?_, fun hne => ?_, fun hne => ?_⟩
  · have := (tlSame_set (sec b st 0) (sec b st 1) z0 p hp x hx0 hx1 (by rw [t0, t1]) hne).2
    simp [frOpen, setB_size, z0, z1, z2, z3, this]
  · have := (tlSame_set (sec b st 1) (sec b st 0) z1 p hp x hx0 hx1 (by rw [t0, t1]) hne).1
    simp [frOpen, setB_size, z0, z1, z2, z3, this]
  · have := (tlSame_set (sec b st 2) (sec b st 0) z2 p hp x hx0 hx1 (by rw [t0, t2]) hne).1
    simp [frOpen, setB_size, z0, z1, z2, z3, this, same _ _ (t1.trans t0.symm)]
  · have := (tlSame_set (sec b st 3) (sec b st 0) z3 p hp x hx0 hx1 (by rw [t0, t3]) hne).1
    simp [frOpen, setB_size, z0, z1, z2, z3, this, same _ _ (t1.trans t0.symm), same _ _ (t2.trans t0.symm)]
end Go.Proofs.Ytgeoblejfkoldaa
