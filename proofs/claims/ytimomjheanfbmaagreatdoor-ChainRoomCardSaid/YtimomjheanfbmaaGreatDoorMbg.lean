import Derived.Test.YtimomjheanfbmaaGreatDoorMay
import Derived.BigRegion
import Derived.Test.YtimomjheanfbmaaGreatDoorMbf
set_option linter.unusedSimpArgs false
set_option linter.unusedVariables false
namespace Go.Proofs.YtimomjheanfbmaaGreatDoor
open Go.RowKit

theorem fsec_size (b : ByteArray) (s : Int) (i : Nat) (h : b.size = 224) (hi : i < 4) : (sec b s i).size = 64 := by
  unfold sec; rw [bytes_size, ByteArray.size_extract, leS_size]; omega
theorem ext_size (b : ByteArray) (i j : Nat) (h : j ≤ b.size) (hij : i ≤ j) : (b.extract i j).size = j - i := by rw [ByteArray.size_extract]; omega
theorem sec_hd (b : ByteArray) (s : Int) (i : Nat) (h : b.size = 224) (hi : i < 4) : hd (sec b s i) = b.extract (56 * i) (56 * i + 56) := by
  unfold hd sec
  have := ext_size b (56 * i) (56 * i + 56) (by omega) (by omega)
  exact ByteArray.extract_append_eq_left (by omega)
theorem sec_tl (b : ByteArray) (s : Int) (i : Nat) (h : b.size = 224) (hi : i < 4) : tl (sec b s i) = leS s 8 := by
  unfold tl sec
  have := ext_size b (56 * i) (56 * i + 56) (by omega) (by omega)
  exact ByteArray.extract_append_eq_right (by omega) (by rw [leS_size]; omega)
theorem tlSame_eq (s t : ByteArray) : tlSame s t = ((tl s).toList == (tl t).toList) := rfl
theorem ext_join (b : ByteArray) (i j k : Nat) (hij : i ≤ j) (hjk : j ≤ k) : b.extract i j ++ b.extract j k = b.extract i k := by
  rw [ByteArray.extract_append_extract, Nat.min_eq_left hij, Nat.max_eq_right hjk]
theorem join4 (b : ByteArray) (h : b.size = 224) : b.extract 0 56 ++ b.extract 56 112 ++ b.extract 112 168 ++ b.extract 168 224 = b := by
  rw [ext_join b 0 56 112 (by omega) (by omega), ext_join b 0 112 168 (by omega) (by omega), ext_join b 0 168 224 (by omega) (by omega), ← h]
  exact ByteArray.extract_zero_size
theorem frOpen_sec (b : ByteArray) (s : Int) (h : b.size = 224) (h0 : 0 ≤ s) (h1 : s < 256 ^ 8) : frOpen (sec b s 0) (sec b s 1) (sec b s 2) (sec b s 3) = (b, s, 0) := by
  unfold frOpen
  rw [if_neg (by rw [fsec_size b s 0 h (by omega)]; omega), if_neg (by rw [fsec_size b s 1 h (by omega)]; omega), if_neg, if_neg (by rw [fsec_size b s 2 h (by omega)]; omega), if_neg, if_neg (by rw [fsec_size b s 3 h (by omega)]; omega), if_neg]
  · rw [sec_hd b s 0 h (by omega), sec_hd b s 1 h (by omega), sec_hd b s 2 h (by omega), sec_hd b s 3 h (by omega), sec_tl b s 0 h (by omega), valS_leS s 8 h0 h1]
    simp only [Nat.reduceMul, Nat.reduceAdd, join4 b h]
  · rw [tlSame_eq, sec_tl b s 3 h (by omega), sec_tl b s 0 h (by omega)]; simp
  · rw [tlSame_eq, sec_tl b s 2 h (by omega), sec_tl b s 0 h (by omega)]; simp
  · rw [tlSame_eq, sec_tl b s 1 h (by omega), sec_tl b s 0 h (by omega)]; simp

theorem leS_inj (m n : Int) (hm : 0 ≤ m ∧ m ≤ 18446744073709551615) (hn : 0 ≤ n ∧ n ≤ 18446744073709551615) (h : leS m 8 = leS n 8) : m = n := by
  have h1 := valS_leS m 8 hm.1 (by omega)
  have h2 := valS_leS n 8 hn.1 (by omega)
  rw [← h1, ← h2, h]
theorem frOpen_mix (b0 b1 b2 b3 : ByteArray) (s0 s1 s2 s3 : Int) (h0 : b0.size = 224) (h1 : b1.size = 224) (h2 : b2.size = 224) (h3 : b3.size = 224)
    (r0 : 0 ≤ s0 ∧ s0 ≤ 18446744073709551615) (r1 : 0 ≤ s1 ∧ s1 ≤ 18446744073709551615) (r2 : 0 ≤ s2 ∧ s2 ≤ 18446744073709551615) (r3 : 0 ≤ s3 ∧ s3 ≤ 18446744073709551615) :
    ((s1 = s0 ∧ s2 = s0 ∧ s3 = s0) → ∃ t, frOpen (sec b0 s0 0) (sec b1 s1 1) (sec b2 s2 2) (sec b3 s3 3) = (t, s0, 0)) ∧
    (¬ (s1 = s0 ∧ s2 = s0 ∧ s3 = s0) → frOpen (sec b0 s0 0) (sec b1 s1 1) (sec b2 s2 2) (sec b3 s3 3) = (⟨#[]⟩, 0, 30)) := by
  have z0 := fsec_size b0 s0 0 h0 (by omega)
  have z1 := fsec_size b1 s1 1 h1 (by omega)
  have z2 := fsec_size b2 s2 2 h2 (by omega)
  have z3 := fsec_size b3 s3 3 h3 (by omega)
  have t0 := sec_tl b0 s0 0 h0 (by omega)
  have t1 := sec_tl b1 s1 1 h1 (by omega)
  have t2 := sec_tl b2 s2 2 h2 (by omega)
  have t3 := sec_tl b3 s3 3 h3 (by omega)
  have key : ∀ (x y : ByteArray) (s t : Int), tl x = leS s 8 → tl y = leS t 8 → (0 ≤ s ∧ s ≤ 18446744073709551615) → (0 ≤ t ∧ t ≤ 18446744073709551615) → tlSame x y = decide (s = t) := by
    intro x y s t hx hy hs ht
    rw [tlSame_eq, hx, hy]
    by_cases h : s = t
    · subst h; simp
    · have : (leS s 8).toList ≠ (leS t 8).toList := by
        intro he
        apply h
        apply leS_inj s t hs ht
        rw [ByteArray.toList_eq, ByteArray.toList_eq] at he
        have := Array.toList_inj.1 he
        cases hA : leS s 8; cases hB : leS t 8; simp_all
      rw [beq_eq_false_iff_ne.2 this]; simp [h]
  have k1 := key _ _ _ _ t1 t0 r1 r0
  have k2 := key _ _ _ _ t2 t0 r2 r0
  have k3 := key _ _ _ _ t3 t0 r3 r0
  have hv := valS_leS s0 8 r0.1 (by omega)
  unfold frOpen
  constructor
  · rintro ⟨rfl, rfl, rfl⟩
    simp [z0, z1, z2, z3, k1, k2, k3, t0, hv]
  · intro hne
    by_cases e1 : s1 = s0 <;> by_cases e2 : s2 = s0 <;> by_cases e3 : s3 = s0 <;> simp_all
def byteL (s : ByteArray) : List Int := s.data.toList.map fun b => (b.toNat : Int)
/-- block B holds the bytes l, and may be written there -/
def BytesAt (w : World) (e : TypeId) (B : Nat) (l : List Int) : Prop :=
  ∃ (C : Array Value) (f : Nat × Nat), w.heap[B]? = some (.cells C e f) ∧ l.length ≤ C.size ∧ l.length ≤ f.1 ∧ ∀ j, j < l.length → C[j]? = some (.int .u8 (l.getD j 0))
theorem BytesAt.cell {w : World} {e : TypeId} {B : Nat} {l : List Int} (h : BytesAt w e B l) (j : Nat) (hj : j < l.length) : w.cell? ⟨B, j, none⟩ = some (.int .u8 (l.getD j 0)) := by
  obtain ⟨C, f, h1, h2, h3, h4⟩ := h
  rw [cell_at h1]; exact h4 j hj
theorem BytesAt.free {w : World} {e : TypeId} {B : Nat} {l : List Int} (h : BytesAt w e B l) (j : Nat) (hj : j < l.length) : w.frozen? ⟨B, j, none⟩ = false := by
  obtain ⟨C, f, h1, h2, h3, h4⟩ := h
  obtain ⟨a, b⟩ := f
  simp only [World.frozen?, h1]
  simp at h3 ⊢; omega
theorem BytesAt.set {w : World} {e : TypeId} {B : Nat} {l : List Int} (h : BytesAt w e B l) (j : Nat) (x : Int) : BytesAt (w.setCell ⟨B, j, none⟩ (.int .u8 x)) e B (l.set j x) := by
  obtain ⟨C, f, h1, h2, h3, h4⟩ := h
  refine ⟨C.setIfInBounds j (.int .u8 x), f, heap_set h1 j _, by simpa using h2, by simpa using h3, fun i hi => ?_⟩
  rw [List.length_set] at hi
  have := h4 i hi
  by_cases hij : j = i
  · subst hij
    rw [Array.getElem?_setIfInBounds_self]
    have hC : j < C.size := by omega
    simp [hC, List.getD, hi]
  · rw [Array.getElem?_setIfInBounds_ne hij, this]
    simp [List.getD, List.getElem?_set_ne hij]
theorem BytesAt.keep {S : Nat → Prop} {w w' : World} {e : TypeId} {B : Nat} {l : List Int} (h : BytesAt w e B l) (hk : Keeps S w w') (hS : ¬ S B) : BytesAt w' e B l := by
  obtain ⟨C, f, h1, h2⟩ := h
  exact ⟨C, f, hk.keep h1 hS, h2⟩
theorem BytesAt.str {P : Program} {w : World} {e : TypeId} {B : Nat} {l : List Int} (h : BytesAt w e B l) (src : TypeId) (hs : P.underlying src = some (.slice e)) (he : P.underlying e = some (.int .u8)) (len cap : Nat) (hl : l.length = len) :
    ∀ dst, P.underlying dst = some .string → (convert src dst (.slice (some ⟨B, 0, none⟩) len cap)).run P w = .ok (.string (strOfNums l)) w :=
  run_convert_bytes_arg (P := P) w src e hs he B 0 len cap l hl (fun i hi => by rw [Nat.zero_add]; exact h.cell i (by omega))
theorem bytesAt_new (w : World) (e : TypeId) (s : ByteArray) (cap : Nat) (hc : s.size ≤ cap) :
    BytesAt (w.alloc (.cells (bytesRow s cap) e ((bytesRow s cap).size, (bytesRow s cap).size + 1))) e w.heap.size (byteL s) := by
  have hl : (byteL s).length = s.size := by unfold byteL; rw [List.length_map, Array.length_toList]; rfl
  have hz : (bytesRow s cap).size = cap := by
    unfold bytesRow
    rw [Array.size_append, Array.size_map, Array.size_replicate]
    show s.size + (cap - s.size) = cap
    omega
  refine ⟨_, _, hN rfl, by omega, by show _ ≤ (bytesRow s cap).size; omega, ?_⟩
  intro j hj
  have hjs : j < s.data.size := by have : s.data.size = s.size := rfl; omega
  unfold bytesRow byteL
  rw [Array.getElem?_append_left (by simpa using hjs)]
  rw [Array.getElem?_map, List.getD_eq_getElem?_getD, List.getElem?_map, Array.getElem?_toList, Array.getElem?_eq_getElem hjs]
  rfl
theorem byteL_length (s : ByteArray) : (byteL s).length = s.size := by unfold byteL; rw [List.length_map, Array.length_toList]; rfl
/-- one byte set -/
def setB (s : ByteArray) (j : Nat) (x : Int) : ByteArray := strOfNums ((byteL s).set j x)
theorem setB_size (s : ByteArray) (j : Nat) (x : Int) : (setB s j x).size = s.size := by unfold setB; rw [strOfNums_size, List.length_set, byteL_length]
theorem setB_list (s : ByteArray) (j : Nat) (x : Int) : (setB s j x).data.toList = s.data.toList.set j (UInt8.ofNat x.toNat) := by
  unfold setB byteL
  rw [strOfNums_data]
  apply List.ext_getElem?
  intro i
  rw [List.getElem?_map, List.getElem?_set, List.getElem?_set, List.length_map]
  split
  · split <;> simp
  · rw [List.getElem?_map]
    cases s.data.toList[i]? <;> simp
theorem tl_list (s : ByteArray) : (tl s).toList = (s.data.toList.drop 56).take 8 := by
  unfold tl
  rw [ByteArray.toList_eq]
  simp
theorem xor_moves (c : Nat) (k : Nat) (hc : c < 256) (hk : k < 8) (m : Int) (hm : m = 2 ^ k) : bits .xor .u8 (c : Int) m ≠ (c : Int) ∧ 0 ≤ bits .xor .u8 (c : Int) m ∧ bits .xor .u8 (c : Int) m < 256 := by
  subst hm
  have key : ∀ c : Fin 256, ∀ k : Fin 8, bits .xor .u8 ((c.val : Nat) : Int) (2 ^ k.val) ≠ ((c.val : Nat) : Int) ∧ 0 ≤ bits .xor .u8 ((c.val : Nat) : Int) (2 ^ k.val) ∧ bits .xor .u8 ((c.val : Nat) : Int) (2 ^ k.val) < 256 := by decide +kernel
  exact key ⟨c, hc⟩ ⟨k, hk⟩
theorem tlSame_set (s t : ByteArray) (hs : s.size = 64) (p : Nat) (hp : p < 8) (x : Int) (hx0 : 0 ≤ x) (hx1 : x < 256) (ht : tl t = tl s) (hne : x ≠ (byteL s).getD (56 + p) 0) :
    tlSame (setB s (56 + p) x) t = false ∧ tlSame t (setB s (56 + p) x) = false := by
  have hl : s.data.toList.length = 64 := by rw [Array.length_toList]; exact hs
  have key : (tl (setB s (56 + p) x)).toList ≠ (tl t).toList := by
    intro h
    rw [ht, tl_list, tl_list, setB_list] at h
    have h2 := congrArg (fun l => l[p]?) h
    simp only [List.getElem?_take, List.getElem?_drop, hp, if_true, List.getElem?_set, hl] at h2
    rw [if_pos (by omega), List.getElem?_eq_getElem (by omega)] at h2
    have h3 := congrArg UInt8.toNat (Option.some.inj h2)
    rw [UInt8.toNat_ofNat'] at h3
    apply hne
    unfold byteL
    rw [List.getD_eq_getElem?_getD, List.getElem?_map, List.getElem?_eq_getElem (by omega)]
    simp only [Option.map_some, Option.getD_some]
    omega
  refine ⟨?_, ?_⟩
  · rw [tlSame_eq]; simpa using key
  · rw [tlSame_eq]; simpa using fun h => key h.symm
theorem frOpen_torn (b : ByteArray) (st : Int) (h : b.size = 224) (p : Nat) (hp : p < 8) (x : Int) (hx0 : 0 ≤ x) (hx1 : x < 256) :
    (x ≠ (byteL (sec b st 0)).getD (56 + p) 0 → frOpen (setB (sec b st 0) (56 + p) x) (sec b st 1) (sec b st 2) (sec b st 3) = (⟨#[]⟩, 0, 30)) ∧
    (x ≠ (byteL (sec b st 1)).getD (56 + p) 0 → frOpen (sec b st 0) (setB (sec b st 1) (56 + p) x) (sec b st 2) (sec b st 3) = (⟨#[]⟩, 0, 30)) ∧
    (x ≠ (byteL (sec b st 2)).getD (56 + p) 0 → frOpen (sec b st 0) (sec b st 1) (setB (sec b st 2) (56 + p) x) (sec b st 3) = (⟨#[]⟩, 0, 30)) ∧
    (x ≠ (byteL (sec b st 3)).getD (56 + p) 0 → frOpen (sec b st 0) (sec b st 1) (sec b st 2) (setB (sec b st 3) (56 + p) x) = (⟨#[]⟩, 0, 30)) := by
  have z0 := fsec_size b st 0 h (by omega)
  have z1 := fsec_size b st 1 h (by omega)
  have z2 := fsec_size b st 2 h (by omega)
  have z3 := fsec_size b st 3 h (by omega)
  have t0 := sec_tl b st 0 h (by omega)
  have t1 := sec_tl b st 1 h (by omega)
  have t2 := sec_tl b st 2 h (by omega)
  have t3 := sec_tl b st 3 h (by omega)
  have same : ∀ s t, tl s = tl t → tlSame s t = true := fun s t h => by rw [tlSame_eq, h]; simp
  refine ⟨fun hne => ?_, fun hne => ?_, fun hne => ?_, fun hne => ?_⟩
  · have := (tlSame_set (sec b st 0) (sec b st 1) z0 p hp x hx0 hx1 (by rw [t0, t1]) hne).2
    simp [frOpen, setB_size, z0, z1, z2, z3, this]
  · have := (tlSame_set (sec b st 1) (sec b st 0) z1 p hp x hx0 hx1 (by rw [t0, t1]) hne).1
    simp [frOpen, setB_size, z0, z1, z2, z3, this]
  · have := (tlSame_set (sec b st 2) (sec b st 0) z2 p hp x hx0 hx1 (by rw [t0, t2]) hne).1
    simp [frOpen, setB_size, z0, z1, z2, z3, this, same _ _ (t1.trans t0.symm)]
  · have := (tlSame_set (sec b st 3) (sec b st 0) z3 p hp x hx0 hx1 (by rw [t0, t3]) hne).1
    simp [frOpen, setB_size, z0, z1, z2, z3, this, same _ _ (t1.trans t0.symm), same _ _ (t2.trans t0.symm)]
end Go.Proofs.YtimomjheanfbmaaGreatDoor

namespace Go.Proofs.YtimomjheanfbmaaGreatDoor
open Go.RowKit

/-! ### plain law of the pool: what each page is -/
def OnDev (D : Dev) (b : Nat) (x : Pg × Int) : Prop := ∀ i, i < 4 → D.at (b + i) = sec (pageS x.1) x.2 i
def MOk (x : Pg × Int) : Prop := PgOk x.1 ∧ 0 ≤ x.2 ∧ x.2 ≤ 1152921504606846976
structure PInv (X : Pl) (D : Dev) (M : Nat → Pg × Int) : Prop where
  uniq : ∀ (i j : Nat) (s t : Slot), X.slots[i]? = some s → X.slots[j]? = some t → s.id = t.id → s.id ≠ -1 → i = j
  hold : ∀ (i : Nat) (s : Slot), X.slots[i]? = some s → s.id ≠ -1 → 0 ≤ s.id ∧ s.id < X.pages ∧ pgC s.P = pgC (M s.id.toNat).1 ∧ (s.dirty = true → s.P = (M s.id.toNat).1 ∧ s.st = (M s.id.toNat).2)
  dty : ∀ (i : Nat) (s : Slot), X.slots[i]? = some s → s.dirty = true → s.id ≠ -1
  dev : D.down = false → ∀ id, id < X.pages → (∀ (i : Nat) (s : Slot), X.slots[i]? = some s → s.id = (id : Int) → s.dirty = false) → OnDev D (X.base + 4 * id) (M id)
  mok : ∀ id, id < X.pages → MOk (M id)
theorem PInv.slok {X : Pl} {D : Dev} {M : Nat → Pg × Int} (h : PInv X D M) {i : Nat} {s : Slot} (hs : X.slots[i]? = some s) (hd : s.dirty = true) : SlOk X.pages s := by
  obtain ⟨h1, h2, h3, h4⟩ := h.hold i s hs (h.dty i s hs hd)
  obtain ⟨e1, e2⟩ := h4 hd
  obtain ⟨m1, m2, m3⟩ := h.mok s.id.toNat (by omega)
  exact ⟨h1, h2, e1 ▸ m1, e2 ▸ m2, e2 ▸ m3⟩
theorem cool_eq {s t : Slot} (h : cool t = cool s) : t.id = s.id ∧ t.P = s.P ∧ t.st = s.st ∧ t.dirty = s.dirty := by
  have h1 := congrArg Slot.id h
  have h2 := congrArg Slot.P h
  have h3 := congrArg Slot.st h
  have h4 := congrArg Slot.dirty h
  exact ⟨h1, h2, h3, h4⟩
theorem PInv.cool {X : Pl} {D : Dev} {M : Nat → Pg × Int} (h : PInv X D M) {l : List Slot} {hd : Nat} (hc : l.map cool = X.slots.map cool) : PInv { X with slots := l, hand := hd } D M := by
  have key : ∀ (i : Nat) (s : Slot), l[i]? = some s → ∃ t : Slot, X.slots[i]? = some t ∧ t.id = s.id ∧ t.P = s.P ∧ t.st = s.st ∧ t.dirty = s.dirty := fun i s hs => by
    obtain ⟨t, ht, he⟩ := cool_at hc hs
    exact ⟨t, ht, cool_eq he⟩
  have key2 : ∀ (i : Nat) (s : Slot), X.slots[i]? = some s → ∃ t : Slot, l[i]? = some t ∧ t.id = s.id ∧ t.P = s.P ∧ t.st = s.st ∧ t.dirty = s.dirty := fun i s hs => by
    obtain ⟨t, ht, he⟩ := cool_at hc.symm hs
    exact ⟨t, ht, cool_eq he⟩
  refine ⟨fun i j s t hs ht he hn => ?_, fun i s hs hn => ?_, fun i s hs hd => ?_, fun hdn id hid hcl => ?_, h.mok⟩
  · obtain ⟨s', h1, h2, -⟩ := key i s hs
    obtain ⟨t', h3, h4, -⟩ := key j t ht
    exact h.uniq i j s' t' h1 h3 (by rw [h2, h4, he]) (by rw [h2]; exact hn)
  · obtain ⟨s', h1, h2, h3, h4, h5⟩ := key i s hs
    have := h.hold i s' h1 (by rw [h2]; exact hn)
    rw [h2, h3, h4, h5] at this
    exact this
  · obtain ⟨s', h1, h2, h3, h4, h5⟩ := key i s hs
    have := h.dty i s' h1 (by rw [h5]; exact hd)
    rwa [h2] at this
  · refine h.dev hdn id hid (fun i s hs he => ?_)
    obtain ⟨t, h1, h2, h3, h4, h5⟩ := key2 i s hs
    rw [← h5]
    exact hcl i t h1 (by rw [h2]; exact he)
theorem set_cases {l : List Slot} {i j : Nat} {x s : Slot} (h : (l.set i x)[j]? = some s) : (j = i ∧ s = x) ∨ (j ≠ i ∧ l[j]? = some s) := by
  rw [List.getElem?_set] at h
  split at h
  · rename_i e
    subst e
    split at h
    · injection h with h; exact .inl ⟨rfl, h.symm⟩
    · cases h
  · rename_i e
    exact .inr ⟨fun h' => e h'.symm, h⟩
theorem set_other {l : List Slot} {i j : Nat} {x s : Slot} (h : l[j]? = some s) (hj : j ≠ i) : (l.set i x)[j]? = some s := by
  rw [List.getElem?_set_ne (fun e => hj e.symm)]; exact h
theorem set_same {l : List Slot} {i : Nat} {x s : Slot} (h : l[i]? = some s) : (l.set i x)[i]? = some x := List.getElem?_set_self (List.getElem?_eq_some_iff.1 h).1
/-- a clean slot is given up -/
theorem PInv.blank {X : Pl} {D : Dev} {M : Nat → Pg × Int} (h : PInv X D M) {i : Nat} {s : Slot} (hs : X.slots[i]? = some s) (hd : s.dirty = false) : PInv { X with slots := X.slots.set i slBlank } D M := by
  refine ⟨fun a b u v hu hv he hn => ?_, fun a u hu hn => ?_, fun a u hu hdd => ?_, fun hdn id hid hcl => ?_, h.mok⟩
  · rcases set_cases hu with ⟨rfl, rfl⟩ | ⟨ha, hu1⟩
    · exact absurd rfl hn
    · rcases set_cases hv with ⟨rfl, rfl⟩ | ⟨hb, hv1⟩
      · exact absurd he hn
      · exact h.uniq a b u v hu1 hv1 he hn
  · rcases set_cases hu with ⟨rfl, rfl⟩ | ⟨ha, hu1⟩
    · exact absurd rfl hn
    · exact h.hold a u hu1 hn
  · rcases set_cases hu with ⟨rfl, rfl⟩ | ⟨ha, hu1⟩
    · cases hdd
    · exact h.dty a u hu1 hdd
  · refine h.dev hdn id hid (fun a u hu he => ?_)
    by_cases ha : a = i
    · subst ha
      rw [hs] at hu
      injection hu with hu
      rw [← hu]; exact hd
    · exact hcl a u (set_other hu ha) he
theorem app_cases {l : List Slot} {j : Nat} {x s : Slot} (h : (l ++ [x])[j]? = some s) : (j = l.length ∧ s = x) ∨ l[j]? = some s := by
  by_cases hj : j < l.length
  · rw [List.getElem?_append_left hj] at h; exact .inr h
  · rw [List.getElem?_append_right (by omega)] at h
    by_cases h0 : j - l.length = 0
    · rw [h0] at h
      simp only [List.getElem?_cons_zero, Option.some.injEq] at h
      exact .inl ⟨by omega, h.symm⟩
    · obtain ⟨q, hq⟩ : ∃ q, j - l.length = q + 1 := ⟨j - l.length - 1, by omega⟩
      rw [hq] at h
      simp at h
theorem PInv.more {X : Pl} {D : Dev} {M : Nat → Pg × Int} (h : PInv X D M) : PInv { X with slots := X.slots ++ [slBlank] } D M := by
  refine ⟨fun a b u v hu hv he hn => ?_, fun a u hu hn => ?_, fun a u hu hdd => ?_, fun hdn id hid hcl => ?_, h.mok⟩
  · rcases app_cases hu with ⟨rfl, rfl⟩ | hu
    · exact absurd rfl hn
    · rcases app_cases hv with ⟨rfl, rfl⟩ | hv
      · exact absurd he hn
      · exact h.uniq a b u v hu hv he hn
  · rcases app_cases hu with ⟨rfl, rfl⟩ | hu
    · exact absurd rfl hn
    · exact h.hold a u hu hn
  · rcases app_cases hu with ⟨rfl, rfl⟩ | hu
    · cases hdd
    · exact h.dty a u hu hdd
  · refine h.dev hdn id hid (fun a u hu he => hcl a u ?_ he)
    show (X.slots ++ [slBlank])[a]? = some u
    rw [List.getElem?_append_left (List.getElem?_eq_some_iff.1 hu).1]
    exact hu
/-- a device's pages behind a slot's write -/
theorem WrRel.at {first n bb : Nat} {P : ByteArray} {rs : List ByteArray} {base : Nat} {s : Slot} {i0 i1 : Nat} {D D' : Dev} (h : WrRel first n bb P rs base s i0 D i1 D' 0) (p : Nat) (hp : first + n ≤ p) (hl : p < D.firm.length) :
    D'.at p = if base + 4 * s.id.toNat ≤ p ∧ p < base + 4 * s.id.toNat + 4 then sec (pageS s.P) s.st (p - (base + 4 * s.id.toNat)) else D.at p := by
  rcases h with ⟨_, hc⟩ | ⟨D1, h1, h2⟩
  · exact absurd hc (by decide)
  · unfold Dev.at
    rw [h2.on rfl p (by rw [h1.off.len]; exact hl), h1.off.seen p hp]
theorem WrRel.len {first n bb : Nat} {P : ByteArray} {rs : List ByteArray} {base : Nat} {s : Slot} {i0 i1 : Nat} {D D' : Dev} {c : Int} (h : WrRel first n bb P rs base s i0 D i1 D' c) : D'.firm.length = D.firm.length := by
  rcases h with ⟨h, _⟩ | ⟨D1, h1, h2⟩
  · exact h.off.len
  · rw [h2.len, h1.off.len]
theorem WrRel.up {first n bb : Nat} {P : ByteArray} {rs : List ByteArray} {base : Nat} {s : Slot} {i0 i1 : Nat} {D D' : Dev} {c : Int} (h : WrRel first n bb P rs base s i0 D i1 D' c) (hu : D.up) : D'.up ∧ c = 0 := by
  rcases h with ⟨h, rfl⟩ | ⟨D1, h1, h2⟩
  · have h3 := h.off.up hu
    rcases h.code with ⟨h0, _⟩ | ⟨_, h0⟩
    · exact absurd h0 (by decide)
    · rw [h3.2] at h0; cases h0
  · exact h2.up (h1.off.up hu)
theorem PInv.wrote {first n bb : Nat} {P : ByteArray} {rs : List ByteArray} {X : Pl} {i0 i1 : Nat} {D D' : Dev} {M : Nat → Pg × Int} (h : PInv X D M) (hr : first + n ≤ X.base) (hf : X.base + 4 * X.pages ≤ D.firm.length)
    {i : Nat} {s : Slot} (hs : X.slots[i]? = some s) (hd : s.dirty = true) (hw : WrRel first n bb P rs X.base s i0 D i1 D' 0) : PInv { X with slots := X.slots.set i { s with dirty := false } } D' M := by
  obtain ⟨k1, k2, k3, k4⟩ := h.hold i s hs (h.dty i s hs hd)
  obtain ⟨e1, e2⟩ := k4 hd
  have hcode := hw.code
  refine ⟨fun a b u v hu hv he hn => ?_, fun a u hu hn => ?_, fun a u hu hdd => ?_, fun hdn id hid hcl => ?_, h.mok⟩
  · rcases set_cases hu with ⟨rfl, rfl⟩ | ⟨ha, hu1⟩
    · rcases set_cases hv with ⟨rfl, rfl⟩ | ⟨hb, hv1⟩
      · rfl
      · exact h.uniq _ _ s v hs hv1 he hn
    · rcases set_cases hv with ⟨rfl, rfl⟩ | ⟨hb, hv1⟩
      · exact h.uniq _ _ u s hu1 hs he hn
      · exact h.uniq a b u v hu1 hv1 he hn
  · rcases set_cases hu with ⟨rfl, rfl⟩ | ⟨ha, hu1⟩
    · exact ⟨k1, k2, k3, fun h => by cases h⟩
    · exact h.hold a u hu1 hn
  · rcases set_cases hu with ⟨rfl, rfl⟩ | ⟨ha, hu1⟩
    · cases hdd
    · exact h.dty a u hu1 hdd
  · have hid : id < X.pages := hid
    intro j hj
    show D'.at (X.base + 4 * id + j) = _
    rw [hw.at (X.base + 4 * id + j) (by omega) (by omega)]
    by_cases hii : id = s.id.toNat
    · subst hii
      rw [if_pos (by omega), show X.base + 4 * s.id.toNat + j - (X.base + 4 * s.id.toNat) = j by omega, e1, e2]
    · rw [if_neg (by omega)]
      refine h.dev ?_ id hid (fun a u hu he => ?_) j hj
      · rcases hcode with ⟨_, _, h0⟩ | ⟨h0, _⟩
        · exact h0
        · exact absurd h0 (by decide)
      · by_cases ha : a = i
        · subst ha
          rw [hs] at hu
          injection hu with hu
          rw [← hu] at he
          omega
        · exact hcl a u (set_other hu ha) he
theorem PInv.fill {X : Pl} {D : Dev} {M : Nat → Pg × Int} (h : PInv X D M) {i m : Nat} {s0 s : Slot} (hs : X.slots[i]? = some s0) (h0 : s0.id = -1) (hm : m < X.pages) (hno : ∀ (a : Nat) (u : Slot), X.slots[a]? = some u → u.id ≠ (m : Int)) (hsm : s.id = (m : Int)) (hsd : s.dirty = false) (hsp : pgC s.P = pgC (M m).1) :
    PInv { X with slots := X.slots.set i s } D M := by
  refine ⟨fun a b u v hu hv he hn => ?_, fun a u hu hn => ?_, fun a u hu hdd => ?_, fun hdn id hid hcl => ?_, h.mok⟩
  · rcases set_cases hu with ⟨rfl, rfl⟩ | ⟨ha, hu1⟩
    · rcases set_cases hv with ⟨rfl, rfl⟩ | ⟨hb, hv1⟩
      · rfl
      · exact absurd (by rw [← he, hsm]) (hno b v hv1)
    · rcases set_cases hv with ⟨rfl, rfl⟩ | ⟨hb, hv1⟩
      · exact absurd (by rw [he, hsm]) (hno a u hu1)
      · exact h.uniq a b u v hu1 hv1 he hn
  · rcases set_cases hu with ⟨rfl, rfl⟩ | ⟨ha, hu1⟩
    · rw [hsm, Int.toNat_natCast]
      exact ⟨by omega, by show (m : Int) < X.pages; omega, hsp, fun h => by rw [hsd] at h; cases h⟩
    · exact h.hold a u hu1 hn
  · rcases set_cases hu with ⟨rfl, rfl⟩ | ⟨ha, hu1⟩
    · rw [hsd] at hdd; cases hdd
    · exact h.dty a u hu1 hdd
  · refine h.dev hdn id hid (fun a u hu he => ?_)
    by_cases ha : a = i
    · subst ha
      rw [hs] at hu
      injection hu with hu
      rw [← hu, h0] at he
      omega
    · exact hcl a u (set_other hu ha) he
def upd (M : Nat → Pg × Int) (m : Nat) (x : Pg × Int) : Nat → Pg × Int := fun j => if j = m then x else M j
theorem PInv.put {X : Pl} {D : Dev} {M : Nat → Pg × Int} (h : PInv X D M) {i m : Nat} {s0 s : Slot} (hs : X.slots[i]? = some s0) (hm : m < X.pages) (hno : ∀ (a : Nat) (u : Slot), X.slots[a]? = some u → a ≠ i → u.id ≠ (m : Int)) (h0 : s0.id = -1 ∨ s0.id = (m : Int)) (hsm : s.id = (m : Int)) (hsd : s.dirty = true) (hok : MOk (s.P, s.st)) :
    PInv { X with slots := X.slots.set i s } D (upd M m (s.P, s.st)) := by
  have hupd : upd M m (s.P, s.st) m = (s.P, s.st) := by unfold upd; rw [if_pos rfl]
  have hupn : ∀ j, j ≠ m → upd M m (s.P, s.st) j = M j := fun j hj => by unfold upd; rw [if_neg hj]
  refine ⟨fun a b u v hu hv he hn => ?_, fun a u hu hn => ?_, fun a u hu hdd => ?_, fun hdn id hid hcl => ?_, fun id hid => ?_⟩
  · rcases set_cases hu with ⟨rfl, rfl⟩ | ⟨ha, hu1⟩
    · rcases set_cases hv with ⟨rfl, rfl⟩ | ⟨hb, hv1⟩
      · rfl
      · exact absurd (by rw [← he, hsm]) (hno b v hv1 hb)
    · rcases set_cases hv with ⟨rfl, rfl⟩ | ⟨hb, hv1⟩
      · exact absurd (by rw [he, hsm]) (hno a u hu1 ha)
      · exact h.uniq a b u v hu1 hv1 he hn
  · rcases set_cases hu with ⟨rfl, rfl⟩ | ⟨ha, hu1⟩
    · rw [hsm, Int.toNat_natCast, hupd]
      exact ⟨by omega, by show (m : Int) < X.pages; omega, rfl, fun _ => ⟨rfl, rfl⟩⟩
    · obtain ⟨q1, q2, q3, q4⟩ := h.hold a u hu1 hn
      have hne : u.id.toNat ≠ m := fun e => hno a u hu1 ha (by omega)
      rw [hupn _ hne]
      exact ⟨q1, q2, q3, q4⟩
  · rcases set_cases hu with ⟨rfl, rfl⟩ | ⟨ha, hu1⟩
    · omega
    · exact h.dty a u hu1 hdd
  · by_cases hii : id = m
    · subst hii
      have := hcl i s (set_same hs) hsm
      rw [hsd] at this; cases this
    · rw [hupn _ hii]
      refine h.dev hdn id hid (fun a u hu he => ?_)
      by_cases ha : a = i
      · subst ha
        rw [hs] at hu
        injection hu with hu
        rw [← hu] at he
        omega
      · exact hcl a u (set_other hu ha) he
  · by_cases hii : id = m
    · subst hii; rw [hupd]; exact hok
    · rw [hupn _ hii]; exact h.mok id hid
end Go.Proofs.YtimomjheanfbmaaGreatDoor
