import Derived.Test.YtgealllnchpekaaOctet
import Derived.Test.YtgealllnchpekaaLibC
set_option linter.unusedSimpArgs false
set_option linter.unusedVariables false
namespace Go.Proofs.Ytgealllnchpekaa
open Go.RowKit

/-! ### texts with their length ahead -/
theorem textS_size (t : ByteArray) : (textS t).size = t.size + 1 := by
  unfold textS; rw [bytes_size, strOfNums_one]; omega
theorem valS_one (x : Nat) (h : x ≤ 255) : valS (strOfNums [(x : Int)]) = x := by
  have h1 : (strOfNums [(x : Int)]).data.toList = [UInt8.ofNat x] := by rw [strOfNums_data]; simp
  unfold valS
  rw [h1]
  simp only [valL]
  rw [UInt8.toNat_ofNat']
  omega
theorem rdText_cat (t R : ByteArray) (h : t.size ≤ 255) : rdText (textS t ++ R) false = (t, R, false) := by
  have h1 : rdNum (textS t ++ R) false 1 = ((t.size : Int), t ++ R, false) := by
    unfold rdNum
    rw [if_neg (by omega), rdBytes_yes ⟨rfl, by omega, by rw [bytes_size, textS_size]; omega⟩]
    unfold textS
    rw [bytes_assoc]
    have hl := bytes_left (strOfNums [(t.size : Int)]) (t ++ R)
    have hr := bytes_right (strOfNums [(t.size : Int)]) (t ++ R)
    rw [strOfNums_one] at hl hr
    rw [show (1 : Int).toNat = 1 from rfl, hl, hr, valS_one _ h]
  unfold rdText
  rw [h1]
  show rdBytes (t ++ R) false (t.size : Int) = _
  rw [rdBytes_yes ⟨rfl, by omega, by rw [bytes_size]; omega⟩, Int.toNat_natCast, bytes_left, bytes_right]

/-! ### cells -/
def keyP (st : Int) (d : ByteArray) : ByteArray × ByteArray × Bool :=
  if st = 0 ∨ (rdText d false).2.2 = true ∨ 8 < (rdText d false).1.size then (⟨#[]⟩, ⟨#[]⟩, false) else ((rdText d false).1, (rdText d false).2.1, true)
def childP (st : Int) (d : ByteArray) : Int :=
  if (keyP st d).2.2 = true ∧ (keyP st d).2.1.size = 4 ∧ 1 ≤ valS (keyP st d).2.1 ∧ valS (keyP st d).2.1 < 1024 then valS (keyP st d).2.1 else 0
theorem keyP_text (st : Int) (t R : ByteArray) (hst : st ≠ 0) (h : t.size ≤ 8) : keyP st (textS t ++ R) = (t, R, true) := by
  unfold keyP
  rw [rdText_cat t R (by omega)]
  rw [if_neg (by simp [hst]; omega)]
theorem keyP_size (st : Int) (d : ByteArray) : (keyP st d).1.size ≤ 8 := by
  unfold keyP
  split
  · exact Nat.zero_le _
  · rename_i h
    simp only [not_or] at h
    show (rdText d false).1.size ≤ 8
    omega
theorem rdText_rest_size (s : ByteArray) (b : Bool) : (rdText s b).2.1.size ≤ s.size := by
  unfold rdText
  refine Nat.le_trans (rdBytes_size _ _ _).1 ?_
  unfold rdNum
  split
  · exact Nat.le_refl _
  · exact (rdBytes_size _ _ _).1
theorem keyP_rest (st : Int) (d : ByteArray) : (keyP st d).2.1.size ≤ d.size := by
  unfold keyP
  split
  · exact Nat.zero_le _
  · exact rdText_rest_size d false
def leafOk (k v : ByteArray) (st : Int) : Prop := k.size ≠ 0 ∧ k.size ≤ 8 ∧ v.size ≤ 20 ∧ (st = 1 ∨ st = 2)
instance (k v : ByteArray) (st : Int) : Decidable (leafOk k v st) := by unfold leafOk; exact inferInstance
def leafP (k v : ByteArray) (st : Int) : (Int × ByteArray) × Int := if leafOk k v st then ((st, textS k ++ v), 0) else ((0, ⟨#[]⟩), 1)
def innerOk (k : ByteArray) (c : Int) : Prop := k.size ≤ 8 ∧ 1 ≤ c ∧ c < 1024
instance (k : ByteArray) (c : Int) : Decidable (innerOk k c) := by unfold innerOk; exact inferInstance
def innerP (k : ByteArray) (c : Int) : (Int × ByteArray) × Int := if innerOk k c then ((1, textS k ++ leS c 4), 0) else ((0, ⟨#[]⟩), 1)
theorem full_bytes (s : ByteArray) : s.extract 0 s.size = s := by
  apply ByteArray.ext
  simp
end Go.Proofs.Ytgealllnchpekaa
