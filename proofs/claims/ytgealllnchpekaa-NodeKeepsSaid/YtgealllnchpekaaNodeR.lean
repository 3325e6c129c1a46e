import Derived.Test.YtgealllnchpekaaNodeE
import Derived.Lib.Bytealg
set_option linter.unusedSimpArgs false
set_option linter.unusedVariables false
namespace Go.Proofs.Ytgealllnchpekaa
open Go.RowKit

/-! ### the order of texts -/
theorem bl_irrefl : ∀ a : List UInt8, Op.bytesLess a a = false
  | [] => rfl
  | a :: x => by simp [Op.bytesLess, bl_irrefl x, UInt8.lt_irrefl]
theorem bl_trans : ∀ a b c : List UInt8, Op.bytesLess a b = true → Op.bytesLess b c = true → Op.bytesLess a c = true
  | _, _, [] => by intro _ h; simp [Op.bytesLess] at h
  | _, [], _ :: _ => by intro h; simp [Op.bytesLess] at h
  | [], _ :: _, _ :: _ => by intro _ _; rfl
  | a :: x, b :: y, c :: z => by
    intro h1 h2
    simp only [Op.bytesLess, Bool.or_eq_true, decide_eq_true_eq, Bool.and_eq_true, beq_iff_eq] at h1 h2 ⊢
    rcases h1 with h1 | ⟨rfl, h1⟩
    · rcases h2 with h2 | ⟨rfl, h2⟩
      · exact .inl (UInt8.lt_trans h1 h2)
      · exact .inl h1
    · rcases h2 with h2 | ⟨rfl, h2⟩
      · exact .inl h2
      · exact .inr ⟨rfl, bl_trans x y z h1 h2⟩
theorem bl_total : ∀ a b : List UInt8, Op.bytesLess a b = false → Op.bytesLess b a = false → a = b
  | [], [] => fun _ _ => rfl
  | [], _ :: _ => by intro h; simp [Op.bytesLess] at h
  | _ :: _, [] => by intro _ h; simp [Op.bytesLess] at h
  | a :: x, b :: y => by
    intro h1 h2
    simp only [Op.bytesLess, Bool.or_eq_false_iff, decide_eq_false_iff_not, Bool.and_eq_false_iff, beq_eq_false_iff_ne] at h1 h2
    have hab : a = b := UInt8.le_antisymm (UInt8.not_lt.1 h2.1) (UInt8.not_lt.1 h1.1)
    subst hab
    rcases h1.2 with h | h
    · exact absurd rfl h
    rcases h2.2 with h' | h'
    · exact absurd rfl h'
    rw [bl_total x y h h']
theorem bl_asymm (a b : List UInt8) (h : Op.bytesLess a b = true) : Op.bytesLess b a = false := by
  cases h' : Op.bytesLess b a with
  | false => rfl
  | true => exact absurd (bl_trans a b a h h') (by rw [bl_irrefl]; simp)
theorem cmp_pos : ∀ a b : List UInt8, 0 < Lib.compareBytes a b ↔ Op.bytesLess b a = true
  | [], [] => by simp [Lib.compareBytes, Op.bytesLess]
  | [], _ :: _ => by simp [Lib.compareBytes, Op.bytesLess]
  | _ :: _, [] => by simp [Lib.compareBytes, Op.bytesLess]
  | a :: x, b :: y => by
    unfold Lib.compareBytes Op.bytesLess
    by_cases h1 : a < b
    · have h2 : ¬ b < a := UInt8.not_lt.2 (UInt8.le_of_lt h1)
      have h3 : (b == a) = false := by
        have : b ≠ a := fun e => UInt8.lt_irrefl a (by rw [e] at h1; exact h1)
        simpa using this
      simp [h1, h2, h3]
    · by_cases h2 : b < a
      · simp [h1, h2]
      · have : b = a := UInt8.le_antisymm (UInt8.not_lt.1 h1) (UInt8.not_lt.1 h2)
        subst this
        simp [UInt8.lt_irrefl, cmp_pos x y]
theorem toList_data' (a : ByteArray) : a.data.toList = a.toList := (ByteArray.toList_eq a).symm
set_option maxHeartbeats 1000000 in
set_option maxRecDepth 100000 in
theorem str_cmp0 (a b : ByteArray) (w : World) :
    Calls Try.prog 47 #[.string a, .string b] w fun e w' => e = .returned (.int .i64 (Lib.compareBytes a.data.toList b.data.toList)) ∧ w' = w := by
  go_enter Try.func47, Try.ntmps47
  go_wp2
  rw [run_callFunc_extern Try.func50 (by kernel_rfl) (by kernel_rfl) (by kernel_rfl) (e := Extern.BytealgCompare.compare) (by kernel_rfl), Lib.run_compareString]
  simp only [Result.andThen]
  rw [Oper.upon_value]
  go_wp2
  go_ret
  exact ⟨rfl, rfl⟩
set_option maxHeartbeats 1000000 in
theorem str_cmp (a b : ByteArray) (w : World) :
    Calls Try.prog 33 #[.string a, .string b] w fun e w' => e = .returned (.int .i64 (Lib.compareBytes a.data.toList b.data.toList)) ∧ w' = w := by
  go_enter Try.func33, Try.ntmps33
  go_wp2_with fail
  refine (str_cmp0 a b _).mono ?_
  rintro e w' ⟨rfl, rfl⟩
  go_wp2_with fail
  go_ret
  exact ⟨rfl, rfl⟩
def pgA (P : Pg) : Array Value := #[.int .i64 (P.st 0), .string (P.dt 0), .int .i64 (P.st 1), .string (P.dt 1), .int .i64 (P.st 2), .string (P.dt 2), .int .i64 (P.st 3), .string (P.dt 3), .int .i64 (P.st 4), .string (P.dt 4), .int .i64 (P.st 5), .string (P.dt 5)]
theorem run_index_pg (P : Pg) (k : Nat) (hk : k < 6) (w : World) : (Instr.index 24 (.agg (pgA P)) (.int .i64 k)).run Try.prog w = .ok (.agg #[.int .i64 (P.st k), .string (P.dt k)]) w := by
  match k, hk with
  | 0, _ => simp [Instr.index, asIntOf, go_sem, pgA]
  | 1, _ => simp [Instr.index, asIntOf, go_sem, pgA]
  | 2, _ => simp [Instr.index, asIntOf, go_sem, pgA]
  | 3, _ => simp [Instr.index, asIntOf, go_sem, pgA]
  | 4, _ => simp [Instr.index, asIntOf, go_sem, pgA]
  | 5, _ => simp [Instr.index, asIntOf, go_sem, pgA]

/-! ### what a node is -/
def CellOk (P : Pg) (i : Nat) : Prop :=
  if P.level = 0 then (keyAt P i).size ≠ 0 ∧ (keyP (P.st i) (P.dt i)).2.1.size ≤ 20 ∧ (P.st i = 1 ∨ P.st i = 2)
  else P.st i = 1 ∧ childP (P.st i) (P.dt i) ≠ 0 ∧ (i = 0 ↔ (keyAt P i).size = 0)
def StepOk (P : Pg) (i : Nat) : Prop :=
  if P.st i = 0 then (P.dt i).size = 0
  else (∀ m, i = m + 1 → P.st m ≠ 0) ∧ (keyP (P.st i) (P.dt i)).2.2 = true ∧ (∀ m, i = m + 1 → Op.bytesLess (keyAt P m).toList (keyAt P i).toList = true) ∧ CellOk P i
def NodeOk (P : Pg) : Prop := P.kind = 4 ∧ 0 ≤ P.level ∧ (∀ i, i < 6 → StepOk P i) ∧ (0 < P.level → ∃ i, i < 6 ∧ P.st i ≠ 0)
def CheckR (P : Pg) (r : Int) : Prop := (r = 0 ∧ NodeOk P) ∨ (r = 40 ∧ ¬ NodeOk P)
end Go.Proofs.Ytgealllnchpekaa
