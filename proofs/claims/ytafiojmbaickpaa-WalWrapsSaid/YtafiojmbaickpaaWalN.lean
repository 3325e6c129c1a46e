import Derived.Test.YtafiojmbaickpaaWalM
import Derived.Test.YtafiojmbaickpaaLibC
set_option linter.unusedSimpArgs false
set_option linter.unusedVariables false
namespace Go.Proofs.Ytafiojmbaickpaa
open Go.RowKit

/-! ### plain law: records as bytes -/
def encL : List ByteArray → ByteArray
  | [] => ⟨#[]⟩
  | r :: rs => leS r.size 2 ++ r ++ encL rs
def lenL : List ByteArray → Nat
  | [] => 0
  | r :: rs => 2 + r.size + lenL rs
def plL (p : Int) : List ByteArray → List (Int × ByteArray)
  | [] => []
  | r :: rs => (p, r) :: plL (p + (2 + r.size)) rs
def RecOk (rs : List ByteArray) : Prop := ∀ r ∈ rs, 0 < r.size ∧ r.size ≤ 65535
def fitL (T : Nat) : Nat → List ByteArray → Nat
  | _, [] => 0
  | a, r :: rs => if a + 2 + r.size ≤ T then fitL T (a + 2 + r.size) rs + 1 else 0
theorem encL_size : ∀ rs, (encL rs).size = lenL rs
  | [] => rfl
  | r :: rs => by rw [encL, lenL, ByteArray.size_append, ByteArray.size_append, leS_size, encL_size rs]
theorem lenL_append : ∀ a b, lenL (a ++ b) = lenL a + lenL b
  | [], b => by simp [lenL]
  | r :: rs, b => by rw [List.cons_append, lenL, lenL, lenL_append rs b]; omega
theorem encL_append : ∀ a b, encL (a ++ b) = encL a ++ encL b
  | [], b => by rw [List.nil_append, encL, bytes_nil_left]
  | r :: rs, b => by rw [List.cons_append, encL, encL, encL_append rs b, bytes_assoc (leS r.size 2 ++ r)]
theorem plL_append : ∀ p a b, plL p (a ++ b) = plL p a ++ plL (p + lenL a) b
  | p, [], b => by simp [plL, lenL]
  | p, r :: rs, b => by
    rw [List.cons_append, plL, plL, plL_append _ rs b, lenL, List.cons_append]
    congr 3
    push_cast
    omega
theorem plL_length : ∀ p rs, (plL p rs).length = rs.length
  | p, [] => rfl
  | p, r :: rs => by rw [plL, List.length_cons, List.length_cons, plL_length _ rs]
theorem plL_take : ∀ p rs i, (plL p rs).take i = plL p (rs.take i)
  | p, [], i => by simp [plL]
  | p, r :: rs, 0 => by simp [plL]
  | p, r :: rs, i + 1 => by rw [plL, List.take_succ_cons, List.take_succ_cons, plL, plL_take _ rs i]
theorem lenL_pos {rs : List ByteArray} : lenL rs = 0 ↔ rs = [] := by
  cases rs with
  | nil => simp [lenL]
  | cons r rs => simp [lenL]
theorem mid_extract (X Y Z : ByteArray) : (X ++ Y ++ Z).extract X.size (X.size + Y.size) = Y := by
  apply ByteArray.ext
  apply Array.toList_inj.1
  have h1 : X.size = X.data.toList.length := by simp
  have h2 : Y.size = Y.data.toList.length := by simp
  rw [ByteArray.data_extract, Array.toList_extract, h1, h2]
  simp [List.extract, ByteArray.data_append]
theorem cut_extract (B : ByteArray) (T a b : Nat) (hab : a ≤ b) (hb : b ≤ T) (hT : T ≤ B.size) : (B.extract 0 T).extract a b = B.extract a b := by
  have := extract_extract B 0 T a b hab (by omega) hT
  simpa using this
theorem prs_enc (base : Int) : ∀ (rs : List ByteArray) (P : ByteArray) (T f : Nat), RecOk rs → T ≤ P.size + lenL rs → T < f + P.size →
    prs ((P ++ encL rs).extract 0 T) base f P.size = (plL (base + P.size) (rs.take (fitL T P.size rs)), P.size + lenL (rs.take (fitL T P.size rs)))
  | [], P, T, f, hr, hT, hf => by
    have hs : ((P ++ encL []).extract 0 T).size = T := by rw [ByteArray.size_extract, ByteArray.size_append, encL_size]; simp [lenL] at hT ⊢; omega
    cases f with
    | zero => simp [prs, fitL, plL, lenL]
    | succ f =>
      rw [prs, hs, if_neg (by simp [lenL] at hT; omega)]
      simp [fitL, plL, lenL]
  | r :: rs, P, T, f, hr, hT, hf => by
    have hr1 := hr r (List.mem_cons_self)
    have hrs : RecOk rs := fun x hx => hr x (List.mem_cons_of_mem _ hx)
    have hsz : (P ++ encL (r :: rs)).size = P.size + lenL (r :: rs) := by rw [ByteArray.size_append, encL_size]
    have hs : ((P ++ encL (r :: rs)).extract 0 T).size = T := by rw [ByteArray.size_extract, hsz]; omega
    have hall : P ++ encL (r :: rs) = (P ++ leS r.size 2 ++ r) ++ encL rs := by rw [encL]; simp only [bytes_assoc]
    have hP' : (P ++ leS r.size 2 ++ r).size = P.size + 2 + r.size := by rw [ByteArray.size_append, ByteArray.size_append, leS_size]
    rw [lenL] at hT
    cases f with
    | zero => rw [prs, fitL, if_neg (by omega)]; simp [plL, lenL]
    | succ f =>
      rw [prs, hs]
      by_cases h2 : P.size + 2 ≤ T
      · have e1 : ((P ++ encL (r :: rs)).extract 0 T).extract P.size (P.size + 2) = leS r.size 2 := by
          rw [cut_extract _ _ _ _ (by omega) h2 (by rw [hsz, lenL]; omega), encL]
          have := mid_extract P (leS r.size 2) (r ++ encL rs)
          rw [leS_size] at this
          simpa only [bytes_assoc] using this
        have e2 : valS (leS (r.size : Int) 2) = r.size := valS_leS _ _ (by omega) (by omega)
        rw [e1, e2, Int.toNat_natCast]
        by_cases h3 : P.size + 2 + r.size ≤ T
        · have e3 : ((P ++ encL (r :: rs)).extract 0 T).extract (P.size + 2) (P.size + 2 + r.size) = r := by
            rw [cut_extract _ _ _ _ (by omega) h3 (by rw [hsz, lenL]; omega), hall]
            have := mid_extract (P ++ leS r.size 2) r (encL rs)
            rw [ByteArray.size_append, leS_size] at this
            exact this
          rw [if_pos ⟨h2, by omega, h3⟩, e3, fitL, if_pos h3]
          have ih := prs_enc base rs (P ++ leS r.size 2 ++ r) T f hrs (by rw [hP']; omega) (by rw [hP']; omega)
          rw [← hall, hP'] at ih
          rw [ih, List.take_succ_cons, plL, lenL]
          refine Prod.ext ?_ ?_
          · show _ :: _ = _ :: _
            rw [show base + ((P.size + 2 + r.size : Nat) : Int) = base + P.size + (2 + r.size) by omega]
          · show P.size + 2 + r.size + lenL _ = P.size + (2 + r.size + lenL _)
            omega
        · rw [if_neg (fun h => h3 h.2.2), fitL, if_neg h3]
          simp [plL, lenL]
      · rw [if_neg (fun h => h2 h.1), fitL, if_neg (by omega)]
        simp [plL, lenL]
/-- how many fit: bounds -/
theorem fitL_le (T : Nat) : ∀ (a : Nat) (rs : List ByteArray), fitL T a rs ≤ rs.length ∧ (a ≤ T → a + lenL (rs.take (fitL T a rs)) ≤ T)
  | a, [] => by simp [fitL, lenL]
  | a, r :: rs => by
    rw [fitL]
    have ih := fitL_le T (a + 2 + r.size) rs
    split
    · rename_i h
      refine ⟨by simp; exact ih.1, fun _ => ?_⟩
      rw [List.take_succ_cons, lenL]
      have := ih.2 h
      omega
    · exact ⟨Nat.zero_le _, fun h => by simp [lenL]; exact h⟩
theorem fitL_ge (T : Nat) : ∀ (a : Nat) (rs : List ByteArray) (i : Nat), i ≤ rs.length → a + lenL (rs.take i) ≤ T → i ≤ fitL T a rs
  | a, [], i, hi, h => by
    have : i = 0 := by simpa using hi
    subst this
    exact Nat.zero_le _
  | a, r :: rs, 0, hi, h => Nat.zero_le _
  | a, r :: rs, i + 1, hi, h => by
    rw [List.take_succ_cons, lenL] at h
    rw [fitL, if_pos (by omega)]
    have := fitL_ge T (a + 2 + r.size) rs i (by simpa using hi) (by omega)
    omega
end Go.Proofs.Ytafiojmbaickpaa
