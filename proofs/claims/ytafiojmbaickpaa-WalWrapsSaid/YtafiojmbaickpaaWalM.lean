import Derived.Test.YtafiojmbaickpaaWalL
set_option linter.unusedSimpArgs false
set_option linter.unusedVariables false
namespace Go.Proofs.Ytafiojmbaickpaa
open Go.RowKit

def isPre (A S : List (Int × ByteArray)) (least : Int) : Bool := decide (least ≤ (S.length : Int) ∧ S.length ≤ A.length ∧ A.take S.length = S)
set_option maxRecDepth 100000 in
set_option maxHeartbeats 800000 in
theorem law_prefix (va vb : Value) (A S : List (Int × ByteArray)) (least : Int) (hA : A.length ≤ 4611686018427387904) (hS : S.length ≤ 4611686018427387904) (w : World) (ha : EntSl w va A) (hac : ∀ a c, va = .slice a A.length c → A.length ≤ c) (hb : EntSl w vb S) :
    Calls Try.prog 18 #[va, vb, .int .i64 least] w fun e w' => e = .returned (.bool (isPre A S least)) ∧ Below w.heap.size w w' := by
  obtain ⟨a, c, rfl⟩ := ha.form
  obtain ⟨b, d, rfl⟩ := hb.form
  have hcap : A.length ≤ c := hac a c rfl
  unfold isPre
  by_cases h1 : least ≤ (S.length : Int)
  · by_cases h2 : S.length ≤ A.length
    · have HS := Lib.hid (fun w' hw => ref_same (.slice a S.length c) (.slice b S.length d) (A.take S.length) S (by rw [List.length_take]; omega) hS w' ((ha.take S.length h2).later hw) (hb.later hw))
      rw [show decide (least ≤ (S.length : Int) ∧ S.length ≤ A.length ∧ A.take S.length = S) = decide (A.take S.length = S) by simp [h1, h2]]
      have h2' : (S.length : Int) ≤ A.length := by omega
      have h0 : (0 : Int) ≤ S.length := by omega
      clear ha hb hA
      generalize hL : A.length = la at *
      generalize hM : S.length = lb at *
      replace hL := Lib.hid hL
      replace hM := Lib.hid hM
      go_enter Try.func18, Try.ntmps18
      go_wp2_with fail
      refine (HS.out _ bR).mono ?_
      rintro e w2 ⟨rfl, hb⟩
      go_wp2_with fail
      go_ret
      exact ⟨rfl, hb⟩
    · have h2' : ¬ (S.length : Int) ≤ A.length := by omega
      rw [show decide (least ≤ (S.length : Int) ∧ S.length ≤ A.length ∧ A.take S.length = S) = false by simp [h1, h2]]
      clear ha hb
      replace h2 := Lib.hid h2
      go_enter Try.func18, Try.ntmps18
      go_wp2_with fail
      go_ret
      exact ⟨rfl, bR⟩
  · rw [show decide (least ≤ (S.length : Int) ∧ S.length ≤ A.length ∧ A.take S.length = S) = false by simp [h1]]
    clear ha hb
    go_enter Try.func18, Try.ntmps18
    go_wp2_with fail
    go_ret
    exact ⟨rfl, bR⟩
end Go.Proofs.Ytafiojmbaickpaa
