import Derived.Test.YtafiojmbaickpaaWalJ
import Derived.Test.YtafiojmbaickpaaLibG
import Derived.WalkSpells
set_option linter.unusedSimpArgs false
set_option linter.unusedVariables false
namespace Go.Proofs.Ytafiojmbaickpaa
open Go.RowKit

theorem cell_below {w wr : World} {g o : Nat} (hb : Below w.heap.size w wr) (hg : g < w.heap.size) : wr.cell? ⟨g, o, none⟩ = w.cell? ⟨g, o, none⟩ := by
  simp [World.cell?, hb.block g hg]
theorem recV_one : ∀ (l : List (Int × ByteArray)), ∀ u ∈ recV l, u.oneCell' = true
  | [], u, h => by cases h
  | x :: l, u, h => by
    have h : u = .int .i64 x.1 ∨ u = .string x.2 ∨ u ∈ recV l := by
      obtain ⟨x1, x2⟩ := x
      simpa [recV] using h
    rcases h with rfl | rfl | h
    · rfl
    · rfl
    · exact recV_one l u h
/-- a slice of entries that nobody else writes: at v, holding L -/
def EntSl (w : World) (v : Value) (L : List (Int × ByteArray)) : Prop := ∃ a c, v = .slice a L.length c ∧ (0 < L.length → ∃ g o, a = some ⟨g, o, none⟩ ∧ g < w.heap.size ∧ ∀ j u, (recV L)[j]? = some u → w.cell? ⟨g, o + j, none⟩ = some u)
theorem OwnS.ent {w : World} {v : Value} {L : List (Int × ByteArray)} (h : OwnS w 44 2 v L.length (recV L)) : EntSl w v L := by
  obtain ⟨a, c, rfl⟩ := h.form
  refine ⟨a, c, rfl, fun hl => ?_⟩
  obtain ⟨g, c', he⟩ := h.has hl
  obtain ⟨rfl, rfl⟩ : a = some ⟨g, 0, none⟩ ∧ c = c' := by simpa using he
  refine ⟨g, 0, rfl, h.lt (by simp [blk, Value.ownBlock]), fun j u hj => ?_⟩
  have := World.ownsRow.cells h (g := g) rfl j u hj
  rwa [Addr.add_mid] at this
set_option maxRecDepth 100000 in
set_option maxHeartbeats 800000 in
theorem ent_clone (v : Value) (L : List (Int × ByteArray)) (hL : L.length ≤ 221184) (w : World) (h : EntSl w v L) :
    Calls Try.prog 33 #[v] w fun e w' => ∃ v', OwnS w' 44 2 v' L.length (recV L) ∧ (∀ k ∈ blk v', w.heap.size ≤ k) ∧ e = .returned v' ∧ Below w.heap.size w w' := by
  obtain ⟨i0, hj, hj0, hj1, hj2⟩ := info_parts Try.info_ent
  obtain ⟨a, c, rfl, hc⟩ := h
  cases a with
  | none =>
    have hl : L = [] := by
      cases L with
      | nil => rfl
      | cons x l => obtain ⟨g, o, he, _⟩ := hc (by simp); cases he
    subst hl
    have hnil : (binOp .eql 42 (.slice none 0 c) (.slice none 0 0)).run Try.prog w = .ok (.bool true) w := run_eql_nil_slice (P := Try.prog) w 42 44 none 0 c 0 0 Try.underlying42
    clear hc
    go_enter Try.func33, Try.ntmps33
    go_wp2_with fail
    go_ret
    exact ⟨.slice none 0 0, OwnS.nil _ _ _, by simp [blk, Value.ownBlock], rfl, bR⟩
  | some a =>
    have hO : OwnS (w.alloc (.cells #[] 44)) 44 2 (.slice (some ⟨w.heap.size, 0, none⟩) 0 0) 0 [] := ⟨rfl, .inr ⟨w.heap.size, 0, #[], rfl, Nat.zero_le _, hN rfl, Nat.le_refl _, by unfold maxLen; omega, rfl, rfl⟩⟩
    have hW : ∀ a', some a = some a' → ∀ j u, (recV L)[j]? = some u → (w.alloc (.cells #[] 44)).cell? (a'.add j) = some u := fun a' ha j u hj => by
      have hpos : 0 < L.length := by
        cases L with
        | nil => simp [recV] at hj
        | cons x l => simp
      obtain ⟨g, o, he, hg, hcell⟩ := hc hpos
      obtain rfl := Option.some.inj ha
      obtain rfl := Option.some.inj he
      rw [Addr.add_mid]; exact (cell_below (bA bR) hg).trans (hcell j u hj)
    have hlen := recV_length L
    have hnil : (binOp .eql 42 (.slice (some a) L.length c) (.slice none 0 0)).run Try.prog w = .ok (.bool false) w := run_eql_nil_slice (P := Try.prog) w 42 44 (some a) L.length c 0 0 Try.underlying42
    clear hc
    go_enter Try.func33, Try.ntmps33
    go_wp2_with (at_builtin; (refine wpList_append_seg rfl _ _ 42 rfl 44 i0 (.agg #[.int .i64 0, .string .empty]) 2 24 Try.underlying42 hj hj0 hj1 hj2 rfl (by decide) _ _ _ rfl hO _ L.length _ (recV L) rfl hlen hW (fun _ => rfl) (recV_one L) (by unfold maxLen; omega) (by omega) ?_); intro v5 w5 ho5 hk5 hb5)
    go_ret
    refine ⟨v5, by simpa using ho5, fun k hk => ?_, rfl, ?_⟩
    · rcases hb5 k hk with h' | h'
      · have : k = w.heap.size := by simpa [blk, Value.ownBlock, Act.eval] using h'
        omega
      · simp at h'; omega
    · exact bK (bA bR) hk5 (fun k hk => by
        have : k = w.heap.size := by simpa [blk, Value.ownBlock, Act.eval] using hk
        omega)
theorem OwnS.shrink {w : World} {e : TypeId} {v : Value} {n : Nat} {xs : List Value} (h : OwnS w e 1 v n xs) (m : Nat) (hm : m ≤ n) : ∃ a c, v = .slice a n c ∧ OwnS w e 1 (.slice a m c) m (xs.take m) := by
  rcases h.2 with ⟨rfl, rfl⟩ | ⟨g, cap, cur, rfl, hbg, hg, hnc, hcm, hcs, htake⟩
  · obtain rfl : m = 0 := by omega
    exact ⟨none, 0, rfl, by simpa using OwnS.nil w e 1⟩
  · refine ⟨_, _, rfl, ?_, .inr ⟨g, cap, cur, rfl, hbg, hg, by omega, hcm, hcs, ?_⟩⟩
    · have := h.1; rw [List.length_take]; omega
    · rw [← htake, List.take_take]; congr 1; omega
theorem strCells_take (s : ByteArray) (m : Nat) : (Lib.strCells s).take m = Lib.strCells (s.extract 0 m) := by
  unfold Lib.strCells
  rw [← List.map_take]
  congr 1
  simp [ByteArray.data_extract]
theorem zeros_succ (m : Nat) : zeros (m + 1) = zeros m ++ ⟨#[0]⟩ := by
  apply ByteArray.ext
  apply Array.toList_inj.1
  rw [ByteArray.data_append, Array.toList_append]
  unfold zeros
  rw [strOfNums_data, strOfNums_data, replicate_snoc, List.map_append]
  rfl
end Go.Proofs.Ytafiojmbaickpaa
