import Derived.Test.YtiollfjhfcaogaaWaitsC
import Derived.WalkSpells
set_option linter.unusedSimpArgs false
set_option linter.unusedVariables false
namespace Go.Proofs.Ytiollfjhfcaogaa
open Go.RowKit

theorem run_append_zero {P : Program} (w : World) (t ty e : TypeId) (i : TypeInfo) (ht : P.underlying t = some (.slice e)) (hi : P.info? e = some i) (a : Option Addr) (n c : Nat) (hnc : n ≤ c) (b : Option Addr) (d : Nat) :
    (Builtin.append_ #[t, t] ty #[.slice a n c, .slice b 0 d]).run P w = .ok (.slice a n c) w := by
  have hl : ∀ (x : Addr), (loadCells x 0).run P w = .ok #[] w := fun x => by simpa using run_loadCells_list (P := P) w x [] (by simp)
  cases a <;> cases b <;> simp [Builtin.append_, run_underlying ht, Builtin.lenOf, Builtin.firstCells, sizeOf, typeInfo, hi, hnc, hl, storeCells]
theorem OwnS.cap {w : World} {e : TypeId} {size : Nat} {v : Value} {n : Nat} {xs : List Value} (h : OwnS w e size v n xs) : ∃ a c, v = .slice a n c ∧ n ≤ c := by
  rcases h.2 with ⟨rfl, rfl⟩ | ⟨g, cap, cur, rfl, _, _, hc, _⟩
  · exact ⟨_, _, rfl, Nat.le_refl _⟩
  · exact ⟨_, _, rfl, hc⟩
theorem wpList_append_seg {P : Program} {w : World} {ops : Array Oper} {rest : List Oper} {o : Oper} {a : Act} {Q : Exit → Act → World → Prop} (hgd : o.guard = none) (s x : Operand) (t : TypeId)
    (ho : o.op = .call { callee := .builtin .append, args := #[s, x], argTypes := #[t, t] })
    (e : TypeId) (i : TypeInfo) (z : Value) (size bytes : Nat) (ht : P.underlying t = some (.slice e)) (hi : P.info? e = some i) (hz : i.zero = some z)
    (hsize : i.size = size) (hby : i.bytes = bytes) (hzs : z.cells.size = size) (hsz : 0 < size)
    (v : Value) (n : Nat) (xs : List Value) (hs : a.eval s = v) (hown : OwnS w e size v n xs)
    (ad : Option Addr) (m c : Nat) (news : List Value) (hx : a.eval x = .slice ad m c) (hl : news.length = m * size) (hnews : ∀ a', ad = some a' → ∀ j u, news[j]? = some u → w.cell? (a'.add j) = some u) (hsome : 0 < m → ad.isSome = true) (h1 : ∀ u ∈ news, u.oneCell' = true)
    (h63 : n + m ≤ maxLen) (hbytes : ((n + m) + (n + m) / 4 + 192) * bytes ≤ 281474976710656)
    (h : ∀ v' w', OwnS w' e size v' (n + m) (xs ++ news) → Keeps (· ∈ blk v) w w' → (∀ k ∈ blk v', k ∈ blk v ∨ w.heap.size ≤ k) → wpList P ops Q rest (a.put o.dst v') w') : wpList P ops Q (o :: rest) a w := by
  by_cases hm : m = 0
  · subst hm
    obtain rfl : news = [] := List.eq_nil_of_length_eq_zero (by simpa using hl)
    obtain ⟨va, vc, rfl, hvc⟩ := hown.cap
    refine wpList_plain hgd fun K hK => ?_
    unfold Oper.wp execOp
    simp only [ho, resolve, invoke, builtin, Sem.run_bind, Sem.run_pure, Result.andThen_ok, List.map_toArray, List.map_cons, List.map_nil, hs, hx, run_append_zero w t o.type e i ht hi va n vc hvc ad c]
    exact hK _ _ (h _ _ (by simpa using hown) (Keeps.refl _ _) (fun k hk => .inl hk))
  · obtain ⟨a', rfl⟩ := Option.isSome_iff_exists.1 (hsome (by omega))
    exact wpList_append_frame w hgd s x t ho e i z size bytes ht hi hz hsize hby hzs hsz v n xs hs hown a' m c news hx hl (hnews a' rfl) h1 h63 hbytes (fun v' w' p q r _ => h v' w' p q r)
set_option maxHeartbeats 1600000 in
theorem sl_clone (a : Addr) (m c : Nat) (L : Nat → Int) (hm : m ≤ 64) (w : World) (h : Words w (some a) m L) :
    Calls Try.prog 24 #[.slice (some a) m c] w fun e w' => ∃ v, OwnS w' 41 1 v m (wordsL L m) ∧ (∀ k ∈ blk v, w.heap.size ≤ k) ∧ e = .returned v ∧ Below w.heap.size w w' := by
  obtain ⟨i0, hj, hj0, hj1, hj2⟩ := info_parts Try.info_u64
  have hO : OwnS (w.alloc (.cells #[] 41)) 41 1 (.slice (some ⟨w.heap.size, 0, none⟩) 0 0) 0 [] := ⟨rfl, .inr ⟨w.heap.size, 0, #[], rfl, Nat.zero_le _, hN rfl, Nat.le_refl _, by unfold maxLen; omega, rfl, rfl⟩⟩
  have hW : Words (w.alloc (.cells #[] 41)) (some a) m L := fun j hj => by
    obtain ⟨g, o, e, hg, hc⟩ := h j hj
    exact ⟨g, o, e, by simp; omega, (cell_below (bA bR) hg).trans hc⟩
  have hnil : (binOp .eql 24 (.slice (some a) m c) (.slice none 0 0)).run Try.prog w = .ok (.bool false) w := run_eql_nil_slice (P := Try.prog) w 24 41 (some a) m c 0 0 Try.underlying24
  go_enter Try.func24, Try.ntmps24
  go_wp2_with (at_builtin; (refine wpList_append_seg rfl _ _ 24 rfl 41 i0 (.int .u64 0) 1 8 Try.underlying24 hj hj0 hj1 hj2 rfl (by decide) _ _ _ rfl hO _ m _ (wordsL L m) rfl (by rw [wordsL_length]; omega) hW.src (fun _ => rfl) (wordsL_one L m) (by unfold maxLen; omega) (by omega) ?_); intro v5 w5 ho5 hk5 hb5)
  go_ret
  refine ⟨v5, by simpa using ho5, fun k hk => ?_, rfl, ?_⟩
  · rcases hb5 k hk with h' | h'
    · have : k = w.heap.size := by simpa [blk, Value.ownBlock, Act.eval] using h'
      omega
    · simp at h'; omega
  · exact bK (bA bR) hk5 (fun k hk => by
      have : k = w.heap.size := by simpa [blk, Value.ownBlock, Act.eval] using hk
      omega)
end Go.Proofs.Ytiollfjhfcaogaa
