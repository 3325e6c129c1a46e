import Derived.Test.YtgealllnchpekaaNodeW
import Derived.Test.YtgealllnchpekaaNodeOver
import Derived.Test.YtgealllnchpekaaNodeTake
set_option linter.unusedSimpArgs false
set_option linter.unusedVariables false
namespace Go.Proofs.Ytgealllnchpekaa
open Go.RowKit

/-! ### append of a piece of a list of cells -/
theorem run_append_zero {P : Program} (w : World) (t ty e : TypeId) (i : TypeInfo) (ht : P.underlying t = some (.slice e)) (hi : P.info? e = some i) (a : Option Addr) (n c : Nat) (hnc : n ≤ c) (b : Option Addr) (d : Nat) :
    (Builtin.append_ #[t, t] ty #[.slice a n c, .slice b 0 d]).run P w = .ok (.slice a n c) w := by
  have hl : ∀ (x : Addr), (loadCells x 0).run P w = .ok #[] w := fun x => by simpa using run_loadCells_list (P := P) w x [] (by simp)
  cases a <;> cases b <;> simp [Builtin.append_, run_underlying ht, Builtin.lenOf, Builtin.firstCells, sizeOf, typeInfo, hi, hnc, hl, storeCells]
theorem OwnS.cap {w : World} {e : TypeId} {size : Nat} {v : Value} {n : Nat} {xs : List Value} (h : OwnS w e size v n xs) : ∃ a c, v = .slice a n c ∧ n ≤ c := by
  rcases h.2 with ⟨rfl, rfl⟩ | ⟨g, cap, cur, rfl, _, _, hc, _⟩
  · exact ⟨_, _, rfl, Nat.le_refl _⟩
  · exact ⟨_, _, rfl, hc⟩
theorem wpList_append_seg {P : Program} {w : World} {ops : Array Oper} {rest : List Oper} {o : Oper} {a : Act} {Q : Exit → Act → World → Prop} (hgd : o.guard = none) (s x : Operand) (t : TypeId)
    (ho : o.op = .call { callee := .builtin .append, args := #[s, x], argTypes := #[t, t] })
    (e : TypeId) (i : TypeInfo) (z : Value) (size bytes : Nat) (ht : P.underlying t = some (.slice e)) (hi : P.info? e = some i) (hz : i.zero = some z)
    (hsize : i.size = size) (hby : i.bytes = bytes) (hzs : z.cells.size = size) (hsz : 0 < size)
    (v : Value) (n : Nat) (xs : List Value) (hs : a.eval s = v) (hown : OwnS w e size v n xs)
    (ad : Option Addr) (m c : Nat) (news : List Value) (hx : a.eval x = .slice ad m c) (hl : news.length = m * size) (hnews : ∀ a', ad = some a' → ∀ j u, news[j]? = some u → w.cell? (a'.add j) = some u) (hsome : 0 < m → ad.isSome = true) (h1 : ∀ u ∈ news, u.oneCell' = true)
    (h63 : n + m ≤ maxLen) (hbytes : ((n + m) + (n + m) / 4 + 192) * bytes ≤ 281474976710656)
    (h : ∀ v' w', OwnS w' e size v' (n + m) (xs ++ news) → Keeps (· ∈ blk v) w w' → (∀ k ∈ blk v', k ∈ blk v ∨ w.heap.size ≤ k) → wpList P ops Q rest (a.put o.dst v') w') : wpList P ops Q (o :: rest) a w := by
  by_cases hm : m = 0
  · subst hm
    obtain rfl : news = [] := List.eq_nil_of_length_eq_zero (by simpa using hl)
    obtain ⟨va, vc, rfl, hvc⟩ := hown.cap
    refine wpList_plain hgd fun K hK => ?_
    unfold Oper.wp execOp
    simp only [ho, resolve, invoke, builtin, Sem.run_bind, Sem.run_pure, Result.andThen_ok, List.map_toArray, List.map_cons, List.map_nil, hs, hx, run_append_zero w t o.type e i ht hi va n vc hvc ad c]
    exact hK _ _ (h _ _ (by simpa using hown) (Keeps.refl _ _) (fun k hk => .inl hk))
  · obtain ⟨a', rfl⟩ := Option.isSome_iff_exists.1 (hsome (by omega))
    exact wpList_append_frame w hgd s x t ho e i z size bytes ht hi hz hsize hby hzs hsz v n xs hs hown a' m c news hx hl (hnews a' rfl) h1 h63 hbytes (fun v' w' p q r _ => h v' w' p q r)
theorem cellsL_prefix (P : Pg) : ∀ n i j, i ≤ n → j < i * 2 → (cellsL P n)[j]? = (cellsL P i)[j]?
  | 0, i, j, h, hj => by omega
  | n + 1, i, j, h, hj => by
    by_cases e : i = n + 1
    · subst e; rfl
    · rw [cellsL, List.getElem?_append_left (by rw [cellsL_length]; omega)]
      exact cellsL_prefix P n i j (by omega) hj
theorem cellsL_one (P : Pg) : ∀ n, ∀ v ∈ cellsL P n, v.oneCell' = true
  | 0 => fun v h => by cases h
  | n + 1 => fun v h => by
    rw [cellsL] at h
    rcases List.mem_append.1 h with h | h
    · exact cellsL_one P n v h
    · simp only [List.mem_cons, List.not_mem_nil, or_false] at h
      rcases h with rfl | rfl <;> rfl
/-- what a piece of the list reads -/
theorem head_src {w : World} {B g c : Nat} {P : Pg} {n : Nat} (h : CellsAt w B (.slice (some ⟨g, 0, none⟩) n c) P n) (i : Nat) (hi : i ≤ n) : ∀ j u, (cellsL P i)[j]? = some u → w.cell? ((⟨g, 0, none⟩ : Addr).add j) = some u := by
  intro j u hj
  have hlt : j < i * 2 := by rw [← cellsL_length P i]; exact (List.getElem?_eq_some_iff.1 hj).1
  have e : (⟨g, 0, none⟩ : Addr).add j = ⟨g, j, none⟩ := by unfold Addr.add; split <;> simp_all
  rw [e, World.ownsRow.cellAt h.1 j (by omega), cellsL_prefix P n i j hi hlt, hj]
theorem tail_src {w : World} {B g c : Nat} {P : Pg} {n : Nat} (h : CellsAt w B (.slice (some ⟨g, 0, none⟩) n c) P n) (i m : Nat) (hi : i + m ≤ n) : ∀ j u, (segL P i m)[j]? = some u → w.cell? ((⟨g, i * 2, none⟩ : Addr).add j) = some u := by
  intro j u hj
  have hlt : j < m * 2 := by rw [← segL_length P m i]; exact (List.getElem?_eq_some_iff.1 hj).1
  have e : (⟨g, i * 2, none⟩ : Addr).add j = ⟨g, i * 2 + j, none⟩ := by unfold Addr.add; split <;> simp_all
  rw [e]
  obtain ⟨k, hk | hk⟩ : ∃ k, j = k * 2 ∨ j = k * 2 + 1 := ⟨j / 2, by omega⟩
  · subst hk
    rw [(segL_get P m i k (by omega)).1] at hj
    rw [← hj, show i * 2 + k * 2 = (i + k) * 2 by omega]
    exact (h.at (i + k) (by omega)).1
  · subst hk
    rw [(segL_get P m i k (by omega)).2] at hj
    rw [← hj, show i * 2 + (k * 2 + 1) = (i + k) * 2 + 1 by omega]
    exact (h.at (i + k) (by omega)).2
theorem put_list (P : Pg) (i n : Nat) (s : Int) (d : ByteArray) (hi : i ≤ n) (hn : n < 6) : (cellsL P i ++ [.int .i64 s, .string d]) ++ segL P i (n - i) = cellsL (putPg P i n s d) (n + 1) ∧ pgC (overPg P (putPg P i n s d) (n + 1)) = pgC (putPg P i n s d) := by
  match n, hn, i, hi with
  | 0, _, 0, _ => exact ⟨rfl, rfl⟩
  | 1, _, 0, _ => exact ⟨rfl, rfl⟩
  | 1, _, 1, _ => exact ⟨rfl, rfl⟩
  | 2, _, 0, _ => exact ⟨rfl, rfl⟩
  | 2, _, 1, _ => exact ⟨rfl, rfl⟩
  | 2, _, 2, _ => exact ⟨rfl, rfl⟩
  | 3, _, 0, _ => exact ⟨rfl, rfl⟩
  | 3, _, 1, _ => exact ⟨rfl, rfl⟩
  | 3, _, 2, _ => exact ⟨rfl, rfl⟩
  | 3, _, 3, _ => exact ⟨rfl, rfl⟩
  | 4, _, 0, _ => exact ⟨rfl, rfl⟩
  | 4, _, 1, _ => exact ⟨rfl, rfl⟩
  | 4, _, 2, _ => exact ⟨rfl, rfl⟩
  | 4, _, 3, _ => exact ⟨rfl, rfl⟩
  | 4, _, 4, _ => exact ⟨rfl, rfl⟩
  | 5, _, 0, _ => exact ⟨rfl, rfl⟩
  | 5, _, 1, _ => exact ⟨rfl, rfl⟩
  | 5, _, 2, _ => exact ⟨rfl, rfl⟩
  | 5, _, 3, _ => exact ⟨rfl, rfl⟩
  | 5, _, 4, _ => exact ⟨rfl, rfl⟩
  | 5, _, 5, _ => exact ⟨rfl, rfl⟩
theorem take_list (P : Pg) (i n : Nat) (hi : i < n) (hn : n ≤ 6) : (cellsL P i ++ segL P (i + 1) (n - (i + 1))) ++ [.int .i64 0, .string ⟨#[]⟩] = cellsL (takePg P i n) n ∧ pgC (overPg P (takePg P i n) n) = pgC (takePg P i n) := by
  match n, hn, i, hi with
  | 1, _, 0, _ => exact ⟨rfl, rfl⟩
  | 2, _, 0, _ => exact ⟨rfl, rfl⟩
  | 2, _, 1, _ => exact ⟨rfl, rfl⟩
  | 3, _, 0, _ => exact ⟨rfl, rfl⟩
  | 3, _, 1, _ => exact ⟨rfl, rfl⟩
  | 3, _, 2, _ => exact ⟨rfl, rfl⟩
  | 4, _, 0, _ => exact ⟨rfl, rfl⟩
  | 4, _, 1, _ => exact ⟨rfl, rfl⟩
  | 4, _, 2, _ => exact ⟨rfl, rfl⟩
  | 4, _, 3, _ => exact ⟨rfl, rfl⟩
  | 5, _, 0, _ => exact ⟨rfl, rfl⟩
  | 5, _, 1, _ => exact ⟨rfl, rfl⟩
  | 5, _, 2, _ => exact ⟨rfl, rfl⟩
  | 5, _, 3, _ => exact ⟨rfl, rfl⟩
  | 5, _, 4, _ => exact ⟨rfl, rfl⟩
  | 6, _, 0, _ => exact ⟨rfl, rfl⟩
  | 6, _, 1, _ => exact ⟨rfl, rfl⟩
  | 6, _, 2, _ => exact ⟨rfl, rfl⟩
  | 6, _, 3, _ => exact ⟨rfl, rfl⟩
  | 6, _, 4, _ => exact ⟨rfl, rfl⟩
  | 6, _, 5, _ => exact ⟨rfl, rfl⟩
theorem cell_two_new' (w : World) (x y : Value) (T : TypeId) (f : Nat × Nat) (n : Nat) (hn : n = w.heap.size) : ∀ a', some (⟨n, 0, none⟩ : Addr) = some a' → ∀ (j : Nat) (u : Value), [x, y][j]? = some u → (w.alloc (.cells #[x, y] T f)).cell? (a'.add j) = some u := by
  intro a' e j u hj
  obtain rfl := Option.some.inj e
  exact cell_two_new w x y T f n hn j u hj
end Go.Proofs.Ytgealllnchpekaa
