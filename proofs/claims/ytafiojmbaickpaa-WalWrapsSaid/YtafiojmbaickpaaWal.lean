import Derived.Test.YtafiojmbaickpaaWalShelf
import Derived.Test.YtafiojmbaickpaaOctet
import Derived.Lib.AppendStr
import Derived.Lib.SlBytesRow
import Derived.BigQuiet
set_option linter.unusedSimpArgs false
set_option linter.unusedVariables false
namespace Go.Proofs.Ytafiojmbaickpaa
open Go.RowKit

theorem str_some {k : ByteArray} (h : k.size ≠ 0) : (¬ k.toList = []) ∧ k.toList.isEmpty = false := by
  have : ¬ k.toList = [] := fun e => h (by
    rw [ByteArray.toList_eq] at e
    have : k.data = #[] := Array.toList_inj.1 e
    show k.data.size = 0; rw [this]; rfl)
  exact ⟨this, by simpa using this⟩
theorem str_none {k : ByteArray} (h : k.size = 0) : k = ⟨#[]⟩ := by
  cases k with
  | mk d => exact congrArg _ (Array.eq_empty_of_size_eq_zero h)
theorem bN {a w : World} (h : Below a.heap.size a w) (n : Nat) : Below a.heap.size a (w.drewN n) := ⟨h.os, h.tape, h.output, h.size, h.block⟩
theorem strCells_append (a b : ByteArray) : Lib.strCells (a ++ b) = Lib.strCells a ++ Lib.strCells b := by
  simp [Lib.strCells]
/-- append of a string's bytes onto an owned slice: the new value lies in the old block or in a new one -/
theorem run_append_str {P : Program} (w : World) (t u ty e : TypeId) (i : TypeInfo) (ht : P.underlying t = some (.slice e)) (hu : P.underlying u = some .string) (hi : P.info? e = some i) (hz : i.zero = some (.int .u8 0))
    (hsize : i.size = 1) (hby : i.bytes = 1) (v : Value) (n : Nat) (xs : List Value) (hown : OwnS w e 1 v n xs) (s : ByteArray) (h63 : n + s.size ≤ maxLen) (hbytes : n + s.size ≤ 140737488355328) :
    ∃ v' w', (Builtin.append_ #[t, u] ty #[v, .string s]).run P w = .ok v' w' ∧ OwnS w' e 1 v' (n + s.size) (xs ++ Lib.strCells s) ∧ Keeps (· ∈ blk v) w w' ∧ (∀ k ∈ blk v', k ∈ blk v ∨ w.heap.size ≤ k) := by
  have keeps : ∀ {w' : World}, w.grownBy w' v.ownBlock → Keeps (· ∈ blk v) w w' := fun hg => (Keeps.refl _ _).grown hg (fun k hk => .inl (mem_blk.2 hk))
  rcases hown.2 with ⟨rfl, rfl⟩ | ⟨g, cap, cur, rfl, hbg, hg, hnc, hcm, hcs, htake⟩
  · obtain ⟨v', w', hr, h2, h3, _⟩ := Lib.run_append_own_string (P := P) w w.heap.size t u ty e i ht hu hi hz hsize hby _ _ xs (hown.rebase _ (by simp [blk, Value.ownBlock])) s h63 hbytes (Nat.le_refl _)
    exact ⟨v', w', hr, OwnS.of h2, keeps h3, fun k hk => .inr (h2.lt k (mem_blk.1 hk)).1⟩
  · obtain ⟨v', w', hr, h2, h3, _⟩ := Lib.run_append_own_string (P := P) w 0 t u ty e i ht hu hi hz hsize hby _ _ xs hown s h63 hbytes (Nat.zero_le _)
    refine ⟨v', w', hr, h2, keeps h3, ?_⟩
    by_cases hroom : n + s.size ≤ cap
    · have hr' := Lib.run_append_room_string (P := P) w t u ty e i ht hu hi hsize g n cap cur hg s hroom (by omega)
      rw [hr'] at hr
      obtain ⟨rfl, -⟩ := Result.ok.inj hr
      intro k hk
      exact .inl (by simpa [blk, Value.ownBlock] using hk)
    · have holds : ∀ j u, xs[j]? = some u → w.cell? ((⟨g, 0, none⟩ : Addr).add j) = some u := World.ownsRow.cells hown (g := g) rfl
      have hxl : xs.length = n := by simpa using hown.1
      have hr' := Lib.run_append_grow_string (P := P) w t u ty e i (.int .u8 0) ht hu hi hz ⟨g, 0, none⟩ n cap xs (by rw [hsize]; omega) holds s (by omega) (by unfold maxLen at h63; omega) (by rw [hby]; exact growslice_fits (by omega) (by omega))
      rw [hr'] at hr
      obtain ⟨rfl, -⟩ := Result.ok.inj hr
      intro k hk
      have : k = w.heap.size := by simpa [blk, Value.ownBlock, eq_comm] using hk
      exact .inr (by omega)
theorem wpList_append_str {P : Program} {w : World} {ops : Array Oper} {rest : List Oper} {o : Oper} {a : Act} {Q : Exit → Act → World → Prop} (hgd : o.guard = none) (sl x : Operand) (t u : TypeId)
    (ho : o.op = .call { callee := .builtin .append, args := #[sl, x], argTypes := #[t, u] })
    (e : TypeId) (i : TypeInfo) (ht : P.underlying t = some (.slice e)) (hu : P.underlying u = some .string) (hi : P.info? e = some i) (hz : i.zero = some (.int .u8 0)) (hsize : i.size = 1) (hby : i.bytes = 1)
    (v : Value) (n : Nat) (xs : List Value) (hs : a.eval sl = v) (hown : OwnS w e 1 v n xs) (s : ByteArray) (hx : a.eval x = .string s) (h63 : n + s.size ≤ maxLen) (hbytes : n + s.size ≤ 140737488355328)
    (h : ∀ v' w', OwnS w' e 1 v' (n + s.size) (xs ++ Lib.strCells s) → Keeps (· ∈ blk v) w w' → (∀ k ∈ blk v', k ∈ blk v ∨ w.heap.size ≤ k) → wpList P ops Q rest (a.put o.dst v') w') : wpList P ops Q (o :: rest) a w := by
  refine wpList_plain hgd fun K hK => ?_
  obtain ⟨v', w', hr, h2, h3, h4⟩ := run_append_str (P := P) w t u o.type e i ht hu hi hz hsize hby v n xs hown s h63 hbytes
  unfold Oper.wp execOp
  simp only [ho, resolve, invoke, builtin, Sem.run_bind, Sem.run_pure, Result.andThen_ok, List.map_toArray, List.map_cons, List.map_nil, hs, hx, hr]
  exact hK _ _ (h v' w' h2 h3 h4)

/-! ### a log -/
structure Lg where
  first : Int
  n : Int
  start : Int
  fin : Int
  firm : Int
  base : Int
  buf : ByteArray
  list : List (Int × ByteArray)
def lgC (dp : Nat) (G : Lg) (bv lv : Value) : Array Value := #[.pointer (some ⟨dp, 0, none⟩), .int .i64 G.first, .int .i64 G.n, .int .i64 G.start, .int .i64 G.fin, .int .i64 G.firm, .int .i64 G.base, bv, lv]
def LgOk (G : Lg) : Prop := 128 ≤ G.n ∧ G.n ≤ 4096 ∧ 0 ≤ G.first ∧ G.first ≤ 16384 ∧ 0 ≤ G.base ∧ G.base ≤ G.fin ∧ G.fin ≤ 1152921504606846976 ∧ G.fin - G.base ≤ G.n * 54 ∧ (G.buf.size : Int) = G.fin - G.base ∧ (G.list.length : Int) * 3 ≤ G.fin - G.base ∧ 0 ≤ G.start ∧ G.start ≤ 1152921504606846976 ∧ 0 ≤ G.firm ∧ G.firm ≤ 1152921504606846976
/-- a log lies at p, its device at dp; S: its own blocks -/
def LogAt (w : World) (p dp : Nat) (G : Lg) (S : List Nat) : Prop := LgOk G ∧ ∃ bv lv : Value, w.heap[p]? = some (.cells (lgC dp G bv lv) 68 (0, 0)) ∧ OwnS w 5 1 bv G.buf.size (Lib.strCells G.buf) ∧ OwnS w 44 2 lv G.list.length (recV G.list) ∧ S = p :: (blk bv ++ blk lv) ∧ S.Nodup
theorem LogAt.keep {R : Nat → Prop} {w w' : World} {p dp : Nat} {G : Lg} {S : List Nat} (h : LogAt w p dp G S) (hk : Keeps R w w') (hS : ∀ k ∈ S, ¬ R k) : LogAt w' p dp G S := by
  obtain ⟨hok, bv, lv, h1, h2, h3, rfl, h6⟩ := h
  exact ⟨hok, bv, lv, hk.keep h1 (hS _ (by simp)), h2.keep hk (fun k hkk => hS k (by simp [hkk])), h3.keep hk (fun k hkk => hS k (by simp [hkk])), rfl, h6⟩
theorem LogAt.later {w w' : World} {p dp : Nat} {G : Lg} {S : List Nat} (h : LogAt w p dp G S) (hb : Below w.heap.size w w') : LogAt w' p dp G S := h.keep (Keeps.of_below (fun _ => False) hb) (fun _ _ => id)
theorem LogAt.lt {w : World} {p dp : Nat} {G : Lg} {S : List Nat} (h : LogAt w p dp G S) : ∀ k ∈ S, k < w.heap.size := by
  obtain ⟨hok, bv, lv, h1, h2, h3, rfl, h6⟩ := h
  intro k hk
  simp only [List.mem_cons, List.mem_append] at hk
  rcases hk with rfl | hk | hk
  · exact block_lt h1
  · exact h2.lt hk
  · exact h3.lt hk
def Lg.room (G : Lg) : Int := G.n * 54 - (G.fin - G.base)
theorem wal_room (p dp : Nat) (G : Lg) (S : List Nat) (w : World) (h : LogAt w p dp G S) : Calls Try.prog 11 #[.pointer (some ⟨p, 0, none⟩)] w fun e w' => e = .returned (.int .i64 G.room) ∧ Below w.heap.size w w' := by
  obtain ⟨hok, bv, lv, h1, -⟩ := h
  have c2 : w.cell? ⟨p, 2, none⟩ = some (.int .i64 G.n) := cell_at h1 2
  have c4 : w.cell? ⟨p, 4, none⟩ = some (.int .i64 G.fin) := cell_at h1 4
  have c6 : w.cell? ⟨p, 6, none⟩ = some (.int .i64 G.base) := cell_at h1 6
  obtain ⟨a1, a2, a3, a4, a5, a6, a7, a8, -⟩ := hok
  unfold Lg.room
  have e1 : IntKind.i64.wrap (G.n * 54) = G.n * 54 := by rw [IntKind.wrap_i64]; omega
  have e2 : IntKind.i64.wrap (G.fin - G.base) = G.fin - G.base := by rw [IntKind.wrap_i64]; omega
  have e3 : IntKind.i64.wrap (G.n * 54 - (G.fin - G.base)) = G.n * 54 - (G.fin - G.base) := by rw [IntKind.wrap_i64]; omega
  clear h1
  go_enter Try.func11, Try.ntmps11
  go_wp2_with fail
  go_quiet (fail)
  go_wp2_with fail
  go_ret
  exact ⟨rfl, bN bR _⟩
theorem wal_span (p dp : Nat) (G : Lg) (S : List Nat) (w : World) (h : LogAt w p dp G S) : Calls Try.prog 12 #[.pointer (some ⟨p, 0, none⟩)] w fun e w' => e = .returned (.tuple #[.int .i64 G.start, .int .i64 G.fin, .int .i64 G.firm]) ∧ Below w.heap.size w w' := by
  obtain ⟨hok, bv, lv, h1, -⟩ := h
  have c3 : w.cell? ⟨p, 3, none⟩ = some (.int .i64 G.start) := cell_at h1 3
  have c4 : w.cell? ⟨p, 4, none⟩ = some (.int .i64 G.fin) := cell_at h1 4
  have c5 : w.cell? ⟨p, 5, none⟩ = some (.int .i64 G.firm) := cell_at h1 5
  clear h1 hok
  go_enter Try.func12, Try.ntmps12
  go_wp2_with fail
  go_quiet (fail)
  go_wp2_with fail
  go_ret3
  exact ⟨rfl, bN bR _⟩
end Go.Proofs.Ytafiojmbaickpaa
