import Derived.Test.YtdkilpjebmhkkaaDoorMac
import Derived.Deep.RegionHeld3
import Derived.Test.YtdkilpjebmhkkaaDoorMak
import Derived.WalkSpells
set_option linter.unusedSimpArgs false
set_option linter.unusedVariables false
namespace Go.Proofs.YtdkilpjebmhkkaaDoor
open Go.RowKit

/-- append onto an owned slice, at a step of a region that draws -/
theorem step_append_frame {P : Program} {w : World} {ops : Array Oper} {o : Oper} {a : Act} {K : Act → World → Prop} {Q : Exit → Act → World → Prop} {E : Prop} (hgd : o.guard = none) (s x : Operand) (t : TypeId)
    (ho : o.op = .call { callee := .builtin .append, args := #[s, x], argTypes := #[t, t] })
    (e : TypeId) (i : TypeInfo) (z : Value) (size bytes : Nat) (ht : P.underlying t = some (.slice e)) (hi : P.info? e = some i) (hz : i.zero = some z)
    (hsize : i.size = size) (hby : i.bytes = bytes) (hzs : z.cells.size = size) (hsz : 0 < size)
    (v : Value) (n : Nat) (xs : List Value) (hs : a.eval s = v) (hown : OwnS w e size v n xs)
    (ad : Addr) (m c : Nat) (news : List Value) (hx : a.eval x = .slice (some ad) m c) (hl : news.length = m * size) (hnews : ∀ j u, news[j]? = some u → w.cell? (ad.add j) = some u) (h1 : ∀ u ∈ news, u.oneCell' = true)
    (h63 : n + m ≤ maxLen) (hbytes : ((n + m) + (n + m) / 4 + 192) * bytes ≤ 281474976710656) (hpos : 0 < n + m)
    (h : ∀ g cap w', OwnS w' e size (.slice (some ⟨g, 0, none⟩) (n + m) cap) (n + m) (xs ++ news) → Keeps (· ∈ blk v) w w' → (∀ k ∈ blk (.slice (some ⟨g, 0, none⟩) (n + m) cap), k ∈ blk v ∨ w.heap.size ≤ k) → K (a.put o.dst (.slice (some ⟨g, 0, none⟩) (n + m) cap)) w') :
    if Region.wanted o (yielded ops a.tmps) = true then Oper.wp P o a w K Q else E := by
  have hw : Region.wanted o (yielded ops a.tmps) = true := by simp [Region.wanted, hgd]
  rw [if_pos hw]
  obtain ⟨v', w', hr, h2, h3, h4, h5⟩ := run_append_frame (P := P) w t o.type e i z size bytes ht hi hz hsize hby hzs hsz v n xs hown ad m c news hl hnews h1 h63 hbytes
  obtain ⟨g, cap, rfl⟩ := h2.has hpos
  unfold Oper.wp execOp
  simp only [ho, resolve, invoke, builtin, Sem.run_bind, Sem.run_pure, Result.andThen_ok, List.map_toArray, List.map_cons, List.map_nil, hs, hx, hr]
  exact h g cap w' h2 h3 h4

theorem run_append_zero {P : Program} (w : World) (t ty e : TypeId) (i : TypeInfo) (ht : P.underlying t = some (.slice e)) (hi : P.info? e = some i) (a : Option Addr) (n c : Nat) (hnc : n ≤ c) (b : Option Addr) (d : Nat) :
    (Builtin.append_ #[t, t] ty #[.slice a n c, .slice b 0 d]).run P w = .ok (.slice a n c) w := by
  have hl : ∀ (x : Addr), (loadCells x 0).run P w = .ok #[] w := fun x => by simpa using run_loadCells_list (P := P) w x [] (by simp)
  cases a <;> cases b <;> simp [Builtin.append_, run_underlying ht, Builtin.lenOf, Builtin.firstCells, sizeOf, typeInfo, hi, hnc, hl, storeCells]
theorem OwnS.cap {w : World} {e : TypeId} {size : Nat} {v : Value} {n : Nat} {xs : List Value} (h : OwnS w e size v n xs) : ∃ a c, v = .slice a n c ∧ n ≤ c := by
  rcases h.2 with ⟨rfl, rfl⟩ | ⟨g, cap, cur, rfl, _, _, hc, _⟩
  · exact ⟨_, _, rfl, Nat.le_refl _⟩
  · exact ⟨_, _, rfl, hc⟩
theorem wpList_append_seg {P : Program} {w : World} {ops : Array Oper} {rest : List Oper} {o : Oper} {a : Act} {Q : Exit → Act → World → Prop} (hgd : o.guard = none) (s x : Operand) (t : TypeId)
    (ho : o.op = .call { callee := .builtin .append, args := #[s, x], argTypes := #[t, t] })
    (e : TypeId) (i : TypeInfo) (z : Value) (size bytes : Nat) (ht : P.underlying t = some (.slice e)) (hi : P.info? e = some i) (hz : i.zero = some z)
    (hsize : i.size = size) (hby : i.bytes = bytes) (hzs : z.cells.size = size) (hsz : 0 < size)
    (v : Value) (n : Nat) (xs : List Value) (hs : a.eval s = v) (hown : OwnS w e size v n xs)
    (ad : Option Addr) (m c : Nat) (news : List Value) (hx : a.eval x = .slice ad m c) (hl : news.length = m * size) (hnews : ∀ a', ad = some a' → ∀ j u, news[j]? = some u → w.cell? (a'.add j) = some u) (hsome : 0 < m → ad.isSome = true) (h1 : ∀ u ∈ news, u.oneCell' = true)
    (h63 : n + m ≤ maxLen) (hbytes : ((n + m) + (n + m) / 4 + 192) * bytes ≤ 281474976710656)
    (h : ∀ v' w', OwnS w' e size v' (n + m) (xs ++ news) → Keeps (· ∈ blk v) w w' → (∀ k ∈ blk v', k ∈ blk v ∨ w.heap.size ≤ k) → wpList P ops Q rest (a.put o.dst v') w') : wpList P ops Q (o :: rest) a w := by
  by_cases hm : m = 0
  · subst hm
    obtain rfl : news = [] := List.eq_nil_of_length_eq_zero (by simpa using hl)
    obtain ⟨va, vc, rfl, hvc⟩ := hown.cap
    refine wpList_plain hgd fun K hK => ?_
    unfold Oper.wp execOp
    simp only [ho, resolve, invoke, builtin, Sem.run_bind, Sem.run_pure, Result.andThen_ok, List.map_toArray, List.map_cons, List.map_nil, hs, hx, run_append_zero w t o.type e i ht hi va n vc hvc ad c]
    exact hK _ _ (h _ _ (by simpa using hown) (Keeps.refl _ _) (fun k hk => .inl hk))
  · obtain ⟨a', rfl⟩ := Option.isSome_iff_exists.1 (hsome (by omega))
    exact wpList_append_frame w hgd s x t ho e i z size bytes ht hi hz hsize hby hzs hsz v n xs hs hown a' m c news hx hl (hnews a' rfl) h1 h63 hbytes (fun v' w' p q r _ => h v' w' p q r)
end Go.Proofs.YtdkilpjebmhkkaaDoor

namespace Go.Proofs.YtdkilpjebmhkkaaDoor
open Go.RowKit

theorem cell_below {w wr : World} {g o : Nat} (hb : Below w.heap.size w wr) (hg : g < w.heap.size) : wr.cell? ⟨g, o, none⟩ = w.cell? ⟨g, o, none⟩ := by
  simp [World.cell?, hb.block g hg]
theorem recV_one : ∀ (l : List (Int × ByteArray)), ∀ u ∈ recV l, u.oneCell' = true
  | [], u, h => by cases h
  | x :: l, u, h => by
    have h : u = .int .i64 x.1 ∨ u = .string x.2 ∨ u ∈ recV l := by
      obtain ⟨x1, x2⟩ := x
      simpa [recV] using h
    rcases h with rfl | rfl | h
    · rfl
    · rfl
    · exact recV_one l u h
/-- a slice of entries that nobody else writes: at v, holding L -/
def EntSl (w : World) (v : Value) (L : List (Int × ByteArray)) : Prop := ∃ a c, v = .slice a L.length c ∧ (0 < L.length → ∃ g o, a = some ⟨g, o, none⟩ ∧ g < w.heap.size ∧ ∀ j u, (recV L)[j]? = some u → w.cell? ⟨g, o + j, none⟩ = some u)
theorem OwnS.ent {w : World} {v : Value} {L : List (Int × ByteArray)} (h : OwnS w 70 2 v L.length (recV L)) : EntSl w v L := by
  obtain ⟨a, c, rfl⟩ := h.form
  refine ⟨a, c, rfl, fun hl => ?_⟩
  obtain ⟨g, c', he⟩ := h.has hl
  obtain ⟨rfl, rfl⟩ : a = some ⟨g, 0, none⟩ ∧ c = c' := by simpa using he
  refine ⟨g, 0, rfl, h.lt (by simp [blk, Value.ownBlock]), fun j u hj => ?_⟩
  have := World.ownsRow.cells h (g := g) rfl j u hj
  rwa [Addr.add_mid] at this
set_option maxRecDepth 100000 in
set_option maxHeartbeats 800000 in
theorem ent_clone (v : Value) (L : List (Int × ByteArray)) (hL : L.length ≤ 221184) (w : World) (h : EntSl w v L) :
    Calls Tryd.prog 41 #[v] w fun e w' => ∃ v', OwnS w' 70 2 v' L.length (recV L) ∧ (∀ k ∈ blk v', w.heap.size ≤ k) ∧ e = .returned v' ∧ Below w.heap.size w w' := by
  obtain ⟨i0, hj, hj0, hj1, hj2⟩ := info_parts Tryd.info_ent
  obtain ⟨a, c, rfl, hc⟩ := h
  cases a with
  | none =>
    have hl : L = [] := by
      cases L with
      | nil => rfl
      | cons x l => obtain ⟨g, o, he, _⟩ := hc (by simp); cases he
    subst hl
    have hnil : (binOp .eql 61 (.slice none 0 c) (.slice none 0 0)).run Tryd.prog w = .ok (.bool true) w := run_eql_nil_slice (P := Tryd.prog) w 61 70 none 0 c 0 0 Tryd.underlying61
    clear hc
    go_enter Tryd.func41, Tryd.ntmps41
    go_wp2_with fail
    go_ret
    exact ⟨.slice none 0 0, OwnS.nil _ _ _, by simp [blk, Value.ownBlock], rfl, bR⟩
  | some a =>
    have hO : OwnS (w.alloc (.cells #[] 70)) 70 2 (.slice (some ⟨w.heap.size, 0, none⟩) 0 0) 0 [] := ⟨rfl, .inr ⟨w.heap.size, 0, #[], rfl, Nat.zero_le _, hN rfl, Nat.le_refl _, by unfold maxLen; omega, rfl, rfl⟩⟩
    have hW : ∀ a', some a = some a' → ∀ j u, (recV L)[j]? = some u → (w.alloc (.cells #[] 70)).cell? (a'.add j) = some u := fun a' ha j u hj => by
      have hpos : 0 < L.length := by
        cases L with
        | nil => simp [recV] at hj
        | cons x l => simp
      obtain ⟨g, o, he, hg, hcell⟩ := hc hpos
      obtain rfl := Option.some.inj ha
      obtain rfl := Option.some.inj he
      rw [Addr.add_mid]; exact (cell_below (bA bR) hg).trans (hcell j u hj)
    have hlen := recV_length L
    have hnil : (binOp .eql 61 (.slice (some a) L.length c) (.slice none 0 0)).run Tryd.prog w = .ok (.bool false) w := run_eql_nil_slice (P := Tryd.prog) w 61 70 (some a) L.length c 0 0 Tryd.underlying61
    clear hc
    go_enter Tryd.func41, Tryd.ntmps41
    go_wp2_with (at_builtin; (refine wpList_append_seg rfl _ _ 61 rfl 70 i0 (.agg #[.int .i64 0, .string .empty]) 2 24 Tryd.underlying61 hj hj0 hj1 hj2 rfl (by decide) _ _ _ rfl hO _ L.length _ (recV L) rfl hlen hW (fun _ => rfl) (recV_one L) (by unfold maxLen; omega) (by omega) ?_); intro v5 w5 ho5 hk5 hb5)
    go_ret
    refine ⟨v5, by simpa using ho5, fun k hk => ?_, rfl, ?_⟩
    · rcases hb5 k hk with h' | h'
      · have : k = w.heap.size := by simpa [blk, Value.ownBlock, Act.eval] using h'
        omega
      · simp at h'; omega
    · exact bK (bA bR) hk5 (fun k hk => by
        have : k = w.heap.size := by simpa [blk, Value.ownBlock, Act.eval] using hk
        omega)
theorem OwnS.shrink {w : World} {e : TypeId} {v : Value} {n : Nat} {xs : List Value} (h : OwnS w e 1 v n xs) (m : Nat) (hm : m ≤ n) : ∃ a c, v = .slice a n c ∧ OwnS w e 1 (.slice a m c) m (xs.take m) := by
  rcases h.2 with ⟨rfl, rfl⟩ | ⟨g, cap, cur, rfl, hbg, hg, hnc, hcm, hcs, htake⟩
  · obtain rfl : m = 0 := by omega
    exact ⟨none, 0, rfl, by simpa using OwnS.nil w e 1⟩
  · refine ⟨_, _, rfl, ?_, .inr ⟨g, cap, cur, rfl, hbg, hg, by omega, hcm, hcs, ?_⟩⟩
    · have := h.1; rw [List.length_take]; omega
    · rw [← htake, List.take_take]; congr 1; omega
theorem strCells_take (s : ByteArray) (m : Nat) : (Lib.strCells s).take m = Lib.strCells (s.extract 0 m) := by
  unfold Lib.strCells
  rw [← List.map_take]
  congr 1
  simp [ByteArray.data_extract]
theorem zeros_succ (m : Nat) : zeros (m + 1) = zeros m ++ ⟨#[0]⟩ := by
  apply ByteArray.ext
  apply Array.toList_inj.1
  rw [ByteArray.data_append, Array.toList_append]
  unfold zeros
  rw [strOfNums_data, strOfNums_data, replicate_snoc, List.map_append]
  rfl
end Go.Proofs.YtdkilpjebmhkkaaDoor
