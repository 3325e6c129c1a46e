import Derived.Test.YtimomjheanfbmaaGreatDoorMaa
import Derived.Test.YtimomjheanfbmaaGreatDoorMao
import Derived.Test.YtimomjheanfbmaaGreatDoorMab
import Derived.Lib.AppendStr
import Derived.Lib.SlBytesRow
import Derived.BigQuiet
import Derived.Deep.DeepCutAuto
import Derived.Deep.CutBlock
import Derived.Test.YtimomjheanfbmaaGreatDoorMan
import Derived.WideShapes
set_option linter.unusedSimpArgs false
set_option linter.unusedVariables false
namespace Go.Proofs.YtimomjheanfbmaaGreatDoor
open Go.RowKit

theorem bN {a w : World} (h : Below a.heap.size a w) (n : Nat) : Below a.heap.size a (w.drewN n) := ⟨h.os, h.tape, h.output, h.size, h.block⟩
theorem strCells_append (a b : ByteArray) : Lib.strCells (a ++ b) = Lib.strCells a ++ Lib.strCells b := by
  simp [Lib.strCells]
/-- append of a string's bytes onto an owned slice: the new value lies in the old block or in a new one -/
theorem run_append_str {P : Program} (w : World) (t u ty e : TypeId) (i : TypeInfo) (ht : P.underlying t = some (.slice e)) (hu : P.underlying u = some .string) (hi : P.info? e = some i) (hz : i.zero = some (.int .u8 0))
    (hsize : i.size = 1) (hby : i.bytes = 1) (v : Value) (n : Nat) (xs : List Value) (hown : OwnS w e 1 v n xs) (s : ByteArray) (h63 : n + s.size ≤ maxLen) (hbytes : n + s.size ≤ 140737488355328) :
    ∃ v' w', (Builtin.append_ #[t, u] ty #[v, .string s]).run P w = .ok v' w' ∧ OwnS w' e 1 v' (n + s.size) (xs ++ Lib.strCells s) ∧ Keeps (· ∈ blk v) w w' ∧ (∀ k ∈ blk v', k ∈ blk v ∨ w.heap.size ≤ k) := by
  have keeps : ∀ {w' : World}, w.grownBy w' v.ownBlock → Keeps (· ∈ blk v) w w' := fun hg => (Keeps.refl _ _).grown hg (fun k hk => .inl (mem_blk.2 hk))
  rcases hown.2 with ⟨rfl, rfl⟩ | ⟨g, cap, cur, rfl, hbg, hg, hnc, hcm, hcs, htake⟩
  · obtain ⟨v', w', hr, h2, h3, _⟩ := Lib.run_append_own_string (P := P) w w.heap.size t u ty e i ht hu hi hz hsize hby _ _ xs (hown.rebase _ (by simp [blk, Value.ownBlock])) s h63 hbytes (Nat.le_refl _)
    exact ⟨v', w', hr, OwnS.of h2, keeps h3, fun k hk => .inr (h2.lt k (mem_blk.1 hk)).1⟩
  · obtain ⟨v', w', hr, h2, h3, _⟩ := Lib.run_append_own_string (P := P) w 0 t u ty e i ht hu hi hz hsize hby _ _ xs hown s h63 hbytes (Nat.zero_le _)
    refine ⟨v', w', hr, h2, keeps h3, ?_⟩
    by_cases hroom : n + s.size ≤ cap
    · have hr' := Lib.run_append_room_string (P := P) w t u ty e i ht hu hi hsize g n cap cur hg s hroom (by omega)
      rw [hr'] at hr
      obtain ⟨rfl, -⟩ := Result.ok.inj hr
      intro k hk
      exact .inl (by simpa [blk, Value.ownBlock] using hk)
    · have holds : ∀ j u, xs[j]? = some u → w.cell? ((⟨g, 0, none⟩ : Addr).add j) = some u := World.ownsRow.cells hown (g := g) rfl
      have hxl : xs.length = n := by simpa using hown.1
      have hr' := Lib.run_append_grow_string (P := P) w t u ty e i (.int .u8 0) ht hu hi hz ⟨g, 0, none⟩ n cap xs (by rw [hsize]; omega) holds s (by omega) (by unfold maxLen at h63; omega) (by rw [hby]; exact growslice_fits (by omega) (by omega))
      rw [hr'] at hr
      obtain ⟨rfl, -⟩ := Result.ok.inj hr
      intro k hk
      have : k = w.heap.size := by simpa [blk, Value.ownBlock, eq_comm] using hk
      exact .inr (by omega)
theorem wpList_append_str {P : Program} {w : World} {ops : Array Oper} {rest : List Oper} {o : Oper} {a : Act} {Q : Exit → Act → World → Prop} (hgd : o.guard = none) (sl x : Operand) (t u : TypeId)
    (ho : o.op = .call { callee := .builtin .append, args := #[sl, x], argTypes := #[t, u] })
    (e : TypeId) (i : TypeInfo) (ht : P.underlying t = some (.slice e)) (hu : P.underlying u = some .string) (hi : P.info? e = some i) (hz : i.zero = some (.int .u8 0)) (hsize : i.size = 1) (hby : i.bytes = 1)
    (v : Value) (n : Nat) (xs : List Value) (hs : a.eval sl = v) (hown : OwnS w e 1 v n xs) (s : ByteArray) (hx : a.eval x = .string s) (h63 : n + s.size ≤ maxLen) (hbytes : n + s.size ≤ 140737488355328)
    (h : ∀ v' w', OwnS w' e 1 v' (n + s.size) (xs ++ Lib.strCells s) → Keeps (· ∈ blk v) w w' → (∀ k ∈ blk v', k ∈ blk v ∨ w.heap.size ≤ k) → wpList P ops Q rest (a.put o.dst v') w') : wpList P ops Q (o :: rest) a w := by
  refine wpList_plain hgd fun K hK => ?_
  obtain ⟨v', w', hr, h2, h3, h4⟩ := run_append_str (P := P) w t u o.type e i ht hu hi hz hsize hby v n xs hown s h63 hbytes
  unfold Oper.wp execOp
  simp only [ho, resolve, invoke, builtin, Sem.run_bind, Sem.run_pure, Result.andThen_ok, List.map_toArray, List.map_cons, List.map_nil, hs, hx, hr]
  exact hK _ _ (h v' w' h2 h3 h4)

/-! ### a log -/
structure Lg where
  first : Int
  n : Int
  start : Int
  fin : Int
  firm : Int
  base : Int
  buf : ByteArray
  list : List (Int × ByteArray)
def lgC (dp : Nat) (G : Lg) (bv lv : Value) : Array Value := #[.pointer (some ⟨dp, 0, none⟩), .int .i64 G.first, .int .i64 G.n, .int .i64 G.start, .int .i64 G.fin, .int .i64 G.firm, .int .i64 G.base, bv, lv]
def LgOk (G : Lg) : Prop := 128 ≤ G.n ∧ G.n ≤ 4096 ∧ 0 ≤ G.first ∧ G.first ≤ 16384 ∧ 0 ≤ G.base ∧ G.base ≤ G.fin ∧ G.fin ≤ 1152921504606846976 ∧ G.fin - G.base ≤ G.n * 54 ∧ (G.buf.size : Int) = G.fin - G.base ∧ (G.list.length : Int) * 3 ≤ G.fin - G.base ∧ 0 ≤ G.start ∧ G.start ≤ 1152921504606846976 ∧ 0 ≤ G.firm ∧ G.firm ≤ 1152921504606846976
/-- a log lies at p, its device at dp; S: its own blocks -/
def LogAt (w : World) (p dp : Nat) (G : Lg) (S : List Nat) : Prop := LgOk G ∧ ∃ bv lv : Value, w.heap[p]? = some (.cells (lgC dp G bv lv) 144 (0, 0)) ∧ OwnS w 5 1 bv G.buf.size (Lib.strCells G.buf) ∧ OwnS w 140 2 lv G.list.length (recV G.list) ∧ S = p :: (blk bv ++ blk lv) ∧ S.Nodup
theorem LogAt.keep {R : Nat → Prop} {w w' : World} {p dp : Nat} {G : Lg} {S : List Nat} (h : LogAt w p dp G S) (hk : Keeps R w w') (hS : ∀ k ∈ S, ¬ R k) : LogAt w' p dp G S := by
  obtain ⟨hok, bv, lv, h1, h2, h3, rfl, h6⟩ := h
  exact ⟨hok, bv, lv, hk.keep h1 (hS _ (by simp)), h2.keep hk (fun k hkk => hS k (by simp [hkk])), h3.keep hk (fun k hkk => hS k (by simp [hkk])), rfl, h6⟩
theorem LogAt.later {w w' : World} {p dp : Nat} {G : Lg} {S : List Nat} (h : LogAt w p dp G S) (hb : Below w.heap.size w w') : LogAt w' p dp G S := h.keep (Keeps.of_below (fun _ => False) hb) (fun _ _ => id)
theorem LogAt.lt {w : World} {p dp : Nat} {G : Lg} {S : List Nat} (h : LogAt w p dp G S) : ∀ k ∈ S, k < w.heap.size := by
  obtain ⟨hok, bv, lv, h1, h2, h3, rfl, h6⟩ := h
  intro k hk
  simp only [List.mem_cons, List.mem_append] at hk
  rcases hk with rfl | hk | hk
  · exact block_lt h1
  · exact h2.lt hk
  · exact h3.lt hk
def Lg.room (G : Lg) : Int := G.n * 54 - (G.fin - G.base)
theorem wal_room (p dp : Nat) (G : Lg) (S : List Nat) (w : World) (h : LogAt w p dp G S) : Calls Tryz.prog 50 #[.pointer (some ⟨p, 0, none⟩)] w fun e w' => e = .returned (.int .i64 G.room) ∧ Below w.heap.size w w' := by
  obtain ⟨hok, bv, lv, h1, -⟩ := h
  have c2 : w.cell? ⟨p, 2, none⟩ = some (.int .i64 G.n) := cell_at h1 2
  have c4 : w.cell? ⟨p, 4, none⟩ = some (.int .i64 G.fin) := cell_at h1 4
  have c6 : w.cell? ⟨p, 6, none⟩ = some (.int .i64 G.base) := cell_at h1 6
  obtain ⟨a1, a2, a3, a4, a5, a6, a7, a8, -⟩ := hok
  unfold Lg.room
  have e1 : IntKind.i64.wrap (G.n * 54) = G.n * 54 := by rw [IntKind.wrap_i64]; omega
  have e2 : IntKind.i64.wrap (G.fin - G.base) = G.fin - G.base := by rw [IntKind.wrap_i64]; omega
  have e3 : IntKind.i64.wrap (G.n * 54 - (G.fin - G.base)) = G.n * 54 - (G.fin - G.base) := by rw [IntKind.wrap_i64]; omega
  clear h1
  go_enter Tryz.func50, Tryz.ntmps50
  go_wp2_with fail
  go_quiet (fail)
  go_wp2_with fail
  go_ret
  exact ⟨rfl, bN bR _⟩
theorem wal_span (p dp : Nat) (G : Lg) (S : List Nat) (w : World) (h : LogAt w p dp G S) : Calls Tryz.prog 97 #[.pointer (some ⟨p, 0, none⟩)] w fun e w' => e = .returned (.tuple #[.int .i64 G.start, .int .i64 G.fin, .int .i64 G.firm]) ∧ Below w.heap.size w w' := by
  obtain ⟨hok, bv, lv, h1, -⟩ := h
  have c3 : w.cell? ⟨p, 3, none⟩ = some (.int .i64 G.start) := cell_at h1 3
  have c4 : w.cell? ⟨p, 4, none⟩ = some (.int .i64 G.fin) := cell_at h1 4
  have c5 : w.cell? ⟨p, 5, none⟩ = some (.int .i64 G.firm) := cell_at h1 5
  clear h1 hok
  go_enter Tryz.func97, Tryz.ntmps97
  go_wp2_with fail
  go_quiet (fail)
  go_wp2_with fail
  go_ret3
  exact ⟨rfl, bN bR _⟩
end Go.Proofs.YtimomjheanfbmaaGreatDoor

namespace Go.Proofs.YtimomjheanfbmaaGreatDoor
open Go.RowKit

def Lg.refuse (G : Lg) (rec : ByteArray) : Option Int := if rec.size = 0 then some 1 else if 65535 < rec.size then some 2 else if G.room < 2 + rec.size then some 70 else none
def Lg.push (G : Lg) (rec : ByteArray) : Lg := { G with buf := G.buf ++ leS rec.size 2 ++ rec, fin := G.fin + (2 + rec.size), list := G.list ++ [(G.fin, rec)] }
theorem Tryz.info_ent : (Tryz.prog.info? 140).map (fun i => (i.zero, i.size, i.bytes)) = some (some (.agg #[.int .i64 0, .string .empty]), 2, 24) := by kernel_rfl
theorem Lg.push_ok {G : Lg} {rec : ByteArray} (h : LgOk G) (hr : G.refuse rec = none) (hf : G.fin ≤ 1152921504606700000) : LgOk (G.push rec) := by
  obtain ⟨a1, a2, a3, a4, a5, a6, a7, a8, a9, a10, a11, a12, a13, a14⟩ := h
  unfold Lg.refuse at hr
  have h0 : rec.size ≠ 0 := fun e => by rw [if_pos e] at hr; cases hr
  rw [if_neg h0] at hr
  have h1 : ¬ 65535 < rec.size := fun e => by rw [if_pos e] at hr; cases hr
  rw [if_neg h1] at hr
  have h2 : ¬ G.room < 2 + rec.size := fun e => by rw [if_pos e] at hr; cases hr
  unfold Lg.room at h2
  refine ⟨a1, a2, a3, a4, a5, ?_, ?_, ?_, ?_, ?_, a11, a12, a13, a14⟩
  · show G.base ≤ G.fin + (2 + rec.size); omega
  · show G.fin + (2 + rec.size) ≤ _; omega
  · show G.fin + (2 + rec.size) - G.base ≤ G.n * 54; omega
  · show ((G.buf ++ leS rec.size 2 ++ rec).size : Int) = G.fin + (2 + rec.size) - G.base
    rw [ByteArray.size_append, ByteArray.size_append, leS_size]; omega
  · show ((G.list ++ [(G.fin, rec)]).length : Int) * 3 ≤ G.fin + (2 + rec.size) - G.base
    rw [List.length_append]; simp; omega
/-- in the midst of a call that turns a log: its cells are C -/
structure Mid (w W : World) (p : Nat) (S : List Nat) (C : Array Value) (bv lv : Value) (nb : Nat) (bs : List Value) (nl : Nat) (ls : List Value) : Prop where
  hp : W.heap[p]? = some (.cells C 144 (0, 0))
  ob : OwnS W 5 1 bv nb bs
  ol : OwnS W 140 2 lv nl ls
  kp : Keeps (· ∈ S) w W
  sub : ∀ k ∈ p :: (blk bv ++ blk lv), k ∈ S ∨ w.heap.size ≤ k
  nd : (p :: (blk bv ++ blk lv)).Nodup
section
variable {w W W' : World} {p : Nat} {S : List Nat} {C : Array Value} {bv lv : Value} {nb nl : Nat} {bs ls : List Value}
theorem LogAt.mid {dp : Nat} {G : Lg} (h : LogAt w p dp G S) : ∃ bv lv, Mid w w p S (lgC dp G bv lv) bv lv G.buf.size (Lib.strCells G.buf) G.list.length (recV G.list) ∧ S = p :: (blk bv ++ blk lv) := by
  obtain ⟨hok, bv, lv, h1, h2, h3, rfl, h6⟩ := h
  exact ⟨bv, lv, ⟨h1, h2, h3, Keeps.refl _ _, fun k hk => .inl hk, h6⟩, rfl⟩
theorem Mid.np (h : Mid w W p S C bv lv nb bs nl ls) : p ∉ blk bv ∧ p ∉ blk lv ∧ ∀ k, k ∈ blk bv → k ∉ blk lv := by
  have h6 := h.nd
  simp only [List.nodup_cons, List.nodup_append, List.mem_append, not_or] at h6
  exact ⟨h6.1.1, h6.1.2, fun k h1 h2 => h6.2.2.2 k h1 k h2 rfl⟩
theorem Mid.later (h : Mid w W p S C bv lv nb bs nl ls) (hb : Below W.heap.size W W') : Mid w W' p S C bv lv nb bs nl ls :=
  ⟨hBs hb h.hp, h.ob.keep (Keeps.of_below (fun _ => False) hb) (fun _ _ h => h), h.ol.keep (Keeps.of_below (fun _ => False) hb) (fun _ _ h => h), h.kp.trans (Keeps.of_below (fun _ => False) hb) (fun _ _ h => h.elim), h.sub, h.nd⟩
theorem Mid.inS (h : Mid w W p S C bv lv nb bs nl ls) (hs : p < w.heap.size) : p ∈ S := (h.sub p (by simp)).resolve_right (by omega)
theorem Mid.cell (h : Mid w W p S C bv lv nb bs nl ls) (j : Nat) (u : Value) : Mid w (W.setCell ⟨p, j, none⟩ u) p S (C.setIfInBounds j u) bv lv nb bs nl ls := by
  obtain ⟨a1, a2, a3⟩ := h.np
  have k1 : Keeps (· = p) W (W.setCell ⟨p, j, none⟩ u) := (Keeps.refl _ _).setCell _ _ (.inl rfl)
  refine ⟨heap_set h.hp j u, h.ob.keep k1 (fun k hk e => a1 (e ▸ hk)), h.ol.keep k1 (fun k hk e => a2 (e ▸ hk)), ?_, h.sub, h.nd⟩
  refine h.kp.setCell _ _ ?_
  rcases h.sub p (by simp) with h' | h'
  · exact .inl h'
  · exact .inr h'
theorem Mid.buf {nb' : Nat} {bs' : List Value} {v' : Value} (h : Mid w W p S C bv lv nb bs nl ls) (ho : OwnS W' 5 1 v' nb' bs') (hk : Keeps (· ∈ blk bv) W W') (hb : ∀ k ∈ blk v', k ∈ blk bv ∨ W.heap.size ≤ k) : Mid w W' p S C v' lv nb' bs' nl ls := by
  obtain ⟨a1, a2, a3⟩ := h.np
  have hpl := block_lt h.hp
  have hsz := h.kp.size
  refine ⟨hk.keep h.hp a1, ho, h.ol.keep hk (fun k hk e => a3 k e hk), ?_, fun k hk => ?_, ?_⟩
  · refine h.kp.trans hk (fun i hi h' => ?_)
    exact (h.sub i (by simp [h'])).resolve_right (by omega)
  · simp only [List.mem_cons, List.mem_append] at hk
    rcases hk with rfl | hk | hk
    · exact h.sub _ (by simp)
    · rcases hb k hk with h' | h'
      · exact h.sub k (by simp [h'])
      · exact .inr (by omega)
    · exact h.sub k (by simp [hk])
  · refine nodup_swap (F := []) (A := blk bv) (E := blk lv) h.nd (blk_nodup _) (fun k hk => ?_)
    rcases hb k hk with h' | h'
    · exact .inl h'
    · exact .inr ⟨by omega, by simp, fun h'' => by have := h.ol.lt h''; omega⟩
theorem Mid.list {nl' : Nat} {ls' : List Value} {v' : Value} (h : Mid w W p S C bv lv nb bs nl ls) (ho : OwnS W' 140 2 v' nl' ls') (hk : Keeps (· ∈ blk lv) W W') (hb : ∀ k ∈ blk v', k ∈ blk lv ∨ W.heap.size ≤ k) : Mid w W' p S C bv v' nb bs nl' ls' := by
  obtain ⟨a1, a2, a3⟩ := h.np
  have hpl := block_lt h.hp
  have hsz := h.kp.size
  refine ⟨hk.keep h.hp a2, h.ob.keep hk (fun k hk e => a3 k hk e), ho, ?_, fun k hk => ?_, ?_⟩
  · refine h.kp.trans hk (fun i hi h' => ?_)
    exact (h.sub i (by simp [h'])).resolve_right (by omega)
  · simp only [List.mem_cons, List.mem_append] at hk
    rcases hk with rfl | hk | hk
    · exact h.sub _ (by simp)
    · exact h.sub k (by simp [hk])
    · rcases hb k hk with h' | h'
      · exact h.sub k (by simp [h'])
      · exact .inr (by omega)
  · have := nodup_swap (F := blk bv) (A := blk lv) (E := []) (B := blk v') (by simpa using h.nd) (blk_nodup _) (fun k hk => by
      rcases hb k hk with h' | h'
      · exact .inl h'
      · exact .inr ⟨by omega, fun h'' => by have := h.ob.lt h''; omega, by simp⟩)
    simpa using this
theorem Mid.log {dp : Nat} {G' : Lg} (h : Mid w W p S (lgC dp G' bv lv) bv lv nb bs nl ls) (hok : LgOk G') (h1 : nb = G'.buf.size) (h2 : bs = Lib.strCells G'.buf) (h3 : nl = G'.list.length) (h4 : ls = recV G'.list) :
    ∃ S', LogAt W p dp G' S' ∧ Keeps (· ∈ S) w W ∧ ∀ k ∈ S', k ∈ S ∨ w.heap.size ≤ k := by
  subst h1 h2 h3 h4
  exact ⟨_, ⟨hok, bv, lv, h.hp, h.ob, h.ol, rfl, h.nd⟩, h.kp, h.sub⟩
end
set_option maxRecDepth 100000 in
set_option maxHeartbeats 800000 in
theorem wal_append_no (p dp : Nat) (G : Lg) (S : List Nat) (rec : ByteArray) (hrec : rec.size ≤ maxLen) (c : Int) (hc : G.refuse rec = some c) (w : World) (h : LogAt w p dp G S) :
    Calls Tryz.prog 26 #[.pointer (some ⟨p, 0, none⟩), .string rec] w fun e w' => e = .returned (.tuple #[.int .i64 0, .int .i64 c]) ∧ Below w.heap.size w w' := by
  have HR := Lib.hid (wal_room p dp G S w h)
  have hrm : Hid (-9223372036854775808 ≤ G.room ∧ G.room ≤ 9223372036854775807) := by
    obtain ⟨⟨a1, a2, a3, a4, a5, a6, a7, a8, -⟩, -⟩ := h
    show _ ∧ _
    unfold Lg.room
    omega
  unfold maxLen at hrec
  clear h
  unfold Lg.refuse at hc
  by_cases h0 : rec.size = 0
  · rw [if_pos h0] at hc
    obtain rfl := Option.some.inj hc
    obtain rfl := str_none h0
    go_enter Tryz.func26, Tryz.ntmps26
    go_wp2_with fail
    go_ret2
    exact ⟨rfl, bR⟩
  · rw [if_neg h0] at hc
    obtain ⟨n1, n2⟩ := str_some h0
    by_cases h1 : 65535 < rec.size
    · rw [if_pos h1] at hc
      obtain rfl := Option.some.inj hc
      have h1' : (65535 : Int) < rec.size := by omega
      replace h0 := Lib.hid h0
      go_enter Tryz.func26, Tryz.ntmps26
      go_wp2_with fail
      go_ret2
      exact ⟨rfl, bR⟩
    · rw [if_neg h1] at hc
      have h1' : ¬ (65535 : Int) < rec.size := by omega
      have h2 : G.room < 2 + rec.size := Classical.byContradiction fun e => by rw [if_neg e] at hc; cases hc
      rw [if_pos h2] at hc
      obtain rfl := Option.some.inj hc
      replace h0 := Lib.hid h0
      generalize G.room = R at *
      obtain ⟨hr1, hr2⟩ := hrm.out
      go_enter Tryz.func26, Tryz.ntmps26
      go_wp2_with fail
      refine (HR.out).mono ?_
      rintro e w1 ⟨rfl, hb⟩
      have HB1 := Lib.hid hb
      clear hb
      go_wp2_with fail
      go_ret2
      exact ⟨rfl, HB1.out⟩
set_option maxRecDepth 100000 in
set_option maxHeartbeats 1600000 in
theorem wal_append_ok (p dp : Nat) (G : Lg) (S : List Nat) (rec : ByteArray) (hrec : rec.size ≤ maxLen) (hc : G.refuse rec = none) (hf : G.fin ≤ 1152921504606700000) (w : World) (h : LogAt w p dp G S) :
    Calls Tryz.prog 26 #[.pointer (some ⟨p, 0, none⟩), .string rec] w fun e w' => e = .returned (.tuple #[.int .i64 G.fin, .int .i64 0]) ∧ ∃ S', LogAt w' p dp (G.push rec) S' ∧ Keeps (· ∈ S) w w' ∧ ∀ k ∈ S', k ∈ S ∨ w.heap.size ≤ k := by
  have HR := Lib.hid (wal_room p dp G S w h)
  have hok' := Lib.hid (Lg.push_ok h.1 hc hf)
  obtain ⟨i0, hi, hi0, hi1, hi2⟩ := info_parts Tryz.info_ent
  obtain ⟨j0, hj, hj0, hj1, hj2⟩ := info_parts Tryz.info_u8
  obtain ⟨a1, a2, a3, a4, a5, a6, a7, a8, a9, a10, -⟩ := h.1
  obtain ⟨bv, lv, hmid, -⟩ := h.mid
  clear h
  unfold Lg.refuse at hc
  have h0 : rec.size ≠ 0 := fun e => by rw [if_pos e] at hc; cases hc
  rw [if_neg h0] at hc
  have h65 : ¬ 65535 < rec.size := fun e => by rw [if_pos e] at hc; cases hc
  rw [if_neg h65] at hc
  have hrm : ¬ G.room < 2 + rec.size := fun e => by rw [if_pos e] at hc; cases hc
  clear hc
  have hbl : G.buf.size ≤ 221184 := by omega
  have hll : G.list.length ≤ 221184 := by omega
  have hrange : -9223372036854775808 ≤ G.room ∧ G.room ≤ 9223372036854775807 := by unfold Lg.room; omega
  obtain ⟨hr1, hr2⟩ := hrange
  generalize hRm : G.room = R at *
  obtain ⟨n1, n2⟩ := str_some h0
  have h65' : ¬ (65535 : Int) < rec.size := by omega
  have hwr : IntKind.u64.wrap (rec.size : Int) = rec.size := wrap_u64_in _ (by omega) (by omega)
  have hsm : Hid ((rec.size : Int) / 2 ^ (8 * (2 : Int).toNat) = 0) := by show (rec.size : Int) / 2 ^ (8 * (2 : Int).toNat) = 0; rw [show (2 : Int) ^ (8 * (2 : Int).toNat) = 65536 by decide]; omega
  have hfi : IntKind.i64.wrap (G.fin + (2 + rec.size)) = G.fin + (2 + rec.size) := by rw [IntKind.wrap_i64]; omega
  have HM := Lib.hid hmid
  replace h0 := Lib.hid h0
  replace hRm := Lib.hid hRm
  clear hmid
  go_enter Tryz.func26, Tryz.ntmps26
  go_wp2_with fail
  refine (HR.out).mono ?_
  rintro e w1 ⟨rfl, hb⟩
  have HM1 := Lib.hid (HM.out.later hb)
  have C4 : w1.cell? ⟨p, 4, none⟩ = some (.int .i64 G.fin) := cell_at HM1.out.hp 4
  have HN := Lib.hid (fun w2 => oct_num_ok (rec.size : Int) 2 (by omega) (by omega) (by omega) (fun _ => hsm.out) w2)
  clear hb HM HR
  go_wp2_with fail
  refine (HN.out w1).mono ?_
  rintro e w2 ⟨rfl, hb⟩
  have HM2 := Lib.hid (HM1.out.later hb)
  have C7 : w2.cell? ⟨p, 7, none⟩ = some bv := cell_at HM2.out.hp 7
  clear hb HM1 C4 HN
  rw [show (2 : Int).toNat = 2 from rfl]
  go_upto_region 10 with (at_builtin; refine wpList_append_str rfl _ _ 141 9 rfl 5 j0 Tryz.underlying141 Tryz.underlying9 hj hj0 hj1 hj2 _ _ _ rfl HM2.out.ob (leS rec.size 2) rfl (by rw [leS_size]; unfold maxLen; omega) (by rw [leS_size]; omega) ?_; intro v3 w3 ho3 hk3 hb3; (have HM3 := Lib.hid (HM2.out.buf ho3 hk3 hb3)); (obtain ⟨av3, cv3, rfl⟩ := ho3.form); (have C7' : w3.cell? ⟨p, 7, none⟩ = some bv := cell_at HM3.out.hp 7); (have F7 := free_at HM3.out.hp 7); clear ho3 hk3 hb3)
  have HM4 := HM3.out.cell 7 (.slice av3 (G.buf.size + (leS rec.size 2).size) cv3)
  refine name_world (fun W => Mid w W p S _ _ lv _ _ _ _) HM4 ?_
  clear HM4 HM3 HM2 C7 C7' F7
  intro W1 HM4
  have HM4 := Lib.hid HM4
  have C7 : W1.cell? ⟨p, 7, none⟩ = some (.slice av3 (G.buf.size + (leS rec.size 2).size) cv3) := cell_at HM4.out.hp 7
  have hs2 : (leS (rec.size : Int) 2).size = 2 := leS_size _ _
  go_upto_region 11 with (at_builtin; refine wpList_append_str rfl _ _ 141 9 rfl 5 j0 Tryz.underlying141 Tryz.underlying9 hj hj0 hj1 hj2 _ _ _ rfl HM4.out.ob rec rfl (by unfold maxLen; omega) (by omega) ?_; intro v5 w5 ho5 hk5 hb5; (have HM5 := Lib.hid (HM4.out.buf ho5 hk5 hb5)); (obtain ⟨av5, cv5, rfl⟩ := ho5.form); (have C7' : w5.cell? ⟨p, 7, none⟩ = some (.slice av3 (G.buf.size + (leS rec.size 2).size) cv3) := cell_at HM5.out.hp 7); (have F7 := free_at HM5.out.hp 7); clear ho5 hk5 hb5)
  have HM6 := HM5.out.cell 7 (.slice av5 (G.buf.size + (leS rec.size 2).size + rec.size) cv5)
  refine name_world (fun W => Mid w W p S _ _ lv _ _ _ _) HM6 ?_
  clear HM6 HM5 HM4 C7 C7' F7
  intro W2 HM6
  have HM6 := Lib.hid HM6
  have C4 : W2.cell? ⟨p, 4, none⟩ = some (.int .i64 G.fin) := cell_at HM6.out.hp 4
  have F4 := free_at HM6.out.hp 4
  go_upto_region 12 with fail
  have HM7 := HM6.out.cell 4 (.int .i64 (G.fin + (2 + rec.size)))
  refine name_world (fun W => Mid w W p S _ _ lv _ _ _ _) HM7 ?_
  clear HM7 HM6 C4 F4
  intro W3 HM7
  have HM7 := Lib.hid HM7
  have C8 : W3.cell? ⟨p, 8, none⟩ = some lv := cell_at HM7.out.hp 8
  have HM8 : Hid (Mid w (W3.alloc (.cells #[.int .i64 G.fin, .string rec] 140)) p S _ _ lv _ _ _ _) := HM7.out.later (bA bR)
  go_upto_region 13 with (at_builtin; refine wpList_append_frame _ rfl _ _ 142 rfl 140 i0 (.agg #[.int .i64 0, .string .empty]) 2 24 Tryz.underlying142 hi hi0 hi1 hi2 rfl (by decide) _ _ _ rfl HM8.out.ol ⟨W3.heap.size, 0, none⟩ 1 1 [.int .i64 G.fin, .string rec] rfl rfl (cell_two_new _ _ _ _ _ _ (by simp)) (by simp [Value.oneCell']) (by unfold maxLen; omega) (by omega) ?_; intro v9 w9 ho9 hk9 hb9 hn9; (have HM9 := Lib.hid (HM8.out.list ho9 hk9 hb9)); (obtain ⟨av9, cv9, rfl⟩ := ho9.form); (have C8' : w9.cell? ⟨p, 8, none⟩ = some lv := cell_at HM9.out.hp 8); (have F8 := free_at HM9.out.hp 8); clear ho9 hk9 hb9 hn9)
  have HM10 := HM9.out.cell 8 (.slice av9 (G.list.length + 1) cv9)
  refine name_world (fun W => Mid w W p S _ _ _ _ _ _ _) HM10 ?_
  clear HM10 HM9 HM8 HM7 C8 C8' F8
  intro W4 HM10
  have HM10 := Lib.hid HM10
  go_wp2_with fail
  go_ret2
  refine ⟨rfl, HM10.out.log (G' := G.push rec) hok'.out ?_ ?_ ?_ ?_⟩
  · show _ = (G.buf ++ leS rec.size 2 ++ rec).size
    rw [ByteArray.size_append, ByteArray.size_append]
  · show _ = Lib.strCells (G.buf ++ leS rec.size 2 ++ rec)
    rw [strCells_append, strCells_append]
  · show _ = (G.list ++ [(G.fin, rec)]).length
    rw [List.length_append]; rfl
  · show _ = recV (G.list ++ [(G.fin, rec)])
    rw [recV_append]; rfl
end Go.Proofs.YtimomjheanfbmaaGreatDoor

namespace Go.Proofs.YtimomjheanfbmaaGreatDoor
open Go.RowKit

theorem below_keep {w0 w w' : World} {R : Nat → Prop} (h : Below w0.heap.size w0 w) (hk : Keeps R w w') (hR : ∀ k, R k → w0.heap.size ≤ k) : Below w0.heap.size w0 w' :=
  h.trans (hk.belowB h.size hR)
end Go.Proofs.YtimomjheanfbmaaGreatDoor

namespace Go.Proofs.YtimomjheanfbmaaGreatDoor
open Go.RowKit

theorem bools_at {w : World} {v : Value} {ks : List Bool} (h : Sl w v 1 (ks.map fun b => [Value.bool b])) : BoolsAt w w.heap.size v ks := by
  obtain ⟨a, c, hv, hl, hx⟩ := h
  rw [List.length_map] at hv hl hx
  refine ⟨a, c, hv, hl, fun hne => ?_⟩
  obtain ⟨b, off, e, hb, hc⟩ := hx (by simpa using hne)
  refine ⟨b, off, e, hb, fun i hi => ?_⟩
  have := hc i hi 0 (by omega)
  rw [show off + i * 1 + 0 = off + i from by omega] at this
  rw [this]
  simp [List.getD_eq_getElem?_getD, List.getElem?_eq_getElem hi]
set_option maxRecDepth 100000 in
theorem bools_of {H : Type} {enc : TypeId × Value → H} {W : World} {base : Nat} {v : Value} {d : DataW H} {p : List MemPlace} (hok : Value.okWide Tryz.prog W .any base 103 v)
    (h : DataW.Trod enc Tryz.prog W 0 (fun _ => true) true 103 v d p) : ∃ ks, BoolsAt W W.heap.size v ks := by
  obtain ⟨xs, hs, hd, hx⟩ := Sl_of2 Tryz.underlying103 (show Tryz.prog.cellsOf 4 = 1 by kernel_rfl) (by omega) (Go.WideShapes.okWide_slice Tryz.underlying103 hok) h
  have : ∀ x ∈ xs, ∃ b : Bool, x = [Value.bool b] ∧ True := by
    intro x hxm
    obtain ⟨hl, fuel, y, hy⟩ := hx x hxm
    obtain ⟨c, rfl⟩ := len1 hl
    obtain ⟨a, e0, _⟩ := DataW.trod_bool Tryz.underlying4 hy
    simp at e0
    exact ⟨a, by rw [e0], trivial⟩
  obtain ⟨ks, rfl, -⟩ := list_of this
  exact ⟨ks, bools_at hs⟩
end Go.Proofs.YtimomjheanfbmaaGreatDoor

namespace Go.Proofs.YtimomjheanfbmaaGreatDoor
open Go.RowKit

/-! ### a device that is up and has fuel without end -/
def Dev.up (D : Dev) : Prop := D.fuel = -1 ∧ D.down = false
theorem up_write {D : Dev} (h : D.up) (s : Int) (d : ByteArray) : D.write s d = if 0 ≤ s ∧ s < (D.firm.length : Int) ∧ d.size = 64 then ({ D with seen := D.seen.set s.toNat d, soft := D.soft ++ [(s, d)] }, 0) else (D, 1) := by
  obtain ⟨hf, hd⟩ := h
  have hb : D.burn = (D, true) := by
    unfold Dev.burn
    rw [if_neg (by omega), if_neg (by omega)]
  unfold Dev.write
  rw [hd, hb]
  simp only [Bool.false_eq_true, Bool.true_eq_false, if_false]
  by_cases hs : 0 ≤ s ∧ s < (D.firm.length : Int) ∧ d.size = 64
  · rw [if_pos hs, if_neg (by omega), ← hd]
  · rw [if_neg hs, if_pos (by omega)]
theorem up_write_up {D : Dev} (h : D.up) (s : Int) (d : ByteArray) : (D.write s d).1.up ∧ (D.write s d).1.firm = D.firm ∧ (D.write s d).1.soft.length ≤ D.soft.length + 1 := by
  rw [up_write h]
  split
  · exact ⟨h, rfl, by simp⟩
  · exact ⟨h, rfl, by simp⟩
theorem up_barrier {D : Dev} (h : D.up) : D.barrier = ({ D with firm := D.seen, soft := [] }, 0) := by
  obtain ⟨hf, hd⟩ := h
  have hb : D.burn = (D, true) := by
    unfold Dev.burn
    rw [if_neg (by omega), if_neg (by omega)]
  unfold Dev.barrier
  rw [hd, hb]
  simp only [Bool.false_eq_true, Bool.true_eq_false, if_false]
  rw [← hd]
theorem up_read {D : Dev} (h : D.down = false) (s : Int) (h0 : 0 ≤ s) (h1 : s < (D.firm.length : Int)) : D.read s = (D.seen.getD s.toNat ⟨#[]⟩, 0) := by
  unfold Dev.read
  rw [h]
  simp only [Bool.false_eq_true, if_false]
  rw [if_neg (by omega)]
theorem up_new (n : Nat) : (Dev.new n).up := ⟨rfl, rfl⟩
theorem up_after (D : Dev) (ks : List Bool) : (D.after ks).up := ⟨rfl, rfl⟩
/-- one text of a slice of texts, in a later world -/
theorem StrSl.at {w wr : World} {a : Option Addr} {n c : Nat} {ss : List ByteArray} (h : StrSl w (.slice a n c) ss) (hb : Below w.heap.size w wr) (k : Nat) (hk : k < ss.length) :
    ∃ b off, a = some ⟨b, off, none⟩ ∧ b < w.heap.size ∧ wr.cell? ⟨b, off + k, none⟩ = some (.string (ss.getD k ⟨#[]⟩)) ∧ (ss.getD k ⟨#[]⟩).size ≤ maxLen := by
  obtain ⟨⟨a', c', hv, hl, hx⟩, hs⟩ := h
  simp only [Value.slice.injEq] at hv
  obtain ⟨rfl, rfl, rfl⟩ := hv
  obtain ⟨b, off, rfl, hbl, hc⟩ := hx (by intro e; rw [List.map_eq_nil_iff] at e; subst e; simp at hk)
  have := hc k (by simpa using hk) 0 (by omega)
  rw [show off + k * 1 + 0 = off + k from by omega] at this
  refine ⟨b, off, rfl, hbl, ?_, ?_⟩
  · rw [hb.cell (p := ⟨b, off + k, none⟩) hbl, this]
    simp [List.getD_eq_getElem?_getD, List.getElem?_eq_getElem hk]
  · rw [List.getD_eq_getElem?_getD, List.getElem?_eq_getElem hk]
    exact hs _ (List.getElem_mem _)
theorem StrSl.form {w : World} {v : Value} {ss : List ByteArray} (h : StrSl w v ss) : ∃ a c, v = .slice a ss.length c ∧ ss.length ≤ maxLen := by
  obtain ⟨⟨a', c', hv, hl, hx⟩, hs⟩ := h
  rw [List.length_map] at hv hl
  exact ⟨_, _, hv, hl⟩
theorem below_newS {w w1 : World} {S S' : List Nat} (h : Below w.heap.size w w1) (hS : ∀ k ∈ S, w.heap.size ≤ k) (hR : ∀ k ∈ S', k ∈ S ∨ w1.heap.size ≤ k) : ∀ k ∈ S', w.heap.size ≤ k :=
  fun k hk => (hR k hk).elim (hS k) (fun h' => Nat.le_trans h.size h')
end Go.Proofs.YtimomjheanfbmaaGreatDoor
