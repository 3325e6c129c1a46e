import Derived.Test.YtimomjheanfbmaaGreatDoorMam
import Derived.Test.YtimomjheanfbmaaGreatDoorMaa
import Derived.Test.YtimomjheanfbmaaGreatDoorMaf
import Derived.Test.YtimomjheanfbmaaGreatDoorMab
import Derived.Laws.StructEq
import Derived.Deep.MidRow
set_option linter.unusedSimpArgs false
set_option linter.unusedVariables false
namespace Go.Proofs.YtimomjheanfbmaaGreatDoor
open Go.RowKit

/-! ### a log that began at 54, and the list of what was appended -/
def P0 : ByteArray := ⟨#[]⟩
theorem lenL_len : ∀ {rs : List ByteArray}, RecOk rs → rs.length * 3 ≤ lenL rs
  | [], _ => by simp [lenL]
  | r :: rs, h => by
    have h1 := lenL_len (rs := rs) (fun x hx => h x (List.mem_cons_of_mem _ hx))
    have h2 := (h r List.mem_cons_self).1
    rw [lenL, List.length_cons]; omega
structure Wf (w0 w : World) (p dp first : Nat) (rs : List ByteArray) (i0 : Nat) (S Sd : List Nat) (D : Dev) (av : Value) (L : List (Int × ByteArray)) : Prop where
  ws : Ws w p dp first 128 1 P0 rs i0 S Sd D
  all : OwnS w 140 2 av L.length (recV L)
  fs : ∀ k ∈ S, w0.heap.size ≤ k
  fd : ∀ k ∈ Sd, w0.heap.size ≤ k
  fa : ∀ k ∈ blk av, w0.heap.size ≤ k ∧ k ∉ S ∧ k ∉ Sd
  bel : Below w0.heap.size w0 w
section
variable {w0 w w' : World} {p dp first : Nat} {rs : List ByteArray} {i0 : Nat} {S Sd : List Nat} {D : Dev} {av : Value} {L : List (Int × ByteArray)}
theorem Wf.later (h : Wf w0 w p dp first rs i0 S Sd D av L) (hb : Below w.heap.size w w') : Wf w0 w' p dp first rs i0 S Sd D av L :=
  ⟨h.ws.later hb, h.all.keep (Keeps.of_below (fun _ => False) hb) (fun _ _ h => h), h.fs, h.fd, h.fa, bT h.bel hb⟩
theorem Wf.count (h : Wf w0 w p dp first rs i0 S Sd D av L) : rs.length ≤ 2304 ∧ lenL rs ≤ 6912 := by
  have h1 := lenL_len h.ws.rok
  have h2 := h.ws.len.2.2
  have : P0.size = 0 := rfl
  omega
theorem wf_append (h : Wf w0 w p dp first rs i0 S Sd D av L) (r : ByteArray) (hr : r.size ≤ maxLen) :
    Calls Tryz.prog 26 #[.pointer (some ⟨p, 0, none⟩), .string r] w fun e w' => (∃ c, c ≠ 0 ∧ e = .returned (.tuple #[.int .i64 0, .int .i64 c]) ∧ Wf w0 w' p dp first rs i0 S Sd D av L) ∨
      (e = .returned (.tuple #[.int .i64 ((54 + lenL rs : Nat) : Int), .int .i64 0]) ∧ ∃ S', Wf w0 w' p dp first (rs ++ [r]) i0 S' Sd D av L) := by
  refine (ws_append h.ws r hr).mono fun e w' hp => ?_
  rcases hp with ⟨c, hc, he, hb⟩ | ⟨he, S', hw, hk, hs⟩
  · exact .inl ⟨c, hc, he, h.later hb⟩
  · refine .inr ⟨?_, S', hw, h.all.keep hk (fun k hk' h' => (h.fa k hk').2.1 h'), fun k hk' => ?_, h.fd, fun k hk' => ⟨(h.fa k hk').1, fun h' => ?_, (h.fa k hk').2.2⟩, h.bel.trans (hk.belowB h.bel.size h.fs)⟩
    · rw [he]
      show Ending.returned (.tuple #[.int .i64 ((54 * 1 + 0 + lenL rs : Nat) : Int), .int .i64 0]) = _
      rw [show 54 * 1 + 0 + lenL rs = 54 + lenL rs by omega]
    · rcases hs k hk' with h' | h'
      · exact h.fs k h'
      · exact Nat.le_trans h.bel.size h'
    · rcases hs k h' with h2 | h2
      · exact (h.fa k hk').2.1 h2
      · have := h.all.lt hk'; omega
theorem wf_flush (h : Wf w0 w p dp first rs i0 S Sd D av L) (at_ : Int) (hat : i0 = rs.length ∨ ((54 + lenL (rs.take i0) : Nat) : Int) ≤ at_) :
    Calls Tryz.prog 122 #[.pointer (some ⟨p, 0, none⟩), .int .i64 at_] w fun e w' => ∃ c i1 Sd' D', e = .returned (.int .i64 c) ∧ Wf w0 w' p dp first rs i1 S Sd' D' av L ∧ ((c = 0 ∧ i1 = rs.length) ∨ (c = 20 ∧ i1 = i0 ∧ D'.down = true)) ∧ (D.up → D'.up) ∧ DevHas D' first 128 1 (P0 ++ encL rs) (P0.size + lenL (rs.take i0)) := by
  refine (ws_flush h.ws at_ (hat.imp_right (fun hat => by show ((54 * 1 + 0 + lenL (rs.take i0) : Nat) : Int) ≤ at_; omega))).mono fun e w' ⟨c, i1, Sd', D', he, hw, hk, hs, hc, hup, hdh⟩ => ?_
  refine ⟨c, i1, Sd', D', he, ⟨hw, h.all.keep hk (fun k hk' h' => h'.elim (h.fa k hk').2.1 (h.fa k hk').2.2), h.fs, fun k hk' => ?_, fun k hk' => ⟨(h.fa k hk').1, (h.fa k hk').2.1, fun h' => ?_⟩, h.bel.trans (hk.belowB h.bel.size (fun k hk' => hk'.elim (h.fs k) (h.fd k)))⟩, hc, hup, hdh⟩
  · rcases hs k hk' with h' | h'
    · exact h.fd k h'
    · exact Nat.le_trans h.bel.size h'
  · rcases hs k h' with h2 | h2
    · exact (h.fa k hk').2.2 h2
    · have := h.all.lt hk'; omega
theorem Wf.push {v' : Value} {x : Int × ByteArray} (h : Wf w0 w p dp first rs i0 S Sd D av L) (ho : OwnS w' 140 2 v' (L.length + 1) (recV L ++ [.int .i64 x.1, .string x.2])) (hk : Keeps (· ∈ blk av) w w') (hb : ∀ k ∈ blk v', k ∈ blk av ∨ w.heap.size ≤ k) : Wf w0 w' p dp first rs i0 S Sd D v' (L ++ [x]) := by
  have hS : ∀ k ∈ S, k ∉ blk av := fun k hk' h' => (h.fa k h').2.1 hk'
  have hD : ∀ k ∈ Sd, k ∉ blk av := fun k hk' h' => (h.fa k h').2.2 hk'
  refine ⟨⟨h.ws.log.keep hk (fun k hk' h' => hS k hk' h'), h.ws.dsk.keep hk (fun k hk' h' => hD k hk' h'), h.ws.has, h.ws.dis, h.ws.rok, h.ws.le, h.ws.pre, h.ws.bbs, h.ws.soft⟩, ?_, h.fs, h.fd, fun k hk' => ?_, h.bel.trans (hk.belowB h.bel.size (fun k hk' => (h.fa k hk').1))⟩
  · rw [List.length_append, recV_append]; exact ho
  · rcases hb k hk' with h' | h'
    · exact h.fa k h'
    · exact ⟨Nat.le_trans h.bel.size h', fun h2 => by have := h.ws.log.lt k h2; omega, fun h2 => by have := h.ws.dsk.lt k h2; omega⟩
end
theorem new_has (N first : Nat) (h0 : first + 128 ≤ N) (hN : N ≤ 16384) : DevHas (Dev.new N) first 128 1 (P0 ++ encL []) (P0.size + lenL (([] : List ByteArray).take 0)) := by
  have hz : RingP first 128 1 (P0 ++ encL []) (P0.size + lenL (([] : List ByteArray).take 0)) = fun p d => RingP first 128 1 (P0 ++ encL []) 0 p d := rfl
  have hb : ∀ p, RingP first 128 1 (P0 ++ encL []) 0 p (zeros 64) := fun p => ⟨zeros_size 64, fun j _ _ => SecOk.blank (Nat.zero_le _)⟩
  have hg : ∀ p, p < N → (List.replicate N (zeros 64)).getD p ⟨#[]⟩ = zeros 64 := fun p hp => by
    rw [List.getD_eq_getElem?_getD, List.getElem?_replicate, if_pos hp]; rfl
  refine ⟨Dev.new_ok N (by omega) hN, by show _ ≤ (List.replicate N (zeros 64)).length; rw [List.length_replicate]; exact h0, fun p hp => ?_, fun p hp => ?_, fun x hx => by simp [Dev.new] at hx⟩
  · have hp' : p < N := by have : (Dev.new N).firm.length = N := List.length_replicate; omega
    show RingP _ _ _ _ _ p ((List.replicate N (zeros 64)).getD p ⟨#[]⟩)
    rw [hg p hp']
    exact hb p
  · have hp' : p < N := by have : (Dev.new N).seen.length = N := List.length_replicate; omega
    show RingP _ _ _ _ _ p ((List.replicate N (zeros 64)).getD p ⟨#[]⟩)
    rw [hg p hp']
    exact hb p
theorem new_log (first : Nat) : Lg.new first 128 = mkLg first 128 1 P0 [] 0 := rfl
theorem DevHas.crash {D : Dev} {first n bb : Nat} {B : ByteArray} {f : Nat} (h : DevHas D first n bb B f) (ks : List Bool) : DevHas (D.after ks) first n bb B f :=
  ⟨Dev.after_ok h.1 ks, by show _ ≤ (crashTo _ _ _ _).length; rw [crashTo_length]; exact h.2.1, h.2.2.crash ks⟩
theorem DevHas.fuel {D : Dev} {first n bb : Nat} {B : ByteArray} {f : Nat} (h : DevHas D first n bb B f) (m : Int) (hm : DevOk { D with fuel := m }) : DevHas { D with fuel := m } first n bb B f := ⟨hm, h.2.1, h.2.2⟩
theorem pre_law {rs : List ByteArray} {i0 i : Nat} (h1 : i0 ≤ i) (h2 : i ≤ rs.length) : isPre (plL 54 rs) (plL 54 (rs.take i)) (i0 : Int) = true := by
  unfold isPre
  apply decide_eq_true
  rw [plL_length, plL_length, List.length_take, plL_take, Nat.min_eq_left h2]
  exact ⟨by omega, h2, rfl⟩
end Go.Proofs.YtimomjheanfbmaaGreatDoor

namespace Go.Proofs.YtimomjheanfbmaaGreatDoor
open Go.RowKit

/-! ### '==' between two arrays -/
def eqElems (d : Nat) (e : TypeId) (n : Nat) (xs ys : Array Value) : List Nat → Sem Bool
  | [] => pure true
  | i :: r => do
    if !(← Op.equalIn d e (← part e xs (i * n)) (← part e ys (i * n))) then pure false else eqElems d e n xs ys r
theorem run_equalIn_array {P : Program} (w : World) (d : Nat) (t e : TypeId) (len : Nat) (i : TypeInfo) (xs ys : Array Value) (ht : P.underlying t = some (.array len e)) (hi : P.info? e = some i) :
    (Op.equalIn (d + 1) t (.agg xs) (.agg ys)).run P w = (eqElems d e i.size xs ys (List.range len)).run P w := by
  simp only [Op.equalIn, Sem.run_bind, run_underlying ht, Result.andThen_ok, sizeOf, typeInfo, hi]
  simp [Std.Legacy.Range.forIn_eq_forIn_range', hi]
  rw [List.range_eq_range']
  generalize List.range' 0 len = l
  induction l generalizing w with
  | nil => simp [eqElems]
  | cons j l ih =>
    simp only [List.forIn_cons, eqElems, Sem.run_bind, Sem.run_ite]
    generalize (part e xs (j * i.size)).run P w = r1
    cases r1 with
    | ok a w1 =>
      simp only [Result.andThen_ok]
      generalize (part e ys (j * i.size)).run P w1 = r2
      cases r2 with
      | ok b w2 =>
        simp only [Result.andThen_ok]
        generalize (Op.equalIn d e a b).run P w2 = r3
        cases r3 with
        | ok r w3 =>
          cases r
          · simp
          · simp
            exact ih w3
        | halt x w3 => simp [Result.andThen]
      | halt x w2 => simp [Result.andThen]
    | halt x w1 => simp [Result.andThen]
end Go.Proofs.YtimomjheanfbmaaGreatDoor

namespace Go.Proofs.YtimomjheanfbmaaGreatDoor
open Go.RowKit

/-! ### pages -/
structure Pg where
  kind : Int
  level : Int
  store : Int
  next : Int
  st : Nat → Int
  dt : Nat → ByteArray
def pgC (P : Pg) : Array Value := #[.int .i64 P.kind, .int .i64 P.level, .int .i64 P.store, .int .i64 P.next, .int .i64 (P.st 0), .string (P.dt 0), .int .i64 (P.st 1), .string (P.dt 1), .int .i64 (P.st 2), .string (P.dt 2),
  .int .i64 (P.st 3), .string (P.dt 3), .int .i64 (P.st 4), .string (P.dt 4), .int .i64 (P.st 5), .string (P.dt 5)]
def pgV (P : Pg) : Value := .agg (pgC P)
theorem pg_at {w : World} {b : Nat} {P : Pg} {T : TypeId} {f : Nat × Nat} (h : w.heap[b]? = some (.cells (pgC P) T f)) (i : Nat) (hi : i < 6) :
    w.cell? ⟨b, 4 + i * 2, none⟩ = some (.int .i64 (P.st i)) ∧ w.cell? ⟨b, 4 + i * 2 + 1, none⟩ = some (.string (P.dt i)) := by
  rw [cell_at h, cell_at h]
  match i, hi with
  | 0, _ => exact ⟨rfl, rfl⟩
  | 1, _ => exact ⟨rfl, rfl⟩
  | 2, _ => exact ⟨rfl, rfl⟩
  | 3, _ => exact ⟨rfl, rfl⟩
  | 4, _ => exact ⟨rfl, rfl⟩
  | 5, _ => exact ⟨rfl, rfl⟩
def pgA (P : Pg) : Array Value := #[.int .i64 (P.st 0), .string (P.dt 0), .int .i64 (P.st 1), .string (P.dt 1), .int .i64 (P.st 2), .string (P.dt 2), .int .i64 (P.st 3), .string (P.dt 3), .int .i64 (P.st 4), .string (P.dt 4), .int .i64 (P.st 5), .string (P.dt 5)]
theorem run_index_pg (P : Pg) (k : Nat) (hk : k < 6) (w : World) : (Instr.index 47 (.agg (pgA P)) (.int .i64 k)).run Tryz.prog w = .ok (.agg #[.int .i64 (P.st k), .string (P.dt k)]) w := by
  match k, hk with
  | 0, _ => simp [Instr.index, asIntOf, go_sem, pgA]
  | 1, _ => simp [Instr.index, asIntOf, go_sem, pgA]
  | 2, _ => simp [Instr.index, asIntOf, go_sem, pgA]
  | 3, _ => simp [Instr.index, asIntOf, go_sem, pgA]
  | 4, _ => simp [Instr.index, asIntOf, go_sem, pgA]
  | 5, _ => simp [Instr.index, asIntOf, go_sem, pgA]

theorem run_storeVar_whole {P : Program} (w : World) (g : Nat) (t ty : TypeId) (cur C : Array Value) (hg : w.heap[g]? = some (.cells cur t (0, 0))) (hsz : cur.size = C.size)
    (hi : (P.info? ty).map (·.size) = some C.size) (h1 : ∀ v ∈ C.toList, v.oneCell' = true) : (storeVar ty ⟨g, 0, none⟩ (.agg C)).run P w = .ok () (w.setRow g C) := by
  have hst := run_storeCells_at P g 0 t C.toList 0 cur w hg (by simp [hsz]) h1
  have e : (cur.toList.take (0 + 0) ++ C.toList ++ cur.toList.drop (0 + 0 + C.toList.length)).toArray = C := by
    rw [List.drop_of_length_le (by simp [hsz])]
    simp
  rw [e] at hst
  cases hq : P.info? ty with
  | none => simp [hq] at hi
  | some i =>
    have hs : C.size = i.size := by simp [hq] at hi; omega
    simp [storeVar, sizeOf, typeInfo, hq, Value.cells, hs, hst]
theorem wpList_store_whole {P : Program} {ops : Array Oper} {rest : List Oper} {o : Oper} {a : Act} {w : World} {Q : Exit → Act → World → Prop} (hgd : o.guard = none) (ty : TypeId) (x y : Operand) (ho : o.op = .store ty x y)
    (g : Nat) (C : Array Value) (hx : a.eval x = .pointer (some ⟨g, 0, none⟩)) (hy : a.eval y = .agg C) (t : TypeId) (cur : Array Value) (hg : w.heap[g]? = some (.cells cur t (0, 0))) (hsz : cur.size = C.size)
    (hi : (P.info? ty).map (·.size) = some C.size) (h1 : ∀ v ∈ C.toList, v.oneCell' = true)
    (h : ∀ w', Hid (w'.heap[g]? = some (.cells C t (0, 0))) → Hid (Keeps (· = g) w w') → wpList P ops Q rest (a.put o.dst undef) w') : wpList P ops Q (o :: rest) a w :=
  wpList_plain hgd fun K hK => by
    unfold Oper.wp execOp
    simp only [ho, hx, hy, Instr.storeAt, Instr.sureAddr, Sem.run_bind, Sem.run_pure, Result.andThen_ok, run_storeVar_whole w g t ty cur C hg hsz hi h1]
    exact hK _ _ (h _ (setRow_heap w g _ _ t _ hg) ⟨rfl, rfl, rfl, by simp, fun j _ hj => setRow_other w g j _ hj⟩)
theorem pgC_one (P : Pg) : ∀ v ∈ (pgC P).toList, v.oneCell' = true := by
  intro v hv
  simp only [pgC, List.mem_cons, List.not_mem_nil, or_false] at hv
  rcases hv with h | h | h | h | h | h | h | h | h | h | h | h | h | h | h | h <;> (rw [h]; rfl)

theorem range_of {w : World} {b : Nat} {C : Array Value} {T : TypeId} {f : Nat × Nat} (h : w.heap[b]? = some (.cells C T f)) : w.rangeAt b 0 C.toList := fun j v hv => by
  rw [Nat.zero_add, cell_at h]
  simpa using hv
theorem wpList_want {P : Program} {ops : Array Oper} {rest : List Oper} {o : Oper} {a : Act} {w : World} {Q : Exit → Act → World → Prop} (hw : Region.wanted o (yielded ops a.tmps) = true)
    (h : ∀ K : Act → World → Prop, (∀ a w, wpList P ops Q rest a w → K a w) → o.wp P a w K Q) : wpList P ops Q (o :: rest) a w :=
  wpList_step fun K hK => by simp only [hw, if_true]; exact h K hK
theorem wpList_load_want {P : Program} {ops : Array Oper} {rest : List Oper} {o : Oper} {a : Act} {w : World} {Q : Exit → Act → World → Prop} (hw : Region.wanted o (yielded ops a.tmps) = true) (ty : TypeId) (x : Operand) (ho : o.op = .load ty x)
    (g : Nat) (hx : a.eval x = .pointer (some ⟨g, 0, none⟩)) (t : TypeId) (cs : Array Value) (fr : Nat × Nat) (d : TypeDesc) (hg : w.heap[g]? = some (.cells cs t fr))
    (hu : P.underlying ty = some d) (hd : (match d with | .struct _ | .array _ _ => true | _ => false) = true) (hi : (P.info? ty).map (·.size) = some cs.size)
    (h : wpList P ops Q rest (a.put o.dst (.agg cs)) w) : wpList P ops Q (o :: rest) a w :=
  wpList_want hw fun _ hK => wp_load_row ty x ho g hx t cs fr d hg hu hd hi (hK _ _ h)

/-! ### which pages may be written -/
def ClOk (s : Int) (d : ByteArray) : Prop := 0 ≤ s ∧ s ≤ 2 ∧ d.size ≤ 34 ∧ (s = 0 → d.size = 0)
instance (s : Int) (d : ByteArray) : Decidable (ClOk s d) := by unfold ClOk; exact inferInstance
def HdOk (P : Pg) : Prop := 0 ≤ P.kind ∧ P.kind ≤ 4 ∧ 0 ≤ P.level ∧ P.level ≤ 255 ∧ 0 ≤ P.store ∧ P.store ≤ 65535 ∧ 0 ≤ P.next ∧ P.next < 1024
instance (P : Pg) : Decidable (HdOk P) := by unfold HdOk; exact inferInstance
def PgOk (P : Pg) : Prop := HdOk P ∧ ∀ i, i < 6 → ClOk (P.st i) (P.dt i)
instance (P : Pg) : Decidable (PgOk P) := by unfold PgOk; exact inferInstance
theorem not_hd {P : Pg} (h : ¬ HdOk P) : ¬ PgOk P := fun n => h n.1
theorem not_cl {P : Pg} {k : Nat} (hk : k < 6) (h : ¬ ClOk (P.st k) (P.dt k)) : ¬ PgOk P := fun n => h (n.2 k hk)
theorem cl_more {P : Pg} {k : Nat} (h : ∀ j, j < k → ClOk (P.st j) (P.dt j)) (hk : ClOk (P.st k) (P.dt k)) : ∀ j, j < k + 1 → ClOk (P.st j) (P.dt j) := fun j hj => by
  by_cases e : j = k
  · subst e; exact hk
  · exact h j (by omega)
theorem hd_cases {P : Pg} (h : ¬ HdOk P) : P.kind < 0 ∨ (0 ≤ P.kind ∧ 4 < P.kind) ∨ (0 ≤ P.kind ∧ P.kind ≤ 4 ∧ P.level < 0) ∨ (0 ≤ P.kind ∧ P.kind ≤ 4 ∧ 0 ≤ P.level ∧ 255 < P.level) ∨ (0 ≤ P.kind ∧ P.kind ≤ 4 ∧ 0 ≤ P.level ∧ P.level ≤ 255 ∧ P.store < 0)
    ∨ (0 ≤ P.kind ∧ P.kind ≤ 4 ∧ 0 ≤ P.level ∧ P.level ≤ 255 ∧ 0 ≤ P.store ∧ 65535 < P.store) ∨ (0 ≤ P.kind ∧ P.kind ≤ 4 ∧ 0 ≤ P.level ∧ P.level ≤ 255 ∧ 0 ≤ P.store ∧ P.store ≤ 65535 ∧ P.next < 0)
    ∨ (0 ≤ P.kind ∧ P.kind ≤ 4 ∧ 0 ≤ P.level ∧ P.level ≤ 255 ∧ 0 ≤ P.store ∧ P.store ≤ 65535 ∧ 0 ≤ P.next ∧ 1024 ≤ P.next) := by unfold HdOk at h; omega
theorem cl_cases {s : Int} {d : ByteArray} (h : ¬ ClOk s d) : s < 0 ∨ (0 ≤ s ∧ 2 < s) ∨ (0 ≤ s ∧ s ≤ 2 ∧ 34 < d.size) ∨ (s = 0 ∧ d.size ≤ 34 ∧ d.size ≠ 0) := by
  unfold ClOk at h
  by_cases e : s = 0
  · subst e
    have : ¬ d.size ≤ 34 ∨ d.size ≠ 0 := by
      by_cases g : d.size ≤ 34
      · exact .inr fun e => h ⟨by omega, by omega, g, fun _ => e⟩
      · exact .inl g
    omega
  · have : ¬ (0 ≤ s ∧ s ≤ 2 ∧ d.size ≤ 34) := fun g => h ⟨g.1, g.2.1, g.2.2, fun h => absurd h e⟩
    omega
set_option maxRecDepth 100000 in
set_option maxHeartbeats 16000000 in
theorem pg_check (P : Pg) (hd : ∀ i, i < 6 → (P.dt i).size ≤ maxLen) (w : World) : Calls Tryz.prog 80 #[pgV P] w fun e w' => (e = .returned (.int .i64 0) ∧ PgOk P ∨ e = .returned (.int .i64 1) ∧ ¬ PgOk P) ∧ Below w.heap.size w w' := by
  have hpc : pgC P = #[.int .i64 P.kind, .int .i64 P.level, .int .i64 P.store, .int .i64 P.next, .int .i64 (P.st 0), .string (P.dt 0), .int .i64 (P.st 1), .string (P.dt 1), .int .i64 (P.st 2), .string (P.dt 2),
  .int .i64 (P.st 3), .string (P.dt 3), .int .i64 (P.st 4), .string (P.dt 4), .int .i64 (P.st 5), .string (P.dt 5)] := rfl
  replace hpc := Lib.hid hpc
  have hpa : Hid (pgA P = #[.int .i64 (P.st 0), .string (P.dt 0), .int .i64 (P.st 1), .string (P.dt 1), .int .i64 (P.st 2), .string (P.dt 2), .int .i64 (P.st 3), .string (P.dt 3), .int .i64 (P.st 4), .string (P.dt 4), .int .i64 (P.st 5), .string (P.dt 5)]) := rfl
  have HQ : Hid ((w.alloc (.cells (pgC P) 49)).heap[w.heap.size]? = some (.cells (pgC P) 49 (0, 0))) := hN rfl
  unfold pgV
  rw [hpc.out]
  by_cases hh : HdOk P
  rotate_left
  · have hbad := Lib.hid (not_hd hh)
    rcases hd_cases hh with h | ⟨h1, h⟩ | ⟨h1, h2, h⟩ | ⟨h1, h2, h3, h⟩ | ⟨h1, h2, h3, h4, h⟩ | ⟨h1, h2, h3, h4, h5, h⟩ | ⟨h1, h2, h3, h4, h5, h6, h⟩ | ⟨h1, h2, h3, h4, h5, h6, h7, h⟩
    all_goals
      clear hh HQ hpa hpc
      go_enter Tryz.func80, Tryz.ntmps80
      go_wp2_with fail
      go_ret
      exact ⟨.inr ⟨rfl, hbad.out⟩, bA bR⟩
  obtain ⟨h1, h2, h3, h4, h5, h6, h7, h8⟩ := hh
  have hH : Hid (HdOk P) := ⟨h1, h2, h3, h4, h5, h6, h7, h8⟩
  go_enter Tryz.func80, Tryz.ntmps80
  go_wp2_with fail
  clear h1 h2 h3 h4 h5 h6 h7 h8
  rw [← hpc.out]
  try rw [← hpa.out]
  clear hpc hpa
  go_loopw [45] (fun i wr => ∃ (k : Nat), k ≤ 6 ∧ i = .int .i64 k ∧ Hid (∀ j, j < k → ClOk (P.st j) (P.dt j)) ∧ Hid (wr.heap[w.heap.size]? = some (.cells (pgC P) 49 (0, 0))) ∧ Hid (Below w.heap.size w wr)) (fun i _ => 6 - (intOf i).toNat)
  case atStart => exact ⟨0, by omega, rfl, fun j h => by omega, HQ, bA bR⟩
  case round =>
    obtain ⟨k, hk, rfl, hstep, HQ, HBr⟩ := hrel
    by_cases hk6 : k < 6
    rotate_left
    · obtain rfl : k = 6 := by omega
      go_wp2_with fail
      go_ret
      exact ⟨.inl ⟨rfl, hH.out, hstep.out⟩, HBr.out⟩
    have hix := run_index_pg P k hk6
    obtain ⟨c0, c1⟩ := pg_at HQ.out k hk6
    have hqr := block_lt HQ.out
    obtain ⟨s, es⟩ : ∃ s, P.st k = s := ⟨_, rfl⟩
    obtain ⟨d, ed⟩ : ∃ d, P.dt k = d := ⟨_, rfl⟩
    have hdz : d.size ≤ maxLen := ed ▸ hd k hk6
    unfold maxLen at hdz
    have hiff := Lib.hid (cl_more hstep.out (k := k))
    have hno := Lib.hid (not_cl (P := P) hk6)
    rw [es, ed] at hix hiff hno
    rw [es] at c0
    rw [ed] at c1
    replace es := Lib.hid es
    replace ed := Lib.hid ed
    have hk6' : (k : Int) < 6 := by omega
    by_cases hc : ClOk s d
    · have hcl := Lib.hid (hiff.out hc)
      obtain ⟨h1, h2, h3, h4⟩ := hc
      by_cases e : s = 0
      · subst e
        obtain rfl := str_none (h4 rfl)
        clear hiff hno h1 h2 h3 h4 hdz
        go_wp2_with fail
        go_roundw
        case rel => exact ⟨k + 1, by omega, rfl, hcl.out, hO HQ.out, bA HBr.out⟩
        case measure => simp [intOf]; omega
      · have e' : (s == 0) = false := by simpa using e
        clear hiff hno h4
        go_wp2_with fail
        go_roundw
        case rel => exact ⟨k + 1, by omega, rfl, hcl.out, hO HQ.out, bA HBr.out⟩
        case measure => simp [intOf]; omega
    · have hbad := Lib.hid (hno.out hc)
      rcases cl_cases hc with h | ⟨h1, h⟩ | ⟨h1, h2, h⟩ | ⟨h1, h2, h⟩
      · clear hc hiff hno hstep
        go_wp2_with fail
        go_ret
        exact ⟨.inr ⟨rfl, hbad.out⟩, bA HBr.out⟩
      · clear hc hiff hno hstep
        go_wp2_with fail
        go_ret
        exact ⟨.inr ⟨rfl, hbad.out⟩, bA HBr.out⟩
      · clear hc hiff hno hstep
        go_wp2_with fail
        go_ret
        exact ⟨.inr ⟨rfl, hbad.out⟩, bA HBr.out⟩
      · subst h1
        obtain ⟨n1, n2⟩ := str_some h
        clear hc hiff hno hstep
        go_wp2_with fail
        go_ret
        exact ⟨.inr ⟨rfl, hbad.out⟩, bA HBr.out⟩
end Go.Proofs.YtimomjheanfbmaaGreatDoor
