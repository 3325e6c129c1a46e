import Derived.Test.YtdkilpjebmhkkaaDoorPpz
set_option linter.unusedSimpArgs false
set_option linter.unusedVariables false
namespace Go.Proofs.YtdkilpjebmhkkaaDoor
open Go.RowKit

/-! ### a row of pages -/
def pgRow (f : Nat → Pg) : Nat → List Value
  | 0 => []
  | n + 1 => pgRow f n ++ (pgC (f n)).toList
theorem pgRow_length (f : Nat → Pg) : ∀ n, (pgRow f n).length = n * 16
  | 0 => rfl
  | n + 1 => by rw [pgRow, List.length_append, pgRow_length f n]; show n * 16 + 16 = _; omega
theorem pgRow_congr {f g : Nat → Pg} : ∀ n, (∀ i, i < n → pgC (f i) = pgC (g i)) → pgRow f n = pgRow g n
  | 0, _ => rfl
  | n + 1, h => by rw [pgRow, pgRow, pgRow_congr n (fun i hi => h i (by omega)), h n (by omega)]
theorem setL_left : ∀ (vs A B : List Value) (o : Nat), o + vs.length ≤ A.length → setL (A ++ B) o vs = setL A o vs ++ B
  | [], A, B, o, h => rfl
  | v :: vs, A, B, o, h => by
    simp only [List.length_cons] at h
    rw [setL, setL, List.set_append_left _ _ (by omega), setL_left vs (A.set o v) B (o + 1) (by rw [List.length_set]; omega)]
theorem pgRow_set (f : Nat → Pg) (x : Pg) : ∀ (n i : Nat), i < n → setL (pgRow f n) (16 * i) (pgC x).toList = pgRow (fun k => if k = i then x else f k) n
  | 0, i, hi => by omega
  | n + 1, i, hi => by
    rw [pgRow, pgRow]
    by_cases hin : i = n
    · subst hin
      have h1 := setL_eq (pgC x).toList (pgRow f i) (pgC (f i)).toList [] rfl
      rw [pgRow_length, List.append_nil, List.append_nil, Nat.mul_comm i 16] at h1
      rw [h1, if_pos rfl]
      rw [pgRow_congr (f := f) (g := fun k => if k = i then x else f k) i (fun k hk => by show pgC (f k) = pgC (if k = i then x else f k); rw [if_neg (by omega)])]
    · rw [setL_left _ _ _ _ (by rw [pgRow_length]; show 16 * i + 16 ≤ _; omega), pgRow_set f x n i (by omega), if_neg (fun e => hin e.symm)]
theorem pgRow_get (f : Nat → Pg) : ∀ (n i : Nat), i < n → ∀ (j : Nat) (v : Value), (pgC (f i)).toList[j]? = some v → (pgRow f n)[16 * i + j]? = some v
  | 0, i, hi, j, v, hj => by omega
  | n + 1, i, hi, j, v, hj => by
    have hjl : j < 16 := (List.getElem?_eq_some_iff.1 hj).1
    rw [pgRow]
    by_cases him : i = n
    · subst him
      rw [List.getElem?_append_right (by rw [pgRow_length]; omega), pgRow_length, show 16 * i + j - i * 16 = j by omega]
      exact hj
    · rw [List.getElem?_append_left (by rw [pgRow_length]; omega)]
      exact pgRow_get f n i (by omega) j v hj
theorem row_at {w : World} {e : TypeId} {g n c : Nat} {f : Nat → Pg} (h : OwnS w e 16 (.slice (some ⟨g, 0, none⟩) n c) n (pgRow f n)) (i : Nat) (hi : i < n) : w.rangeAt g (i * 16) (pgC (f i)).toList := fun j v hj => by
  have h2 := pgRow_get f n i hi j v hj
  have := World.ownsRow.cells h (g := g) rfl (16 * i + j) v h2
  rw [Addr.add_mid, Nat.zero_add] at this
  rw [Nat.mul_comm i 16]
  exact this
theorem row_there {w : World} {e : TypeId} {g n c : Nat} {f : Nat → Pg} (h : OwnS w e 16 (.slice (some ⟨g, 0, none⟩) n c) n (pgRow f n)) (i : Nat) (hi : i < n) : w.there g (i * 16) 16 := fun j hj => by
  refine ⟨?_, ?_⟩
  · obtain ⟨v, hv⟩ : ∃ v, (pgC (f i)).toList[j]? = some v := ⟨_, List.getElem?_eq_getElem (show j < (pgC (f i)).toList.length from hj)⟩
    rw [row_at h i hi j v hv]
    rfl
  · rcases h.2 with ⟨he, _⟩ | ⟨g1, cap, cur, he, hb, hg, hnc, hcm, hcs, htake⟩
    · simp at he
    · simp only [Value.slice.injEq, Option.some.injEq, Addr.mk.injEq, and_true, true_and] at he
      obtain ⟨rfl, rfl⟩ := he
      exact free_at hg _
/-- a page goes into a row -/
theorem wpList_store_row {ops : Array Oper} {rest : List Oper} {op : Oper} {a : Act} {w : World} {Q : Exit → Act → World → Prop} (hgd : op.guard = none) (x y : Operand) (ho : op.op = .store 41 x y)
    (e : TypeId) (g i c n : Nat) (f : Nat → Pg) (s' : Pg) (hx : a.eval x = .pointer (some ⟨g, i * 16, none⟩)) (hy : a.eval y = .agg (pgC s')) (H : OwnS w e 16 (.slice (some ⟨g, 0, none⟩) n c) n (pgRow f n)) (hi : i < n)
    (h : ∀ w', Hid (OwnS w' e 16 (.slice (some ⟨g, 0, none⟩) n c) n (pgRow (fun k => if k = i then s' else f k) n)) → Hid (Keeps (· = g) w w') → wpList Tryd.prog ops Q rest (a.put op.dst undef) w') : wpList Tryd.prog ops Q (op :: rest) a w := by
  refine wpList_store_mid hgd 41 x y ho g (i * 16) (pgC s') hx hy (row_there H i hi) (by show _ = some 16; kernel_rfl) (Array.all_eq_true_iff_forall_mem.2 (fun v hv => pgC_one s' v (by simpa using hv))) ?_
  refine h _ ?_ (Keeps.setCells (S := fun x => x = g) (a := w) (b := g) (.inl rfl) _ _ (Keeps.refl _ _))
  have h2 := OwnS.cells H (pgC s').toList (i * 16)
  rw [Nat.mul_comm i 16, pgRow_set f s' n i hi] at h2
  rw [Nat.mul_comm i 16]
  exact h2
/-! ### another pool over what was flushed -/
theorem Kp.renew {w0 w : World} {L : List Nat} {p lp dp : Nat} {rs : List ByteArray} {i0 : Nat} {X : Pl} {sv : Value} {S Sl Sd : List Nat} {D : Dev} {M : Nat → Pg × Int} {N : Nat} (h : Kp w0 w L p lp dp rs i0 X sv S Sl Sd D M N)
    (hcl : ∀ (j : Nat) (s : Slot), X.slots[j]? = some s → s.dirty = false) (frames : Nat) (h3 : 4 ≤ frames) (h4 : frames ≤ 256) :
    Calls Tryd.prog 10 #[.pointer (some ⟨dp, 0, none⟩), .pointer (some ⟨lp, 0, none⟩), .int .i64 128, .int .i64 X.pages, .int .i64 frames] w fun e w' => ∃ q X2, e = .returned (.tuple #[.pointer (some ⟨q, 0, none⟩), .int .i64 0]) ∧ Kp w0 w' L q lp dp rs i0 X2 (.slice none 0 0) [q] Sl Sd D M N ∧ X2.pages = X.pages ∧ X2.slots = [] ∧ Keeps (Own w0 L) w w' := by
  obtain ⟨o1, o2, o3, -⟩ := h.pw.pool.1
  have hfit := h.pw.fit
  rw [h.b128] at hfit
  refine (pl_new h.pw.ws 128 X.pages frames o2 o3 h3 h4 hfit (by omega)).mono fun e w' ⟨q, he, hp, hb, hpl⟩ => ⟨q, _, he, ⟨hp, ⟨fun i j s t hs => by simp at hs, fun i s hs => by simp at hs, fun i s hs => by simp at hs, fun hd id hid _ => ?_, h.inv.mok⟩, h.up, ?_, h.nN, fun k hk => ?_, fun k hk => Nat.lt_of_lt_of_le (h.loc k hk) hb.size, bT h.bel hb, rfl⟩, rfl, rfl, Keeps.of_below _ hb⟩
  · have := h.inv.dev hd id hid (fun i s hs _ => hcl i s hs)
    rw [h.b128] at this
    exact this
  · obtain ⟨m, h1, h2⟩ := h.pot
    exact ⟨m, h1, by simp [nDirty]; omega⟩
  · rcases hk with hk | hk | hk
    · have := List.mem_singleton.1 hk
      subst this
      exact ⟨Nat.le_trans h.bel.size hpl, fun h4 => by have := h.loc k h4; omega⟩
    · exact h.fr k (.inr (.inl hk))
    · exact h.fr k (.inr (.inr hk))
/-- a sector behind the ring is written -/
theorem Ws.wrote {w w' : World} {p dp first n bb : Nat} {P : ByteArray} {rs : List ByteArray} {i0 : Nat} {S Sd Sd' : List Nat} {D : Dev} (h : Ws w p dp first n bb P rs i0 S Sd D) (s : Nat) (d : ByteArray) (hs : first + n ≤ s) (hs2 : s < D.firm.length) (hd : d.size = 64) (hN : D.soft.length ≤ 3000000000000)
    (hdk : DiskAt w' dp (D.write (s : Int) d).1 Sd') (hk : Keeps (· ∈ Sd) w w') (hfr : ∀ k ∈ Sd', k ∈ Sd ∨ w.heap.size ≤ k) : Ws w' p dp first n bb P rs i0 S Sd' (D.write (s : Int) d).1 := by
  have hn := h.len
  have hl := write_len D (s : Int) d
  refine ⟨h.log.keep hk (fun k hk h' => h.dis k hk h'), hdk, ⟨hdk.1, by rw [hl.1]; exact h.has.2.1, h.has.2.2.write _ _ (by omega) (by omega) hd h.dsk.1.2.2.1 ⟨hd, fun j hj he => ?_⟩⟩, fun k hk h' => ?_, h.rok, h.le, h.pre, h.bbs, ?_⟩
  · have := place_lt (first := first) (k := bb + j) (n := n) (by omega)
    rw [Int.toNat_natCast] at he
    omega
  · rcases hfr k h' with h2 | h2
    · exact h.dis k hk h2
    · have := h.log.lt k hk; omega
  · rcases write_cases D (s : Int) d (by omega) (by omega) hd with ⟨_, c, _⟩ | ⟨_, _, _, _, c, _⟩
    · exact .inl (by rw [c.2.2]; omega)
    · exact .inl (by rw [c, List.length_append]; simp; omega)
end Go.Proofs.YtdkilpjebmhkkaaDoor
