import Derived.Test.YtimomjheanfbmaaGreatDoorMaa
import Derived.Deep.DeepAppendWide
set_option linter.unusedSimpArgs false
set_option linter.unusedVariables false
namespace Go.Proofs.YtimomjheanfbmaaGreatDoor
open Go.RowKit

/-! ### a slice that is owned: its block stands in the footprint f -/
/-- v: a slice of elements of type e (size cells each), whose cells are xs, in a block of its own. -/
def OwnS (w : World) (e : TypeId) (size : Nat) (v : Value) (n : Nat) (xs : List Value) : Prop := w.ownsRow 0 e size v n xs
def blk (v : Value) : List Nat := v.ownBlock.toList
theorem mem_blk {v : Value} {k : Nat} : k ∈ blk v ↔ v.ownBlock = some k := by
  unfold blk; cases v.ownBlock <;> simp [eq_comm]
theorem OwnS.lt {w : World} {e : TypeId} {size : Nat} {v : Value} {n : Nat} {xs : List Value} (h : OwnS w e size v n xs) {k : Nat} (hk : k ∈ blk v) : k < w.heap.size := (World.ownsRow.lt h k (mem_blk.1 hk)).2
theorem OwnS.keep {S : Nat → Prop} {w w' : World} {e : TypeId} {size : Nat} {v : Value} {n : Nat} {xs : List Value} (h : OwnS w e size v n xs) (hk : Keeps S w w') (hS : ∀ k ∈ blk v, ¬ S k) : OwnS w' e size v n xs := by
  refine ⟨h.1, ?_⟩
  rcases h.2 with h2 | ⟨g, cap, cur, rfl, hb, hg, r⟩
  · exact .inl h2
  · exact .inr ⟨g, cap, cur, rfl, hb, hk.keep hg (hS g (by simp [blk, Value.ownBlock])), r⟩
theorem OwnS.rebase {w : World} {e : TypeId} {size : Nat} {v : Value} {n : Nat} {xs : List Value} (h : OwnS w e size v n xs) (B : Nat) (hB : ∀ k ∈ blk v, B ≤ k) : w.ownsRow B e size v n xs := by
  refine ⟨h.1, ?_⟩
  rcases h.2 with h2 | ⟨g, cap, cur, rfl, hb, r⟩
  · exact .inl h2
  · exact .inr ⟨g, cap, cur, rfl, hB g (by simp [blk, Value.ownBlock]), r⟩
theorem OwnS.of {w : World} {B : Nat} {e : TypeId} {size : Nat} {v : Value} {n : Nat} {xs : List Value} (h : w.ownsRow B e size v n xs) : OwnS w e size v n xs := by
  refine ⟨h.1, ?_⟩
  rcases h.2 with h2 | ⟨g, cap, cur, rfl, hb, r⟩
  · exact .inl h2
  · exact .inr ⟨g, cap, cur, rfl, Nat.zero_le _, r⟩
theorem OwnS.nil (w : World) (e : TypeId) (size : Nat) : OwnS w e size (.slice none 0 0) 0 [] := World.ownsRow_nil w 0 e size

section
variable {P : Program} (w : World)
/-- append onto an owned slice: as the library has it, and: the new value lies in the old block or in a new one -/
theorem run_append_frame (t ty e : TypeId) (i : TypeInfo) (z : Value) (size bytes : Nat) (ht : P.underlying t = some (.slice e)) (hi : P.info? e = some i) (hz : i.zero = some z)
    (hsize : i.size = size) (hby : i.bytes = bytes) (hzs : z.cells.size = size) (hsz : 0 < size)
    (v : Value) (n : Nat) (xs : List Value) (hown : OwnS w e size v n xs)
    (a : Addr) (m c : Nat) (news : List Value) (hl : news.length = m * size) (hnews : ∀ j u, news[j]? = some u → w.cell? (a.add j) = some u) (h1 : ∀ u ∈ news, u.oneCell' = true)
    (h63 : n + m ≤ maxLen) (hbytes : ((n + m) + (n + m) / 4 + 192) * bytes ≤ 281474976710656) :
    ∃ v' w', (Builtin.append_ #[t, t] ty #[v, .slice (some a) m c]).run P w = .ok v' w' ∧ OwnS w' e size v' (n + m) (xs ++ news) ∧ Keeps (· ∈ blk v) w w' ∧ (∀ k ∈ blk v', k ∈ blk v ∨ w.heap.size ≤ k) ∧
      (v' = .slice none 0 0 ↔ v = .slice none 0 0 ∧ m = 0) := by
  have keeps : ∀ {w' : World}, w.grownBy w' v.ownBlock → Keeps (· ∈ blk v) w w' := fun hg => (Keeps.refl _ _).grown hg (fun k hk => .inl (mem_blk.2 hk))
  rcases hown.2 with ⟨rfl, rfl⟩ | ⟨g, cap, cur, rfl, hbg, hg, hnc, hcm, hcs, htake⟩
  · obtain ⟨v', w', hr, h2, h3, h4⟩ := run_append_own_wide (P := P) w w.heap.size t ty e i z size bytes ht hi hz hsize hby hzs hsz _ _ xs (hown.rebase _ (by simp [blk, Value.ownBlock])) a m c news hl hnews h1 h63 hbytes (Nat.le_refl _)
    exact ⟨v', w', hr, OwnS.of h2, keeps h3, fun k hk => .inr (h2.lt k (mem_blk.1 hk)).1, h4⟩
  · obtain ⟨v', w', hr, h2, h3, h4⟩ := run_append_own_wide (P := P) w 0 t ty e i z size bytes ht hi hz hsize hby hzs hsz _ _ xs hown a m c news hl hnews h1 h63 hbytes (Nat.zero_le _)
    refine ⟨v', w', hr, h2, keeps h3, ?_, h4⟩
    subst hsize hby
    by_cases hroom : n + m ≤ cap
    · have hr' := run_append_room (P := P) w t ty e i ht hi g n cap cur hg a m c news hl hnews h1 hroom (by rw [hl, hcs, ← Nat.add_mul]; exact Nat.mul_le_mul_right _ hroom)
      rw [hr'] at hr
      obtain ⟨rfl, -⟩ := Result.ok.inj hr
      intro k hk
      exact .inl (by simpa [blk, Value.ownBlock] using hk)
    · have holds : ∀ j u, xs[j]? = some u → w.cell? ((⟨g, 0, none⟩ : Addr).add j) = some u := World.ownsRow.cells hown (g := g) rfl
      have hr' := run_append_grow (P := P) w t ty e i z ht hi hz ⟨g, 0, none⟩ n cap xs hown.1 holds a m c news hl hnews (by omega) (by unfold maxLen at h63; omega) (growslice_fits_wide (by omega) hbytes)
      rw [hr'] at hr
      obtain ⟨rfl, -⟩ := Result.ok.inj hr
      intro k hk
      have : k = w.heap.size := by simpa [blk, Value.ownBlock, eq_comm] using hk
      exact .inr (by omega)
theorem wpList_append_frame {ops : Array Oper} {rest : List Oper} {o : Oper} {a : Act} {Q : Exit → Act → World → Prop} (hgd : o.guard = none) (s x : Operand) (t : TypeId)
    (ho : o.op = .call { callee := .builtin .append, args := #[s, x], argTypes := #[t, t] })
    (e : TypeId) (i : TypeInfo) (z : Value) (size bytes : Nat) (ht : P.underlying t = some (.slice e)) (hi : P.info? e = some i) (hz : i.zero = some z)
    (hsize : i.size = size) (hby : i.bytes = bytes) (hzs : z.cells.size = size) (hsz : 0 < size)
    (v : Value) (n : Nat) (xs : List Value) (hs : a.eval s = v) (hown : OwnS w e size v n xs)
    (ad : Addr) (m c : Nat) (news : List Value) (hx : a.eval x = .slice (some ad) m c) (hl : news.length = m * size) (hnews : ∀ j u, news[j]? = some u → w.cell? (ad.add j) = some u) (h1 : ∀ u ∈ news, u.oneCell' = true)
    (h63 : n + m ≤ maxLen) (hbytes : ((n + m) + (n + m) / 4 + 192) * bytes ≤ 281474976710656)
    (h : ∀ v' w', OwnS w' e size v' (n + m) (xs ++ news) → Keeps (· ∈ blk v) w w' → (∀ k ∈ blk v', k ∈ blk v ∨ w.heap.size ≤ k) → (v' = .slice none 0 0 ↔ v = .slice none 0 0 ∧ m = 0) → wpList P ops Q rest (a.put o.dst v') w') : wpList P ops Q (o :: rest) a w := by
  obtain ⟨v', w', hr, h2, h3, h4, h5⟩ := run_append_frame (P := P) w t o.type e i z size bytes ht hi hz hsize hby hzs hsz v n xs hown ad m c news hl hnews h1 h63 hbytes
  refine wpList_plain hgd fun K hK => ?_
  unfold Oper.wp execOp
  simp only [ho, resolve, invoke, builtin, Sem.run_bind, Sem.run_pure, Result.andThen_ok, List.map_toArray, List.map_cons, List.map_nil, hs, hx, hr]
  exact hK _ _ (h v' w' h2 h3 h4 h5)
end
end Go.Proofs.YtimomjheanfbmaaGreatDoor

namespace Go.Proofs.YtimomjheanfbmaaGreatDoor
open Go.RowKit

/-- a world by its facts alone -/
theorem name_world {P : Program} {c : Code} {Q : Exit → Act → World → Prop} {a : Act} {W : World} (F : World → Prop) (hF : F W) (h : ∀ W', F W' → c.wp P Q a W') : c.wp P Q a W := h W hF
theorem bytes_left (a b : ByteArray) : (a ++ b).extract 0 a.size = a := ByteArray.extract_append_eq_left rfl
theorem bytes_right (a b : ByteArray) : (a ++ b).extract a.size (a ++ b).size = b := ByteArray.extract_append_eq_right rfl ByteArray.size_append
theorem bytes_size (a b : ByteArray) : (a ++ b).size = a.size + b.size := ByteArray.size_append
theorem bytes_assoc (a b c : ByteArray) : a ++ b ++ c = a ++ (b ++ c) := ByteArray.append_assoc
theorem bytes_nil_left (a : ByteArray) : (⟨#[]⟩ : ByteArray) ++ a = a := by
  apply ByteArray.ext
  simp
theorem bytes_nil_right (a : ByteArray) : a ++ (⟨#[]⟩ : ByteArray) = a := by
  apply ByteArray.ext
  simp
theorem valL_leS (n : Nat) : ∀ k : Nat, valL ((leS (n : Int) k).data.toList) = ((n % 256 ^ k : Nat) : Int)
  | 0 => by simp [leS, le, strOfNums, valL, Nat.mod_one]
  | k + 1 => by
    have e : (leS (n : Int) (k + 1)).data.toList = (leS (n : Int) k).data.toList ++ [UInt8.ofNat ((n : Int) / 2 ^ (8 * k) % 256).toNat] := by
      rw [leS, leS, strOfNums_data, strOfNums_data, le_succ, List.map_append]; rfl
    have hl : (leS (n : Int) k).data.toList.length = k := by rw [Array.length_toList]; exact leS_size _ _
    rw [e, valL_snoc, valL_leS n k, hl, Nat.mod_pow_succ, UInt8.toNat_ofNat', two_pow_8, int_pow_256]
    have h1 : ((n : Int) / ((256 ^ k : Nat) : Int) % 256).toNat = n / 256 ^ k % 256 := by
      rw [← Int.natCast_ediv]; omega
    rw [h1]
    have h2 : n / 256 ^ k % 256 % 2 ^ 8 = n / 256 ^ k % 256 := by omega
    rw [h2, ← Int.natCast_mul]
    omega
theorem valS_leS (n : Int) (k : Nat) (h0 : 0 ≤ n) (h : n < 256 ^ k) : valS (leS n k) = n := by
  obtain ⟨m, rfl⟩ := Int.eq_ofNat_of_zero_le h0
  unfold valS
  rw [int_pow_256] at h
  rw [valL_leS, Nat.mod_eq_of_lt (by omega)]
theorem Sl_of2 {H : Type} {enc : TypeId × Value → H} {P : Program} {W : World} {sp : Nat → Bool} {held : Bool} {t e : TypeId} {v : Value} {d : DataW H} {ps : List MemPlace} {n : Nat} (ht : P.underlying t = some (.slice e)) (hn : P.cellsOf e = n) (hpos : 0 < n)
    (hok : ∃ a len cap, v = .slice a len cap) (h : DataW.Trod enc P W 0 sp held t v d ps) :
    ∃ xs : List (List Value), Sl W v n xs ∧ ((d = .nil ∧ xs = []) ∨ ∃ el sp, d = .slice el sp ∧ el.length = xs.length) ∧ ∀ x ∈ xs, x.length = n ∧ ∃ fuel y, DataW.trod enc P W 0 sp held fuel e x = some y := by
  obtain ⟨fuel, hf⟩ := h
  obtain ⟨a, len, cap, rfl⟩ := hok
  rcases Deep.open_slice ht hf with ⟨hcs, hxd⟩ | ⟨a', len', cap', m, k, D, Pl, hcs, _, hl, hm, hmm, hx, hel⟩
  · simp [Value.cells] at hcs
    obtain ⟨rfl, rfl, rfl⟩ := hcs
    exact ⟨[], ⟨none, 0, rfl, Nat.zero_le _, fun h => (h rfl).elim⟩, .inl ⟨congrArg Prod.fst hxd, rfl⟩, by simp⟩
  · simp [Value.cells] at hcs
    obtain ⟨rfl, rfl, rfl⟩ := hcs
    rw [hn] at hel
    have hlm : len ≤ m := by rw [hmm]; split <;> omega
    let xs : List (List Value) := (List.range len).map fun i => (W.cells? 0 (a'.add (i * n)) n).getD []
    have hlen : xs.length = len := by simp [xs]
    have hget : ∀ i, i < len → ∃ cs, xs[i]? = some cs ∧ W.cells? 0 (a'.add (i * n)) n = some cs ∧ ∃ y, DataW.trod enc P W 0 sp held k e cs = some y := by
      intro i hi
      obtain ⟨cs, h1, h2⟩ := hel i (by omega)
      exact ⟨cs, by simp [xs, hi, h1], h1, _, h2⟩
    refine ⟨xs, ⟨some a', cap, by rw [hlen], by omega, fun hne => ?_⟩, .inr ⟨_, _, congrArg Prod.fst hx, by simp [xs]⟩, ?_⟩
    · have h0 : 0 < len := by
        rcases Nat.eq_zero_or_pos len with h | h
        · exact (hne (List.eq_nil_of_length_eq_zero (by rw [hlen, h]))).elim
        · exact h
      obtain ⟨cs0, _, hc0, _⟩ := hget 0 h0
      have hz := (cells?_at hc0).2 0 hpos
      have hl0 := (cells?_at hc0).1
      have hsome : W.cell? a' = some (cs0[0]'(by omega)) := by
        simpa [Addr.add, List.getElem?_eq_getElem (show 0 < cs0.length by omega)] using hz
      have hspot : a'.spot = none := World.cell?_spot hsome
      obtain ⟨b, off, sp'⟩ := a'
      dsimp only at hspot
      subst hspot
      refine ⟨b, off, rfl, World.block_lt_of_cell? W _ hsome, fun i hi j hj => ?_⟩
      obtain ⟨cs, h1, h2, _⟩ := hget i (by omega)
      have := (cells?_at h2).2 j hj
      rw [h1]
      rw [← show (Addr.add (Addr.add ⟨b, off, none⟩ (i * n)) j) = ⟨b, off + i * n + j, none⟩ from by unfold Addr.add; split <;> split <;> simp_all]
      exact this
    · intro x hx
      simp only [xs, List.mem_map, List.mem_range] at hx
      obtain ⟨i, hi, rfl⟩ := hx
      obtain ⟨cs, _, h2, y, h3⟩ := hget i hi
      rw [h2]
      exact ⟨(cells?_at h2).1, k, y, h3⟩

theorem list_of {α β : Type} {f : β → α} {p : β → Prop} : ∀ {xs : List α} (h : ∀ x ∈ xs, ∃ b, x = f b ∧ p b), ∃ bs : List β, xs = bs.map f ∧ ∀ b ∈ bs, p b
  | [], _ => ⟨[], rfl, by simp⟩
  | x :: xs, h => by
    obtain ⟨b, rfl, hb⟩ := h x (by simp)
    obtain ⟨bs, rfl, hbs⟩ := list_of (xs := xs) (fun y hy => h y (by simp [hy]))
    exact ⟨b :: bs, rfl, by simpa using ⟨hb, hbs⟩⟩
/-- a slice of integers, of strings, that came in -/
def IntSl (w : World) (v : Value) (k : IntKind) (ns : List Int) : Prop := Sl w v 1 (ns.map fun n => [Value.int k n]) ∧ ∀ n ∈ ns, (Lit.int k n).wf = true
def StrSl (w : World) (v : Value) (ss : List ByteArray) : Prop := Sl w v 1 (ss.map fun s => [Value.string s]) ∧ ∀ s ∈ ss, s.size ≤ maxLen
theorem len1 {x : List Value} (h : x.length = 1) : ∃ c, x = [c] := by
  match x, h with
  | [c], _ => exact ⟨c, rfl⟩
theorem ints_of {H : Type} {enc : TypeId × Value → H} {P : Program} {W : World} {sp : Nat → Bool} {held : Bool} {t e : TypeId} {v : Value} {d : DataW H} {ps : List MemPlace} {k : IntKind} (ht : P.underlying t = some (.slice e)) (he : P.underlying e = some (.int k)) (hn : P.cellsOf e = 1)
    (hok : ∃ a len cap, v = .slice a len cap) (h : DataW.Trod enc P W 0 sp held t v d ps) : ∃ ns, IntSl W v k ns ∧ ((d = .nil ∧ ns = []) ∨ ∃ el sp, d = .slice el sp ∧ el.length = ns.length) := by
  obtain ⟨xs, hs, hd, hx⟩ := Sl_of2 ht hn (by omega) hok h
  have : ∀ x ∈ xs, ∃ n : Int, x = [Value.int k n] ∧ (Lit.int k n).wf = true := by
    intro x hxm
    obtain ⟨hl, fuel, y, hy⟩ := hx x hxm
    obtain ⟨c, rfl⟩ := len1 hl
    obtain ⟨a, e0, _, wa⟩ := DataW.trod_int he hy
    simp at e0
    exact ⟨a, by rw [e0], wa⟩
  obtain ⟨ns, rfl, hns⟩ := list_of this
  exact ⟨ns, ⟨hs, hns⟩, by simpa using hd⟩
theorem strs_of {H : Type} {enc : TypeId × Value → H} {P : Program} {W : World} {sp : Nat → Bool} {held : Bool} {t e : TypeId} {v : Value} {d : DataW H} {ps : List MemPlace} (ht : P.underlying t = some (.slice e)) (he : P.underlying e = some .string) (hn : P.cellsOf e = 1)
    (hok : ∃ a len cap, v = .slice a len cap) (h : DataW.Trod enc P W 0 sp held t v d ps) : ∃ ss, StrSl W v ss ∧ ((d = .nil ∧ ss = []) ∨ ∃ el sp, d = .slice el sp ∧ el.length = ss.length) := by
  obtain ⟨xs, hs, hd, hx⟩ := Sl_of2 ht hn (by omega) hok h
  have : ∀ x ∈ xs, ∃ s : ByteArray, x = [Value.string s] ∧ s.size ≤ maxLen := by
    intro x hxm
    obtain ⟨hl, fuel, y, hy⟩ := hx x hxm
    obtain ⟨c, rfl⟩ := len1 hl
    obtain ⟨a, e0, hsz, _⟩ := DataW.trod_string he hy
    simp at e0
    exact ⟨a, by rw [e0], by assumption⟩
  obtain ⟨ss, rfl, hss⟩ := list_of this
  exact ⟨ss, ⟨hs, hss⟩, by simpa using hd⟩

end Go.Proofs.YtimomjheanfbmaaGreatDoor
