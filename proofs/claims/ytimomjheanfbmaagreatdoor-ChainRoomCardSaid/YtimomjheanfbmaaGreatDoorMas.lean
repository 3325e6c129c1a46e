import Derived.Test.YtimomjheanfbmaaGreatDoorMar
import Derived.Maps.OwnSet
import Derived.Maps.StringElems
import Derived.Maps.OwnOps
import Derived.Test.YtimomjheanfbmaaGreatDoorMam
import Derived.Deep.RegionHeld3
import Derived.WalkSpells
import Derived.Deep.DeepCutAuto
import Derived.Deep.CutBlock
set_option linter.unusedSimpArgs false
set_option linter.unusedVariables false
namespace Go.Proofs.YtimomjheanfbmaaGreatDoor
open Go.RowKit

/-- what the log's sector number k holds: its bytes; is it there?; an error -/
def Lg.load (G : Lg) (D : Dev) (k : Int) : ByteArray × Bool × Int :=
  if (D.read (G.first + k % G.n)).2 ≠ 0 then (⟨#[]⟩, false, (D.read (G.first + k % G.n)).2)
  else if valS ((D.read (G.first + k % G.n)).1.extract 0 8) ≠ k + 1 ∨ 54 < valS ((D.read (G.first + k % G.n)).1.extract 8 10) then (⟨#[]⟩, false, 0)
  else ((D.read (G.first + k % G.n)).1.extract 10 (10 + (valS ((D.read (G.first + k % G.n)).1.extract 8 10)).toNat), true, 0)
theorem read_size {D : Dev} (h : DevOk D) (s : Int) (he : (D.read s).2 = 0) : (D.read s).1.size = 64 := by
  unfold Dev.read at he ⊢
  by_cases h1 : D.down = true
  · rw [if_pos h1] at he; simp at he
  · rw [if_neg h1] at he ⊢
    by_cases h2 : s < 0 ∨ (D.firm.length : Int) ≤ s
    · rw [if_pos h2] at he; simp at he
    · rw [if_neg h2]
      obtain ⟨_, _, hl, _, _, _, hs, _⟩ := h
      have hlt : s.toNat < D.seen.length := by omega
      show (D.seen.getD s.toNat ⟨#[]⟩).size = 64
      rw [List.getD_eq_getElem?_getD, List.getElem?_eq_getElem hlt]
      exact hs _ (List.getElem_mem _)
theorem keepN (S : Nat → Prop) (w : World) (n : Nat) : Keeps S w (w.drewN n) := ⟨rfl, rfl, rfl, Nat.le_refl _, fun _ _ _ => rfl⟩
end Go.Proofs.YtimomjheanfbmaaGreatDoor

namespace Go.Proofs.YtimomjheanfbmaaGreatDoor
open Go.RowKit
open Go.Maps (Keyed int_keyed keyOf_int_mk)

end Go.Proofs.YtimomjheanfbmaaGreatDoor

namespace Go.Proofs.YtimomjheanfbmaaGreatDoor
open Go.RowKit

theorem secAt_size (G : Lg) (k : Nat) : (G.secAt k).size ≤ 118 := by
  unfold Lg.secAt secS
  rw [ByteArray.size_append, ByteArray.size_append, ByteArray.size_append, leS_size, leS_size, zeros_size, ByteArray.size_extract]
  omega
/-- what the ring's places should hold: the first j sectors of the stream that the log has, from number b on -/
def Lg.keptP (G : Lg) (b : Nat) : Nat → Int → Option ByteArray
  | 0 => fun _ => none
  | j + 1 => fun i => if i = ((b + j : Nat) : Int) % G.n then some (G.secAt (b + j)) else Lg.keptP G b j i
/-- the ring's first i places are put right -/
def Lg.wp (G : Lg) (D : Dev) (M : Int → Option ByteArray) : Nat → Dev × Int
  | 0 => (D, 0)
  | i + 1 => if (Lg.wp G D M i).2 ≠ 0 then Lg.wp G D M i
    else if ((Lg.wp G D M i).1.read (G.first + (i : Nat))).2 ≠ 0 then ((Lg.wp G D M i).1, ((Lg.wp G D M i).1.read (G.first + (i : Nat))).2)
    else if ((Lg.wp G D M i).1.read (G.first + (i : Nat))).1 = (M (i : Nat)).getD (zeros 64) then Lg.wp G D M i
    else (Lg.wp G D M i).1.write (G.first + (i : Nat)) ((M (i : Nat)).getD (zeros 64))
def Lg.wiped (G : Lg) (D : Dev) (M : Int → Option ByteArray) : Dev × Int := if (G.wp D M G.n.toNat).2 ≠ 0 then G.wp D M G.n.toNat else (G.wp D M G.n.toNat).1.barrier
theorem bytes_toList {a b : ByteArray} (h : a.toList = b.toList) : a = b := by
  rw [ByteArray.toList_eq, ByteArray.toList_eq] at h
  exact ByteArray.ext (Array.toList_inj.1 h)
theorem keptP_size (G : Lg) (b : Nat) : ∀ j k, Option.elim (G.keptP b j k) True (fun s => s.size ≤ 118)
  | 0, _ => trivial
  | j + 1, k => by
    unfold Lg.keptP
    by_cases h : k = ((b + j : Nat) : Int) % G.n
    · rw [if_pos h]; exact secAt_size G _
    · rw [if_neg h]; exact keptP_size G b j k
theorem wp_stop {G : Lg} {D : Dev} {M : Int → Option ByteArray} {k : Nat} (h : (G.wp D M k).2 ≠ 0) : ∀ j, k ≤ j → G.wp D M j = G.wp D M k := by
  intro j hj
  obtain ⟨d, rfl⟩ : ∃ d, j = k + d := ⟨j - k, by omega⟩
  clear hj
  induction d with
  | zero => rfl
  | succ d ih =>
    show (if (Lg.wp G D M (k + d)).2 ≠ 0 then Lg.wp G D M (k + d) else _) = _
    rw [ih, if_pos h]
theorem wp_soft {G : Lg} {D : Dev} {M : Int → Option ByteArray} : ∀ k, (G.wp D M k).1.soft.length ≤ D.soft.length + k
  | 0 => Nat.le_refl _
  | k + 1 => by
    have ih := wp_soft (G := G) (D := D) (M := M) k
    rw [Lg.wp]
    repeat' split
    all_goals (try (have := write_soft (Lg.wp G D M k).1 (G.first + ((k : Nat) : Int)) ((M (k : Nat)).getD (zeros 64))))
    all_goals (try dsimp only at *)
    all_goals omega
end Go.Proofs.YtimomjheanfbmaaGreatDoor

namespace Go.Proofs.YtimomjheanfbmaaGreatDoor
open Go.RowKit

/-- append onto an owned slice, at a step of a region that draws -/
theorem step_append_frame {P : Program} {w : World} {ops : Array Oper} {o : Oper} {a : Act} {K : Act → World → Prop} {Q : Exit → Act → World → Prop} {E : Prop} (hgd : o.guard = none) (s x : Operand) (t : TypeId)
    (ho : o.op = .call { callee := .builtin .append, args := #[s, x], argTypes := #[t, t] })
    (e : TypeId) (i : TypeInfo) (z : Value) (size bytes : Nat) (ht : P.underlying t = some (.slice e)) (hi : P.info? e = some i) (hz : i.zero = some z)
    (hsize : i.size = size) (hby : i.bytes = bytes) (hzs : z.cells.size = size) (hsz : 0 < size)
    (v : Value) (n : Nat) (xs : List Value) (hs : a.eval s = v) (hown : OwnS w e size v n xs)
    (ad : Addr) (m c : Nat) (news : List Value) (hx : a.eval x = .slice (some ad) m c) (hl : news.length = m * size) (hnews : ∀ j u, news[j]? = some u → w.cell? (ad.add j) = some u) (h1 : ∀ u ∈ news, u.oneCell' = true)
    (h63 : n + m ≤ maxLen) (hbytes : ((n + m) + (n + m) / 4 + 192) * bytes ≤ 281474976710656) (hpos : 0 < n + m)
    (h : ∀ g cap w', OwnS w' e size (.slice (some ⟨g, 0, none⟩) (n + m) cap) (n + m) (xs ++ news) → Keeps (· ∈ blk v) w w' → (∀ k ∈ blk (.slice (some ⟨g, 0, none⟩) (n + m) cap), k ∈ blk v ∨ w.heap.size ≤ k) → K (a.put o.dst (.slice (some ⟨g, 0, none⟩) (n + m) cap)) w') :
    if Region.wanted o (yielded ops a.tmps) = true then Oper.wp P o a w K Q else E := by
  have hw : Region.wanted o (yielded ops a.tmps) = true := by simp [Region.wanted, hgd]
  rw [if_pos hw]
  obtain ⟨v', w', hr, h2, h3, h4, h5⟩ := run_append_frame (P := P) w t o.type e i z size bytes ht hi hz hsize hby hzs hsz v n xs hown ad m c news hl hnews h1 h63 hbytes
  obtain ⟨g, cap, rfl⟩ := h2.has hpos
  unfold Oper.wp execOp
  simp only [ho, resolve, invoke, builtin, Sem.run_bind, Sem.run_pure, Result.andThen_ok, List.map_toArray, List.map_cons, List.map_nil, hs, hx, hr]
  exact h g cap w' h2 h3 h4

theorem run_append_zero {P : Program} (w : World) (t ty e : TypeId) (i : TypeInfo) (ht : P.underlying t = some (.slice e)) (hi : P.info? e = some i) (a : Option Addr) (n c : Nat) (hnc : n ≤ c) (b : Option Addr) (d : Nat) :
    (Builtin.append_ #[t, t] ty #[.slice a n c, .slice b 0 d]).run P w = .ok (.slice a n c) w := by
  have hl : ∀ (x : Addr), (loadCells x 0).run P w = .ok #[] w := fun x => by simpa using run_loadCells_list (P := P) w x [] (by simp)
  cases a <;> cases b <;> simp [Builtin.append_, run_underlying ht, Builtin.lenOf, Builtin.firstCells, sizeOf, typeInfo, hi, hnc, hl, storeCells]
theorem OwnS.cap {w : World} {e : TypeId} {size : Nat} {v : Value} {n : Nat} {xs : List Value} (h : OwnS w e size v n xs) : ∃ a c, v = .slice a n c ∧ n ≤ c := by
  rcases h.2 with ⟨rfl, rfl⟩ | ⟨g, cap, cur, rfl, _, _, hc, _⟩
  · exact ⟨_, _, rfl, Nat.le_refl _⟩
  · exact ⟨_, _, rfl, hc⟩
theorem wpList_append_seg {P : Program} {w : World} {ops : Array Oper} {rest : List Oper} {o : Oper} {a : Act} {Q : Exit → Act → World → Prop} (hgd : o.guard = none) (s x : Operand) (t : TypeId)
    (ho : o.op = .call { callee := .builtin .append, args := #[s, x], argTypes := #[t, t] })
    (e : TypeId) (i : TypeInfo) (z : Value) (size bytes : Nat) (ht : P.underlying t = some (.slice e)) (hi : P.info? e = some i) (hz : i.zero = some z)
    (hsize : i.size = size) (hby : i.bytes = bytes) (hzs : z.cells.size = size) (hsz : 0 < size)
    (v : Value) (n : Nat) (xs : List Value) (hs : a.eval s = v) (hown : OwnS w e size v n xs)
    (ad : Option Addr) (m c : Nat) (news : List Value) (hx : a.eval x = .slice ad m c) (hl : news.length = m * size) (hnews : ∀ a', ad = some a' → ∀ j u, news[j]? = some u → w.cell? (a'.add j) = some u) (hsome : 0 < m → ad.isSome = true) (h1 : ∀ u ∈ news, u.oneCell' = true)
    (h63 : n + m ≤ maxLen) (hbytes : ((n + m) + (n + m) / 4 + 192) * bytes ≤ 281474976710656)
    (h : ∀ v' w', OwnS w' e size v' (n + m) (xs ++ news) → Keeps (· ∈ blk v) w w' → (∀ k ∈ blk v', k ∈ blk v ∨ w.heap.size ≤ k) → wpList P ops Q rest (a.put o.dst v') w') : wpList P ops Q (o :: rest) a w := by
  by_cases hm : m = 0
  · subst hm
    obtain rfl : news = [] := List.eq_nil_of_length_eq_zero (by simpa using hl)
    obtain ⟨va, vc, rfl, hvc⟩ := hown.cap
    refine wpList_plain hgd fun K hK => ?_
    unfold Oper.wp execOp
    simp only [ho, resolve, invoke, builtin, Sem.run_bind, Sem.run_pure, Result.andThen_ok, List.map_toArray, List.map_cons, List.map_nil, hs, hx, run_append_zero w t o.type e i ht hi va n vc hvc ad c]
    exact hK _ _ (h _ _ (by simpa using hown) (Keeps.refl _ _) (fun k hk => .inl hk))
  · obtain ⟨a', rfl⟩ := Option.isSome_iff_exists.1 (hsome (by omega))
    exact wpList_append_frame w hgd s x t ho e i z size bytes ht hi hz hsize hby hzs hsz v n xs hs hown a' m c news hx hl (hnews a' rfl) h1 h63 hbytes (fun v' w' p q r _ => h v' w' p q r)
end Go.Proofs.YtimomjheanfbmaaGreatDoor

namespace Go.Proofs.YtimomjheanfbmaaGreatDoor
open Go.RowKit

theorem cell_below {w wr : World} {g o : Nat} (hb : Below w.heap.size w wr) (hg : g < w.heap.size) : wr.cell? ⟨g, o, none⟩ = w.cell? ⟨g, o, none⟩ := by
  simp [World.cell?, hb.block g hg]
theorem recV_one : ∀ (l : List (Int × ByteArray)), ∀ u ∈ recV l, u.oneCell' = true
  | [], u, h => by cases h
  | x :: l, u, h => by
    have h : u = .int .i64 x.1 ∨ u = .string x.2 ∨ u ∈ recV l := by
      obtain ⟨x1, x2⟩ := x
      simpa [recV] using h
    rcases h with rfl | rfl | h
    · rfl
    · rfl
    · exact recV_one l u h
/-- a slice of entries that nobody else writes: at v, holding L -/
def EntSl (w : World) (v : Value) (L : List (Int × ByteArray)) : Prop := ∃ a c, v = .slice a L.length c ∧ (0 < L.length → ∃ g o, a = some ⟨g, o, none⟩ ∧ g < w.heap.size ∧ ∀ j u, (recV L)[j]? = some u → w.cell? ⟨g, o + j, none⟩ = some u)
theorem OwnS.ent {w : World} {v : Value} {L : List (Int × ByteArray)} (h : OwnS w 140 2 v L.length (recV L)) : EntSl w v L := by
  obtain ⟨a, c, rfl⟩ := h.form
  refine ⟨a, c, rfl, fun hl => ?_⟩
  obtain ⟨g, c', he⟩ := h.has hl
  obtain ⟨rfl, rfl⟩ : a = some ⟨g, 0, none⟩ ∧ c = c' := by simpa using he
  refine ⟨g, 0, rfl, h.lt (by simp [blk, Value.ownBlock]), fun j u hj => ?_⟩
  have := World.ownsRow.cells h (g := g) rfl j u hj
  rwa [Addr.add_mid] at this
set_option maxRecDepth 100000 in
set_option maxHeartbeats 800000 in
theorem ent_clone (v : Value) (L : List (Int × ByteArray)) (hL : L.length ≤ 221184) (w : World) (h : EntSl w v L) :
    Calls Tryz.prog 166 #[v] w fun e w' => ∃ v', OwnS w' 140 2 v' L.length (recV L) ∧ (∀ k ∈ blk v', w.heap.size ≤ k) ∧ e = .returned v' ∧ Below w.heap.size w w' := by
  obtain ⟨i0, hj, hj0, hj1, hj2⟩ := info_parts Tryz.info_ent
  obtain ⟨a, c, rfl, hc⟩ := h
  cases a with
  | none =>
    have hl : L = [] := by
      cases L with
      | nil => rfl
      | cons x l => obtain ⟨g, o, he, _⟩ := hc (by simp); cases he
    subst hl
    have hnil : (binOp .eql 142 (.slice none 0 c) (.slice none 0 0)).run Tryz.prog w = .ok (.bool true) w := run_eql_nil_slice (P := Tryz.prog) w 142 140 none 0 c 0 0 Tryz.underlying142
    clear hc
    go_enter Tryz.func166, Tryz.ntmps166
    go_wp2_with fail
    go_ret
    exact ⟨.slice none 0 0, OwnS.nil _ _ _, by simp [blk, Value.ownBlock], rfl, bR⟩
  | some a =>
    have hO : OwnS (w.alloc (.cells #[] 140)) 140 2 (.slice (some ⟨w.heap.size, 0, none⟩) 0 0) 0 [] := ⟨rfl, .inr ⟨w.heap.size, 0, #[], rfl, Nat.zero_le _, hN rfl, Nat.le_refl _, by unfold maxLen; omega, rfl, rfl⟩⟩
    have hW : ∀ a', some a = some a' → ∀ j u, (recV L)[j]? = some u → (w.alloc (.cells #[] 140)).cell? (a'.add j) = some u := fun a' ha j u hj => by
      have hpos : 0 < L.length := by
        cases L with
        | nil => simp [recV] at hj
        | cons x l => simp
      obtain ⟨g, o, he, hg, hcell⟩ := hc hpos
      obtain rfl := Option.some.inj ha
      obtain rfl := Option.some.inj he
      rw [Addr.add_mid]; exact (cell_below (bA bR) hg).trans (hcell j u hj)
    have hlen := recV_length L
    have hnil : (binOp .eql 142 (.slice (some a) L.length c) (.slice none 0 0)).run Tryz.prog w = .ok (.bool false) w := run_eql_nil_slice (P := Tryz.prog) w 142 140 (some a) L.length c 0 0 Tryz.underlying142
    clear hc
    go_enter Tryz.func166, Tryz.ntmps166
    go_wp2_with (at_builtin; (refine wpList_append_seg rfl _ _ 142 rfl 140 i0 (.agg #[.int .i64 0, .string .empty]) 2 24 Tryz.underlying142 hj hj0 hj1 hj2 rfl (by decide) _ _ _ rfl hO _ L.length _ (recV L) rfl hlen hW (fun _ => rfl) (recV_one L) (by unfold maxLen; omega) (by omega) ?_); intro v5 w5 ho5 hk5 hb5)
    go_ret
    refine ⟨v5, by simpa using ho5, fun k hk => ?_, rfl, ?_⟩
    · rcases hb5 k hk with h' | h'
      · have : k = w.heap.size := by simpa [blk, Value.ownBlock, Act.eval] using h'
        omega
      · simp at h'; omega
    · exact bK (bA bR) hk5 (fun k hk => by
        have : k = w.heap.size := by simpa [blk, Value.ownBlock, Act.eval] using hk
        omega)
theorem OwnS.shrink {w : World} {e : TypeId} {v : Value} {n : Nat} {xs : List Value} (h : OwnS w e 1 v n xs) (m : Nat) (hm : m ≤ n) : ∃ a c, v = .slice a n c ∧ OwnS w e 1 (.slice a m c) m (xs.take m) := by
  rcases h.2 with ⟨rfl, rfl⟩ | ⟨g, cap, cur, rfl, hbg, hg, hnc, hcm, hcs, htake⟩
  · obtain rfl : m = 0 := by omega
    exact ⟨none, 0, rfl, by simpa using OwnS.nil w e 1⟩
  · refine ⟨_, _, rfl, ?_, .inr ⟨g, cap, cur, rfl, hbg, hg, by omega, hcm, hcs, ?_⟩⟩
    · have := h.1; rw [List.length_take]; omega
    · rw [← htake, List.take_take]; congr 1; omega
theorem strCells_take (s : ByteArray) (m : Nat) : (Lib.strCells s).take m = Lib.strCells (s.extract 0 m) := by
  unfold Lib.strCells
  rw [← List.map_take]
  congr 1
  simp [ByteArray.data_extract]
theorem zeros_succ (m : Nat) : zeros (m + 1) = zeros m ++ ⟨#[0]⟩ := by
  apply ByteArray.ext
  apply Array.toList_inj.1
  rw [ByteArray.data_append, Array.toList_append]
  unfold zeros
  rw [strOfNums_data, strOfNums_data, replicate_snoc, List.map_append]
  rfl
end Go.Proofs.YtimomjheanfbmaaGreatDoor

namespace Go.Proofs.YtimomjheanfbmaaGreatDoor
open Go.RowKit

theorem load_size (G : Lg) (D : Dev) (k : Int) : (G.load D k).1.size ≤ 54 := by
  unfold Lg.load
  have hv : ∀ l, 0 ≤ valS l := fun l => valL_nonneg _
  repeat' split
  · exact Nat.zero_le _
  · exact Nat.zero_le _
  · rename_i h1 h2
    have h3 := hv ((D.read (G.first + k % G.n)).1.extract 8 10)
    dsimp only
    rw [ByteArray.size_extract]
    omega
/-- the log that Open begins with -/
def Lg.op0 (first n start : Nat) : Lg := { first := first, n := n, start := start, fin := start, firm := 0, base := (54 * (start / 54) : Nat), buf := ⟨#[]⟩, list := [] }
/-- the first i sectors of the stream from number k0 on: what they hold; is this the end?; an error -/
def Lg.ld (G : Lg) (D : Dev) (k0 : Nat) : Nat → ByteArray × Bool × Int
  | 0 => (⟨#[]⟩, false, 0)
  | i + 1 => if (Lg.ld G D k0 i).2.1 = true then Lg.ld G D k0 i
    else if (G.load D ((k0 + i : Nat) : Int)).2.2 ≠ 0 then ((Lg.ld G D k0 i).1, true, (G.load D ((k0 + i : Nat) : Int)).2.2)
    else if (G.load D ((k0 + i : Nat) : Int)).2.1 = false then ((Lg.ld G D k0 i).1, true, 0)
    else ((Lg.ld G D k0 i).1 ++ (G.load D ((k0 + i : Nat) : Int)).1, decide ((G.load D ((k0 + i : Nat) : Int)).1.size < 54), 0)
theorem ld_stop {G : Lg} {D : Dev} {k0 i : Nat} (h : (G.ld D k0 i).2.1 = true) : ∀ j, i ≤ j → G.ld D k0 j = G.ld D k0 i := by
  intro j hj
  obtain ⟨d, rfl⟩ : ∃ d, j = i + d := ⟨j - i, by omega⟩
  clear hj
  induction d with
  | zero => rfl
  | succ d ih =>
    show (if (Lg.ld G D k0 (i + d)).2.1 = true then Lg.ld G D k0 (i + d) else _) = _
    rw [ih, if_pos h]
theorem ld_size {G : Lg} {D : Dev} {k0 : Nat} : ∀ i, (G.ld D k0 i).1.size ≤ 54 * i
  | 0 => Nat.zero_le _
  | i + 1 => by
    have ih := ld_size (G := G) (D := D) (k0 := k0) i
    have hl := load_size G D ((k0 + i : Nat) : Int)
    rw [Lg.ld]
    repeat' split
    · omega
    · show (Lg.ld G D k0 i).1.size ≤ _; omega
    · show (Lg.ld G D k0 i).1.size ≤ _; omega
    · show ((Lg.ld G D k0 i).1 ++ _).size ≤ _; rw [ByteArray.size_append]; omega
/-- the records of a stream's bytes from place a on: (places count from base), and where they end -/
def prs (B : ByteArray) (base : Int) : Nat → Nat → List (Int × ByteArray) × Nat
  | 0, a => ([], a)
  | f + 1, a => if a + 2 ≤ B.size ∧ 0 < valS (B.extract a (a + 2)) ∧ a + 2 + (valS (B.extract a (a + 2))).toNat ≤ B.size
    then ((base + a, B.extract (a + 2) (a + 2 + (valS (B.extract a (a + 2))).toNat)) :: (prs B base f (a + 2 + (valS (B.extract a (a + 2))).toNat)).1, (prs B base f (a + 2 + (valS (B.extract a (a + 2))).toNat)).2)
    else ([], a)
def lenV : Value → Nat | .slice _ n _ => n | _ => 0
def opB (B : ByteArray) (a : Nat) : ByteArray := if a < B.size then B.extract 0 a else B ++ zeros (a - B.size)
/-- the log that is opened: from the bytes that were read -/
def Lg.opened (first n start : Nat) (B : ByteArray) : Lg :=
  { Lg.op0 first n start with
    fin := ((54 * (start / 54) + (prs B ((54 * (start / 54) : Nat) : Int) (B.size + 1) (start - 54 * (start / 54))).2 : Nat) : Int)
    firm := ((54 * (start / 54) + (prs B ((54 * (start / 54) : Nat) : Int) (B.size + 1) (start - 54 * (start / 54))).2 : Nat) : Int)
    buf := opB B (prs B ((54 * (start / 54) : Nat) : Int) (B.size + 1) (start - 54 * (start / 54))).2
    list := (prs B ((54 * (start / 54) : Nat) : Int) (B.size + 1) (start - 54 * (start / 54))).1 }
theorem opB_size (B : ByteArray) (a : Nat) : (opB B a).size = a := by
  unfold opB
  split
  · rw [ByteArray.size_extract]; omega
  · rw [ByteArray.size_append, zeros_size]; omega
/-- the device behind Open: the ring wiped -/
def Lg.openD (first n start : Nat) (D : Dev) : Dev × Int :=
  let G := Lg.opened first n start ((Lg.op0 first n start).ld D (start / 54) n).1
  G.wiped D (G.keptP (start / 54) ((G.buf.size + 53) / 54))
end Go.Proofs.YtimomjheanfbmaaGreatDoor

namespace Go.Proofs.YtimomjheanfbmaaGreatDoor
open Go.RowKit

def abS : ByteArray := ⟨#[97, 98]⟩
def logAb : Lg := (Lg.new 0 128).push abS
theorem wal_create0 (dp N : Nat) (Sd : List Nat) (hN : N ≤ 16384) (h3 : 128 ≤ N) (w : World) (h : DiskAt w dp (Dev.new N) Sd) :
    Calls Tryz.prog 21 #[.pointer (some ⟨dp, 0, none⟩), .int .i64 0, .int .i64 128] w fun e w' => ∃ p S Sd', e = .returned (.tuple #[.pointer (some ⟨p, 0, none⟩), .int .i64 0]) ∧ LogAt w' p dp (Lg.new 0 128) S ∧ DiskAt w' dp (Dev.new N) Sd' ∧ Keeps (· ∈ Sd) w w' ∧ (∀ k ∈ S, w.heap.size ≤ k ∧ k ∉ Sd') ∧ ∀ k ∈ Sd', k ∈ Sd ∨ w.heap.size ≤ k :=
  wal_create dp N Sd 0 128 hN (by omega) (by omega) (by omega) w h
theorem secAb : (logAb.secAt 1).extract 0 14 = ⟨#[2, 0, 0, 0, 0, 0, 0, 0, 4, 0, 2, 0, 97, 98]⟩ := by kernel_rfl
theorem secAb_size : (logAb.secAt 1).size = 64 := secS_size _ _ (by decide)
theorem flushAb : (logAb.flushed (Dev.new 128) 1 1).2.2 = 0 ∧ ((logAb.flushed (Dev.new 128) 1 1).2.1).read 1 = (logAb.secAt 1, 0) := by
  have h0 : logAb.fl (Dev.new 128) 1 1 = (Dev.new 128).write 1 (logAb.secAt 1) := by
    show (if (Lg.fl logAb (Dev.new 128) 1 0).2 ≠ 0 then _ else (Lg.fl logAb (Dev.new 128) 1 0).1.write _ _) = _
    rw [if_neg (by show ¬ ((0 : Int) ≠ 0); decide)]
    rfl
  have hl : (Dev.new 128).firm.length = 128 := List.length_replicate
  have h1 := up_write (up_new 128) 1 (logAb.secAt 1)
  rw [if_pos ⟨by decide, by rw [hl]; decide, secAb_size⟩] at h1
  unfold Lg.flushed
  rw [h0, h1]
  have hb := up_barrier (D := { Dev.new 128 with seen := (Dev.new 128).seen.set (1 : Int).toNat (logAb.secAt 1), soft := (Dev.new 128).soft ++ [(1, logAb.secAt 1)] }) ⟨rfl, rfl⟩
  simp only [ne_eq, not_true_eq_false, if_false]
  rw [hb]
  simp only [ne_eq, not_true_eq_false, if_false]
  refine ⟨by simp, ?_⟩
  rw [up_read rfl 1 (by decide) (by show (1 : Int) < ((Dev.new 128).seen.set (1 : Int).toNat (logAb.secAt 1)).length; rw [List.length_set]; show (1 : Int) < ((List.replicate 128 (zeros 64)).length : Int); rw [List.length_replicate]; decide)]
  show (((List.replicate 128 (zeros 64)).set 1 (logAb.secAt 1)).getD 1 ⟨#[]⟩, (0 : Int)) = _
  rw [List.getD_eq_getElem?_getD, List.getElem?_set]
  simp
end Go.Proofs.YtimomjheanfbmaaGreatDoor

namespace Go.Proofs.YtimomjheanfbmaaGreatDoor
open Go.RowKit

theorem EntSl.later {w w' : World} {v : Value} {L : List (Int × ByteArray)} (h : EntSl w v L) (hb : Below w.heap.size w w') : EntSl w' v L := by
  obtain ⟨a, c, rfl, hc⟩ := h
  refine ⟨a, c, rfl, fun hl => ?_⟩
  obtain ⟨g, o, rfl, hg, hcell⟩ := hc hl
  exact ⟨g, o, rfl, Nat.lt_of_lt_of_le hg hb.size, fun j u hj => (cell_below hb hg).trans (hcell j u hj)⟩
theorem EntSl.take {w : World} {a : Option Addr} {n c : Nat} {L : List (Int × ByteArray)} (h : EntSl w (.slice a n c) L) (m : Nat) (hm : m ≤ L.length) : EntSl w (.slice a m c) (L.take m) := by
  obtain ⟨a', c', he, hc⟩ := h
  obtain ⟨rfl, rfl, rfl⟩ : a = a' ∧ n = L.length ∧ c = c' := by simpa using he
  have hl : (L.take m).length = m := by rw [List.length_take]; omega
  refine ⟨a, c, by rw [hl], fun hl2 => ?_⟩
  obtain ⟨g, o, rfl, hg, hcell⟩ := hc (by omega)
  refine ⟨g, o, rfl, hg, fun j u hj => hcell j u ?_⟩
  have : ∀ (L : List (Int × ByteArray)) (m j : Nat) (u : Value), (recV (L.take m))[j]? = some u → (recV L)[j]? = some u := by
    intro L
    induction L with
    | nil => intro m j u h; simp [recV] at h
    | cons x L ih =>
      intro m j u h
      cases m with
      | zero => simp [recV] at h
      | succ m =>
        obtain ⟨x1, x2⟩ := x
        rw [List.take_succ_cons] at h
        match j, h with
        | 0, h => exact h
        | 1, h => exact h
        | j + 2, h => exact ih m j u h
  exact this L m j u hj
theorem EntSl.at {w : World} {a : Option Addr} {n c : Nat} {L : List (Int × ByteArray)} (h : EntSl w (.slice a n c) L) (i : Nat) (hi : i < L.length) : ∃ g o, a = some ⟨g, o, none⟩ ∧ w.cell? ⟨g, o + i * 2, none⟩ = some (.int .i64 (L.getD i (0, ⟨#[]⟩)).1) ∧ w.cell? ⟨g, o + i * 2 + 1, none⟩ = some (.string (L.getD i (0, ⟨#[]⟩)).2) := by
  obtain ⟨a', c', he, hc⟩ := h
  obtain ⟨rfl, rfl, rfl⟩ : a = a' ∧ n = L.length ∧ c = c' := by simpa using he
  obtain ⟨g, o, rfl, hg, hcell⟩ := hc (by omega)
  have h2 := recV_get L i
  refine ⟨g, o, rfl, ?_, ?_⟩
  · rw [Nat.mul_comm]
    exact hcell _ _ (by rw [h2.1, List.getElem?_eq_getElem hi]; simp [List.getD_eq_getElem?_getD, List.getElem?_eq_getElem hi])
  · rw [Nat.mul_comm, Nat.add_assoc]
    exact hcell _ _ (by rw [h2.2, List.getElem?_eq_getElem hi]; simp [List.getD_eq_getElem?_getD, List.getElem?_eq_getElem hi])
theorem EntSl.form {w : World} {v : Value} {L : List (Int × ByteArray)} (h : EntSl w v L) : ∃ a c, v = .slice a L.length c := by
  obtain ⟨a, c, rfl, hc⟩ := h
  exact ⟨a, c, rfl⟩
theorem same_to {L M : List (Int × ByteArray)} (hl : L.length = M.length) (h : ∀ j, j < L.length → L.getD j (0, ⟨#[]⟩) = M.getD j (0, ⟨#[]⟩)) : L = M := by
  apply List.ext_getElem hl
  intro i h1 h2
  have := h i h1
  simpa [List.getD_eq_getElem?_getD, List.getElem?_eq_getElem h1, List.getElem?_eq_getElem h2] using this
end Go.Proofs.YtimomjheanfbmaaGreatDoor

namespace Go.Proofs.YtimomjheanfbmaaGreatDoor
open Go.RowKit

def isPre (A S : List (Int × ByteArray)) (least : Int) : Bool := decide (least ≤ (S.length : Int) ∧ S.length ≤ A.length ∧ A.take S.length = S)
end Go.Proofs.YtimomjheanfbmaaGreatDoor
