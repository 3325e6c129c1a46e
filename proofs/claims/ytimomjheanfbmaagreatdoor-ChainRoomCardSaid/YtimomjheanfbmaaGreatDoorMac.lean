import Derived.Test.YtimomjheanfbmaaGreatDoorMab
import Derived.Deep.DeepAppendWide
import Derived.Shelf.Strings.Builder1
import Derived.Shelf.Strings.BuilderK
import Derived.Shelf.Strings.Trim
import Derived.Shelf.Strings.Repeat
set_option linter.unusedSimpArgs false
set_option linter.unusedVariables false
namespace Go.Proofs.YtimomjheanfbmaaGreatDoor
open Go.RowKit

/-! ### a slice that is owned: its block stands in the footprint f -/
/-- v: a slice of elements of type e (size cells each), whose cells are xs, in a block of its own. -/
def OwnS (w : World) (e : TypeId) (size : Nat) (v : Value) (n : Nat) (xs : List Value) : Prop := w.ownsRow 0 e size v n xs
def blk (v : Value) : List Nat := v.ownBlock.toList
theorem mem_blk {v : Value} {k : Nat} : k ∈ blk v ↔ v.ownBlock = some k := by
  unfold blk; cases v.ownBlock <;> simp [eq_comm]
theorem OwnS.lt {w : World} {e : TypeId} {size : Nat} {v : Value} {n : Nat} {xs : List Value} (h : OwnS w e size v n xs) {k : Nat} (hk : k ∈ blk v) : k < w.heap.size := (World.ownsRow.lt h k (mem_blk.1 hk)).2
theorem OwnS.keep {S : Nat → Prop} {w w' : World} {e : TypeId} {size : Nat} {v : Value} {n : Nat} {xs : List Value} (h : OwnS w e size v n xs) (hk : Keeps S w w') (hS : ∀ k ∈ blk v, ¬ S k) : OwnS w' e size v n xs := by
  refine ⟨h.1, ?_⟩
  rcases h.2 with h2 | ⟨g, cap, cur, rfl, hb, hg, r⟩
  · exact .inl h2
  · exact .inr ⟨g, cap, cur, rfl, hb, hk.keep hg (hS g (by simp [blk, Value.ownBlock])), r⟩
theorem OwnS.rebase {w : World} {e : TypeId} {size : Nat} {v : Value} {n : Nat} {xs : List Value} (h : OwnS w e size v n xs) (B : Nat) (hB : ∀ k ∈ blk v, B ≤ k) : w.ownsRow B e size v n xs := by
  refine ⟨h.1, ?_⟩
  rcases h.2 with h2 | ⟨g, cap, cur, rfl, hb, r⟩
  · exact .inl h2
  · exact .inr ⟨g, cap, cur, rfl, hB g (by simp [blk, Value.ownBlock]), r⟩
theorem OwnS.of {w : World} {B : Nat} {e : TypeId} {size : Nat} {v : Value} {n : Nat} {xs : List Value} (h : w.ownsRow B e size v n xs) : OwnS w e size v n xs := by
  refine ⟨h.1, ?_⟩
  rcases h.2 with h2 | ⟨g, cap, cur, rfl, hb, r⟩
  · exact .inl h2
  · exact .inr ⟨g, cap, cur, rfl, Nat.zero_le _, r⟩
theorem OwnS.nil (w : World) (e : TypeId) (size : Nat) : OwnS w e size (.slice none 0 0) 0 [] := World.ownsRow_nil w 0 e size

section
variable {P : Program} (w : World)
/-- append onto an owned slice: as the library has it, and: the new value lies in the old block or in a new one -/
theorem run_append_frame (t ty e : TypeId) (i : TypeInfo) (z : Value) (size bytes : Nat) (ht : P.underlying t = some (.slice e)) (hi : P.info? e = some i) (hz : i.zero = some z)
    (hsize : i.size = size) (hby : i.bytes = bytes) (hzs : z.cells.size = size) (hsz : 0 < size)
    (v : Value) (n : Nat) (xs : List Value) (hown : OwnS w e size v n xs)
    (a : Addr) (m c : Nat) (news : List Value) (hl : news.length = m * size) (hnews : ∀ j u, news[j]? = some u → w.cell? (a.add j) = some u) (h1 : ∀ u ∈ news, u.oneCell' = true)
    (h63 : n + m ≤ maxLen) (hbytes : ((n + m) + (n + m) / 4 + 192) * bytes ≤ 281474976710656) :
    ∃ v' w', (Builtin.append_ #[t, t] ty #[v, .slice (some a) m c]).run P w = .ok v' w' ∧ OwnS w' e size v' (n + m) (xs ++ news) ∧ Keeps (· ∈ blk v) w w' ∧ (∀ k ∈ blk v', k ∈ blk v ∨ w.heap.size ≤ k) ∧
      (v' = .slice none 0 0 ↔ v = .slice none 0 0 ∧ m = 0) := by
  have keeps : ∀ {w' : World}, w.grownBy w' v.ownBlock → Keeps (· ∈ blk v) w w' := fun hg => (Keeps.refl _ _).grown hg (fun k hk => .inl (mem_blk.2 hk))
  rcases hown.2 with ⟨rfl, rfl⟩ | ⟨g, cap, cur, rfl, hbg, hg, hnc, hcm, hcs, htake⟩
  · obtain ⟨v', w', hr, h2, h3, h4⟩ := run_append_own_wide (P := P) w w.heap.size t ty e i z size bytes ht hi hz hsize hby hzs hsz _ _ xs (hown.rebase _ (by simp [blk, Value.ownBlock])) a m c news hl hnews h1 h63 hbytes (Nat.le_refl _)
    exact ⟨v', w', hr, OwnS.of h2, keeps h3, fun k hk => .inr (h2.lt k (mem_blk.1 hk)).1, h4⟩
  · obtain ⟨v', w', hr, h2, h3, h4⟩ := run_append_own_wide (P := P) w 0 t ty e i z size bytes ht hi hz hsize hby hzs hsz _ _ xs hown a m c news hl hnews h1 h63 hbytes (Nat.zero_le _)
    refine ⟨v', w', hr, h2, keeps h3, ?_, h4⟩
    subst hsize hby
    by_cases hroom : n + m ≤ cap
    · have hr' := run_append_room (P := P) w t ty e i ht hi g n cap cur hg a m c news hl hnews h1 hroom (by rw [hl, hcs, ← Nat.add_mul]; exact Nat.mul_le_mul_right _ hroom)
      rw [hr'] at hr
      obtain ⟨rfl, -⟩ := Result.ok.inj hr
      intro k hk
      exact .inl (by simpa [blk, Value.ownBlock] using hk)
    · have holds : ∀ j u, xs[j]? = some u → w.cell? ((⟨g, 0, none⟩ : Addr).add j) = some u := World.ownsRow.cells hown (g := g) rfl
      have hr' := run_append_grow (P := P) w t ty e i z ht hi hz ⟨g, 0, none⟩ n cap xs hown.1 holds a m c news hl hnews (by omega) (by unfold maxLen at h63; omega) (growslice_fits_wide (by omega) hbytes)
      rw [hr'] at hr
      obtain ⟨rfl, -⟩ := Result.ok.inj hr
      intro k hk
      have : k = w.heap.size := by simpa [blk, Value.ownBlock, eq_comm] using hk
      exact .inr (by omega)
theorem wpList_append_frame {ops : Array Oper} {rest : List Oper} {o : Oper} {a : Act} {Q : Exit → Act → World → Prop} (hgd : o.guard = none) (s x : Operand) (t : TypeId)
    (ho : o.op = .call { callee := .builtin .append, args := #[s, x], argTypes := #[t, t] })
    (e : TypeId) (i : TypeInfo) (z : Value) (size bytes : Nat) (ht : P.underlying t = some (.slice e)) (hi : P.info? e = some i) (hz : i.zero = some z)
    (hsize : i.size = size) (hby : i.bytes = bytes) (hzs : z.cells.size = size) (hsz : 0 < size)
    (v : Value) (n : Nat) (xs : List Value) (hs : a.eval s = v) (hown : OwnS w e size v n xs)
    (ad : Addr) (m c : Nat) (news : List Value) (hx : a.eval x = .slice (some ad) m c) (hl : news.length = m * size) (hnews : ∀ j u, news[j]? = some u → w.cell? (ad.add j) = some u) (h1 : ∀ u ∈ news, u.oneCell' = true)
    (h63 : n + m ≤ maxLen) (hbytes : ((n + m) + (n + m) / 4 + 192) * bytes ≤ 281474976710656)
    (h : ∀ v' w', OwnS w' e size v' (n + m) (xs ++ news) → Keeps (· ∈ blk v) w w' → (∀ k ∈ blk v', k ∈ blk v ∨ w.heap.size ≤ k) → (v' = .slice none 0 0 ↔ v = .slice none 0 0 ∧ m = 0) → wpList P ops Q rest (a.put o.dst v') w') : wpList P ops Q (o :: rest) a w := by
  obtain ⟨v', w', hr, h2, h3, h4, h5⟩ := run_append_frame (P := P) w t o.type e i z size bytes ht hi hz hsize hby hzs hsz v n xs hown ad m c news hl hnews h1 h63 hbytes
  refine wpList_plain hgd fun K hK => ?_
  unfold Oper.wp execOp
  simp only [ho, resolve, invoke, builtin, Sem.run_bind, Sem.run_pure, Result.andThen_ok, List.map_toArray, List.map_cons, List.map_nil, hs, hx, hr]
  exact hK _ _ (h v' w' h2 h3 h4 h5)
end
end Go.Proofs.YtimomjheanfbmaaGreatDoor

namespace Go.Proofs.YtimomjheanfbmaaGreatDoor
open Go.Shelf
def Tryz.lays160_ren : Go.Shelf.Ren := ⟨fun | 160 => 109 | 232 => 140 | 231 => 139 | 227 => 141 | 234 => 143 | 233 => 142 | 236 => 145 | 235 => 144 | 228 => 169 | 271 => 172 | 151 => 171 | 197 => 170 | 120 => 185 | 152 => 184 | 260 => 183 | 137 => 191 | 119 => 192 | 224 => 193 | 225 => 194 | 217 => 195 | 266 => 196 | n => n, fun | 9 => 9 | 4 => 4 | 3 => 3 | 5 => 5 | 117 => 244 | 116 => 243 | 0 => 0 | 124 => 247 | 21 => 21 | 105 => 274 | 46 => 206 | 119 => 292 | 139 => 295 | 138 => 294 | n => n, fun | 3 => 2 | 4 => 3 | n => n⟩
theorem Tryz.lays160 : Go.Proofs.Lays.n160 Tryz.prog Tryz.lays160_ren := {
  mixed := by kernel_rfl
  f119 := Tryz.func192.trans (congrArg some (by kernel_rfl))
  f120 := Tryz.func185.trans (congrArg some (by kernel_rfl))
  f137 := Tryz.func191.trans (congrArg some (by kernel_rfl))
  f151 := Tryz.func171.trans (congrArg some (by kernel_rfl))
  f152 := Tryz.func184.trans (congrArg some (by kernel_rfl))
  f160 := Tryz.func109.trans (congrArg some (by kernel_rfl))
  f197 := Tryz.func170.trans (congrArg some (by kernel_rfl))
  f217 := Tryz.func195.trans (congrArg some (by kernel_rfl))
  f224 := Tryz.func193.trans (congrArg some (by kernel_rfl))
  f225 := Tryz.func194.trans (congrArg some (by kernel_rfl))
  f227 := Tryz.func141.trans (congrArg some (by kernel_rfl))
  f228 := Tryz.func169.trans (congrArg some (by kernel_rfl))
  f231 := Tryz.func139.trans (congrArg some (by kernel_rfl))
  f232 := Tryz.func140.trans (congrArg some (by kernel_rfl))
  f233 := Tryz.func142.trans (congrArg some (by kernel_rfl))
  f234 := Tryz.func143.trans (congrArg some (by kernel_rfl))
  f235 := Tryz.func144.trans (congrArg some (by kernel_rfl))
  f236 := Tryz.func145.trans (congrArg some (by kernel_rfl))
  f260 := Tryz.func183.trans (congrArg some (by kernel_rfl))
  f266 := Tryz.func196.trans (congrArg some (by kernel_rfl))
  f271 := Tryz.func172.trans (congrArg some (by kernel_rfl))
  t0 := Tryz.underlying0
  a0 := Tryz.isAgg0
  z0 := Tryz.sizeOf0
  v0 := Tryz.zeroValue0
  t3 := Tryz.underlying3
  a3 := Tryz.isAgg3
  z3 := Tryz.sizeOf3
  v3 := Tryz.zeroValue3
  t4 := Tryz.underlying4
  a4 := Tryz.isAgg4
  z4 := Tryz.sizeOf4
  v4 := Tryz.zeroValue4
  t5 := Tryz.underlying5
  a5 := Tryz.isAgg5
  z5 := Tryz.sizeOf5
  v5 := Tryz.zeroValue5
  t9 := Tryz.underlying9
  a9 := Tryz.isAgg9
  z9 := Tryz.sizeOf9
  v9 := Tryz.zeroValue9
  t21 := Tryz.underlying21
  a21 := Tryz.isAgg21
  z21 := Tryz.sizeOf21
  v21 := Tryz.zeroValue21
  t46 := Tryz.underlying206
  a46 := Tryz.isAgg206
  z46 := Tryz.sizeOf206
  v46 := Tryz.zeroValue206
  t105 := Tryz.underlying274
  a105 := Tryz.isAgg274
  z105 := Tryz.sizeOf274
  v105 := Tryz.zeroValue274
  t116 := Tryz.underlying243
  a116 := Tryz.isAgg243
  z116 := Tryz.sizeOf243
  t117 := Tryz.underlying244
  a117 := Tryz.isAgg244
  z117 := Tryz.sizeOf244
  v117 := Tryz.zeroValue244
  t119 := Tryz.underlying292
  a119 := Tryz.isAgg292
  z119 := Tryz.sizeOf292
  t124 := Tryz.underlying247
  a124 := Tryz.isAgg247
  z124 := Tryz.sizeOf247
  v124 := Tryz.zeroValue247
  t138 := Tryz.underlying294
  a138 := Tryz.isAgg294
  z138 := Tryz.sizeOf294
  v138 := Tryz.zeroValue294
  t139 := Tryz.underlying295
  a139 := Tryz.isAgg295
  z139 := Tryz.sizeOf295
  v139 := Tryz.zeroValue295
  g3 := by kernel_rfl
  g4 := by kernel_rfl }
open Go.RowKit in
theorem Tryz.strings_Trim_one (s : ByteArray) (c : UInt8) (hc : c.toNat < 128) (w : World) (hs : s.size ≤ 9223372036854775807) :
    Calls Tryz.prog 109 #[.string s, .string ⟨#[c]⟩] w fun e w' => e = .returned (.string ⟨(Lib.trimB s.data.toList c).toArray⟩) ∧ (w' = w ∨ w' = w.drew) := Any.strings_Trim_one Tryz.lays160 s c hc w hs
def Tryz.lays105_ren : Go.Shelf.Ren := ⟨fun | 105 => 71 | 167 => 152 | 212 => 110 | 99 => 111 | 165 => 112 | 166 => 113 | 170 => 114 | 169 => 115 | 263 => 146 | 264 => 147 | 206 => 148 | 240 => 149 | 241 => 150 | 276 => 173 | 277 => 174 | n => n, fun | 9 => 9 | 3 => 3 | 4 => 4 | 20 => 20 | 0 => 0 | 46 => 206 | 109 => 207 | 5 => 5 | 72 => 212 | 76 => 215 | 51 => 248 | 146 => 249 | 53 => 147 | 148 => 251 | 70 => 210 | 37 => 141 | 75 => 214 | 127 => 253 | 164 => 277 | 80 => 149 | n => n, fun | n => n⟩
theorem Tryz.lays105 : Go.Proofs.Lays.n105 Tryz.prog Tryz.lays105_ren := {
  mixed := by kernel_rfl
  f99 := Tryz.func111.trans (congrArg some (by kernel_rfl))
  f105 := Tryz.func71.trans (congrArg some (by kernel_rfl))
  f165 := Tryz.func112.trans (congrArg some (by kernel_rfl))
  f166 := Tryz.func113.trans (congrArg some (by kernel_rfl))
  f169 := Tryz.func115.trans (congrArg some (by kernel_rfl))
  f170 := Tryz.func114.trans (congrArg some (by kernel_rfl))
  f206 := Tryz.func148.trans (congrArg some (by kernel_rfl))
  f212 := Tryz.func110.trans (congrArg some (by kernel_rfl))
  f240 := Tryz.func149.trans (congrArg some (by kernel_rfl))
  f241 := Tryz.func150.trans (congrArg some (by kernel_rfl))
  f263 := Tryz.func146.trans (congrArg some (by kernel_rfl))
  f264 := Tryz.func147.trans (congrArg some (by kernel_rfl))
  f276 := Tryz.func173.trans (congrArg some (by kernel_rfl))
  f277 := Tryz.func174.trans (congrArg some (by kernel_rfl))
  t0 := Tryz.underlying0
  a0 := Tryz.isAgg0
  z0 := Tryz.sizeOf0
  v0 := Tryz.zeroValue0
  t3 := Tryz.underlying3
  a3 := Tryz.isAgg3
  z3 := Tryz.sizeOf3
  v3 := Tryz.zeroValue3
  t4 := Tryz.underlying4
  a4 := Tryz.isAgg4
  z4 := Tryz.sizeOf4
  v4 := Tryz.zeroValue4
  t5 := Tryz.underlying5
  a5 := Tryz.isAgg5
  z5 := Tryz.sizeOf5
  v5 := Tryz.zeroValue5
  t9 := Tryz.underlying9
  a9 := Tryz.isAgg9
  z9 := Tryz.sizeOf9
  v9 := Tryz.zeroValue9
  t20 := Tryz.underlying20
  a20 := Tryz.isAgg20
  z20 := Tryz.sizeOf20
  v20 := Tryz.zeroValue20
  t37 := Tryz.underlying141
  a37 := Tryz.isAgg141
  z37 := Tryz.sizeOf141
  v37 := Tryz.zeroValue141
  t46 := Tryz.underlying206
  a46 := Tryz.isAgg206
  z46 := Tryz.sizeOf206
  v46 := Tryz.zeroValue206
  t51 := Tryz.underlying248
  a51 := Tryz.isAgg248
  z51 := Tryz.sizeOf248
  v51 := Tryz.zeroValue248
  t53 := Tryz.underlying147
  a53 := Tryz.isAgg147
  z53 := Tryz.sizeOf147
  v53 := Tryz.zeroValue147
  t70 := Tryz.underlying210
  a70 := Tryz.isAgg210
  z70 := Tryz.sizeOf210
  v70 := Tryz.zeroValue210
  t72 := Tryz.underlying212
  a72 := Tryz.isAgg212
  z72 := Tryz.sizeOf212
  v72 := Tryz.zeroValue212
  t75 := Tryz.underlying214
  a75 := Tryz.isAgg214
  z75 := Tryz.sizeOf214
  v75 := Tryz.zeroValue214
  t76 := Tryz.underlying215
  a76 := Tryz.isAgg215
  z76 := Tryz.sizeOf215
  v76 := Tryz.zeroValue215
  t109 := Tryz.underlying207
  a109 := Tryz.isAgg207
  z109 := Tryz.sizeOf207
  v109 := Tryz.zeroValue207
  t127 := Tryz.underlying253
  a127 := Tryz.isAgg253
  z127 := Tryz.sizeOf253
  v127 := Tryz.zeroValue253
  t146 := Tryz.underlying249
  a146 := Tryz.isAgg249
  z146 := Tryz.sizeOf249
  v146 := Tryz.zeroValue249
  t148 := Tryz.underlying251
  a148 := Tryz.isAgg251
  z148 := Tryz.sizeOf251
  v148 := Tryz.zeroValue251
  t164 := Tryz.underlying277
  a164 := Tryz.isAgg277
  z164 := Tryz.sizeOf277
  v164 := Tryz.zeroValue277 }
theorem Tryz.Builder_Extra_105 : Builder.Extra Tryz.prog Tryz.lays105_ren := {
  sizeBuilder := by kernel_rfl
  liesBuilder := by kernel_rfl
  t5 := Tryz.underlying5
  a5 := Tryz.isAgg5
  z5 := Tryz.sizeOf5
  v5 := Tryz.zeroValue5
  infoByte := by kernel_rfl
  cellsByte := by kernel_rfl
  sizeByte := by kernel_rfl
  neB5 := by decide }
open Go.RowKit Go.Lib in
theorem Tryz.strings_Repeat (s : ByteArray) (c : Nat) (w : World) (hc : c ≤ 9223372036854775807) (hlen : s.size * c ≤ 140737488355328) :
    Calls Tryz.prog 71 #[.string s, .int .i64 c] w fun e w' => e = .returned (.string ⟨(Lib.repeatL s.data.toList c).toArray⟩) ∧ Below w.heap.size w w' := Any.strings_Repeat Tryz.lays105 Tryz.Builder_Extra_105 s c w hc hlen
end Go.Proofs.YtimomjheanfbmaaGreatDoor

namespace Go.Proofs.YtimomjheanfbmaaGreatDoor
open Go.Shelf
theorem Tryz.lays166 : Go.Proofs.Lays.n166 Tryz.prog Tryz.lays105_ren := { Tryz.lays105 with }
theorem Tryz.lays167 : Go.Proofs.Lays.n167 Tryz.prog Tryz.lays105_ren := { Tryz.lays105 with f167 := Tryz.func152.trans (congrArg some (by kernel_rfl)) }
theorem Tryz.lays169 : Go.Proofs.Lays.n169 Tryz.prog Tryz.lays105_ren := { Tryz.lays105 with }

open Go.RowKit
/-- a strings.Builder in block b, its buffer above it, that holds the bytes l -/
def BdAt (w : World) (b : Nat) (l : List UInt8) : Prop := Lib.IsBuilderF 212 5 b b (Lib.byteCells l) w
theorem BdAt.new (w : World) : BdAt (w.alloc (.cells #[.pointer none, .slice none 0 0] 212)) w.heap.size [] := Lib.IsBuilderF.of (Lib.fresh_isBuilder _ _ w)
theorem BdAt.lt {w : World} {b : Nat} {l : List UInt8} (h : BdAt w b l) : b < w.heap.size := h.elim (fun x => x.lt) (fun x => x.lt)
theorem BdAt.alloc {w : World} {b : Nat} {l : List UInt8} (h : BdAt w b l) (o : Obj) : BdAt (w.alloc o) b l := Lib.IsBuilderF.alloc h o
theorem BdAt.drew {w : World} {b : Nat} {l : List UInt8} (h : BdAt w b l) : BdAt w.drew b l := h
theorem BdAt.later {w w' : World} {b : Nat} {l : List UInt8} (h : BdAt w b l) (hb : Below w.heap.size w w') : BdAt w' b l := by
  have go : ∀ p, Lib.BuilderAtF 212 5 b b p (Lib.byteCells l) w → Lib.BuilderAtF 212 5 b b p (Lib.byteCells l) w' := by
    rintro p ⟨hB, v, hv, ho, hne⟩
    refine ⟨hB, v, hBs hb hv, ⟨ho.1, ?_⟩, hne⟩
    rcases ho.2 with h2 | ⟨g, cap, cur, fz, e, hbg, hg, r⟩
    · exact .inl h2
    · exact .inr ⟨g, cap, cur, fz, e, hbg, hBs hb hg, r⟩
  exact h.elim (fun x => .inl (go _ x)) (fun x => .inr (go _ x))
/-- the blocks beside the builder stand -/
theorem kept_block {w w' : World} {b k : Nat} {c : Array Value} {t : TypeId} {f : Nat × Nat} (h : Lib.OthersKept 5 (some b) w w') (hk : w.heap[k]? = some (.cells c t f)) (hkb : k ≠ b) (ht : t ≠ 5) :
    w'.heap[k]? = some (.cells c t f) := h k _ hk (fun e => hkb (Option.some.inj e)) (fun c' fz e => ht (by cases e; rfl))
theorem bd_string (b : Nat) (l : List UInt8) (s : ByteArray) (w : World) (h : BdAt w b l) (hlen : l.length + s.size ≤ 1048576) :
    Calls Tryz.prog 113 #[.pointer (some ⟨b, 0, none⟩), .string s] w fun e w' => e = .returned (.tuple #[.int .i64 s.size, .nilIface]) ∧ BdAt w' b (l ++ s.data.toList) ∧ Below b w w' ∧ Lib.OthersKept 5 (some b) w w' := by
  refine (Any.Builder_WriteString_k Tryz.lays166 Tryz.Builder_Extra_105 b b _ s w h (by rw [Lib.byteCells_length]; omega) (Nat.le_of_lt h.lt)).mono ?_
  rintro e w' ⟨rfl, h1, h2, h3⟩
  refine ⟨rfl, ?_, h2, h3⟩
  unfold BdAt
  rw [Lib.byteCells_append]
  exact .inr h1
theorem bd_byte (b : Nat) (l : List UInt8) (c : UInt8) (w : World) (h : BdAt w b l) (hlen : l.length ≤ 1048576) :
    Calls Tryz.prog 152 #[.pointer (some ⟨b, 0, none⟩), .int .u8 c.toNat] w fun e w' => e = .returned .nilIface ∧ BdAt w' b (l ++ [c]) ∧ Below b w w' ∧ Lib.OthersKept 5 (some b) w w' := by
  refine (Any.Builder_WriteByte_k Tryz.lays167 Tryz.Builder_Extra_105 b b _ (c.toNat : Int) w h (by rw [Lib.byteCells_length]; omega) (Nat.le_of_lt h.lt)).mono ?_
  rintro e w' ⟨rfl, h1, h2, h3⟩
  refine ⟨rfl, ?_, h2, h3⟩
  unfold BdAt
  rw [Lib.byteCells_append]
  exact .inr h1
theorem bd_done (b : Nat) (l : List UInt8) (w : World) (h : BdAt w b l) :
    Calls Tryz.prog 115 #[.pointer (some ⟨b, 0, none⟩)] w fun e w' => e = .returned (.string ⟨l.toArray⟩) ∧ Below b w w' := by
  refine (Any.Builder_String_any_k Tryz.lays169 Tryz.Builder_Extra_105 b b l w h (Nat.le_of_lt h.lt)).mono ?_
  rintro e w' ⟨rfl, h1, h2, h3⟩
  exact ⟨rfl, h2⟩
/-! ### strings.Repeat, of the byte 0 -/
theorem repeatL_zero : ∀ n, Lib.repeatL [0] n = List.replicate n 0
  | 0 => rfl
  | n + 1 => by rw [Lib.repeatL, repeatL_zero n]; rfl
theorem str_repeat (n : Nat) (hn : n ≤ 64) (w : World) :
    Calls Tryz.prog 71 #[.string ⟨#[0]⟩, .int .i64 n] w fun e w' => e = .returned (.string ⟨(List.replicate n (0 : UInt8)).toArray⟩) ∧ Below w.heap.size w w' := by
  refine (Tryz.strings_Repeat ⟨#[0]⟩ n w (by omega) (by show 1 * n ≤ _; omega)).mono ?_
  rintro e w' ⟨rfl, hb⟩
  refine ⟨?_, hb⟩
  show Ending.returned (Value.string ⟨(Lib.repeatL [0] n).toArray⟩) = _
  rw [repeatL_zero]
/-! ### strings.Trim, of the byte 0 -/
theorem str_trim (s : ByteArray) (hs : s.size ≤ 4096) (w : World) :
    Calls Tryz.prog 109 #[.string s, .string ⟨#[0]⟩] w fun e w' => e = .returned (.string ⟨(Lib.trimB s.data.toList 0).toArray⟩) ∧ Below w.heap.size w w' := by
  refine (Tryz.strings_Trim_one s 0 (by decide) w (by omega)).mono ?_
  rintro e w' ⟨rfl, h⟩
  refine ⟨rfl, ?_⟩
  rcases h with rfl | rfl
  · exact bR
  · exact bD bR
end Go.Proofs.YtimomjheanfbmaaGreatDoor
namespace Go.Proofs.YtimomjheanfbmaaGreatDoor
open Go.RowKit

/-- a world by its facts alone -/
theorem name_world {P : Program} {c : Code} {Q : Exit → Act → World → Prop} {a : Act} {W : World} (F : World → Prop) (hF : F W) (h : ∀ W', F W' → c.wp P Q a W') : c.wp P Q a W := h W hF
theorem bytes_left (a b : ByteArray) : (a ++ b).extract 0 a.size = a := ByteArray.extract_append_eq_left rfl
theorem bytes_right (a b : ByteArray) : (a ++ b).extract a.size (a ++ b).size = b := ByteArray.extract_append_eq_right rfl ByteArray.size_append
theorem bytes_size (a b : ByteArray) : (a ++ b).size = a.size + b.size := ByteArray.size_append
theorem bytes_assoc (a b c : ByteArray) : a ++ b ++ c = a ++ (b ++ c) := ByteArray.append_assoc
theorem bytes_nil_left (a : ByteArray) : (⟨#[]⟩ : ByteArray) ++ a = a := by
  apply ByteArray.ext
  simp
theorem bytes_nil_right (a : ByteArray) : a ++ (⟨#[]⟩ : ByteArray) = a := by
  apply ByteArray.ext
  simp
theorem valL_leS (n : Nat) : ∀ k : Nat, valL ((leS (n : Int) k).data.toList) = ((n % 256 ^ k : Nat) : Int)
  | 0 => by simp [leS, le, strOfNums, valL, Nat.mod_one]
  | k + 1 => by
    have e : (leS (n : Int) (k + 1)).data.toList = (leS (n : Int) k).data.toList ++ [UInt8.ofNat ((n : Int) / 2 ^ (8 * k) % 256).toNat] := by
      rw [leS, leS, strOfNums_data, strOfNums_data, le_succ, List.map_append]; rfl
    have hl : (leS (n : Int) k).data.toList.length = k := by rw [Array.length_toList]; exact leS_size _ _
    rw [e, valL_snoc, valL_leS n k, hl, Nat.mod_pow_succ, UInt8.toNat_ofNat', two_pow_8, int_pow_256]
    have h1 : ((n : Int) / ((256 ^ k : Nat) : Int) % 256).toNat = n / 256 ^ k % 256 := by
      rw [← Int.natCast_ediv]; omega
    rw [h1]
    have h2 : n / 256 ^ k % 256 % 2 ^ 8 = n / 256 ^ k % 256 := by omega
    rw [h2, ← Int.natCast_mul]
    omega
theorem valS_leS (n : Int) (k : Nat) (h0 : 0 ≤ n) (h : n < 256 ^ k) : valS (leS n k) = n := by
  obtain ⟨m, rfl⟩ := Int.eq_ofNat_of_zero_le h0
  unfold valS
  rw [int_pow_256] at h
  rw [valL_leS, Nat.mod_eq_of_lt (by omega)]
theorem Sl_of2 {H : Type} {enc : TypeId × Value → H} {P : Program} {W : World} {sp : Nat → Bool} {held : Bool} {t e : TypeId} {v : Value} {d : DataW H} {ps : List MemPlace} {n : Nat} (ht : P.underlying t = some (.slice e)) (hn : P.cellsOf e = n) (hpos : 0 < n)
    (hok : ∃ a len cap, v = .slice a len cap) (h : DataW.Trod enc P W 0 sp held t v d ps) :
    ∃ xs : List (List Value), Sl W v n xs ∧ ((d = .nil ∧ xs = []) ∨ ∃ el sp, d = .slice el sp ∧ el.length = xs.length) ∧ ∀ x ∈ xs, x.length = n ∧ ∃ fuel y, DataW.trod enc P W 0 sp held fuel e x = some y := by
  obtain ⟨fuel, hf⟩ := h
  obtain ⟨a, len, cap, rfl⟩ := hok
  rcases Deep.open_slice ht hf with ⟨hcs, hxd⟩ | ⟨a', len', cap', m, k, D, Pl, hcs, _, hl, hm, hmm, hx, hel⟩
  · simp [Value.cells] at hcs
    obtain ⟨rfl, rfl, rfl⟩ := hcs
    exact ⟨[], ⟨none, 0, rfl, Nat.zero_le _, fun h => (h rfl).elim⟩, .inl ⟨congrArg Prod.fst hxd, rfl⟩, by simp⟩
  · simp [Value.cells] at hcs
    obtain ⟨rfl, rfl, rfl⟩ := hcs
    rw [hn] at hel
    have hlm : len ≤ m := by rw [hmm]; split <;> omega
    let xs : List (List Value) := (List.range len).map fun i => (W.cells? 0 (a'.add (i * n)) n).getD []
    have hlen : xs.length = len := by simp [xs]
    have hget : ∀ i, i < len → ∃ cs, xs[i]? = some cs ∧ W.cells? 0 (a'.add (i * n)) n = some cs ∧ ∃ y, DataW.trod enc P W 0 sp held k e cs = some y := by
      intro i hi
      obtain ⟨cs, h1, h2⟩ := hel i (by omega)
      exact ⟨cs, by simp [xs, hi, h1], h1, _, h2⟩
    refine ⟨xs, ⟨some a', cap, by rw [hlen], by omega, fun hne => ?_⟩, .inr ⟨_, _, congrArg Prod.fst hx, by simp [xs]⟩, ?_⟩
    · have h0 : 0 < len := by
        rcases Nat.eq_zero_or_pos len with h | h
        · exact (hne (List.eq_nil_of_length_eq_zero (by rw [hlen, h]))).elim
        · exact h
      obtain ⟨cs0, _, hc0, _⟩ := hget 0 h0
      have hz := (cells?_at hc0).2 0 hpos
      have hl0 := (cells?_at hc0).1
      have hsome : W.cell? a' = some (cs0[0]'(by omega)) := by
        simpa [Addr.add, List.getElem?_eq_getElem (show 0 < cs0.length by omega)] using hz
      have hspot : a'.spot = none := World.cell?_spot hsome
      obtain ⟨b, off, sp'⟩ := a'
      dsimp only at hspot
      subst hspot
      refine ⟨b, off, rfl, World.block_lt_of_cell? W _ hsome, fun i hi j hj => ?_⟩
      obtain ⟨cs, h1, h2, _⟩ := hget i (by omega)
      have := (cells?_at h2).2 j hj
      rw [h1]
      rw [← show (Addr.add (Addr.add ⟨b, off, none⟩ (i * n)) j) = ⟨b, off + i * n + j, none⟩ from by unfold Addr.add; split <;> split <;> simp_all]
      exact this
    · intro x hx
      simp only [xs, List.mem_map, List.mem_range] at hx
      obtain ⟨i, hi, rfl⟩ := hx
      obtain ⟨cs, _, h2, y, h3⟩ := hget i hi
      rw [h2]
      exact ⟨(cells?_at h2).1, k, y, h3⟩

theorem list_of {α β : Type} {f : β → α} {p : β → Prop} : ∀ {xs : List α} (h : ∀ x ∈ xs, ∃ b, x = f b ∧ p b), ∃ bs : List β, xs = bs.map f ∧ ∀ b ∈ bs, p b
  | [], _ => ⟨[], rfl, by simp⟩
  | x :: xs, h => by
    obtain ⟨b, rfl, hb⟩ := h x (by simp)
    obtain ⟨bs, rfl, hbs⟩ := list_of (xs := xs) (fun y hy => h y (by simp [hy]))
    exact ⟨b :: bs, rfl, by simpa using ⟨hb, hbs⟩⟩
/-- a slice of integers, of strings, that came in -/
def IntSl (w : World) (v : Value) (k : IntKind) (ns : List Int) : Prop := Sl w v 1 (ns.map fun n => [Value.int k n]) ∧ ∀ n ∈ ns, (Lit.int k n).wf = true
def StrSl (w : World) (v : Value) (ss : List ByteArray) : Prop := Sl w v 1 (ss.map fun s => [Value.string s]) ∧ ∀ s ∈ ss, s.size ≤ maxLen
theorem len1 {x : List Value} (h : x.length = 1) : ∃ c, x = [c] := by
  match x, h with
  | [c], _ => exact ⟨c, rfl⟩
theorem ints_of {H : Type} {enc : TypeId × Value → H} {P : Program} {W : World} {sp : Nat → Bool} {held : Bool} {t e : TypeId} {v : Value} {d : DataW H} {ps : List MemPlace} {k : IntKind} (ht : P.underlying t = some (.slice e)) (he : P.underlying e = some (.int k)) (hn : P.cellsOf e = 1)
    (hok : ∃ a len cap, v = .slice a len cap) (h : DataW.Trod enc P W 0 sp held t v d ps) : ∃ ns, IntSl W v k ns ∧ ((d = .nil ∧ ns = []) ∨ ∃ el sp, d = .slice el sp ∧ el.length = ns.length) := by
  obtain ⟨xs, hs, hd, hx⟩ := Sl_of2 ht hn (by omega) hok h
  have : ∀ x ∈ xs, ∃ n : Int, x = [Value.int k n] ∧ (Lit.int k n).wf = true := by
    intro x hxm
    obtain ⟨hl, fuel, y, hy⟩ := hx x hxm
    obtain ⟨c, rfl⟩ := len1 hl
    obtain ⟨a, e0, _, wa⟩ := DataW.trod_int he hy
    simp at e0
    exact ⟨a, by rw [e0], wa⟩
  obtain ⟨ns, rfl, hns⟩ := list_of this
  exact ⟨ns, ⟨hs, hns⟩, by simpa using hd⟩
theorem strs_of {H : Type} {enc : TypeId × Value → H} {P : Program} {W : World} {sp : Nat → Bool} {held : Bool} {t e : TypeId} {v : Value} {d : DataW H} {ps : List MemPlace} (ht : P.underlying t = some (.slice e)) (he : P.underlying e = some .string) (hn : P.cellsOf e = 1)
    (hok : ∃ a len cap, v = .slice a len cap) (h : DataW.Trod enc P W 0 sp held t v d ps) : ∃ ss, StrSl W v ss ∧ ((d = .nil ∧ ss = []) ∨ ∃ el sp, d = .slice el sp ∧ el.length = ss.length) := by
  obtain ⟨xs, hs, hd, hx⟩ := Sl_of2 ht hn (by omega) hok h
  have : ∀ x ∈ xs, ∃ s : ByteArray, x = [Value.string s] ∧ s.size ≤ maxLen := by
    intro x hxm
    obtain ⟨hl, fuel, y, hy⟩ := hx x hxm
    obtain ⟨c, rfl⟩ := len1 hl
    obtain ⟨a, e0, hsz, _⟩ := DataW.trod_string he hy
    simp at e0
    exact ⟨a, by rw [e0], by assumption⟩
  obtain ⟨ss, rfl, hss⟩ := list_of this
  exact ⟨ss, ⟨hs, hss⟩, by simpa using hd⟩

end Go.Proofs.YtimomjheanfbmaaGreatDoor

namespace Go.Proofs.YtimomjheanfbmaaGreatDoor
open Go.RowKit

/-! ### '==' between two arrays -/
def eqElems (d : Nat) (e : TypeId) (n : Nat) (xs ys : Array Value) : List Nat → Sem Bool
  | [] => pure true
  | i :: r => do
    if !(← Op.equalIn d e (← part e xs (i * n)) (← part e ys (i * n))) then pure false else eqElems d e n xs ys r
theorem run_equalIn_array {P : Program} (w : World) (d : Nat) (t e : TypeId) (len : Nat) (i : TypeInfo) (xs ys : Array Value) (ht : P.underlying t = some (.array len e)) (hi : P.info? e = some i) :
    (Op.equalIn (d + 1) t (.agg xs) (.agg ys)).run P w = (eqElems d e i.size xs ys (List.range len)).run P w := by
  simp only [Op.equalIn, Sem.run_bind, run_underlying ht, Result.andThen_ok, sizeOf, typeInfo, hi]
  simp [Std.Legacy.Range.forIn_eq_forIn_range', hi]
  rw [List.range_eq_range']
  generalize List.range' 0 len = l
  induction l generalizing w with
  | nil => simp [eqElems]
  | cons j l ih =>
    simp only [List.forIn_cons, eqElems, Sem.run_bind, Sem.run_ite]
    generalize (part e xs (j * i.size)).run P w = r1
    cases r1 with
    | ok a w1 =>
      simp only [Result.andThen_ok]
      generalize (part e ys (j * i.size)).run P w1 = r2
      cases r2 with
      | ok b w2 =>
        simp only [Result.andThen_ok]
        generalize (Op.equalIn d e a b).run P w2 = r3
        cases r3 with
        | ok r w3 =>
          cases r
          · simp
          · simp
            exact ih w3
        | halt x w3 => simp [Result.andThen]
      | halt x w2 => simp [Result.andThen]
    | halt x w1 => simp [Result.andThen]
end Go.Proofs.YtimomjheanfbmaaGreatDoor
