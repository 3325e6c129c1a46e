import Derived.Shelf.Strings.Builder1
import Derived.Shelf.Strings.BuilderK
import Derived.Shelf.Strings.Trim
import Derived.Shelf.Strings.Repeat
import Derived.Test.YtimomjheanfbmaaGreatDoorMae
import Derived.Test.YtimomjheanfbmaaGreatDoorMaa
import Derived.Test.YtimomjheanfbmaaGreatDoorMab
import Derived.Test.YtimomjheanfbmaaGreatDoorMad
import Derived.Lib.AppendStr
import Derived.Lib.SlBytesRow
import Derived.BigQuiet
set_option linter.unusedSimpArgs false
set_option linter.unusedVariables false
namespace Go.Proofs.YtimomjheanfbmaaGreatDoor
open Go.Shelf
def Tryz.lays160_ren : Go.Shelf.Ren := ⟨fun | 160 => 109 | 232 => 140 | 231 => 139 | 227 => 141 | 234 => 143 | 233 => 142 | 236 => 145 | 235 => 144 | 228 => 169 | 271 => 172 | 151 => 171 | 197 => 170 | 120 => 185 | 152 => 184 | 260 => 183 | 137 => 191 | 119 => 192 | 224 => 193 | 225 => 194 | 217 => 195 | 266 => 196 | n => n, fun | 9 => 9 | 4 => 4 | 3 => 3 | 5 => 5 | 117 => 244 | 116 => 243 | 0 => 0 | 124 => 247 | 21 => 21 | 105 => 274 | 46 => 206 | 119 => 292 | 139 => 295 | 138 => 294 | n => n, fun | 3 => 2 | 4 => 3 | n => n⟩
theorem Tryz.lays160 : Go.Proofs.Lays.n160 Tryz.prog Tryz.lays160_ren := {
  mixed := by kernel_rfl
  f119 := Tryz.func192.trans (congrArg some (by kernel_rfl))
  f120 := Tryz.func185.trans (congrArg some (by kernel_rfl))
  f137 := Tryz.func191.trans (congrArg some (by kernel_rfl))
  f151 := Tryz.func171.trans (congrArg some (by kernel_rfl))
  f152 := Tryz.func184.trans (congrArg some (by kernel_rfl))
  f160 := Tryz.func109.trans (congrArg some (by kernel_rfl))
  f197 := Tryz.func170.trans (congrArg some (by kernel_rfl))
  f217 := Tryz.func195.trans (congrArg some (by kernel_rfl))
  f224 := Tryz.func193.trans (congrArg some (by kernel_rfl))
  f225 := Tryz.func194.trans (congrArg some (by kernel_rfl))
  f227 := Tryz.func141.trans (congrArg some (by kernel_rfl))
  f228 := Tryz.func169.trans (congrArg some (by kernel_rfl))
  f231 := Tryz.func139.trans (congrArg some (by kernel_rfl))
  f232 := Tryz.func140.trans (congrArg some (by kernel_rfl))
  f233 := Tryz.func142.trans (congrArg some (by kernel_rfl))
  f234 := Tryz.func143.trans (congrArg some (by kernel_rfl))
  f235 := Tryz.func144.trans (congrArg some (by kernel_rfl))
  f236 := Tryz.func145.trans (congrArg some (by kernel_rfl))
  f260 := Tryz.func183.trans (congrArg some (by kernel_rfl))
  f266 := Tryz.func196.trans (congrArg some (by kernel_rfl))
  f271 := Tryz.func172.trans (congrArg some (by kernel_rfl))
  t0 := Tryz.underlying0
  a0 := Tryz.isAgg0
  z0 := Tryz.sizeOf0
  v0 := Tryz.zeroValue0
  t3 := Tryz.underlying3
  a3 := Tryz.isAgg3
  z3 := Tryz.sizeOf3
  v3 := Tryz.zeroValue3
  t4 := Tryz.underlying4
  a4 := Tryz.isAgg4
  z4 := Tryz.sizeOf4
  v4 := Tryz.zeroValue4
  t5 := Tryz.underlying5
  a5 := Tryz.isAgg5
  z5 := Tryz.sizeOf5
  v5 := Tryz.zeroValue5
  t9 := Tryz.underlying9
  a9 := Tryz.isAgg9
  z9 := Tryz.sizeOf9
  v9 := Tryz.zeroValue9
  t21 := Tryz.underlying21
  a21 := Tryz.isAgg21
  z21 := Tryz.sizeOf21
  v21 := Tryz.zeroValue21
  t46 := Tryz.underlying206
  a46 := Tryz.isAgg206
  z46 := Tryz.sizeOf206
  v46 := Tryz.zeroValue206
  t105 := Tryz.underlying274
  a105 := Tryz.isAgg274
  z105 := Tryz.sizeOf274
  v105 := Tryz.zeroValue274
  t116 := Tryz.underlying243
  a116 := Tryz.isAgg243
  z116 := Tryz.sizeOf243
  t117 := Tryz.underlying244
  a117 := Tryz.isAgg244
  z117 := Tryz.sizeOf244
  v117 := Tryz.zeroValue244
  t119 := Tryz.underlying292
  a119 := Tryz.isAgg292
  z119 := Tryz.sizeOf292
  t124 := Tryz.underlying247
  a124 := Tryz.isAgg247
  z124 := Tryz.sizeOf247
  v124 := Tryz.zeroValue247
  t138 := Tryz.underlying294
  a138 := Tryz.isAgg294
  z138 := Tryz.sizeOf294
  v138 := Tryz.zeroValue294
  t139 := Tryz.underlying295
  a139 := Tryz.isAgg295
  z139 := Tryz.sizeOf295
  v139 := Tryz.zeroValue295
  g3 := by kernel_rfl
  g4 := by kernel_rfl }
open Go.RowKit in
theorem Tryz.strings_Trim_one (s : ByteArray) (c : UInt8) (hc : c.toNat < 128) (w : World) (hs : s.size ≤ 9223372036854775807) :
    Calls Tryz.prog 109 #[.string s, .string ⟨#[c]⟩] w fun e w' => e = .returned (.string ⟨(Lib.trimB s.data.toList c).toArray⟩) ∧ (w' = w ∨ w' = w.drew) := Any.strings_Trim_one Tryz.lays160 s c hc w hs
def Tryz.lays105_ren : Go.Shelf.Ren := ⟨fun | 105 => 71 | 167 => 152 | 212 => 110 | 99 => 111 | 165 => 112 | 166 => 113 | 170 => 114 | 169 => 115 | 263 => 146 | 264 => 147 | 206 => 148 | 240 => 149 | 241 => 150 | 276 => 173 | 277 => 174 | n => n, fun | 9 => 9 | 3 => 3 | 4 => 4 | 20 => 20 | 0 => 0 | 46 => 206 | 109 => 207 | 5 => 5 | 72 => 212 | 76 => 215 | 51 => 248 | 146 => 249 | 53 => 147 | 148 => 251 | 70 => 210 | 37 => 141 | 75 => 214 | 127 => 253 | 164 => 277 | 80 => 149 | n => n, fun | n => n⟩
theorem Tryz.lays105 : Go.Proofs.Lays.n105 Tryz.prog Tryz.lays105_ren := {
  mixed := by kernel_rfl
  f99 := Tryz.func111.trans (congrArg some (by kernel_rfl))
  f105 := Tryz.func71.trans (congrArg some (by kernel_rfl))
  f165 := Tryz.func112.trans (congrArg some (by kernel_rfl))
  f166 := Tryz.func113.trans (congrArg some (by kernel_rfl))
  f169 := Tryz.func115.trans (congrArg some (by kernel_rfl))
  f170 := Tryz.func114.trans (congrArg some (by kernel_rfl))
  f206 := Tryz.func148.trans (congrArg some (by kernel_rfl))
  f212 := Tryz.func110.trans (congrArg some (by kernel_rfl))
  f240 := Tryz.func149.trans (congrArg some (by kernel_rfl))
  f241 := Tryz.func150.trans (congrArg some (by kernel_rfl))
  f263 := Tryz.func146.trans (congrArg some (by kernel_rfl))
  f264 := Tryz.func147.trans (congrArg some (by kernel_rfl))
  f276 := Tryz.func173.trans (congrArg some (by kernel_rfl))
  f277 := Tryz.func174.trans (congrArg some (by kernel_rfl))
  t0 := Tryz.underlying0
  a0 := Tryz.isAgg0
  z0 := Tryz.sizeOf0
  v0 := Tryz.zeroValue0
  t3 := Tryz.underlying3
  a3 := Tryz.isAgg3
  z3 := Tryz.sizeOf3
  v3 := Tryz.zeroValue3
  t4 := Tryz.underlying4
  a4 := Tryz.isAgg4
  z4 := Tryz.sizeOf4
  v4 := Tryz.zeroValue4
  t5 := Tryz.underlying5
  a5 := Tryz.isAgg5
  z5 := Tryz.sizeOf5
  v5 := Tryz.zeroValue5
  t9 := Tryz.underlying9
  a9 := Tryz.isAgg9
  z9 := Tryz.sizeOf9
  v9 := Tryz.zeroValue9
  t20 := Tryz.underlying20
  a20 := Tryz.isAgg20
  z20 := Tryz.sizeOf20
  v20 := Tryz.zeroValue20
  t37 := Tryz.underlying141
  a37 := Tryz.isAgg141
  z37 := Tryz.sizeOf141
  v37 := Tryz.zeroValue141
  t46 := Tryz.underlying206
  a46 := Tryz.isAgg206
  z46 := Tryz.sizeOf206
  v46 := Tryz.zeroValue206
  t51 := Tryz.underlying248
  a51 := Tryz.isAgg248
  z51 := Tryz.sizeOf248
  v51 := Tryz.zeroValue248
  t53 := Tryz.underlying147
  a53 := Tryz.isAgg147
  z53 := Tryz.sizeOf147
  v53 := Tryz.zeroValue147
  t70 := Tryz.underlying210
  a70 := Tryz.isAgg210
  z70 := Tryz.sizeOf210
  v70 := Tryz.zeroValue210
  t72 := Tryz.underlying212
  a72 := Tryz.isAgg212
  z72 := Tryz.sizeOf212
  v72 := Tryz.zeroValue212
  t75 := Tryz.underlying214
  a75 := Tryz.isAgg214
  z75 := Tryz.sizeOf214
  v75 := Tryz.zeroValue214
  t76 := Tryz.underlying215
  a76 := Tryz.isAgg215
  z76 := Tryz.sizeOf215
  v76 := Tryz.zeroValue215
  t109 := Tryz.underlying207
  a109 := Tryz.isAgg207
  z109 := Tryz.sizeOf207
  v109 := Tryz.zeroValue207
  t127 := Tryz.underlying253
  a127 := Tryz.isAgg253
  z127 := Tryz.sizeOf253
  v127 := Tryz.zeroValue253
  t146 := Tryz.underlying249
  a146 := Tryz.isAgg249
  z146 := Tryz.sizeOf249
  v146 := Tryz.zeroValue249
  t148 := Tryz.underlying251
  a148 := Tryz.isAgg251
  z148 := Tryz.sizeOf251
  v148 := Tryz.zeroValue251
  t164 := Tryz.underlying277
  a164 := Tryz.isAgg277
  z164 := Tryz.sizeOf277
  v164 := Tryz.zeroValue277 }
theorem Tryz.Builder_Extra_105 : Builder.Extra Tryz.prog Tryz.lays105_ren := {
  sizeBuilder := by kernel_rfl
  liesBuilder := by kernel_rfl
  t5 := Tryz.underlying5
  a5 := Tryz.isAgg5
  z5 := Tryz.sizeOf5
  v5 := Tryz.zeroValue5
  infoByte := by kernel_rfl
  cellsByte := by kernel_rfl
  sizeByte := by kernel_rfl
  neB5 := by decide }
open Go.RowKit Go.Lib in
theorem Tryz.strings_Repeat (s : ByteArray) (c : Nat) (w : World) (hc : c ≤ 9223372036854775807) (hlen : s.size * c ≤ 140737488355328) :
    Calls Tryz.prog 71 #[.string s, .int .i64 c] w fun e w' => e = .returned (.string ⟨(Lib.repeatL s.data.toList c).toArray⟩) ∧ Below w.heap.size w w' := Any.strings_Repeat Tryz.lays105 Tryz.Builder_Extra_105 s c w hc hlen
end Go.Proofs.YtimomjheanfbmaaGreatDoor

namespace Go.Proofs.YtimomjheanfbmaaGreatDoor
open Go.Shelf
theorem Tryz.lays166 : Go.Proofs.Lays.n166 Tryz.prog Tryz.lays105_ren := { Tryz.lays105 with }
theorem Tryz.lays167 : Go.Proofs.Lays.n167 Tryz.prog Tryz.lays105_ren := { Tryz.lays105 with f167 := Tryz.func152.trans (congrArg some (by kernel_rfl)) }
theorem Tryz.lays169 : Go.Proofs.Lays.n169 Tryz.prog Tryz.lays105_ren := { Tryz.lays105 with }

open Go.RowKit
/-- a strings.Builder in block b, its buffer above it, that holds the bytes l -/
def BdAt (w : World) (b : Nat) (l : List UInt8) : Prop := Lib.IsBuilderF 212 5 b b (Lib.byteCells l) w
theorem BdAt.new (w : World) : BdAt (w.alloc (.cells #[.pointer none, .slice none 0 0] 212)) w.heap.size [] := Lib.IsBuilderF.of (Lib.fresh_isBuilder _ _ w)
theorem BdAt.lt {w : World} {b : Nat} {l : List UInt8} (h : BdAt w b l) : b < w.heap.size := h.elim (fun x => x.lt) (fun x => x.lt)
theorem BdAt.alloc {w : World} {b : Nat} {l : List UInt8} (h : BdAt w b l) (o : Obj) : BdAt (w.alloc o) b l := Lib.IsBuilderF.alloc h o
theorem BdAt.drew {w : World} {b : Nat} {l : List UInt8} (h : BdAt w b l) : BdAt w.drew b l := h
theorem BdAt.later {w w' : World} {b : Nat} {l : List UInt8} (h : BdAt w b l) (hb : Below w.heap.size w w') : BdAt w' b l := by
  have go : ∀ p, Lib.BuilderAtF 212 5 b b p (Lib.byteCells l) w → Lib.BuilderAtF 212 5 b b p (Lib.byteCells l) w' := by
    rintro p ⟨hB, v, hv, ho, hne⟩
    refine ⟨hB, v, hBs hb hv, ⟨ho.1, ?_⟩, hne⟩
    rcases ho.2 with h2 | ⟨g, cap, cur, fz, e, hbg, hg, r⟩
    · exact .inl h2
    · exact .inr ⟨g, cap, cur, fz, e, hbg, hBs hb hg, r⟩
  exact h.elim (fun x => .inl (go _ x)) (fun x => .inr (go _ x))
/-- the blocks beside the builder stand -/
theorem kept_block {w w' : World} {b k : Nat} {c : Array Value} {t : TypeId} {f : Nat × Nat} (h : Lib.OthersKept 5 (some b) w w') (hk : w.heap[k]? = some (.cells c t f)) (hkb : k ≠ b) (ht : t ≠ 5) :
    w'.heap[k]? = some (.cells c t f) := h k _ hk (fun e => hkb (Option.some.inj e)) (fun c' fz e => ht (by cases e; rfl))
theorem bd_string (b : Nat) (l : List UInt8) (s : ByteArray) (w : World) (h : BdAt w b l) (hlen : l.length + s.size ≤ 1048576) :
    Calls Tryz.prog 113 #[.pointer (some ⟨b, 0, none⟩), .string s] w fun e w' => e = .returned (.tuple #[.int .i64 s.size, .nilIface]) ∧ BdAt w' b (l ++ s.data.toList) ∧ Below b w w' ∧ Lib.OthersKept 5 (some b) w w' := by
  refine (Any.Builder_WriteString_k Tryz.lays166 Tryz.Builder_Extra_105 b b _ s w h (by rw [Lib.byteCells_length]; omega) (Nat.le_of_lt h.lt)).mono ?_
  rintro e w' ⟨rfl, h1, h2, h3⟩
  refine ⟨rfl, ?_, h2, h3⟩
  unfold BdAt
  rw [Lib.byteCells_append]
  exact .inr h1
theorem bd_byte (b : Nat) (l : List UInt8) (c : UInt8) (w : World) (h : BdAt w b l) (hlen : l.length ≤ 1048576) :
    Calls Tryz.prog 152 #[.pointer (some ⟨b, 0, none⟩), .int .u8 c.toNat] w fun e w' => e = .returned .nilIface ∧ BdAt w' b (l ++ [c]) ∧ Below b w w' ∧ Lib.OthersKept 5 (some b) w w' := by
  refine (Any.Builder_WriteByte_k Tryz.lays167 Tryz.Builder_Extra_105 b b _ (c.toNat : Int) w h (by rw [Lib.byteCells_length]; omega) (Nat.le_of_lt h.lt)).mono ?_
  rintro e w' ⟨rfl, h1, h2, h3⟩
  refine ⟨rfl, ?_, h2, h3⟩
  unfold BdAt
  rw [Lib.byteCells_append]
  exact .inr h1
theorem bd_done (b : Nat) (l : List UInt8) (w : World) (h : BdAt w b l) :
    Calls Tryz.prog 115 #[.pointer (some ⟨b, 0, none⟩)] w fun e w' => e = .returned (.string ⟨l.toArray⟩) ∧ Below b w w' := by
  refine (Any.Builder_String_any_k Tryz.lays169 Tryz.Builder_Extra_105 b b l w h (Nat.le_of_lt h.lt)).mono ?_
  rintro e w' ⟨rfl, h1, h2, h3⟩
  exact ⟨rfl, h2⟩
/-! ### strings.Repeat, of the byte 0 -/
theorem repeatL_zero : ∀ n, Lib.repeatL [0] n = List.replicate n 0
  | 0 => rfl
  | n + 1 => by rw [Lib.repeatL, repeatL_zero n]; rfl
theorem str_repeat (n : Nat) (hn : n ≤ 64) (w : World) :
    Calls Tryz.prog 71 #[.string ⟨#[0]⟩, .int .i64 n] w fun e w' => e = .returned (.string ⟨(List.replicate n (0 : UInt8)).toArray⟩) ∧ Below w.heap.size w w' := by
  refine (Tryz.strings_Repeat ⟨#[0]⟩ n w (by omega) (by show 1 * n ≤ _; omega)).mono ?_
  rintro e w' ⟨rfl, hb⟩
  refine ⟨?_, hb⟩
  show Ending.returned (Value.string ⟨(Lib.repeatL [0] n).toArray⟩) = _
  rw [repeatL_zero]
/-! ### strings.Trim, of the byte 0 -/
theorem str_trim (s : ByteArray) (hs : s.size ≤ 4096) (w : World) :
    Calls Tryz.prog 109 #[.string s, .string ⟨#[0]⟩] w fun e w' => e = .returned (.string ⟨(Lib.trimB s.data.toList 0).toArray⟩) ∧ Below w.heap.size w w' := by
  refine (Tryz.strings_Trim_one s 0 (by decide) w (by omega)).mono ?_
  rintro e w' ⟨rfl, h⟩
  refine ⟨rfl, ?_⟩
  rcases h with rfl | rfl
  · exact bR
  · exact bD bR
end Go.Proofs.YtimomjheanfbmaaGreatDoor
namespace Go.Proofs.YtimomjheanfbmaaGreatDoor
open Go.RowKit

theorem repeat_zeros (s : ByteArray) (hs : s.data.toList = [0]) : ∀ n, (⟨(Lib.repeatL s.data.toList n).toArray⟩ : ByteArray) = zeros n := by
  intro n
  apply ByteArray.ext
  apply Array.toList_inj.1
  rw [hs]
  show Lib.repeatL [0] n = _
  have h : ∀ n, Lib.repeatL [0] n = List.replicate n 0 := by
    intro n
    induction n with
    | zero => rfl
    | succ n ih => rw [Lib.repeatL, ih]; rfl
  rw [h, zeros]
  show List.replicate n 0 = (List.replicate n (0 : Int)).map fun n => UInt8.ofNat n.toNat
  simp [List.map_replicate]
theorem str_zeros (s : ByteArray) (hs : s.data.toList = [0]) (n : Nat) (hn : n ≤ 64) (w : World) : Calls Tryz.prog 71 #[.string s, .int .i64 n] w fun e w' => e = .returned (.string (zeros n)) ∧ RowKit.Below w.heap.size w w' := by
  have h1 : s.size = 1 := by rw [Lib.size_eq, hs]; rfl
  refine (Tryz.strings_Repeat s n w (by omega) (by rw [h1]; omega)).mono ?_
  rintro e w' ⟨rfl, hb⟩
  rw [repeat_zeros s hs]
  exact ⟨rfl, hb⟩
end Go.Proofs.YtimomjheanfbmaaGreatDoor

namespace Go.Proofs.YtimomjheanfbmaaGreatDoor
open Go.RowKit

theorem bN {a w : World} (h : Below a.heap.size a w) (n : Nat) : Below a.heap.size a (w.drewN n) := ⟨h.os, h.tape, h.output, h.size, h.block⟩
theorem strCells_append (a b : ByteArray) : Lib.strCells (a ++ b) = Lib.strCells a ++ Lib.strCells b := by
  simp [Lib.strCells]
/-- append of a string's bytes onto an owned slice: the new value lies in the old block or in a new one -/
theorem run_append_str {P : Program} (w : World) (t u ty e : TypeId) (i : TypeInfo) (ht : P.underlying t = some (.slice e)) (hu : P.underlying u = some .string) (hi : P.info? e = some i) (hz : i.zero = some (.int .u8 0))
    (hsize : i.size = 1) (hby : i.bytes = 1) (v : Value) (n : Nat) (xs : List Value) (hown : OwnS w e 1 v n xs) (s : ByteArray) (h63 : n + s.size ≤ maxLen) (hbytes : n + s.size ≤ 140737488355328) :
    ∃ v' w', (Builtin.append_ #[t, u] ty #[v, .string s]).run P w = .ok v' w' ∧ OwnS w' e 1 v' (n + s.size) (xs ++ Lib.strCells s) ∧ Keeps (· ∈ blk v) w w' ∧ (∀ k ∈ blk v', k ∈ blk v ∨ w.heap.size ≤ k) := by
  have keeps : ∀ {w' : World}, w.grownBy w' v.ownBlock → Keeps (· ∈ blk v) w w' := fun hg => (Keeps.refl _ _).grown hg (fun k hk => .inl (mem_blk.2 hk))
  rcases hown.2 with ⟨rfl, rfl⟩ | ⟨g, cap, cur, rfl, hbg, hg, hnc, hcm, hcs, htake⟩
  · obtain ⟨v', w', hr, h2, h3, _⟩ := Lib.run_append_own_string (P := P) w w.heap.size t u ty e i ht hu hi hz hsize hby _ _ xs (hown.rebase _ (by simp [blk, Value.ownBlock])) s h63 hbytes (Nat.le_refl _)
    exact ⟨v', w', hr, OwnS.of h2, keeps h3, fun k hk => .inr (h2.lt k (mem_blk.1 hk)).1⟩
  · obtain ⟨v', w', hr, h2, h3, _⟩ := Lib.run_append_own_string (P := P) w 0 t u ty e i ht hu hi hz hsize hby _ _ xs hown s h63 hbytes (Nat.zero_le _)
    refine ⟨v', w', hr, h2, keeps h3, ?_⟩
    by_cases hroom : n + s.size ≤ cap
    · have hr' := Lib.run_append_room_string (P := P) w t u ty e i ht hu hi hsize g n cap cur hg s hroom (by omega)
      rw [hr'] at hr
      obtain ⟨rfl, -⟩ := Result.ok.inj hr
      intro k hk
      exact .inl (by simpa [blk, Value.ownBlock] using hk)
    · have holds : ∀ j u, xs[j]? = some u → w.cell? ((⟨g, 0, none⟩ : Addr).add j) = some u := World.ownsRow.cells hown (g := g) rfl
      have hxl : xs.length = n := by simpa using hown.1
      have hr' := Lib.run_append_grow_string (P := P) w t u ty e i (.int .u8 0) ht hu hi hz ⟨g, 0, none⟩ n cap xs (by rw [hsize]; omega) holds s (by omega) (by unfold maxLen at h63; omega) (by rw [hby]; exact growslice_fits (by omega) (by omega))
      rw [hr'] at hr
      obtain ⟨rfl, -⟩ := Result.ok.inj hr
      intro k hk
      have : k = w.heap.size := by simpa [blk, Value.ownBlock, eq_comm] using hk
      exact .inr (by omega)
theorem wpList_append_str {P : Program} {w : World} {ops : Array Oper} {rest : List Oper} {o : Oper} {a : Act} {Q : Exit → Act → World → Prop} (hgd : o.guard = none) (sl x : Operand) (t u : TypeId)
    (ho : o.op = .call { callee := .builtin .append, args := #[sl, x], argTypes := #[t, u] })
    (e : TypeId) (i : TypeInfo) (ht : P.underlying t = some (.slice e)) (hu : P.underlying u = some .string) (hi : P.info? e = some i) (hz : i.zero = some (.int .u8 0)) (hsize : i.size = 1) (hby : i.bytes = 1)
    (v : Value) (n : Nat) (xs : List Value) (hs : a.eval sl = v) (hown : OwnS w e 1 v n xs) (s : ByteArray) (hx : a.eval x = .string s) (h63 : n + s.size ≤ maxLen) (hbytes : n + s.size ≤ 140737488355328)
    (h : ∀ v' w', OwnS w' e 1 v' (n + s.size) (xs ++ Lib.strCells s) → Keeps (· ∈ blk v) w w' → (∀ k ∈ blk v', k ∈ blk v ∨ w.heap.size ≤ k) → wpList P ops Q rest (a.put o.dst v') w') : wpList P ops Q (o :: rest) a w := by
  refine wpList_plain hgd fun K hK => ?_
  obtain ⟨v', w', hr, h2, h3, h4⟩ := run_append_str (P := P) w t u o.type e i ht hu hi hz hsize hby v n xs hown s h63 hbytes
  unfold Oper.wp execOp
  simp only [ho, resolve, invoke, builtin, Sem.run_bind, Sem.run_pure, Result.andThen_ok, List.map_toArray, List.map_cons, List.map_nil, hs, hx, hr]
  exact hK _ _ (h v' w' h2 h3 h4)

/-! ### a log -/
structure Lg where
  first : Int
  n : Int
  start : Int
  fin : Int
  firm : Int
  base : Int
  buf : ByteArray
  list : List (Int × ByteArray)
def lgC (dp : Nat) (G : Lg) (bv lv : Value) : Array Value := #[.pointer (some ⟨dp, 0, none⟩), .int .i64 G.first, .int .i64 G.n, .int .i64 G.start, .int .i64 G.fin, .int .i64 G.firm, .int .i64 G.base, bv, lv]
def LgOk (G : Lg) : Prop := 128 ≤ G.n ∧ G.n ≤ 4096 ∧ 0 ≤ G.first ∧ G.first ≤ 16384 ∧ 0 ≤ G.base ∧ G.base ≤ G.fin ∧ G.fin ≤ 1152921504606846976 ∧ G.fin - G.base ≤ G.n * 54 ∧ (G.buf.size : Int) = G.fin - G.base ∧ (G.list.length : Int) * 3 ≤ G.fin - G.base ∧ 0 ≤ G.start ∧ G.start ≤ 1152921504606846976 ∧ 0 ≤ G.firm ∧ G.firm ≤ 1152921504606846976
/-- a log lies at p, its device at dp; S: its own blocks -/
def LogAt (w : World) (p dp : Nat) (G : Lg) (S : List Nat) : Prop := LgOk G ∧ ∃ bv lv : Value, w.heap[p]? = some (.cells (lgC dp G bv lv) 144 (0, 0)) ∧ OwnS w 5 1 bv G.buf.size (Lib.strCells G.buf) ∧ OwnS w 140 2 lv G.list.length (recV G.list) ∧ S = p :: (blk bv ++ blk lv) ∧ S.Nodup
theorem LogAt.keep {R : Nat → Prop} {w w' : World} {p dp : Nat} {G : Lg} {S : List Nat} (h : LogAt w p dp G S) (hk : Keeps R w w') (hS : ∀ k ∈ S, ¬ R k) : LogAt w' p dp G S := by
  obtain ⟨hok, bv, lv, h1, h2, h3, rfl, h6⟩ := h
  exact ⟨hok, bv, lv, hk.keep h1 (hS _ (by simp)), h2.keep hk (fun k hkk => hS k (by simp [hkk])), h3.keep hk (fun k hkk => hS k (by simp [hkk])), rfl, h6⟩
theorem LogAt.later {w w' : World} {p dp : Nat} {G : Lg} {S : List Nat} (h : LogAt w p dp G S) (hb : Below w.heap.size w w') : LogAt w' p dp G S := h.keep (Keeps.of_below (fun _ => False) hb) (fun _ _ => id)
theorem LogAt.lt {w : World} {p dp : Nat} {G : Lg} {S : List Nat} (h : LogAt w p dp G S) : ∀ k ∈ S, k < w.heap.size := by
  obtain ⟨hok, bv, lv, h1, h2, h3, rfl, h6⟩ := h
  intro k hk
  simp only [List.mem_cons, List.mem_append] at hk
  rcases hk with rfl | hk | hk
  · exact block_lt h1
  · exact h2.lt hk
  · exact h3.lt hk
def Lg.room (G : Lg) : Int := G.n * 54 - (G.fin - G.base)
theorem wal_room (p dp : Nat) (G : Lg) (S : List Nat) (w : World) (h : LogAt w p dp G S) : Calls Tryz.prog 50 #[.pointer (some ⟨p, 0, none⟩)] w fun e w' => e = .returned (.int .i64 G.room) ∧ Below w.heap.size w w' := by
  obtain ⟨hok, bv, lv, h1, -⟩ := h
  have c2 : w.cell? ⟨p, 2, none⟩ = some (.int .i64 G.n) := cell_at h1 2
  have c4 : w.cell? ⟨p, 4, none⟩ = some (.int .i64 G.fin) := cell_at h1 4
  have c6 : w.cell? ⟨p, 6, none⟩ = some (.int .i64 G.base) := cell_at h1 6
  obtain ⟨a1, a2, a3, a4, a5, a6, a7, a8, -⟩ := hok
  unfold Lg.room
  have e1 : IntKind.i64.wrap (G.n * 54) = G.n * 54 := by rw [IntKind.wrap_i64]; omega
  have e2 : IntKind.i64.wrap (G.fin - G.base) = G.fin - G.base := by rw [IntKind.wrap_i64]; omega
  have e3 : IntKind.i64.wrap (G.n * 54 - (G.fin - G.base)) = G.n * 54 - (G.fin - G.base) := by rw [IntKind.wrap_i64]; omega
  clear h1
  go_enter Tryz.func50, Tryz.ntmps50
  go_wp2_with fail
  go_quiet (fail)
  go_wp2_with fail
  go_ret
  exact ⟨rfl, bN bR _⟩
theorem wal_span (p dp : Nat) (G : Lg) (S : List Nat) (w : World) (h : LogAt w p dp G S) : Calls Tryz.prog 97 #[.pointer (some ⟨p, 0, none⟩)] w fun e w' => e = .returned (.tuple #[.int .i64 G.start, .int .i64 G.fin, .int .i64 G.firm]) ∧ Below w.heap.size w w' := by
  obtain ⟨hok, bv, lv, h1, -⟩ := h
  have c3 : w.cell? ⟨p, 3, none⟩ = some (.int .i64 G.start) := cell_at h1 3
  have c4 : w.cell? ⟨p, 4, none⟩ = some (.int .i64 G.fin) := cell_at h1 4
  have c5 : w.cell? ⟨p, 5, none⟩ = some (.int .i64 G.firm) := cell_at h1 5
  clear h1 hok
  go_enter Tryz.func97, Tryz.ntmps97
  go_wp2_with fail
  go_quiet (fail)
  go_wp2_with fail
  go_ret3
  exact ⟨rfl, bN bR _⟩
end Go.Proofs.YtimomjheanfbmaaGreatDoor
