import Derived.Test.YtblakognnfilaaaDoorShelf
set_option linter.unusedSimpArgs false
set_option linter.unusedVariables false
namespace Go.Proofs.YtblakognnfilaaaDoor
open Go.Shelf
theorem Tryd.lays166 : Go.Proofs.Lays.n166 Tryd.prog Tryd.lays105_ren := { Tryd.lays105 with }
theorem Tryd.lays167 : Go.Proofs.Lays.n167 Tryd.prog Tryd.lays105_ren := { Tryd.lays105 with f167 := Tryd.func43.trans (congrArg some (by kernel_rfl)) }
theorem Tryd.lays169 : Go.Proofs.Lays.n169 Tryd.prog Tryd.lays105_ren := { Tryd.lays105 with }

open Go.RowKit
/-- a strings.Builder in block b, its buffer above it, that holds the bytes l -/
def BdAt (w : World) (b : Nat) (l : List UInt8) : Prop := Lib.IsBuilderF 48 5 b b (Lib.byteCells l) w
theorem BdAt.new (w : World) : BdAt (w.alloc (.cells #[.pointer none, .slice none 0 0] 48)) w.heap.size [] := Lib.IsBuilderF.of (Lib.fresh_isBuilder _ _ w)
theorem BdAt.lt {w : World} {b : Nat} {l : List UInt8} (h : BdAt w b l) : b < w.heap.size := h.elim (fun x => x.lt) (fun x => x.lt)
theorem BdAt.alloc {w : World} {b : Nat} {l : List UInt8} (h : BdAt w b l) (o : Obj) : BdAt (w.alloc o) b l := Lib.IsBuilderF.alloc h o
theorem BdAt.drew {w : World} {b : Nat} {l : List UInt8} (h : BdAt w b l) : BdAt w.drew b l := h
theorem BdAt.later {w w' : World} {b : Nat} {l : List UInt8} (h : BdAt w b l) (hb : Below w.heap.size w w') : BdAt w' b l := by
  have go : ∀ p, Lib.BuilderAtF 48 5 b b p (Lib.byteCells l) w → Lib.BuilderAtF 48 5 b b p (Lib.byteCells l) w' := by
    rintro p ⟨hB, v, hv, ho, hne⟩
    refine ⟨hB, v, hBs hb hv, ⟨ho.1, ?_⟩, hne⟩
    rcases ho.2 with h2 | ⟨g, cap, cur, fz, e, hbg, hg, r⟩
    · exact .inl h2
    · exact .inr ⟨g, cap, cur, fz, e, hbg, hBs hb hg, r⟩
  exact h.elim (fun x => .inl (go _ x)) (fun x => .inr (go _ x))
/-- the blocks beside the builder stand -/
theorem kept_block {w w' : World} {b k : Nat} {c : Array Value} {t : TypeId} {f : Nat × Nat} (h : Lib.OthersKept 5 (some b) w w') (hk : w.heap[k]? = some (.cells c t f)) (hkb : k ≠ b) (ht : t ≠ 5) :
    w'.heap[k]? = some (.cells c t f) := h k _ hk (fun e => hkb (Option.some.inj e)) (fun c' fz e => ht (by cases e; rfl))
theorem bd_string (b : Nat) (l : List UInt8) (s : ByteArray) (w : World) (h : BdAt w b l) (hlen : l.length + s.size ≤ 1048576) :
    Calls Tryd.prog 18 #[.pointer (some ⟨b, 0, none⟩), .string s] w fun e w' => e = .returned (.tuple #[.int .i64 s.size, .nilIface]) ∧ BdAt w' b (l ++ s.data.toList) ∧ Below b w w' ∧ Lib.OthersKept 5 (some b) w w' := by
  refine (Any.Builder_WriteString_k Tryd.lays166 Tryd.Builder_Extra_105 b b _ s w h (by rw [Lib.byteCells_length]; omega) (Nat.le_of_lt h.lt)).mono ?_
  rintro e w' ⟨rfl, h1, h2, h3⟩
  refine ⟨rfl, ?_, h2, h3⟩
  unfold BdAt
  rw [Lib.byteCells_append]
  exact .inr h1
theorem bd_byte (b : Nat) (l : List UInt8) (c : UInt8) (w : World) (h : BdAt w b l) (hlen : l.length ≤ 1048576) :
    Calls Tryd.prog 43 #[.pointer (some ⟨b, 0, none⟩), .int .u8 c.toNat] w fun e w' => e = .returned .nilIface ∧ BdAt w' b (l ++ [c]) ∧ Below b w w' ∧ Lib.OthersKept 5 (some b) w w' := by
  refine (Any.Builder_WriteByte_k Tryd.lays167 Tryd.Builder_Extra_105 b b _ (c.toNat : Int) w h (by rw [Lib.byteCells_length]; omega) (Nat.le_of_lt h.lt)).mono ?_
  rintro e w' ⟨rfl, h1, h2, h3⟩
  refine ⟨rfl, ?_, h2, h3⟩
  unfold BdAt
  rw [Lib.byteCells_append]
  exact .inr h1
theorem bd_done (b : Nat) (l : List UInt8) (w : World) (h : BdAt w b l) :
    Calls Tryd.prog 22 #[.pointer (some ⟨b, 0, none⟩)] w fun e w' => e = .returned (.string ⟨l.toArray⟩) ∧ Below b w w' := by
  refine (Any.Builder_String_any_k Tryd.lays169 Tryd.Builder_Extra_105 b b l w h (Nat.le_of_lt h.lt)).mono ?_
  rintro e w' ⟨rfl, h1, h2, h3⟩
  exact ⟨rfl, h2⟩
/-! ### strings.Repeat, of the byte 0 -/
theorem repeatL_zero : ∀ n, Lib.repeatL [0] n = List.replicate n 0
  | 0 => rfl
  | n + 1 => by rw [Lib.repeatL, repeatL_zero n]; rfl
theorem str_repeat (n : Nat) (hn : n ≤ 64) (w : World) :
    Calls Tryd.prog 44 #[.string ⟨#[0]⟩, .int .i64 n] w fun e w' => e = .returned (.string ⟨(List.replicate n (0 : UInt8)).toArray⟩) ∧ Below w.heap.size w w' := by
  refine (Tryd.strings_Repeat ⟨#[0]⟩ n w (by omega) (by show 1 * n ≤ _; omega)).mono ?_
  rintro e w' ⟨rfl, hb⟩
  refine ⟨?_, hb⟩
  show Ending.returned (Value.string ⟨(Lib.repeatL [0] n).toArray⟩) = _
  rw [repeatL_zero]
/-! ### strings.Trim, of the byte 0 -/
theorem str_trim (s : ByteArray) (hs : s.size ≤ 4096) (w : World) :
    Calls Tryd.prog 48 #[.string s, .string ⟨#[0]⟩] w fun e w' => e = .returned (.string ⟨(Lib.trimB s.data.toList 0).toArray⟩) ∧ Below w.heap.size w w' := by
  refine (Tryd.strings_Trim_one s 0 (by decide) w (by omega)).mono ?_
  rintro e w' ⟨rfl, h⟩
  refine ⟨rfl, ?_⟩
  rcases h with rfl | rfl
  · exact bR
  · exact bD bR
end Go.Proofs.YtblakognnfilaaaDoor