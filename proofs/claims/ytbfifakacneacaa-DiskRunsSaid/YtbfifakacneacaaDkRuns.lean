import Derived.Test.YtbfifakacneacaaDkRefE
import Derived.Test.YtbfifakacneacaaDkLast
import Derived.Deep.RegionHeld3
set_option linter.unusedSimpArgs false
set_option linter.unusedVariables false
namespace Go.Proofs.Ytbfifakacneacaa
open Go.RowKit

structure CallA where
  kind : Int
  sector : Int
  data : ByteArray
  kv : Value
  ks : List Bool
def callCells (c : CallA) : List Value := [.int .i64 c.kind, .int .i64 c.sector, .string c.data, c.kv]
def CallsAt (w : World) (v : Value) (cs : List CallA) : Prop := Sl w v 4 (cs.map callCells) ∧ ∀ c ∈ cs, (-9223372036854775808 ≤ c.kind ∧ c.kind ≤ 9223372036854775807) ∧ (-9223372036854775808 ≤ c.sector ∧ c.sector ≤ 9223372036854775807) ∧ c.data.size ≤ maxLen ∧ BoolsAt w w.heap.size c.kv c.ks
theorem flatCall : flat Try.prog 3 50 = some [.i .i64, .i .i64, .s, .sl 23] := by kernel_rfl
theorem calls_of {H : Type} {enc : TypeId × Value → H} {W : World} {base : Nat} {v : Value} {d : DataW H} {p : List MemPlace} (hok : Value.okWide Try.prog W .any base 46 v)
    (h : DataW.Trod enc Try.prog W 0 (fun _ => true) true 46 v d p) (hsz : ∀ n ∈ d.weights Try.prog 46, n ≤ reachBytes) : ∃ cs, CallsAt W v cs ∧ cs.length * 56 ≤ 140737488351232 := by
  obtain ⟨xs, hs, hd, hx⟩ := Sl_of2 Try.underlying46 (show Try.prog.cellsOf 50 = 4 by kernel_rfl) (by omega) (Go.WideShapes.okWide_slice Try.underlying46 hok) h
  have : ∀ x ∈ xs, ∃ c : CallA, x = callCells c ∧ ((-9223372036854775808 ≤ c.kind ∧ c.kind ≤ 9223372036854775807) ∧ (-9223372036854775808 ≤ c.sector ∧ c.sector ≤ 9223372036854775807) ∧ c.data.size ≤ maxLen ∧ BoolsAt W W.heap.size c.kv c.ks) := by
    intro x hxm
    obtain ⟨hl, fuel, y, hy⟩ := hx x hxm
    have hfa := fa_flat 3 _ _ flatCall fuel x y hy
    obtain ⟨c0, r0, rfl, ⟨n, rfl, wn⟩, g1⟩ := fa1 hfa
    obtain ⟨c1, r1, rfl, ⟨m, rfl, wm⟩, g2⟩ := fa1 g1
    obtain ⟨c2, r2, rfl, ⟨s, rfl, ws⟩, g3⟩ := fa1 g2
    obtain ⟨c3, r3, rfl, ⟨f3, dd, pp, tt⟩, g4⟩ := fa1 g3
    obtain rfl := fa0 g4
    obtain ⟨ks, S1⟩ := bools_of_trod f3 tt
    exact ⟨⟨n, m, s, c3, ks⟩, rfl, bounds_i64 wn, bounds_i64 wm, ws, S1⟩
  obtain ⟨cs, rfl, ha⟩ := list_of this
  refine ⟨cs, ⟨hs, ha⟩, ?_⟩
  rcases hd with ⟨_, h0⟩ | ⟨el, sp, e, hl⟩
  · rw [List.map_eq_nil_iff] at h0; subst h0; simp
  · have := hsz ((el.length + sp.length) * Try.prog.bytesOf 50) (by
      rw [e]
      simp [DataW.weights, Try.underlying46])
    rw [show Try.prog.bytesOf 50 = 56 from by kernel_rfl, hl, List.length_map, Nat.add_mul] at this
    have e : reachBytes = 140737488351232 := rfl
    omega
theorem CallsAt.form {w : World} {v : Value} {cs : List CallA} (h : CallsAt w v cs) : ∃ a c, v = .slice a cs.length c := by
  obtain ⟨⟨a, c, hv, -⟩, -⟩ := h
  rw [List.length_map] at hv
  exact ⟨a, c, hv⟩
theorem CallsAt.at {w wr : World} {a : Option Addr} {n c : Nat} {cs : List CallA} (h : CallsAt w (.slice a n c) cs) (hb : Below w.heap.size w wr) (k : Nat) (hk : k < cs.length) :
    ∃ b off, a = some ⟨b, off, none⟩ ∧ b < w.heap.size ∧ wr.cell? ⟨b, off + k * 4, none⟩ = some (.int .i64 cs[k].kind) ∧ wr.cell? ⟨b, off + k * 4 + 1, none⟩ = some (.int .i64 cs[k].sector) ∧ wr.cell? ⟨b, off + k * 4 + 2, none⟩ = some (.string cs[k].data) ∧ wr.cell? ⟨b, off + k * 4 + 3, none⟩ = some cs[k].kv := by
  obtain ⟨⟨a', c', hv, hl, hx⟩, hs⟩ := h
  simp only [Value.slice.injEq] at hv
  obtain ⟨rfl, rfl, rfl⟩ := hv
  obtain ⟨b, off, rfl, hbl, hc⟩ := hx (by intro e; rw [List.map_eq_nil_iff] at e; subst e; simp at hk)
  have hg : ((cs.map callCells)[k]?.getD []) = callCells cs[k] := by simp [List.getElem?_eq_getElem hk]
  have hcc := fun j hj => hc k (by simpa using hk) j hj
  rw [hg] at hcc
  refine ⟨b, off, rfl, hbl, ?_, ?_, ?_, ?_⟩
  · rw [hb.cell (p := ⟨b, off + k * 4, none⟩) hbl]; exact hcc 0 (by omega)
  · rw [hb.cell (p := ⟨b, off + k * 4 + 1, none⟩) hbl]; exact hcc 1 (by omega)
  · rw [hb.cell (p := ⟨b, off + k * 4 + 2, none⟩) hbl]; exact hcc 2 (by omega)
  · rw [hb.cell (p := ⟨b, off + k * 4 + 3, none⟩) hbl]; exact hcc 3 (by omega)
/-- both devices, side by side -/
def Two (B : Nat) (w : World) (p m : Nat) (D E : Dev) (R T : List Nat) : Prop := DiskAt w p D R ∧ RefAt w m E T ∧ (∀ b ∈ R, B ≤ b) ∧ (∀ b ∈ T, B ≤ b) ∧ ∀ b ∈ R, b ∉ T
theorem Two.later {B : Nat} {w w' : World} {p m : Nat} {D E : Dev} {R T : List Nat} (h : Two B w p m D E R T) (hb : Below w.heap.size w w') : Two B w' p m D E R T :=
  ⟨h.1.later hb, h.2.1.later hb, h.2.2⟩
theorem Two.dev {B : Nat} {w w' : World} {p m p' : Nat} {D E D' : Dev} {R T R' : List Nat} (h : Two B w p m D E R T) (hB : B ≤ w.heap.size) (hD : DiskAt w' p' D' R') (hk : Keeps (· ∈ R) w w') (hR : ∀ k ∈ R', k ∈ R ∨ w.heap.size ≤ k) : Two B w' p' m D' E R' T :=
  ⟨hD, h.2.1.keep hk (fun k hk' h' => h.2.2.2.2 k h' hk'), fun b hb => (hR b hb).elim (h.2.2.1 b) (fun h' => Nat.le_trans hB h'), h.2.2.2.1, fun b hb hb' => (hR b hb).elim (fun h' => h.2.2.2.2 b h' hb') (fun h' => by have := h.2.1.lt b hb'; omega)⟩
theorem Two.ref {B : Nat} {w w' : World} {p m m' : Nat} {D E E' : Dev} {R T T' : List Nat} (h : Two B w p m D E R T) (hB : B ≤ w.heap.size) (hE : RefAt w' m' E' T') (hk : Keeps (· ∈ T) w w') (hT : ∀ k ∈ T', k ∈ T ∨ w.heap.size ≤ k) : Two B w' p m' D E' R T' :=
  ⟨h.1.keep hk (fun k hk' h' => h.2.2.2.2 k hk' h'), hE, h.2.2.1, fun b hb => (hT b hb).elim (h.2.2.2.1 b) (fun h' => Nat.le_trans hB h'), fun b hb hb' => (hT b hb').elim (fun h' => h.2.2.2.2 b hb h') (fun h' => by have := h.1.lt b hb; omega)⟩
/-- writes on a third device's blocks leave both -/
theorem Two.mk2 {B : Nat} {w w' : World} {p m : Nat} {D E : Dev} {R T U : List Nat} (h : Two B w p m D E R T) (hR : ∀ b ∈ U, b ∉ R) (hT : ∀ b ∈ U, b ∉ T) (hk : Keeps (· ∈ U) w w') : Two B w' p m D E R T :=
  ⟨h.1.keep hk (fun k h1 h2 => hR k h2 h1), h.2.1.keep hk (fun k h1 h2 => hT k h2 h1), h.2.2⟩
def RunInv (n k : Nat) (D : Dev) : Prop := D.Good ∧ D.firm.length = n ∧ D.soft.length ≤ k
theorem write_firm (D : Dev) (s : Int) (d : ByteArray) : (D.write s d).1.firm = D.firm ∧ (D.write s d).1.soft.length ≤ D.soft.length + 1 := by
  obtain ⟨e1, e2, e3⟩ := burn_same D
  unfold Dev.write
  split
  · exact ⟨rfl, by simp⟩
  · split
    · exact ⟨rfl, by simp⟩
    · split
      · exact ⟨e1, by rw [e3]; simp⟩
      · exact ⟨e1, by show (D.burn.1.soft ++ _).length ≤ _; rw [e3]; simp⟩
theorem run_write {n k : Nat} {D : Dev} (h : RunInv n k D) (s : Int) (d : ByteArray) : RunInv n (k + 1) (D.write s d).1 := by
  obtain ⟨h1, h2, h3⟩ := h
  obtain ⟨e1, e2⟩ := write_firm D s d
  exact ⟨good_write h1 s d, by rw [e1]; exact h2, by omega⟩
theorem run_barrier {n k : Nat} {D : Dev} (hok : DevOk D) (h : RunInv n k D) : RunInv n (k + 1) D.barrier.1 := by
  obtain ⟨h1, h2, h3⟩ := h
  obtain ⟨e1, e2, e3⟩ := burn_same D
  refine ⟨good_barrier h1, ?_, ?_⟩
  · unfold Dev.barrier
    split
    · exact h2
    · split
      · rw [e1]; exact h2
      · show D.burn.1.seen.length = n; rw [e2, hok.2.2.1, h2]
  · unfold Dev.barrier
    split
    · show D.soft.length ≤ _; omega
    · split
      · show D.burn.1.soft.length ≤ _; rw [e3]; omega
      · simp
theorem run_fuel {n k : Nat} {D : Dev} (h : RunInv n k D) (x : Int) : RunInv n (k + 1) { D with fuel := x } := ⟨h.1, h.2.1, by show D.soft.length ≤ _; have := h.2.2; omega⟩
theorem run_after {n k : Nat} {D : Dev} (h : RunInv n k D) (ks : List Bool) : RunInv n (k + 1) (D.after ks) := ⟨good_after D ks, by show (crashTo _ _ _ _).length = n; rw [crashTo_length]; exact h.2.1, by show ([] : List (Int × ByteArray)).length ≤ _; simp⟩
theorem run_mono {n k : Nat} {D : Dev} (h : RunInv n k D) : RunInv n (k + 1) D := ⟨h.1, h.2.1, by have := h.2.2; omega⟩
theorem ref_soft {w : World} {p : Nat} {D : Dev} {S : List Nat} (h : RefAt w p D S) : ∃ a c, w.cell? ⟨p, 1, none⟩ = some (.slice a D.soft.length c) := by
  obtain ⟨_, fv, sv, h1, _, h3, _⟩ := h
  obtain ⟨a, c, rfl⟩ := h3.form
  exact ⟨a, c, cell_at h1 1⟩
theorem ref_fuel {w : World} {p : Nat} {D : Dev} {S : List Nat} (x : Int) (h0 : -1 ≤ x) (h1 : x ≤ 9223372036854775807) (h : RefAt w p D S) : w.cell? ⟨p, 2, none⟩ = some (.int .i64 D.fuel) ∧ w.frozen? ⟨p, 2, none⟩ = false ∧ RefAt (w.setCell ⟨p, 2, none⟩ (.int .i64 x)) p { D with fuel := x } S := by
  obtain ⟨hok, fv, sv, h1', h2, h3, rfl, h6⟩ := h
  exact ⟨cell_at h1' 2, free_at h1' 2, ref_put (D' := { D with fuel := x }) h6 ⟨hok.1, hok.2.1, hok.2.2.1, hok.2.2.2.1, h0, h1, hok.2.2.2.2.2.2⟩ ((Keeps.refl (· = p) w).setCell _ _ (.inl rfl)) (heap_set h1' 2 _) h2 h3⟩
theorem down_ref {D : Dev} : ({ D with down := true } : Dev).read 0 = (⟨#[]⟩, 20) := rfl
end Go.Proofs.Ytbfifakacneacaa
