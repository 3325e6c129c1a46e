import Derived.Test.YtimomjheanfbmaaGreatDoorMbv
set_option linter.unusedSimpArgs false
set_option linter.unusedVariables false
namespace Go.Proofs.YtimomjheanfbmaaGreatDoor
open Go.RowKit

theorem lcl_info : (Tryz.prog.info? 35).map (·.size) = some 8 := by kernel_rfl
theorem un_info : (Tryz.prog.info? 42).map (·.size) = some 7 := by kernel_rfl
theorem un_cells (u : Un) : ∀ v ∈ unL u, v.oneCell' = true := fun v hv => by
  simp only [unL, List.mem_cons, List.not_mem_nil, or_false] at hv
  rcases hv with h | h | h | h | h | h | h <;> (subst h; rfl)
def lcZ : LCall := ⟨0, 0, 0, 0, 0, ⟨#[]⟩, 0, 0⟩
theorem lcL_cells (c : LCall) : ∀ v ∈ lcL c, v.oneCell' = true := fun v hv => by
  simp only [lcL, List.mem_cons, List.not_mem_nil, or_false] at hv
  rcases hv with h | h | h | h | h | h | h | h <;> (subst h; rfl)
theorem lc_at {w : World} {g : Nat} {c : LCall} {T : TypeId} (h : w.heap[g]? = some (.cells (lcL c).toArray T (0, 0))) : w.cell? ⟨g, 0, none⟩ = some (.int .i64 c.kind) ∧ w.cell? ⟨g, 1, none⟩ = some (.int .i64 c.x) ∧ w.cell? ⟨g, 7, none⟩ = some (.int .i64 c.n) :=
  ⟨cell_at h 0, cell_at h 1, cell_at h 7⟩
theorem cell_keep {a b : World} {g q j : Nat} {v : Value} (hk : Keeps (· = g) a b) (hq : q ≠ g) (hc : a.cell? ⟨q, j, none⟩ = some v) : b.cell? ⟨q, j, none⟩ = some v := by
  have hlt : q < a.heap.size := World.block_lt_of_cell? a ⟨q, j, none⟩ (by rw [hc])
  have h1 := hk.block q hlt hq
  unfold World.cell? at hc ⊢
  rw [h1]
  exact hc
/-- what 'm.Pages[images[0].Id] = images[0].Page' reads -/
def MpS (m g ib pi : Nat) (P : Pg) (w : World) : Prop := w.cell? ⟨m, 6, none⟩ = some (.slice (some ⟨g, 0, none⟩) 6 6) ∧ w.cell? ⟨ib, 0, none⟩ = some (.int .i64 pi) ∧ w.rangeAt ib 1 (pgC P).toList
theorem mps_of {w : World} {m g ib pi : Nat} {P : Pg} {f : Nat → Pg} {T : TypeId} (hm : Mx w m g f) (hi : w.heap[ib]? = some (.cells (imA ((pi : Int), P)) T (0, 0))) : MpS m g ib pi P w :=
  ⟨hm.cell, cell_at hi 0, fun j v hj => by
    rw [cell_at hi]
    show (imA ((pi : Int), P))[1 + j]? = some v
    rw [← Array.getElem?_toList, Nat.add_comm]
    exact hj⟩
section
variable {w0 w w' : World} {L : List Nat} {c lp p dp pg lb mb n : Nat} {lv : Value} {σ : CS}
theorem Cx.loc (h : Cx w0 w L c lp p dp pg lb mb n lv σ) {S : Nat → Prop} (hk : Keeps S w w') (hS : ∀ q, S q → q ∈ L ∧ w0.heap.size ≤ q) : Cx w0 w' L c lp p dp pg lb mb n lv σ :=
  ⟨h.ch.keep hk (fun q hq hs => (h.hi q hq).2 (hS q hs).1), h.kx.keep3 hk (fun q hq => ⟨List.mem_append_right _ (hS q hq).1, (hS q hq).2⟩), h.hi, h.most, h.ok, h.cn⟩
end
end Go.Proofs.YtimomjheanfbmaaGreatDoor
