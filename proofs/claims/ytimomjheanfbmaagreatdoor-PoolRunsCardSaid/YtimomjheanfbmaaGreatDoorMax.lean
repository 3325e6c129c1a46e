import Derived.Test.YtimomjheanfbmaaGreatDoorMaw
import Derived.LoopN
set_option linter.unusedSimpArgs false
set_option linter.unusedVariables false
namespace Go.Proofs.YtimomjheanfbmaaGreatDoor
open Go.RowKit

set_option maxRecDepth 100000 in
theorem pl_wrong {w : World} {p dp lp : Nat} {X : Pl} {sv : Value} {S : List Nat} (h : PoolAt w p dp lp X sv S) (id : Int) :
    Calls Tryz.prog 75 #[.pointer (some ⟨p, 0, none⟩), .int .i64 id] w fun e w' => e = .returned (.bool (decide (id < 0) || decide ((X.pages : Int) ≤ id))) ∧ Below w.heap.size w w' := by
  obtain ⟨-, h1, -⟩ := h
  have c3 : w.cell? ⟨p, 3, none⟩ = some (.int .i64 X.pages) := cell_at h1 3
  clear h1
  by_cases h0 : id < 0
  · go_enter Tryz.func75, Tryz.ntmps75
    go_wp2_with fail
    go_ret
    exact ⟨by simp [h0], bR⟩
  · have h0' : decide (id < 0) = false := by simpa using h0
    go_enter Tryz.func75, Tryz.ntmps75
    go_wp2_with fail
    go_ret
    exact ⟨by simp [h0], bR⟩
set_option maxRecDepth 100000 in
theorem pl_findc (s : Slot) (id : Int) (b : Nat) (w : World) (hb : w.cell? ⟨b, 0, none⟩ = some (.int .i64 id)) (hbl : b < w.heap.size) :
    Calls Tryz.prog 119 #[.agg (slC s).toArray, .pointer (some ⟨b, 0, none⟩)] w fun e w' => e = .returned (.bool (decide (s.id = id))) ∧ Below w.heap.size w w' := by
  have hC : (slC s).toArray = #[.int .i64 s.id, .int .i64 s.P.kind, .int .i64 s.P.level, .int .i64 s.P.store, .int .i64 s.P.next, .int .i64 (s.P.st 0), .string (s.P.dt 0), .int .i64 (s.P.st 1), .string (s.P.dt 1), .int .i64 (s.P.st 2), .string (s.P.dt 2),
    .int .i64 (s.P.st 3), .string (s.P.dt 3), .int .i64 (s.P.st 4), .string (s.P.dt 4), .int .i64 (s.P.st 5), .string (s.P.dt 5), .int .i64 s.st, .bool s.dirty, .bool s.warm] := rfl
  rw [hC]
  clear hC
  have hb' : (w.alloc (.cells #[.int .i64 s.id, .int .i64 s.P.kind, .int .i64 s.P.level, .int .i64 s.P.store, .int .i64 s.P.next, .int .i64 (s.P.st 0), .string (s.P.dt 0), .int .i64 (s.P.st 1), .string (s.P.dt 1), .int .i64 (s.P.st 2), .string (s.P.dt 2),
    .int .i64 (s.P.st 3), .string (s.P.dt 3), .int .i64 (s.P.st 4), .string (s.P.dt 4), .int .i64 (s.P.st 5), .string (s.P.dt 5), .int .i64 s.st, .bool s.dirty, .bool s.warm] 166)).cell? ⟨b, 0, none⟩ = some (.int .i64 id) := by
    rw [← hb]
    unfold World.cell?
    rw [Below.heap_alloc _ _ _ hbl]
  by_cases he : s.id = id
  · have hd : (s.id == id) = true := by simpa using he
    rw [decide_eq_true he]
    replace he := Lib.hid he
    go_enter Tryz.func119, Tryz.ntmps119
    go_wp2_with fail
    go_ret
    exact ⟨rfl, bA bR⟩
  · have hd : (s.id == id) = false := by simpa using he
    rw [decide_eq_false he]
    replace he := Lib.hid he
    go_enter Tryz.func119, Tryz.ntmps119
    go_wp2_with fail
    go_ret
    exact ⟨rfl, bA bR⟩
theorem slot_range {w : World} {g n c : Nat} {l : List Slot} (h : OwnS w 166 20 (.slice (some ⟨g, 0, none⟩) n c) n (slV l)) (i : Nat) (s : Slot) (hi : l[i]? = some s) : w.rangeAt g (i * 20) (slC s) := fun j v hj => by
  have hjl : j < 20 := by
    have := (List.getElem?_eq_some_iff.1 hj).1
    rwa [slC_length] at this
  have h2 : (slV l)[20 * i + j]? = some v := by rw [slV_get l i j hjl, hi]; exact hj
  have := World.ownsRow.cells h (g := g) rfl (20 * i + j) v h2
  rw [Addr.add_mid, Nat.zero_add] at this
  rw [Nat.mul_comm i 20]
  exact this
set_option maxRecDepth 100000 in
set_option maxHeartbeats 400000 in
theorem pl_index {w : World} {sv : Value} {l : List Slot} {n : Nat} (hn : l.length = n) (hn2 : n ≤ 256) (h : OwnS w 166 20 sv n (slV l)) (id : Int) (b : Nat) (hb : w.cell? ⟨b, 0, none⟩ = some (.int .i64 id)) (hbl : b < w.heap.size) :
    Calls Tryz.prog 118 #[sv, .func (.func 119) #[] #[.pointer (some ⟨b, 0, none⟩)]] w fun e w' => ((∃ i : Nat, ∃ s, l[i]? = some s ∧ s.id = id ∧ (∀ j s', j < i → l[j]? = some s' → s'.id ≠ id) ∧ e = .returned (.int .i64 i)) ∨ ((∀ s ∈ l, s.id ≠ id) ∧ e = .returned (.int .i64 (-1)))) ∧ Below w.heap.size w w' := by
  obtain ⟨a, c, rfl⟩ := h.form
  have H := Lib.hid h
  replace hn := Lib.hid hn
  clear h
  go_enter Tryz.func118, Tryz.ntmps118
  go_wp2_with fail
  go_loopw [8] (fun x wr => ∃ k : Nat, k ≤ n ∧ x = .int .i64 k ∧ Hid (∀ j s', j < k → l[j]? = some s' → s'.id ≠ id) ∧ Hid (Below w.heap.size w wr)) (fun x _ => n - (intOf x).toNat)
  case atStart => exact ⟨0, by omega, rfl, fun j s' hj => by omega, bR⟩
  case round =>
    obtain ⟨k, hk, rfl, hlo, HB⟩ := hrel
    by_cases hkn : k < n
    · have hkI : (k : Int) < n := by omega
      obtain ⟨g, rfl⟩ : ∃ g, a = some ⟨g, 0, none⟩ := by
        obtain ⟨g, c', he⟩ := H.out.has (by omega)
        exact ⟨g, by simpa using congrArg (fun v => match v with | .slice a _ _ => a | _ => none) he⟩
      obtain ⟨s, hs⟩ : ∃ s, l[k]? = some s := ⟨_, List.getElem?_eq_getElem (by rw [hn.out]; omega)⟩
      have HR := Lib.hid (slot_range (H.out.keep (Keeps.of_below (fun _ => False) HB.out) (fun _ _ h => h)) k s hs)
      have hbr : wr.cell? ⟨b, 0, none⟩ = some (.int .i64 id) := by
        rw [← hb]; unfold World.cell?; rw [HB.out.block b hbl]
      have HC := Lib.hid (pl_findc s id b wr hbr (Nat.lt_of_lt_of_le hbl HB.out.size))
      clear hbr
      replace hs := Lib.hid hs
      have hCl : (Tryz.prog.info? 166).map (·.size) = some (slC s).length := by kernel_rfl
      obtain ⟨C, hC⟩ : ∃ C, slC s = C := ⟨_, rfl⟩
      rw [hC] at HR HC hCl
      replace hC := Lib.hid hC
      replace hCl := Lib.hid hCl
      go_wp2_with (refine wpList_load_mid rfl 166 _ rfl g (k * 20) rfl C _ HR.out Tryz.underlying166 rfl hCl.out ?_)
      refine (HC.out).mono ?_
      rintro e w5 ⟨rfl, hb5⟩
      have HB5 := Lib.hid (bT HB.out hb5)
      clear hb5 HC HR
      by_cases hid : s.id = id
      · rw [decide_eq_true hid]
        replace hid := Lib.hid hid
        go_wp2_with fail
        go_ret
        exact ⟨.inl ⟨k, s, hs.out, hid.out, hlo.out, rfl⟩, HB5.out⟩
      · rw [decide_eq_false hid]
        replace hid := Lib.hid hid
        go_wp2_with fail
        go_roundw
        case rel => exact ⟨k + 1, by omega, rfl, fun j s' hj hl he => by
          by_cases hjk : j = k
          · subst hjk
            rw [hs.out] at hl
            injection hl with hl
            subst hl
            exact hid.out he
          · exact hlo.out j s' (by omega) hl he, HB5⟩
        case measure => simp [intOf]; omega
    · obtain rfl : k = n := by omega
      go_wp2_with fail
      go_ret
      exact ⟨.inr ⟨fun s hs he => by
        obtain ⟨j, hj, rfl⟩ := List.getElem_of_mem hs
        exact hlo.out j _ (by rw [← hn.out]; exact hj) (List.getElem?_eq_getElem hj) he, rfl⟩, HB.out⟩
set_option maxRecDepth 100000 in
theorem pl_find {w : World} {p dp lp : Nat} {X : Pl} {sv : Value} {S : List Nat} (h : PoolAt w p dp lp X sv S) (id : Int) :
    Calls Tryz.prog 76 #[.pointer (some ⟨p, 0, none⟩), .int .i64 id] w fun e w' => ((∃ i : Nat, ∃ s, X.slots[i]? = some s ∧ s.id = id ∧ (∀ j s', j < i → X.slots[j]? = some s' → s'.id ≠ id) ∧ e = .returned (.int .i64 i)) ∨ ((∀ s ∈ X.slots, s.id ≠ id) ∧ e = .returned (.int .i64 (-1)))) ∧ Below w.heap.size w w' := by
  obtain ⟨hok, h1, h2, -⟩ := h
  obtain ⟨-, -, -, -, o1, o2, -⟩ := hok
  have hbox : (w.alloc (.cells #[.int .i64 id] 3)).cell? ⟨w.heap.size, 0, none⟩ = some (.int .i64 id) := cell_at (hN rfl) 0
  have h5 : (w.alloc (.cells #[.int .i64 id] 3)).cell? ⟨p, 5, none⟩ = some sv := cell_at (hO h1) 5
  have hO2 : OwnS (w.alloc (.cells #[.int .i64 id] 3)) 166 20 sv X.slots.length (slV X.slots) := h2.keep ((Keeps.refl (fun _ => False) w).alloc _) (fun _ _ h => h)
  have HI := Lib.hid (pl_index rfl (by omega) hO2 id w.heap.size hbox (by simp))
  obtain ⟨a, c, rfl⟩ := h2.form
  clear h1 h2 hO2 hbox
  go_enter Tryz.func76, Tryz.ntmps76
  go_wp2_with fail
  refine (HI.out).mono ?_
  rintro e w5 ⟨h, hb⟩
  have HB5 := Lib.hid (show Below w.heap.size w w5 from (bA bR).trans (hb.mono (by simp)))
  clear hb HI
  rcases h with ⟨i, s, e1, e2, e3, rfl⟩ | ⟨e1, rfl⟩
  · have hfin := Lib.hid (And.intro e1 (And.intro e2 e3))
    clear e1 e2 e3
    go_wp2_with fail
    go_ret
    exact ⟨.inl ⟨i, s, hfin.out.1, hfin.out.2.1, hfin.out.2.2, rfl⟩, HB5.out⟩
  · have hfin := Lib.hid e1
    clear e1
    go_wp2_with fail
    go_ret
    exact ⟨.inr ⟨hfin.out, rfl⟩, HB5.out⟩
end Go.Proofs.YtimomjheanfbmaaGreatDoor
