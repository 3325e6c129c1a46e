import Derived.Test.YtdkilpjebmhkkaaDoorMad
set_option linter.unusedSimpArgs false
set_option linter.unusedVariables false
namespace Go.Proofs.YtdkilpjebmhkkaaDoor
open Go.RowKit

/-- what stands behind a crash, after the first i of the soft ones -/
def crashTo (now : List ByteArray) (soft : List (Int × ByteArray)) (keep : List Bool) : Nat → List ByteArray
  | 0 => now
  | i + 1 => if i < keep.length ∧ keep.getD i false = true then (crashTo now soft keep i).set (soft.getD i (0, ⟨#[]⟩)).1.toNat (soft.getD i (0, ⟨#[]⟩)).2 else crashTo now soft keep i
theorem crashTo_length (now : List ByteArray) (soft : List (Int × ByteArray)) (keep : List Bool) : ∀ i, (crashTo now soft keep i).length = now.length
  | 0 => rfl
  | i + 1 => by
    unfold crashTo
    split
    · rw [List.length_set, crashTo_length now soft keep i]
    · exact crashTo_length now soft keep i
theorem crashTo_size (now : List ByteArray) (soft : List (Int × ByteArray)) (keep : List Bool) (h1 : ∀ s ∈ now, s.size = 64) (h2 : ∀ x ∈ soft, x.2.size = 64) : ∀ i, i ≤ soft.length → ∀ s ∈ crashTo now soft keep i, s.size = 64
  | 0, _ => h1
  | i + 1, hi => by
    intro s hs
    unfold crashTo at hs
    split at hs
    · rcases List.mem_or_eq_of_mem_set hs with h | h
      · exact crashTo_size now soft keep h1 h2 i (by omega) s h
      · rw [h, List.getD_eq_getElem?_getD, List.getElem?_eq_getElem (by omega)]
        exact h2 _ (List.getElem_mem _)
    · exact crashTo_size now soft keep h1 h2 i (by omega) s hs
def Dev.after (D : Dev) (keep : List Bool) : Dev := { firm := crashTo D.firm D.soft keep D.soft.length, soft := [], seen := crashTo D.firm D.soft keep D.soft.length, fuel := -1, down := false }
theorem Dev.after_ok {D : Dev} (h : DevOk D) (keep : List Bool) : DevOk (D.after keep) := by
  obtain ⟨h1, h2, h3, h4, h5, h6, h7, h8⟩ := h
  have hs := crashTo_size D.firm D.soft keep h8 (fun x hx => (h4 x hx).2.2) D.soft.length (Nat.le_refl _)
  have hl := crashTo_length D.firm D.soft keep D.soft.length
  exact ⟨by show 0 < (crashTo _ _ _ _).length; omega, by show (crashTo _ _ _ _).length ≤ _; omega, rfl, by simp [Dev.after], by show (-1 : Int) ≤ -1; omega, by show (-1 : Int) ≤ _; omega, hs, hs⟩
/-- a slice of truth values whose cells lie below N -/
def BoolsAt (w : World) (N : Nat) (v : Value) (ks : List Bool) : Prop :=
  ∃ a c, v = .slice a ks.length c ∧ ks.length ≤ maxLen ∧ (ks ≠ [] → ∃ b off, a = some ⟨b, off, none⟩ ∧ b < N ∧ ∀ i, i < ks.length → w.cell? ⟨b, off + i, none⟩ = some (.bool (ks.getD i false)))
theorem BoolsAt.keep {R : Nat → Prop} {w w' : World} {N : Nat} {v : Value} {ks : List Bool} (h : BoolsAt w N v ks) (hk : Keeps R w w') (hN : N ≤ w.heap.size) (hR : ∀ k, R k → N ≤ k) : BoolsAt w' N v ks := by
  obtain ⟨a, c, h1, h2, h3⟩ := h
  refine ⟨a, c, h1, h2, fun hne => ?_⟩
  obtain ⟨b, off, e1, e2, e3⟩ := h3 hne
  refine ⟨b, off, e1, e2, fun i hi => ?_⟩
  rw [← e3 i hi]
  unfold World.cell?
  rw [hk.block b (by omega) (fun hr => by have := hR b hr; omega)]
theorem BoolsAt.nil (w : World) (N : Nat) : BoolsAt w N (.slice none 0 0) [] := ⟨none, 0, rfl, by simp, fun h => (h rfl).elim⟩
theorem BoolsAt.mono {w : World} {N M : Nat} {v : Value} {ks : List Bool} (h : BoolsAt w N v ks) (hNM : N ≤ M) : BoolsAt w M v ks := by
  obtain ⟨a, c, h1, h2, h3⟩ := h
  exact ⟨a, c, h1, h2, fun hne => let ⟨b, off, e1, e2, e3⟩ := h3 hne; ⟨b, off, e1, by omega, e3⟩⟩
set_option maxHeartbeats 1600000 in
set_option maxRecDepth 100000 in
theorem dsk_crash (p : Nat) (D : Dev) (S : List Nat) (N : Nat) (kv : Value) (keep : List Bool) (w : World) (h : DiskAt w p D S) (hk : BoolsAt w N kv keep) (hN : N ≤ w.heap.size) (hS : ∀ k ∈ S, N ≤ k) :
    Calls Tryd.prog 19 #[.pointer (some ⟨p, 0, none⟩), kv] w fun e w' => ∃ p' S',
      e = .returned (.pointer (some ⟨p', 0, none⟩)) ∧ DiskAt w' p { D with down := true } S ∧ DiskAt w' p' (D.after keep) S' ∧ Keeps (· = p) w w' ∧ ∀ k ∈ S', w.heap.size ≤ k := by
  obtain ⟨i1, hj, hy0, hy1, hy2⟩ := info_parts Tryd.info_st
  have hok' := Lib.hid (Dev.after_ok h.1 keep)
  have HD := Lib.hid h
  have hdn : DevOk { D with down := true } := h.1
  have hdn := Lib.hid hdn
  obtain ⟨hok, fv, sv, ev, h1, h2, h3, h4, hS', h6⟩ := h
  obtain ⟨hn, hm, hsl, hso, -⟩ := hok
  obtain ⟨g, c, rfl⟩ := h2.has hn
  obtain ⟨sa, sc, hsv⟩ := h3.form
  have hsoftmax : D.soft.length ≤ maxLen := by
    rcases h3.2 with ⟨_, h⟩ | ⟨_, _, _, _, _, _, h, h', _⟩
    · omega
    · omega
  unfold maxLen at hsoftmax
  obtain ⟨ka, kc, rfl, hkl, hkc⟩ := hk
  unfold maxLen at hkl
  have hgS : g < w.heap.size := h2.lt (by simp [blk, Value.ownBlock])
  have C0 := cell_at h1 0
  have C1 := cell_at h1 1
  have C4 := cell_at h1 4
  have hplt := block_lt h1
  have HK := Lib.hid hkc
  have HSO := Lib.hid hso
  have H1 := Lib.hid h1
  have H2 := Lib.hid h2
  have H3 := Lib.hid h3
  have HS := Lib.hid hS'
  have hSN := Lib.hid hS
  clear h2 h3 h4 hS' h6 hkc hso hS h1
  subst hsv
  go_enter Tryd.func19, Tryd.ntmps19
  go_wp2_with ((at_builtin; go_must (refine wpList_append_frame _ rfl _ _ 74 rfl 9 i1 (.string .empty) 1 16 Tryd.underlying74 hj hy0 hy1 hy2 rfl (by decide) _ _ _ rfl (OwnS.nil w 9 1) ⟨g, 0, none⟩ D.firm.length c (strV D.firm) rfl (by rw [strV_length]; omega) (World.ownsRow.cells H2.out (g := g) rfl) (strV_oneCell _) (by unfold maxLen; omega) (by omega) ?_)); rintro v4 w4 ho4 hk4 hb4 hn4; (simp only [Nat.zero_add, List.nil_append] at ho4 hb4); (obtain ⟨g4, c4, rfl⟩ := ho4.has hn); (replace hk4 : Keeps (fun _ => False) w w4 := hk4.mono (fun i _ h => by simp [blk, Value.ownBlock, Act.eval] at h)); (have hg4 : w.heap.size ≤ g4 := (hb4 g4 (by simp [blk, Value.ownBlock])).elim (fun h => by simp [blk, Value.ownBlock, Act.eval] at h) id); (have HP4 := Lib.hid (hk4.keep H1.out (fun h => h))); (have D1 := cell_at HP4.out 1); (have HO4 := Lib.hid ho4); (have HK4 := Lib.hid hk4); clear ho4 hk4 hb4 hn4)
  have hg4w : g4 < w4.heap.size := HO4.out.lt (by simp [blk, Value.ownBlock])
  have hww4 : w.heap.size ≤ w4.heap.size := HK4.out.size
  go_loopw [20] (fun i wr => ∃ (k : Nat), k ≤ D.soft.length ∧ i = .int .i64 k ∧ Hid (OwnS wr 9 1 (.slice (some ⟨g4, 0, none⟩) D.firm.length c4) D.firm.length (strV (crashTo D.firm D.soft keep k))) ∧ Below w.heap.size w wr) (fun i _ => D.soft.length - (intOf i).toNat)
  case atStart => exact ⟨0, by omega, rfl, HO4, HK4.out.below⟩
  case round =>
    obtain ⟨k, hk, rfl, HO, hbr⟩ := hrel
    have HBr := Lib.hid hbr
    clear hbr
    by_cases hkn : k < D.soft.length
    · have hd1 : (k : Int) < D.soft.length := by omega
      obtain ⟨gs, cs', hsv⟩ := H3.out.has (by omega)
      obtain ⟨rfl, rfl⟩ : sa = some ⟨gs, 0, none⟩ ∧ sc = cs' := by simpa using hsv
      have hgs : gs < w.heap.size := H3.out.lt (by simp [blk, Value.ownBlock])
      have hso := HSO.out D.soft[k] (List.getElem_mem _)
      have hsg : D.soft.getD k (0, ⟨#[]⟩) = D.soft[k] := by rw [List.getD_eq_getElem?_getD, List.getElem?_eq_getElem hkn]; rfl
      have x0 : wr.cell? ⟨gs, k * 2, none⟩ = some (.int .i64 D.soft[k].1) := by
        rw [HBr.out.cell (p := ⟨gs, k * 2, none⟩) hgs, Nat.mul_comm k 2, H3.out.cellAt (2 * k) (by omega), (recV_get D.soft k).1, List.getElem?_eq_getElem hkn]; rfl
      have x1 : wr.cell? ⟨gs, k * 2 + 1, none⟩ = some (.string D.soft[k].2) := by
        rw [HBr.out.cell (p := ⟨gs, k * 2 + 1, none⟩) hgs, Nat.mul_comm k 2, H3.out.cellAt (2 * k + 1) (by omega), (recV_get D.soft k).2, List.getElem?_eq_getElem hkn]; rfl
      have hstep := show crashTo D.firm D.soft keep (k + 1) = if k < keep.length ∧ keep.getD k false = true then (crashTo D.firm D.soft keep k).set (D.soft.getD k (0, ⟨#[]⟩)).1.toNat (D.soft.getD k (0, ⟨#[]⟩)).2 else crashTo D.firm D.soft keep k from rfl
      rw [hsg] at hstep
      have hstep := Lib.hid hstep
      have hsg := Lib.hid hsg
      have hwr : w.heap.size ≤ wr.heap.size := HBr.out.size
      generalize D.soft[k] = x at *
      obtain ⟨xs, xd⟩ := x
      obtain ⟨hx0, hx1, hx2⟩ := hso
      dsimp only at hx0 hx1 hx2 x0 x1
      obtain ⟨s, rfl⟩ : ∃ s : Nat, xs = (s : Int) := ⟨xs.toNat, by omega⟩
      by_cases hkk : k < keep.length
      · obtain ⟨b, off, rfl, hbN, hbc⟩ := HK.out (by intro e; rw [e] at hkk; simp at hkk)
        have y0 : wr.cell? ⟨b, off + k, none⟩ = some (.bool (keep.getD k false)) := by
          rw [HBr.out.cell (p := ⟨b, off + k, none⟩) (Nat.lt_of_lt_of_le hbN hN), hbc k hkk]
        have hkk' : (k : Int) < keep.length := by omega
        have hbr2 : b < wr.heap.size := by omega
        have hgsr : gs < wr.heap.size := by omega
        cases hkb : keep.getD k false with
        | false =>
          rw [hkb] at y0
          go_wp2_with fail
          go_roundw
          case rel =>
            refine ⟨k + 1, by omega, rfl, ?_, ?_⟩
            · show OwnS _ _ _ _ _ _
              rw [hstep.out, if_neg (by rw [hkb]; simp)]
              exact HO.out.keep ((Keeps.refl (fun _ => False) wr).alloc _) (fun _ _ => id)
            · exact HBr.out.alloc hwr _
          case measure => simp [intOf]; omega
        | true =>
          rw [hkb] at y0
          have hl := crashTo_length D.firm D.soft keep k
          have z0 : wr.cell? ⟨g4, s, none⟩ = some (.string ((crashTo D.firm D.soft keep k).getD s ⟨#[]⟩)) := by
            rw [HO.out.cellAt s (by omega)]
            unfold strV
            rw [List.getElem?_map, List.getD_eq_getElem?_getD, List.getElem?_eq_getElem (by omega)]; rfl
          have z1 : wr.frozen? ⟨g4, s, none⟩ = false := World.ownsRow.frozenAt HO.out s
          have hg4r : g4 < wr.heap.size := HO.out.lt (by simp [blk, Value.ownBlock])
          have hl := Lib.hid hl
          go_wp2_with fail
          go_roundw
          case rel =>
            refine ⟨k + 1, by omega, rfl, ?_, ?_⟩
            · show OwnS _ _ _ _ _ _
              rw [hstep.out, if_pos ⟨hkk, hkb⟩, strV_set, Int.toNat_natCast]
              exact (HO.out.set s (.string xd)).keep ((Keeps.refl (fun _ => False) _).alloc _) (fun _ _ => id)
            · exact bA (bS HBr.out hg4)
          case measure => simp [intOf]; omega
      · have hkk' : (keep.length : Int) ≤ k := by omega
        have hgsr : gs < wr.heap.size := by omega
        go_wp2_with fail
        go_roundw
        case rel =>
          refine ⟨k + 1, by omega, rfl, ?_, ?_⟩
          · show OwnS _ _ _ _ _ _
            rw [hstep.out, if_neg (by omega)]
            exact HO.out.keep ((Keeps.refl (fun _ => False) wr).alloc _) (fun _ _ => id)
          · exact HBr.out.alloc hwr _
        case measure => simp [intOf]; omega
    · obtain rfl : k = D.soft.length := by omega
      have hwr : w.heap.size ≤ wr.heap.size := HBr.out.size
      have HPr : Hid (wr.heap[p]? = some (.cells #[.slice (some ⟨g, 0, none⟩) D.firm.length c, .slice sa D.soft.length sc, ev, .int .i64 D.fuel, .bool D.down] 77 (0, 0))) := (HBr.out.block p hplt).trans H1.out
      have R4 := cell_at HPr.out 4
      have T4 := free_at HPr.out 4
      have hpg4 : p ≠ g4 := by omega
      have HOr : Hid (OwnS (wr.setCell ⟨p, 4, none⟩ (.bool true)) 9 1 (.slice (some ⟨g4, 0, none⟩) D.firm.length c4) D.firm.length (strV (crashTo D.firm D.soft keep D.soft.length))) :=
        HO.out.keep ((Keeps.refl (· = p) wr).setCell ⟨p, 4, none⟩ (.bool true) (.inl rfl)) (by
          rintro b hb rfl
          exact hpg4 (by simpa [blk, Value.ownBlock, eq_comm] using hb))
      have hl := crashTo_length D.firm D.soft keep D.soft.length
      obtain ⟨L, hL⟩ : ∃ L, crashTo D.firm D.soft keep D.soft.length = L := ⟨_, rfl⟩
      have hA : D.after keep = { firm := L, soft := [], seen := L, fuel := -1, down := false } := by unfold Dev.after; rw [hL]
      have hA := Lib.hid hA
      rw [hL] at HO HOr hl
      have hL := Lib.hid hL
      have HL := Lib.hid hl
      clear hl
      go_wp2_with ((at_builtin; go_must (refine wpList_append_frame _ rfl _ _ 74 rfl 9 i1 (.string .empty) 1 16 Tryd.underlying74 hj hy0 hy1 hy2 rfl (by decide) _ _ _ rfl (OwnS.nil _ 9 1) ⟨g4, 0, none⟩ D.firm.length c4 (strV L) rfl (by rw [strV_length, HL.out]; omega) (World.ownsRow.cells HOr.out (g := g4) rfl) (strV_oneCell _) (by unfold maxLen; omega) (by omega) ?_)); rintro v5 w5 ho5 hk5 hb5 hn5; (simp only [Nat.zero_add, List.nil_append] at ho5 hb5); (obtain ⟨g5, c5, rfl⟩ := ho5.has hn); (replace hk5 : Keeps (fun _ => False) (wr.setCell ⟨p, 4, none⟩ (.bool true)) w5 := hk5.mono (fun i _ h => by simp [blk, Value.ownBlock, Act.eval] at h)); (have hg5 : (wr.setCell ⟨p, 4, none⟩ (.bool true)).heap.size ≤ g5 := (hb5 g5 (by simp [blk, Value.ownBlock])).elim (fun h => by simp [blk, Value.ownBlock, Act.eval] at h) id); (have HO5 := Lib.hid ho5); (have HK5 := Lib.hid hk5); clear ho5 hk5 hb5 hn5)
      go_ret
      have hg5' : wr.heap.size ≤ g5 := by simpa using hg5
      have hg4r : g4 < wr.heap.size := HO.out.lt (by simp [blk, Value.ownBlock])
      have hg5w : g5 < w5.heap.size := HO5.out.lt (by simp [blk, Value.ownBlock])
      have hw5 : wr.heap.size ≤ w5.heap.size := by have := HK5.out.size; simpa using this
      have KK : Keeps (· = p) w (w5.alloc (.cells #[.slice (some ⟨g4, 0, none⟩) D.firm.length c4, .slice none 0 0, .slice (some ⟨g5, 0, none⟩) D.firm.length c5, .int .i64 (-1), .bool false] 77)) :=
        ((((Keeps.of_below (· = p) HBr.out).setCell ⟨p, 4, none⟩ (.bool true) (.inl rfl)).trans HK5.out (fun i hi h => h.elim))).alloc _
      rw [hA.out] at hok' ⊢
      refine ⟨w5.heap.size, w5.heap.size :: (blk (.slice (some ⟨g4, 0, none⟩) D.firm.length c4) ++ (blk (.slice none 0 0) ++ blk (.slice (some ⟨g5, 0, none⟩) D.firm.length c5))), rfl, ?_, ⟨hok'.out, _, _, _, heap_alloc_new _ _, ?_, OwnS.nil _ _ _, ?_, rfl, ?_⟩, KK, ?_⟩
      · obtain ⟨_, fv', sv', ev', q1, q2, q3, q4, q5, q6⟩ := HD.out
        rw [H1.out] at q1
        obtain ⟨rfl, rfl, rfl⟩ : .slice (some ⟨g, 0, none⟩) D.firm.length c = fv' ∧ .slice sa D.soft.length sc = sv' ∧ ev = ev' := by simpa using q1
        rw [q5] at q6
        rw [q5]
        exact disk_put (D' := { D with down := true }) q6 hdn.out KK (hO (HK5.out.keep (heap_set HPr.out 4 (.bool true)) (fun h => h))) q2 q3 q4
      · show OwnS _ _ 1 _ L.length (strV L)
        rw [HL.out]
        exact (HOr.out.keep HK5.out (fun _ _ => id)).keep ((Keeps.refl (fun _ => False) _).alloc _) (fun _ _ => id)
      · show OwnS _ _ 1 _ L.length (strV L)
        rw [HL.out]
        exact HO5.out.keep ((Keeps.refl (fun _ => False) _).alloc _) (fun _ _ => id)
      · simp [blk, Value.ownBlock]; omega
      · intro b hb
        simp [blk, Value.ownBlock] at hb
        omega
end Go.Proofs.YtdkilpjebmhkkaaDoor

namespace Go.Proofs.YtdkilpjebmhkkaaDoor
open Go.RowKit

def padS (s : ByteArray) : ByteArray := if 64 < s.size ∨ s.size = 63 then s else s ++ zeros (64 - s.size)
theorem padS_size (s : ByteArray) : (padS s).size = 64 ↔ (s.size ≤ 64 ∧ s.size ≠ 63) := by
  unfold padS
  split
  · omega
  · rw [bytes_size, zeros_size]; omega
theorem padS_le (s : ByteArray) (h : s.size ≤ maxLen) : (padS s).size ≤ maxLen := by
  unfold padS
  split
  · exact h
  · rw [bytes_size, zeros_size]; unfold maxLen; omega
set_option maxRecDepth 100000 in
theorem dsk_read_nil (s : Int) (w : World) : Calls Tryd.prog 15 #[.pointer none, .int .i64 s] w fun e w' => e = .returned (.tuple #[.string ⟨#[]⟩, .int .i64 20]) ∧ w' = w := by
  go_enter Tryd.func15, Tryd.ntmps15
  go_wp2_with fail
  refine (dsk_off_nil _).mono ?_
  rintro e w1 ⟨rfl, rfl⟩
  go_wp2_with fail
  go_ret2
  exact ⟨rfl, rfl⟩
set_option maxRecDepth 100000 in
theorem dsk_write_nil (s : Int) (d : ByteArray) (w : World) : Calls Tryd.prog 16 #[.pointer none, .int .i64 s, .string d] w fun e w' => e = .returned (.int .i64 20) ∧ w' = w := by
  go_enter Tryd.func16, Tryd.ntmps16
  go_wp2_with fail
  refine (dsk_off_nil _).mono ?_
  rintro e w1 ⟨rfl, rfl⟩
  go_wp2_with fail
  go_ret
  exact ⟨rfl, rfl⟩
set_option maxRecDepth 100000 in
theorem dsk_barrier_nil (w : World) : Calls Tryd.prog 26 #[.pointer none] w fun e w' => e = .returned (.int .i64 20) ∧ w' = w := by
  go_enter Tryd.func26, Tryd.ntmps26
  go_wp2_with fail
  refine (dsk_off_nil _).mono ?_
  rintro e w1 ⟨rfl, rfl⟩
  go_wp2_with fail
  go_ret
  exact ⟨rfl, rfl⟩
set_option maxRecDepth 100000 in
theorem dsk_size_nil (w : World) : Calls Tryd.prog 27 #[.pointer none] w fun e w' => e = .returned (.int .i64 0) ∧ w' = w := by
  go_enter Tryd.func27, Tryd.ntmps27
  go_wp2_with fail
  go_ret
  exact ⟨rfl, rfl⟩
set_option maxRecDepth 100000 in
theorem dsk_crash_nil (v : Value) (w : World) : Calls Tryd.prog 19 #[.pointer none, v] w fun e w' => e = .returned (.pointer none) ∧ w' = w := by
  go_enter Tryd.func19, Tryd.ntmps19
  go_wp2_with fail
  go_ret
  exact ⟨rfl, rfl⟩
set_option maxRecDepth 100000 in
theorem dsk_fuel_nil (n : Int) (w : World) : Calls Tryd.prog 17 #[.pointer none, .int .i64 n] w fun e w' => e = .returned (.tuple #[]) ∧ w' = w := by
  go_enter Tryd.func17, Tryd.ntmps17
  go_wp2_with fail
  exact body_end0 rfl rfl ⟨rfl, rfl⟩
end Go.Proofs.YtdkilpjebmhkkaaDoor
