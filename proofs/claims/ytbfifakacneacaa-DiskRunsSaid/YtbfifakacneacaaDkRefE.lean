import Derived.Test.YtbfifakacneacaaDkRefD
set_option linter.unusedSimpArgs false
set_option linter.unusedVariables false
namespace Go.Proofs.Ytbfifakacneacaa
open Go.RowKit

def Dev.mid (D : Dev) (ks : List Bool) (k : Nat) : Dev := { firm := crashTo D.firm D.soft ks k, soft := [], seen := crashTo D.firm D.soft ks k, fuel := -1, down := false }
theorem mid_ok {D : Dev} (h : DevOk D) (ks : List Bool) (k : Nat) (hk : k ≤ D.soft.length) : DevOk (D.mid ks k) := by
  obtain ⟨h1, h2, h3, h4, h5, h6, h7, h8⟩ := h
  have hs := crashTo_size D.firm D.soft ks h8 (fun x hx => (h4 x hx).2.2) k hk
  have hl := crashTo_length D.firm D.soft ks k
  exact ⟨by show 0 < (crashTo _ _ _ _).length; omega, by show (crashTo _ _ _ _).length ≤ _; omega, rfl, by simp [Dev.mid], by show (-1 : Int) ≤ -1; omega, by show (-1 : Int) ≤ _; omega, hs, hs⟩
theorem crashTo_past (f : List ByteArray) (s : List (Int × ByteArray)) (ks : List Bool) (k : Nat) (hk : ks.length ≤ k) : ∀ d, crashTo f s ks (k + d) = crashTo f s ks k
  | 0 => rfl
  | d + 1 => by
    have ih := crashTo_past f s ks k hk d
    show (if k + d < ks.length ∧ ks.getD (k + d) false = true then _ else crashTo f s ks (k + d)) = _
    rw [if_neg (by omega)]
    exact ih
set_option maxHeartbeats 3200000 in
theorem ref_crash (p : Nat) (D : Dev) (S : List Nat) (N : Nat) (kv : Value) (keep : List Bool) (w : World) (h : RefAt w p D S) (hk : BoolsAt w N kv keep) (hNw : N ≤ w.heap.size) (hS : ∀ k ∈ S, N ≤ k) :
    Calls Try.prog 24 #[.pointer (some ⟨p, 0, none⟩), kv] w fun e w' => ∃ p' S',
      e = .returned (.pointer (some ⟨p', 0, none⟩)) ∧ RefAt w' p' (D.after keep) S' ∧ Keeps (· = p) w w' ∧ ∀ k ∈ S', w.heap.size ≤ k := by
  obtain ⟨i1, hj, hy0, hy1, hy2⟩ := info_parts Try.info_st
  have HOK := Lib.hid (fun k hk => mid_ok h.1 keep k hk)
  obtain ⟨hok, fv, sv, h1, h2, h3, hS', h6⟩ := h
  obtain ⟨hn, hm, hsl, hso, -⟩ := hok
  obtain ⟨g, c, rfl⟩ := h2.has hn
  obtain ⟨sa, sc, hsv⟩ := h3.form
  subst hsv
  have hsoftmax : D.soft.length ≤ maxLen := by
    rcases h3.2 with ⟨_, h⟩ | ⟨_, _, _, _, _, _, h, h', _⟩
    · omega
    · omega
  unfold maxLen at hsoftmax
  obtain ⟨ka, kc, rfl, hkl, hkc⟩ := hk
  unfold maxLen at hkl
  have hgS : g < w.heap.size := h2.lt (by simp [blk, Value.ownBlock])
  have C0 := cell_at h1 0
  have C1 := cell_at h1 1
  have hplt := block_lt h1
  have HK := Lib.hid hkc
  have HSO := Lib.hid hso
  have H1 := Lib.hid h1
  have H2 := Lib.hid h2
  have H3 := Lib.hid h3
  clear h1 h2 h3 h6 hS' hkc hso
  go_enter Try.func24, Try.ntmps24
  go_wp2_with ((at_builtin; go_must (refine wpList_append_frame _ rfl _ _ 22 rfl 9 i1 (.string .empty) 1 16 Try.underlying22 hj hy0 hy1 hy2 rfl (by decide) _ _ _ rfl (OwnS.nil w 9 1) ⟨g, 0, none⟩ D.firm.length c (strV D.firm) rfl (by rw [strV_length]; omega) (World.ownsRow.cells H2.out (g := g) rfl) (strV_oneCell _) (by unfold maxLen; omega) (by omega) ?_)); rintro v4 w4 ho4 hk4 hb4 hn4; (simp only [Nat.zero_add, List.nil_append] at ho4 hb4); (obtain ⟨g4, c4, rfl⟩ := ho4.has hn); (replace hk4 : Keeps (fun _ => False) w w4 := hk4.mono (fun i _ h => by simp [blk, Value.ownBlock, Act.eval] at h)); (have hg4 : w.heap.size ≤ g4 := (hb4 g4 (by simp [blk, Value.ownBlock])).elim (fun h => by simp [blk, Value.ownBlock, Act.eval] at h) id); (have HP4 := Lib.hid (hk4.keep H1.out (fun h => h))); (have D1 := cell_at HP4.out 1); (have HO4 := Lib.hid ho4); (have HK4 := Lib.hid hk4); clear ho4 hk4 hb4 hn4)
  have hg4w : g4 < w4.heap.size := HO4.out.lt (by simp [blk, Value.ownBlock])
  have hww4 : w.heap.size ≤ w4.heap.size := HK4.out.size
  obtain ⟨q, hq⟩ : ∃ q, w4.heap.size = q := ⟨_, rfl⟩
  rw [hq]
  have HQ4 : Hid ((w4.alloc (.cells #[.slice (some ⟨g4, 0, none⟩) D.firm.length c4, .slice none 0 0, .int .i64 (-1), .bool false] 54)).heap[q]? = some (.cells #[.slice (some ⟨g4, 0, none⟩) D.firm.length c4, .slice none 0 0, .int .i64 (-1), .bool false] 54 (0, 0))) := hN hq.symm
  have hqw : w.heap.size ≤ q := by omega
  have hqg : q ≠ g4 := by omega
  have HO4' : Hid (OwnS (w4.alloc (.cells #[.slice (some ⟨g4, 0, none⟩) D.firm.length c4, .slice none 0 0, .int .i64 (-1), .bool false] 54)) 9 1 (.slice (some ⟨g4, 0, none⟩) D.firm.length c4) D.firm.length (strV (crashTo D.firm D.soft keep 0))) := HO4.out.keep ((Keeps.refl (fun _ => False) _).alloc _) (fun _ _ => id)
  have HB4 : Hid (Below w.heap.size w (w4.alloc (.cells #[.slice (some ⟨g4, 0, none⟩) D.firm.length c4, .slice none 0 0, .int .i64 (-1), .bool false] 54))) := bA HK4.out.below
  have hsz4 : (w4.alloc (.cells #[.slice (some ⟨g4, 0, none⟩) D.firm.length c4, .slice none 0 0, .int .i64 (-1), .bool false] 54)).heap.size = q + 1 := by simp [hq]
  clear HK4 HO4 HP4 D1 hww4
  have fin : ∀ (wr : World), Below w.heap.size w wr → wr.heap[q]? = some (.cells #[.slice (some ⟨g4, 0, none⟩) D.firm.length c4, .slice none 0 0, .int .i64 (-1), .bool false] 54 (0, 0)) → OwnS wr 9 1 (.slice (some ⟨g4, 0, none⟩) D.firm.length c4) D.firm.length (strV (crashTo D.firm D.soft keep D.soft.length)) →
      ∃ p' S', Ending.returned (.pointer (some ⟨q, 0, none⟩)) = .returned (.pointer (some ⟨p', 0, none⟩)) ∧ RefAt (wr.setCell ⟨p, 3, none⟩ (.bool true)) p' (D.after keep) S' ∧ Keeps (· = p) w (wr.setCell ⟨p, 3, none⟩ (.bool true)) ∧ ∀ k ∈ S', w.heap.size ≤ k := by
    intro wr hb hQ hO
    have hK : Keeps (· = p) wr (wr.setCell ⟨p, 3, none⟩ (.bool true)) := (Keeps.refl (· = p) wr).setCell _ _ (.inl rfl)
    refine ⟨q, q :: (blk (.slice (some ⟨g4, 0, none⟩) D.firm.length c4) ++ blk (.slice none 0 0)), rfl, ⟨HOK.out _ (Nat.le_refl _), _, _, hK.keep hQ (by omega), ?_, OwnS.nil _ _ _, rfl, ?_⟩, (Keeps.of_below (· = p) hb).setCell _ _ (.inl rfl), ?_⟩
    · show OwnS _ _ 1 _ (crashTo _ _ _ _).length _
      rw [crashTo_length]
      exact hO.keep hK (fun b hb e => by
        have : b = g4 := by simpa [blk, Value.ownBlock, eq_comm] using hb
        omega)
    · simp [blk, Value.ownBlock]; exact hqg
    · intro b hb
      simp [blk, Value.ownBlock] at hb
      omega
  have fin := Lib.hid fin
  go_wp2_with fail
  go_loopw [6] (fun i wr => ∃ (k : Nat), k ≤ D.soft.length ∧ i = .int .i64 k ∧ Hid (wr.heap[q]? = some (.cells #[.slice (some ⟨g4, 0, none⟩) D.firm.length c4, .slice none 0 0, .int .i64 (-1), .bool false] 54 (0, 0))) ∧ Hid (OwnS wr 9 1 (.slice (some ⟨g4, 0, none⟩) D.firm.length c4) D.firm.length (strV (crashTo D.firm D.soft keep k))) ∧ Below w.heap.size w wr) (fun i _ => D.soft.length - (intOf i).toNat)
  case atStart => exact ⟨0, by omega, rfl, HQ4, HO4', HB4.out⟩
  case round =>
    obtain ⟨k, hk, rfl, HQ, HO, hbr⟩ := hrel
    have HBr := Lib.hid hbr
    clear hbr HQ4 HO4' HB4 hsz4
    have hwr : w.heap.size ≤ wr.heap.size := HBr.out.size
    have Q0 := cell_at HQ.out 0
    have hqr := block_lt HQ.out
    have HPr : Hid (wr.heap[p]? = some (.cells #[.slice (some ⟨g, 0, none⟩) D.firm.length c, .slice sa D.soft.length sc, .int .i64 D.fuel, .bool D.down] 54 (0, 0))) := (HBr.out.block p hplt).trans H1.out
    have R1 := cell_at HPr.out 1
    have R3 := cell_at HPr.out 3
    have T3 := free_at HPr.out 3
    by_cases hkn : k < D.soft.length
    · have hd1 : (k : Int) < D.soft.length := by omega
      by_cases hkk : k < keep.length
      · obtain ⟨b, off, rfl, hbN, hbc⟩ := HK.out (by intro e; rw [e] at hkk; simp at hkk)
        have y0 : wr.cell? ⟨b, off + k, none⟩ = some (.bool (keep.getD k false)) := by
          rw [HBr.out.cell (p := ⟨b, off + k, none⟩) (Nat.lt_of_lt_of_le hbN hNw), hbc k hkk]
        have hkk' : (k : Int) < keep.length := by omega
        have hstep := show crashTo D.firm D.soft keep (k + 1) = if k < keep.length ∧ keep.getD k false = true then (crashTo D.firm D.soft keep k).set (D.soft.getD k (0, ⟨#[]⟩)).1.toNat (D.soft.getD k (0, ⟨#[]⟩)).2 else crashTo D.firm D.soft keep k from rfl
        cases hkb : keep.getD k false with
        | false =>
          rw [hkb] at y0
          rw [if_neg (by rw [hkb]; simp)] at hstep
          have hstep := Lib.hid hstep
          go_wp2_with fail
          go_roundw
          case rel =>
            refine ⟨k + 1, by omega, rfl, HQ, ?_, HBr.out⟩
            rw [hstep.out]
            exact HO
          case measure => simp [intOf]; omega
        | true =>
          rw [hkb] at y0
          rw [if_pos ⟨hkk, hkb⟩] at hstep
          obtain ⟨gs, cs', hsv⟩ := H3.out.has (by omega)
          obtain ⟨rfl, rfl⟩ : sa = some ⟨gs, 0, none⟩ ∧ sc = cs' := by simpa using hsv
          have hgs : gs < w.heap.size := H3.out.lt (by simp [blk, Value.ownBlock])
          have hso := HSO.out D.soft[k] (List.getElem_mem _)
          have hsg : D.soft.getD k (0, ⟨#[]⟩) = D.soft[k] := by rw [List.getD_eq_getElem?_getD, List.getElem?_eq_getElem hkn]; rfl
          have x0 : wr.cell? ⟨gs, k * 2, none⟩ = some (.int .i64 D.soft[k].1) := by
            rw [HBr.out.cell (p := ⟨gs, k * 2, none⟩) hgs, Nat.mul_comm k 2, H3.out.cellAt (2 * k) (by omega), (recV_get D.soft k).1, List.getElem?_eq_getElem hkn]; rfl
          have x1 : wr.cell? ⟨gs, k * 2 + 1, none⟩ = some (.string D.soft[k].2) := by
            rw [HBr.out.cell (p := ⟨gs, k * 2 + 1, none⟩) hgs, Nat.mul_comm k 2, H3.out.cellAt (2 * k + 1) (by omega), (recV_get D.soft k).2, List.getElem?_eq_getElem hkn]; rfl
          rw [hsg] at hstep
          have hstep := Lib.hid hstep
          clear hsg
          generalize D.soft[k] = x at *
          obtain ⟨xs, xd⟩ := x
          obtain ⟨hx0, hx1, hx2⟩ := hso
          dsimp only at hx0 hx1 hx2 x0 x1
          obtain ⟨s, rfl⟩ : ∃ s : Nat, xs = (s : Int) := ⟨xs.toNat, by omega⟩
          have hl := crashTo_length D.firm D.soft keep k
          have z0 : wr.cell? ⟨g4, s, none⟩ = some (.string ((crashTo D.firm D.soft keep k).getD s ⟨#[]⟩)) := by
            rw [HO.out.cellAt s (by omega)]
            unfold strV
            rw [List.getElem?_map, List.getD_eq_getElem?_getD, List.getElem?_eq_getElem (by omega)]; rfl
          have z1 : wr.frozen? ⟨g4, s, none⟩ = false := World.ownsRow.frozenAt HO.out s
          have hg4r : g4 < wr.heap.size := HO.out.lt (by simp [blk, Value.ownBlock])
          have hl := Lib.hid hl
          generalize (crashTo D.firm D.soft keep k).getD s ⟨#[]⟩ = old at *
          clear hx2
          go_wp2_with fail
          go_region
          all_goals
            go_wp2_with fail
            go_roundw
            case rel =>
              have hK : Keeps (· = g4) wr ((wr.drew).setCell ⟨g4, s, none⟩ (.string xd)) := ((Keeps.refl (· = g4) wr).drew).setCell _ _ (.inl rfl)
              refine ⟨k + 1, by omega, rfl, hK.keep HQ.out hqg, ?_, bS (bD HBr.out) hg4⟩
              show OwnS _ _ _ _ _ _
              rw [hstep.out, strV_set, Int.toNat_natCast]
              exact OwnS.set (w := wr.drew) (HO.out.keep ((Keeps.refl (fun _ => False) wr).drew) (fun _ _ h => h)) s (.string xd)
            case measure => simp [intOf]; omega
      · have hkk' : (keep.length : Int) ≤ k := by omega
        have he : crashTo D.firm D.soft keep D.soft.length = crashTo D.firm D.soft keep k := by
          have := crashTo_past D.firm D.soft keep k (by omega) (D.soft.length - k)
          rwa [show k + (D.soft.length - k) = D.soft.length from by omega] at this
        have hF := fin.out wr HBr.out HQ.out (by rw [he]; exact HO.out)
        have hF := Lib.hid hF
        clear he
        go_wp2_with fail
        go_ret
        exact hF.out
    · obtain rfl : k = D.soft.length := by omega
      have hF := fin.out wr HBr.out HQ.out HO.out
      have hF := Lib.hid hF
      go_wp2_with fail
      go_ret
      exact hF.out
end Go.Proofs.Ytbfifakacneacaa
