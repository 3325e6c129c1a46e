import Derived.Test.YtimomjheanfbmaaGreatDoorMam
import Derived.Test.YtimomjheanfbmaaGreatDoorMaa
import Derived.LoopN
import Derived.Test.YtimomjheanfbmaaGreatDoorMal
import Derived.WalkLawsBesides
import Derived.Laws.Externs
set_option linter.unusedSimpArgs false
set_option linter.unusedVariables false
namespace Go.Proofs.YtimomjheanfbmaaGreatDoor
open Go.RowKit

def Dev.barrier (D : Dev) : Dev × Int := if D.down = true then (D, 20) else if D.burn.2 = false then (D.burn.1, 20) else ({ D.burn.1 with firm := D.burn.1.seen, soft := [] }, 0)
theorem Dev.barrier_ok {D : Dev} (h : DevOk D) : DevOk D.barrier.1 := by
  have hb := Dev.burn_ok h
  unfold Dev.barrier
  split
  · exact h
  · split
    · exact hb
    · obtain ⟨h1, h2, h3, h4, h5, h6, h7, h8⟩ := hb
      exact ⟨by show 0 < D.burn.1.seen.length; omega, by show D.burn.1.seen.length ≤ _; omega, rfl, by simp, h5, h6, h7, h7⟩
theorem Tryz.info_st : (Tryz.prog.info? 9).map (fun i => (i.zero, i.size, i.bytes)) = some (some (.string .empty), 1, 16) := by kernel_rfl
theorem strV_oneCell (l : List ByteArray) : ∀ v ∈ strV l, v.oneCell' = true := by
  intro v hv
  obtain ⟨s, _, rfl⟩ := List.mem_map.1 hv
  rfl
/-- copy of all of one owned row onto another one as long -/
theorem run_copy_own (w : World) (ty : TypeId) (g c g' c' n : Nat) (xs ys : List ByteArray) (h : OwnS w 9 1 (.slice (some ⟨g, 0, none⟩) n c) n (strV xs)) (h' : OwnS w 9 1 (.slice (some ⟨g', 0, none⟩) n c') n (strV ys)) :
    ∃ W, (Builtin.copy_ #[152, 152] ty #[.slice (some ⟨g, 0, none⟩) n c, .slice (some ⟨g', 0, none⟩) n c']).run Tryz.prog w = .ok (goInt n) W ∧ Keeps (· = g) w W ∧ OwnS W 9 1 (.slice (some ⟨g, 0, none⟩) n c) n (strV ys) := by
  have hl' : ys.length = n := by have := h'.1; rw [strV_length] at this; omega
  have hcell : ∀ j v, (strV ys)[j]? = some v → w.cell? ((⟨g', 0, none⟩ : Addr).add j) = some v := World.ownsRow.cells h' (g := g') rfl
  rcases h.2 with ⟨he, _⟩ | ⟨g1, cap, cur, he, hb, hg, hnc, hcm, hcs, htake⟩
  · simp at he
  · simp only [Value.slice.injEq, Option.some.injEq, Addr.mk.injEq, and_true, true_and] at he
    obtain ⟨rfl, rfl⟩ := he
    have hinfo : (Tryz.prog.info? 9).map (·.size) = some 1 := by kernel_rfl
    have hr := run_copy_row (P := Tryz.prog) w 152 152 ty 9 g 0 n c ⟨g', 0, none⟩ n c' cur 9 (strV ys) Tryz.underlying152 hinfo hg (by rw [strV_length, hl']; simp [Nat.min_def]) hcell (by rw [strV_length]; omega) (strV_oneCell ys)
    rw [strV_length, hl'] at hr
    refine ⟨_, hr, ⟨rfl, rfl, rfl, by simp, fun k _ hk => setRow_other _ _ _ _ hk⟩, by rw [strV_length]; omega, .inr ⟨g, c, _, rfl, Nat.zero_le _, setRow_heap w g cur _ 9 (0, 0) hg, hnc, hcm, ?_, ?_⟩⟩
    · simp [strV_length, hl']; omega
    · simp only [List.take_zero, List.nil_append, Nat.zero_add, Nat.mul_one]
      rw [List.take_append_of_le_length (by rw [strV_length]; omega)]
      exact List.take_of_length_le (by rw [strV_length]; omega)
set_option maxHeartbeats 800000 in
set_option maxRecDepth 100000 in
theorem dsk_barrier (p : Nat) (D : Dev) (S : List Nat) (w : World) (h : DiskAt w p D S) :
    Calls Tryz.prog 73 #[.pointer (some ⟨p, 0, none⟩)] w fun e w' =>
      e = .returned (.int .i64 D.barrier.2) ∧ ∃ S', DiskAt w' p D.barrier.1 S' ∧ Keeps (· ∈ S) w w' ∧ ∀ k ∈ S', k ∈ S ∨ w.heap.size ≤ k := by
  have H := Lib.hid (dsk_off p D S w h)
  have HB := Lib.hid (dsk_burn p D S w h)
  have HA := Lib.hid h
  have hwok := Dev.barrier_ok h.1
  obtain ⟨e1, e2, e3⟩ := burn_same D
  unfold Dev.barrier at hwok ⊢
  have hok := h.1
  obtain ⟨hn, hm, hsl, -⟩ := hok
  have fin : ∀ (w1 : World) (D1 : Dev), w1 = w → D1 = D → ∃ S', DiskAt w1 p D1 S' ∧ Keeps (· ∈ S) w w1 ∧ ∀ k ∈ S', k ∈ S ∨ w.heap.size ≤ k := by
    rintro _ _ rfl rfl
    exact ⟨S, HA.out, Keeps.refl _ _, fun k hk => .inl hk⟩
  clear h
  cases hdn : D.down with
  | true =>
    rw [hdn] at H
    simp only [if_true]
    go_enter Tryz.func73, Tryz.ntmps73
    go_wp2_with fail
    refine (H.out).mono ?_
    rintro e w1 ⟨rfl, rfl⟩
    go_wp2_with fail
    go_ret
    exact ⟨rfl, fin _ _ rfl rfl⟩
  | false =>
    rw [hdn] at H hwok
    simp only [Bool.false_eq_true, if_false] at hwok ⊢
    cases hb2 : D.burn.2 with
    | false =>
      rw [hb2] at HB
      simp only [if_true]
      go_enter Tryz.func73, Tryz.ntmps73
      go_wp2_with fail
      refine (H.out).mono ?_
      rintro e w1 ⟨rfl, rfl⟩
      go_wp2_with fail
      refine (HB.out).mono ?_
      rintro e w2 ⟨rfl, hD, hk⟩
      go_wp2_with fail
      go_ret
      exact ⟨rfl, S, hD, hk.mono fun i _ e => by subst e; exact HA.out.mem, fun k hk => .inl hk⟩
    | true =>
      rw [hb2] at HB hwok
      simp only [Bool.true_eq_false, if_false] at hwok ⊢
      have hwok := Lib.hid hwok
      have e1 := Lib.hid e1
      have e2 := Lib.hid e2
      have e3 := Lib.hid e3
      clear hm
      go_enter Tryz.func73, Tryz.ntmps73
      go_wp2_with fail
      refine (H.out).mono ?_
      rintro e w1 ⟨rfl, rfl⟩
      go_wp2_with fail
      refine (HB.out).mono ?_
      rintro e w2 ⟨rfl, hD, hk⟩
      have hbm := hD.mem
      have HD := Lib.hid hD
      have HK := Lib.hid hk
      obtain ⟨hok2, fv2, sv2, ev2, h1, h2, h3, h4, hS, h6⟩ := hD
      rw [e2.out] at h4
      rw [e1.out] at h2
      rw [hS] at h6
      obtain ⟨g2, c2', rfl⟩ := h4.has (by omega)
      obtain ⟨g1, c1', rfl⟩ := h2.has (by omega)
      rw [hsl] at h4
      have hnd := h6
      have hg1 : g1 ∈ blk (.slice (some ⟨g1, 0, none⟩) D.firm.length c1') := by simp [blk, Value.ownBlock]
      have hg2 : g2 ∈ blk (.slice (some ⟨g2, 0, none⟩) D.seen.length c2') := by simp [blk, Value.ownBlock]
      simp only [List.nodup_cons, List.nodup_append, List.mem_append, not_or] at hnd
      obtain ⟨⟨n1, n2, n3⟩, n4, ⟨n5, n6, n7⟩, n8⟩ := hnd
      have hp1 : p ≠ g1 := fun e => n1 (by subst e; exact hg1)
      have h12 : g2 ≠ g1 := fun e => n8 _ hg1 _ (.inr hg2) e.symm
      have C0 := cell_at h1 0
      have C2 := cell_at h1 2
      obtain ⟨W, hcopy, hKW, hOW⟩ := run_copy_own w2.drew 3 g1 c1' g2 c2' D.firm.length D.firm D.seen (World.ownsRow.drew h2) (World.ownsRow.drew h4)
      have HP := hKW.keep (hDr h1) hp1
      have P1 := cell_at HP 1
      have Q1 := free_at HP 1
      have H1 := Lib.hid h1
      have H2 := Lib.hid h2
      have H4 := Lib.hid h4
      have H6 := Lib.hid h6
      have HS := Lib.hid hS
      have HPH := Lib.hid HP
      have HKW := Lib.hid hKW
      have HOW := Lib.hid hOW
      clear hk h1 h2 h3 h4 h6 hS hok2 HP hKW hOW
      go_wp2_with fail
      go_region
      go_wp2_with fail
      go_ret
      have K2 : Keeps (fun k => k = p ∨ k = g1) w2 (W.setCell ⟨p, 1, none⟩ (.slice none 0 0)) :=
        ((((Keeps.refl (fun k => k = p ∨ k = g1) w2).drew).trans HKW.out fun k _ hk => .inr hk)).setCell ⟨p, 1, none⟩ (.slice none 0 0) (.inl (.inl rfl))
      refine ⟨rfl, p :: (blk (.slice (some ⟨g1, 0, none⟩) D.firm.length c1') ++ (blk (.slice none 0 0) ++ blk (.slice (some ⟨g2, 0, none⟩) D.firm.length c2'))),
        ⟨hwok.out, _, _, _, heap_set HPH.out 1 _, ?_, OwnS.nil _ _ _, ?_, rfl, ?_⟩, ?_, ?_⟩
      · show OwnS _ _ 1 _ D.burn.1.seen.length (strV D.burn.1.seen)
        rw [e2.out, hsl]
        refine HOW.out.keep ((Keeps.refl (· = p) W).setCell ⟨p, 1, none⟩ (.slice none 0 0) (.inl rfl)) ?_
        rintro k hk rfl
        exact n1 hk
      · show OwnS _ _ 1 _ D.burn.1.seen.length (strV D.burn.1.seen)
        rw [e2.out, hsl]
        refine H4.out.keep K2 ?_
        rintro k hk (rfl | rfl)
        · exact n3 hk
        · exact n8 _ hg1 _ (.inr hk) rfl
      · exact nodup_swap H6.out (blk_nodup _) (by simp [blk, Value.ownBlock])
      · rw [HS.out]
        refine (HK.out.mono (T := (· ∈ p :: (blk (.slice (some ⟨g1, 0, none⟩) D.firm.length c1') ++ (blk sv2 ++ blk (.slice (some ⟨g2, 0, none⟩) D.seen.length c2'))))) fun k _ e => by subst e; simp).trans K2 ?_
        rintro k _ (rfl | rfl)
        · simp
        · simp [hg1]
      · intro k hk
        rw [HS.out]
        left
        simp only [List.mem_cons, List.mem_append] at hk ⊢
        rcases hk with h | h | h | h
        · exact .inl h
        · exact .inr (.inl h)
        · simp [blk, Value.ownBlock] at h
        · exact .inr (.inr (.inr h))
end Go.Proofs.YtimomjheanfbmaaGreatDoor

namespace Go.Proofs.YtimomjheanfbmaaGreatDoor
open Go.RowKit

theorem Tryz.info_by : (Tryz.prog.info? 5).map (fun i => (i.zero, i.size, i.bytes)) = some (some (.int .u8 0), 1, 1) := by kernel_rfl
theorem convert_zeros {P : Program} (w : World) (src e : TypeId) (hs : P.underlying src = some (.slice e)) (he : P.underlying e = some (.int .u8)) (base : Nat) (v : Value) (n : Nat)
    (h : w.ownsRow base e 1 v n (madeCells (Value.int .u8 0).cells (n * 1)).toList) : ∀ dst, P.underlying dst = some .string → (convert src dst v).run P w = .ok (.string (zeros n)) w := by
  intro dst hd
  refine convert_owned (P := P) w src e hs he base v n (List.replicate n 0) ?_ dst hd
  rw [List.map_replicate]
  have : (madeCells (Value.int .u8 0).cells (n * 1)).toList = List.replicate n (Value.int .u8 0) := by
    rw [Nat.mul_one]; exact toList_madeCells_one _ _
  rwa [this] at h
def Dev.new (n : Nat) : Dev := { firm := List.replicate n (zeros 64), soft := [], seen := List.replicate n (zeros 64), fuel := -1, down := false }
theorem Dev.new_ok (n : Nat) (h0 : 0 < n) (h1 : n ≤ 16384) : DevOk (Dev.new n) := by
  have hz : ∀ s ∈ List.replicate n (zeros 64), s.size = 64 := fun s hs => by rw [(List.mem_replicate.1 hs).2]; exact zeros_size 64
  unfold Dev.new DevOk
  simp only [List.length_replicate]
  exact ⟨h0, h1, trivial, by simp, by omega, by omega, hz, hz⟩
theorem replicate_snoc {α : Type} (a : α) (k : Nat) : List.replicate (k + 1) a = List.replicate k a ++ [a] := by
  rw [List.replicate_succ']
theorem cell_one_at (w : World) (x : Value) (T : TypeId) (f : Nat × Nat) (n : Nat) (hn : n = w.heap.size) : ∀ (j : Nat) (u : Value), [x][j]? = some u → (w.alloc (.cells #[x] T f)).cell? ((⟨n, 0, none⟩ : Addr).add j) = some u := by
  intro j u hj
  subst hn
  have e : (⟨w.heap.size, 0, none⟩ : Addr).add j = ⟨w.heap.size, j, none⟩ := by unfold Addr.add; split <;> simp_all
  rw [e, cell_at (hN rfl)]
  simpa using hj
set_option maxRecDepth 100000 in
theorem dsk_new_bad (n : Int) (h : n < 1 ∨ 16384 < n) (w : World) : Calls Tryz.prog 20 #[.int .i64 n] w fun e w' => e = .returned (.tuple #[.pointer none, .int .i64 1]) ∧ w' = w := by
  by_cases h1 : n < 1
  · go_enter Tryz.func20, Tryz.ntmps20
    go_wp2_with fail
    go_ret2
    exact ⟨rfl, rfl⟩
  · have h2 : 16384 < n := by omega
    go_enter Tryz.func20, Tryz.ntmps20
    go_wp2_with fail
    go_ret2
    exact ⟨rfl, rfl⟩
set_option maxHeartbeats 800000 in
set_option maxRecDepth 100000 in
theorem dsk_new (n : Nat) (h0 : 0 < n) (h1 : n ≤ 16384) (w : World) : Calls Tryz.prog 20 #[.int .i64 n] w fun e w' =>
    ∃ p S, e = .returned (.tuple #[.pointer (some ⟨p, 0, none⟩), .int .i64 0]) ∧ DiskAt w' p (Dev.new n) S ∧ Below w.heap.size w w' ∧ ∀ k ∈ S, w.heap.size ≤ k := by
  obtain ⟨i0, hi, hz0, hz1, hz2⟩ := info_parts Tryz.info_by
  obtain ⟨i1, hj, hy0, hy1, hy2⟩ := info_parts Tryz.info_st
  have hok := Lib.hid (Dev.new_ok n h0 h1)
  have HX : Hid (∀ w B v, w.ownsRow B 5 1 v 64 (madeCells (Value.int .u8 0).cells (64 * 1)).toList → (convert 141 9 v).run Tryz.prog w = .ok (.string (zeros 64)) w) :=
    fun w B v h => convert_zeros (P := Tryz.prog) w 141 5 Tryz.underlying141 Tryz.underlying5 B v 64 h 9 Tryz.underlying9
  have hzs := zeros_size 64
  unfold Dev.new at *
  generalize zeros 64 = Z at *
  go_enter Tryz.func20, Tryz.ntmps20
  go_wp2_with ((at_make; refine wpList_make_full _ rfl _ _ 141 rfl (w.heap.size + 1) 5 i0 (.int .u8 0) 1 Tryz.underlying141 hi hz0 hz1 _ _ _ _ 64 rfl rfl rfl rfl (by rw [hz2]; omega) (by unfold maxLen; omega) (by simp) ?_; rintro w1 hown hg; (have hcv := HX.out w1 _ _ hown); (replace hcv : (convert 141 9 (.slice (some ⟨w.heap.size + 1, 0, none⟩) 64 64)).run Tryz.prog w1 = .ok (.string Z) w1 := by simpa using hcv); (have Hg := Lib.hid hg); clear hg hown))
  have hs1 : w.heap.size + 1 ≤ w1.heap.size := by have := Hg.out.size; simpa using this
  have HP1 : Hid (w1.heap[w.heap.size]? = some (.cells #[.slice none 0 0, .slice none 0 0, .slice none 0 0, .int .i64 (-1), .bool false] 155 (0, 0))) :=
    (Hg.out.block w.heap.size (by simp) (by simp)).trans (hN rfl)
  have HB1 : Hid (Below w.heap.size w w1) := (bA bR).grown Hg.out (by simp) (by simp)
  clear Hg hcv
  go_loopw [17] (fun i wr => ∃ (k : Nat) (fv : Value), k ≤ n ∧ i = .int .i64 k ∧ Hid (wr.heap[w.heap.size]? = some (.cells #[fv, .slice none 0 0, .slice none 0 0, .int .i64 (-1), .bool false] 155 (0, 0))) ∧
    Hid (OwnS wr 9 1 fv k (strV (List.replicate k Z))) ∧ Hid (∀ b ∈ blk fv, w.heap.size < b) ∧ Below w.heap.size w wr) (fun i _ => n - (intOf i).toNat)
  case atStart => exact ⟨0, .slice none 0 0, by omega, rfl, HP1, OwnS.nil _ _ _, by simp [Hid, blk, Value.ownBlock], HB1.out⟩
  case round =>
    obtain ⟨k, fv, hk, rfl, HP, HO, HF, hbr⟩ := hrel
    have HBr := Lib.hid hbr
    have hszr : w.heap.size < wr.heap.size := block_lt HP.out
    clear hbr HP1 HB1
    have P0 := cell_at HP.out 0
    have Q0 := free_at HP.out 0
    by_cases hkn : k < n
    · have HO1 : Hid (OwnS (wr.alloc (.cells #[.string Z] 9)) 9 1 fv k (strV (List.replicate k Z))) := HO.out.keep ((Keeps.refl (fun _ => False) wr).alloc _) (fun _ _ => id)
      go_wp2_with ((at_builtin; go_must (refine wpList_append_frame _ rfl _ _ 152 rfl 9 i1 (.string .empty) 1 16 Tryz.underlying152 hj hy0 hy1 hy2 rfl (by decide) _ _ _ rfl HO1.out ⟨wr.heap.size, 0, none⟩ 1 1 [.string Z] rfl rfl (cell_one_at _ _ _ _ _ rfl) (by simp [Value.oneCell']) (by unfold maxLen; omega) (by omega) ?_)); rintro v4 w4 ho4 hk4 hb4 hn4; (obtain ⟨g4, c4, rfl⟩ := ho4.has (by omega)); (replace hk4 : Keeps (· ∈ blk fv) (wr.alloc (.cells #[.string Z] 9)) w4 := hk4); (replace hb4 : ∀ b ∈ blk (.slice (some ⟨g4, 0, none⟩) (k + 1) c4), b ∈ blk fv ∨ (wr.alloc (.cells #[.string Z] 9)).heap.size ≤ b := hb4); (have HP4 := Lib.hid (hk4.keep (hO HP.out) (fun h => Nat.lt_irrefl _ (HF.out _ h)))); (have C4 := cell_at HP4.out 0); (have F4 := free_at HP4.out 0); (have HO4 := Lib.hid ho4); (have HK4 := Lib.hid hk4); (have HB4 := Lib.hid hb4); clear ho4 hk4 hb4 hn4)
      go_roundw
      case rel =>
        have hF : ∀ b ∈ blk (.slice (some ⟨g4, 0, none⟩) (k + 1) c4), w.heap.size < b := by
          intro b hb
          rcases HB4.out b hb with h | h
          · exact HF.out b h
          · simp at h; omega
        refine ⟨k + 1, .slice (some ⟨g4, 0, none⟩) (k + 1) c4, by omega, rfl, heap_set HP4.out 0 _, ?_, hF, ?_⟩
        · show OwnS _ _ _ _ _ _
          rw [replicate_snoc, show strV (List.replicate k Z ++ [Z]) = strV (List.replicate k Z) ++ [.string Z] from by simp [strV]]
          refine HO4.out.keep ((Keeps.refl (· = w.heap.size) w4).setCell _ _ (.inl rfl)) ?_
          rintro b hb rfl
          exact Nat.lt_irrefl _ (hF _ hb)
        · exact (((Keeps.of_below (fun _ => False) (bA HBr.out)).trans HK4.out (fun i hi h => by have := HF.out i h; omega)).below).setCell (Nat.le_refl _) _
      case measure => simp [intOf]; omega
    · obtain rfl : k = n := by omega
      obtain ⟨g, c, rfl⟩ := HO.out.has h0
      have hpg : w.heap.size < g := HF.out g (by simp [blk, Value.ownBlock])
      have hgr : g < wr.heap.size := HO.out.lt (by simp [blk, Value.ownBlock])
      go_wp2_with ((at_builtin; go_must (refine wpList_append_frame _ rfl _ _ 152 rfl 9 i1 (.string .empty) 1 16 Tryz.underlying152 hj hy0 hy1 hy2 rfl (by decide) _ _ _ rfl (OwnS.nil wr 9 1) ⟨g, 0, none⟩ k c (strV (List.replicate k Z)) rfl (by rw [strV_length, List.length_replicate]; omega) (World.ownsRow.cells HO.out (g := g) rfl) (strV_oneCell _) (by unfold maxLen; omega) (by omega) ?_)); rintro v4 w4 ho4 hk4 hb4 hn4; (simp only [Nat.zero_add, List.nil_append] at ho4 hb4); (obtain ⟨g4, c4, rfl⟩ := ho4.has h0); (replace hk4 : Keeps (fun _ => False) wr w4 := hk4.mono (fun i _ h => by simp [blk, Value.ownBlock, Act.eval] at h)); (have hg4 : wr.heap.size ≤ g4 := (hb4 g4 (by simp [blk, Value.ownBlock])).elim (fun h => by simp [blk, Value.ownBlock, Act.eval] at h) id); (have HP4 := Lib.hid (hk4.keep HP.out (fun h => h))); (have C4 := cell_at HP4.out 2); (have F4 := free_at HP4.out 2); (have HO4 := Lib.hid ho4); (have HK4 := Lib.hid hk4); clear ho4 hk4 hb4 hn4)
      refine bodyPost_ret (results_tmp2 rfl _ _ _) rfl ?_
      refine ⟨w.heap.size, w.heap.size :: (blk (.slice (some ⟨g, 0, none⟩) k c) ++ (blk (.slice none 0 0) ++ blk (.slice (some ⟨g4, 0, none⟩) k c4))), rfl, ⟨hok.out, _, _, _, heap_set HP4.out 2 _, ?_, OwnS.nil _ _ _, ?_, rfl, ?_⟩, ?_, ?_⟩
      · show OwnS _ _ 1 _ (List.replicate k Z).length _
        rw [List.length_replicate]
        refine (HO.out.keep HK4.out (fun _ _ => id)).keep ((Keeps.refl (· = w.heap.size) w4).setCell ⟨w.heap.size, 2, none⟩ _ (.inl rfl)) ?_
        rintro b hb rfl
        exact Nat.lt_irrefl _ (HF.out _ hb)
      · show OwnS _ _ 1 _ (List.replicate k Z).length _
        rw [List.length_replicate]
        refine HO4.out.keep ((Keeps.refl (· = w.heap.size) w4).setCell ⟨w.heap.size, 2, none⟩ _ (.inl rfl)) ?_
        rintro b hb rfl
        have := (show w.heap.size = g4 by simpa [blk, Value.ownBlock] using hb)
        omega
      · simp [blk, Value.ownBlock]; omega
      · exact (((Keeps.of_below (fun _ => False) HBr.out).trans HK4.out (fun i hi h => h)).below).setCell (Nat.le_refl _) _
      · intro b hb
        simp [blk, Value.ownBlock] at hb
        omega
end Go.Proofs.YtimomjheanfbmaaGreatDoor

namespace Go.Proofs.YtimomjheanfbmaaGreatDoor
open Go.RowKit

/-- what stands behind a crash, after the first i of the soft ones -/
def crashTo (now : List ByteArray) (soft : List (Int × ByteArray)) (keep : List Bool) : Nat → List ByteArray
  | 0 => now
  | i + 1 => if i < keep.length ∧ keep.getD i false = true then (crashTo now soft keep i).set (soft.getD i (0, ⟨#[]⟩)).1.toNat (soft.getD i (0, ⟨#[]⟩)).2 else crashTo now soft keep i
theorem crashTo_length (now : List ByteArray) (soft : List (Int × ByteArray)) (keep : List Bool) : ∀ i, (crashTo now soft keep i).length = now.length
  | 0 => rfl
  | i + 1 => by
    unfold crashTo
    split
    · rw [List.length_set, crashTo_length now soft keep i]
    · exact crashTo_length now soft keep i
theorem crashTo_size (now : List ByteArray) (soft : List (Int × ByteArray)) (keep : List Bool) (h1 : ∀ s ∈ now, s.size = 64) (h2 : ∀ x ∈ soft, x.2.size = 64) : ∀ i, i ≤ soft.length → ∀ s ∈ crashTo now soft keep i, s.size = 64
  | 0, _ => h1
  | i + 1, hi => by
    intro s hs
    unfold crashTo at hs
    split at hs
    · rcases List.mem_or_eq_of_mem_set hs with h | h
      · exact crashTo_size now soft keep h1 h2 i (by omega) s h
      · rw [h, List.getD_eq_getElem?_getD, List.getElem?_eq_getElem (by omega)]
        exact h2 _ (List.getElem_mem _)
    · exact crashTo_size now soft keep h1 h2 i (by omega) s hs
def Dev.after (D : Dev) (keep : List Bool) : Dev := { firm := crashTo D.firm D.soft keep D.soft.length, soft := [], seen := crashTo D.firm D.soft keep D.soft.length, fuel := -1, down := false }
theorem Dev.after_ok {D : Dev} (h : DevOk D) (keep : List Bool) : DevOk (D.after keep) := by
  obtain ⟨h1, h2, h3, h4, h5, h6, h7, h8⟩ := h
  have hs := crashTo_size D.firm D.soft keep h8 (fun x hx => (h4 x hx).2.2) D.soft.length (Nat.le_refl _)
  have hl := crashTo_length D.firm D.soft keep D.soft.length
  exact ⟨by show 0 < (crashTo _ _ _ _).length; omega, by show (crashTo _ _ _ _).length ≤ _; omega, rfl, by simp [Dev.after], by show (-1 : Int) ≤ -1; omega, by show (-1 : Int) ≤ _; omega, hs, hs⟩
/-- a slice of truth values whose cells lie below N -/
def BoolsAt (w : World) (N : Nat) (v : Value) (ks : List Bool) : Prop :=
  ∃ a c, v = .slice a ks.length c ∧ ks.length ≤ maxLen ∧ (ks ≠ [] → ∃ b off, a = some ⟨b, off, none⟩ ∧ b < N ∧ ∀ i, i < ks.length → w.cell? ⟨b, off + i, none⟩ = some (.bool (ks.getD i false)))
theorem BoolsAt.keep {R : Nat → Prop} {w w' : World} {N : Nat} {v : Value} {ks : List Bool} (h : BoolsAt w N v ks) (hk : Keeps R w w') (hN : N ≤ w.heap.size) (hR : ∀ k, R k → N ≤ k) : BoolsAt w' N v ks := by
  obtain ⟨a, c, h1, h2, h3⟩ := h
  refine ⟨a, c, h1, h2, fun hne => ?_⟩
  obtain ⟨b, off, e1, e2, e3⟩ := h3 hne
  refine ⟨b, off, e1, e2, fun i hi => ?_⟩
  rw [← e3 i hi]
  unfold World.cell?
  rw [hk.block b (by omega) (fun hr => by have := hR b hr; omega)]
theorem BoolsAt.nil (w : World) (N : Nat) : BoolsAt w N (.slice none 0 0) [] := ⟨none, 0, rfl, by simp, fun h => (h rfl).elim⟩
theorem BoolsAt.mono {w : World} {N M : Nat} {v : Value} {ks : List Bool} (h : BoolsAt w N v ks) (hNM : N ≤ M) : BoolsAt w M v ks := by
  obtain ⟨a, c, h1, h2, h3⟩ := h
  exact ⟨a, c, h1, h2, fun hne => let ⟨b, off, e1, e2, e3⟩ := h3 hne; ⟨b, off, e1, by omega, e3⟩⟩
end Go.Proofs.YtimomjheanfbmaaGreatDoor

namespace Go.Proofs.YtimomjheanfbmaaGreatDoor
open Go.RowKit

def padS (s : ByteArray) : ByteArray := if 64 < s.size ∨ s.size = 63 then s else s ++ zeros (64 - s.size)
theorem padS_size (s : ByteArray) : (padS s).size = 64 ↔ (s.size ≤ 64 ∧ s.size ≠ 63) := by
  unfold padS
  split
  · omega
  · rw [bytes_size, zeros_size]; omega
theorem padS_le (s : ByteArray) (h : s.size ≤ maxLen) : (padS s).size ≤ maxLen := by
  unfold padS
  split
  · exact h
  · rw [bytes_size, zeros_size]; unfold maxLen; omega
set_option maxRecDepth 100000 in
theorem dsk_read_nil (s : Int) (w : World) : Calls Tryz.prog 120 #[.pointer none, .int .i64 s] w fun e w' => e = .returned (.tuple #[.string ⟨#[]⟩, .int .i64 20]) ∧ w' = w := by
  go_enter Tryz.func120, Tryz.ntmps120
  go_wp2_with fail
  refine (dsk_off_nil _).mono ?_
  rintro e w1 ⟨rfl, rfl⟩
  go_wp2_with fail
  go_ret2
  exact ⟨rfl, rfl⟩
set_option maxRecDepth 100000 in
theorem dsk_write_nil (s : Int) (d : ByteArray) (w : World) : Calls Tryz.prog 72 #[.pointer none, .int .i64 s, .string d] w fun e w' => e = .returned (.int .i64 20) ∧ w' = w := by
  go_enter Tryz.func72, Tryz.ntmps72
  go_wp2_with fail
  refine (dsk_off_nil _).mono ?_
  rintro e w1 ⟨rfl, rfl⟩
  go_wp2_with fail
  go_ret
  exact ⟨rfl, rfl⟩
set_option maxRecDepth 100000 in
theorem dsk_barrier_nil (w : World) : Calls Tryz.prog 73 #[.pointer none] w fun e w' => e = .returned (.int .i64 20) ∧ w' = w := by
  go_enter Tryz.func73, Tryz.ntmps73
  go_wp2_with fail
  refine (dsk_off_nil _).mono ?_
  rintro e w1 ⟨rfl, rfl⟩
  go_wp2_with fail
  go_ret
  exact ⟨rfl, rfl⟩
set_option maxRecDepth 100000 in
theorem dsk_size_nil (w : World) : Calls Tryz.prog 74 #[.pointer none] w fun e w' => e = .returned (.int .i64 0) ∧ w' = w := by
  go_enter Tryz.func74, Tryz.ntmps74
  go_wp2_with fail
  go_ret
  exact ⟨rfl, rfl⟩
end Go.Proofs.YtimomjheanfbmaaGreatDoor

namespace Go.Proofs.YtimomjheanfbmaaGreatDoor
open Go.RowKit
open Go.Maps (Keyed int_keyed keyOf_int_mk)

/-! ### the ledger -/
theorem ord_le (a b : Nat) (ha : a < 2 ^ 53) (hb : b < 2 ^ 53) : (FloatKind.f64.format.order (flB a) (flB b) == some .lt || FloatKind.f64.format.order (flB a) (flB b) == some .eq) = decide (a ≤ b) := by
  show (Ieee.double.order (flB a) (flB b) == some .lt || Ieee.double.order (flB a) (flB b) == some .eq) = _
  rw [fl_order a b ha hb]
  rcases Nat.lt_trichotomy a b with h | h | h
  · rw [Nat.compare_eq_lt.2 h, decide_eq_true (by omega)]; rfl
  · rw [Nat.compare_eq_eq.2 h, decide_eq_true (by omega)]; rfl
  · rw [Nat.compare_eq_gt.2 h, decide_eq_false (by omega)]; rfl
theorem ord_ge0 (a : Nat) (ha : a < 2 ^ 53) : (FloatKind.f64.format.order (flB a) 0 == some .gt || FloatKind.f64.format.order (flB a) 0 == some .eq) = true := by
  show (Ieee.double.order (flB a) (flB 0) == some .gt || Ieee.double.order (flB a) (flB 0) == some .eq) = _
  rw [fl_order a 0 ha (by decide)]
  rcases Nat.lt_trichotomy a 0 with h | h | h
  · omega
  · rw [Nat.compare_eq_eq.2 h]; rfl
  · rw [Nat.compare_eq_gt.2 h]; rfl
theorem ord_eq (a b : Nat) (ha : a < 2 ^ 53) (hb : b < 2 ^ 53) : (FloatKind.f64.format.order (flB a) (flB b) == some .eq) = decide (a = b) := by
  show (Ieee.double.order (flB a) (flB b) == some .eq) = _
  rw [fl_order a b ha hb]
  rcases Nat.lt_trichotomy a b with h | h | h
  · rw [Nat.compare_eq_lt.2 h, decide_eq_false (by omega)]; rfl
  · rw [Nat.compare_eq_eq.2 h, decide_eq_true (by omega)]; rfl
  · rw [Nat.compare_eq_gt.2 h, decide_eq_false (by omega)]; rfl
theorem flB_most : flB 1099511627776 = 4787326403894837248 := by decide +kernel
theorem cut_zero (n j : Nat) : Ieee.Toward.zero.cut false (n * 2 ^ j) j = n := by
  unfold Ieee.Toward.cut
  by_cases hn : n = 0
  · subst hn
    simp
  · rw [log2_mul_pow n j hn, Nat.min_eq_left (by omega), Nat.shiftLeft_eq, Nat.one_mul]
    have hp : 0 < 2 ^ j := Nat.pos_of_ne_zero (by simp)
    dsimp only
    rw [Nat.mul_div_cancel _ hp]
    simp
theorem trunc_fl (n : Nat) (h : n < 2 ^ 53) (P : Program) (w : World) : (Extern.MathFloor.toIntegral "math.archTrunc" .zero #[.float .f64 (flB n)]).run P w = .ok (.float .f64 (flB n)) w := by
  obtain ⟨e, he⟩ := read_fl n h
  have hd : FloatKind.f64.decode (flB n) = .number false (n * 2 ^ e) (-(e : Int)) := he
  have hi : (Ieee.Datum.number false (n * 2 ^ e) (-(e : Int))).integral .zero = .number false n 0 := by
    unfold Ieee.Datum.integral
    simp only
    rw [show (-(e : Int)).toNat = 0 by omega, show (- -(e : Int)).toNat = e by omega, Nat.shiftLeft_zero, cut_zero]
  have hw : FloatKind.f64.encode (.number false n 0) = flB n := by
    have := near_eq n 0 h
    rw [Nat.pow_zero, Nat.mul_one] at this
    exact this
  have key : ∀ d : Ieee.Datum, d = .number false (n * 2 ^ e) (-(e : Int)) → (match d with
    | .nan s t =>
      if FloatKind.f64.format.quiet t = t then (pure (.float .f64 (flB n)) : Sem Value) else do
      let kept ← choose (.extern "math.Floor,Ceil,Trunc,RoundToEven.signallingNaN kept" 2)
      pure (.float .f64 (if kept == 1 then flB n else FloatKind.f64.encode (.nan s (FloatKind.f64.format.quiet t))))
    | d => pure (.float .f64 (FloatKind.f64.encode (d.integral .zero)))) = pure (.float .f64 (flB n)) := by
    intro d hd
    subst hd
    show pure (Value.float .f64 (FloatKind.f64.encode ((Ieee.Datum.number false (n * 2 ^ e) (-(e : Int))).integral .zero))) = _
    rw [hi, hw]
  have h2 := key _ hd
  have h3 : Extern.MathFloor.toIntegral "math.archTrunc" .zero #[.float .f64 (flB n)] = pure (.float .f64 (flB n)) := h2
  rw [h3]
  rfl
set_option maxRecDepth 100000 in
theorem lg_trunc (n : Nat) (h : n < 2 ^ 53) (w : World) : Calls Tryz.prog 168 #[.float .f64 (flB n)] w fun e w' => e = .returned (.float .f64 (flB n)) ∧ w = w' := by
  have ht : ∀ w, (callFunc 181 #[.float .f64 (flB n)]).run Tryz.prog w = .ok (.value (.float .f64 (flB n))) w := fun w => by
    rw [run_callFunc_extern Tryz.func181 (by kernel_rfl) (by kernel_rfl) (by kernel_rfl) (e := Extern.MathFloor.toIntegral "math.archTrunc" .zero) (by kernel_rfl), trunc_fl n h]
    rfl
  go_enter Tryz.func168, Tryz.ntmps168
  go_wp2_with fail
  go_ret
  exact ⟨rfl, rfl⟩
def whN (n : Nat) : Bool := decide (n ≤ 1099511627776)
set_option maxRecDepth 100000 in
theorem lg_whole (n : Nat) (h : n < 2 ^ 53) (w : World) : Calls Tryz.prog 135 #[.float .f64 (flB n)] w fun e w' => e = .returned (.bool (whN n)) ∧ w = w' := by
  have h1 := ord_ge0 n h
  have h2 := ord_le n 1099511627776 h (by decide)
  have h3 := ord_eq n n h h
  rw [flB_most] at h2
  rw [decide_eq_true rfl] at h3
  have HT := Lib.hid (lg_trunc n h)
  cases hw : whN n with
  | true =>
    unfold whN at hw
    rw [hw] at h2
    replace hw := Lib.hid hw
    go_enter Tryz.func135, Tryz.ntmps135
    go_wp2_with fail
    refine (HT.out _).mono ?_
    rintro e w1 ⟨rfl, rfl⟩
    go_wp2_with fail
    go_ret
    exact ⟨rfl, rfl⟩
  | false =>
    unfold whN at hw
    rw [hw] at h2
    replace hw := Lib.hid hw
    go_enter Tryz.func135, Tryz.ntmps135
    go_wp2_with fail
    go_ret
    exact ⟨rfl, rfl⟩
set_option maxRecDepth 100000 in
theorem lg_amount (a b : Nat) (ha : a < 2 ^ 53) (hb : b < 2 ^ 53) (w : World) : Calls Tryz.prog 99 #[.complex .f64 (flB a) (flB b)] w fun e w' => e = .returned (.bool (whN a && whN b)) ∧ w = w' := by
  have H1 := Lib.hid (lg_whole a ha)
  have H2 := Lib.hid (lg_whole b hb)
  obtain ⟨x, hx⟩ : ∃ x, whN a = x := ⟨_, rfl⟩
  obtain ⟨y, hy⟩ : ∃ y, whN b = y := ⟨_, rfl⟩
  rw [hx] at H1 ⊢
  rw [hy] at H2 ⊢
  clear hx hy
  cases x
  · go_enter Tryz.func99, Tryz.ntmps99
    go_wp2_with fail
    refine (H1.out _).mono ?_
    rintro e w1 ⟨rfl, rfl⟩
    go_wp2_with fail
    go_ret
    exact ⟨rfl, rfl⟩
  · go_enter Tryz.func99, Tryz.ntmps99
    go_wp2_with fail
    refine (H1.out _).mono ?_
    rintro e w1 ⟨rfl, rfl⟩
    go_wp2_with fail
    refine (H2.out _).mono ?_
    rintro e w1 ⟨rfl, rfl⟩
    go_wp2_with fail
    go_ret
    exact ⟨rfl, rfl⟩
set_option maxRecDepth 100000 in
theorem lg_fits (a b c d : Nat) (ha : a < 2 ^ 53) (hb : b < 2 ^ 53) (hc : c < 2 ^ 53) (hd : d < 2 ^ 53) (w : World) : Calls Tryz.prog 100 #[.complex .f64 (flB a) (flB b), .complex .f64 (flB c) (flB d)] w fun e w' => e = .returned (.bool (decide (a ≤ c) && decide (b ≤ d))) ∧ w = w' := by
  have h1 := ord_le a c ha hc
  have h2 := ord_le b d hb hd
  obtain ⟨x, hx⟩ : ∃ x, decide (a ≤ c) = x := ⟨_, rfl⟩
  obtain ⟨y, hy⟩ : ∃ y, decide (b ≤ d) = y := ⟨_, rfl⟩
  rw [hx] at h1 ⊢
  rw [hy] at h2 ⊢
  clear hx hy
  cases x
  · go_enter Tryz.func100, Tryz.ntmps100
    go_wp2_with fail
    go_ret
    exact ⟨rfl, rfl⟩
  · go_enter Tryz.func100, Tryz.ntmps100
    go_wp2_with fail
    go_ret
    exact ⟨rfl, rfl⟩
end Go.Proofs.YtimomjheanfbmaaGreatDoor
