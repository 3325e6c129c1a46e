import Derived.Test.YtafiojmbaickpaaDiskB
import Derived.LoopN
set_option linter.unusedSimpArgs false
set_option linter.unusedVariables false
namespace Go.Proofs.Ytafiojmbaickpaa
open Go.RowKit

theorem Try.info_by : (Try.prog.info? 5).map (fun i => (i.zero, i.size, i.bytes)) = some (some (.int .u8 0), 1, 1) := by kernel_rfl
def zeros (n : Nat) : ByteArray := strOfNums (List.replicate n 0)
theorem zeros_size (n : Nat) : (zeros n).size = n := by unfold zeros; rw [strOfNums_size, List.length_replicate]
theorem convert_zeros {P : Program} (w : World) (src e : TypeId) (hs : P.underlying src = some (.slice e)) (he : P.underlying e = some (.int .u8)) (base : Nat) (v : Value) (n : Nat)
    (h : w.ownsRow base e 1 v n (madeCells (Value.int .u8 0).cells (n * 1)).toList) : ∀ dst, P.underlying dst = some .string → (convert src dst v).run P w = .ok (.string (zeros n)) w := by
  intro dst hd
  refine convert_owned (P := P) w src e hs he base v n (List.replicate n 0) ?_ dst hd
  rw [List.map_replicate]
  have : (madeCells (Value.int .u8 0).cells (n * 1)).toList = List.replicate n (Value.int .u8 0) := by
    rw [Nat.mul_one]; exact toList_madeCells_one _ _
  rwa [this] at h
def Dev.new (n : Nat) : Dev := { firm := List.replicate n (zeros 64), soft := [], seen := List.replicate n (zeros 64), fuel := -1, down := false }
theorem Dev.new_ok (n : Nat) (h0 : 0 < n) (h1 : n ≤ 16384) : DevOk (Dev.new n) := by
  have hz : ∀ s ∈ List.replicate n (zeros 64), s.size = 64 := fun s hs => by rw [(List.mem_replicate.1 hs).2]; exact zeros_size 64
  unfold Dev.new DevOk
  simp only [List.length_replicate]
  exact ⟨h0, h1, trivial, by simp, by omega, by omega, hz, hz⟩
theorem replicate_snoc {α : Type} (a : α) (k : Nat) : List.replicate (k + 1) a = List.replicate k a ++ [a] := by
  rw [List.replicate_succ']
theorem cell_one_at (w : World) (x : Value) (T : TypeId) (f : Nat × Nat) (n : Nat) (hn : n = w.heap.size) : ∀ (j : Nat) (u : Value), [x][j]? = some u → (w.alloc (.cells #[x] T f)).cell? ((⟨n, 0, none⟩ : Addr).add j) = some u := by
  intro j u hj
  subst hn
  have e : (⟨w.heap.size, 0, none⟩ : Addr).add j = ⟨w.heap.size, j, none⟩ := by unfold Addr.add; split <;> simp_all
  rw [e, cell_at (hN rfl)]
  simpa using hj
set_option maxRecDepth 100000 in
theorem dsk_new_bad (n : Int) (h : n < 1 ∨ 16384 < n) (w : World) : Calls Try.prog 9 #[.int .i64 n] w fun e w' => e = .returned (.tuple #[.pointer none, .int .i64 1]) ∧ w' = w := by
  by_cases h1 : n < 1
  · go_enter Try.func9, Try.ntmps9
    go_wp2_with fail
    go_ret2
    exact ⟨rfl, rfl⟩
  · have h2 : 16384 < n := by omega
    go_enter Try.func9, Try.ntmps9
    go_wp2_with fail
    go_ret2
    exact ⟨rfl, rfl⟩
set_option maxHeartbeats 800000 in
set_option maxRecDepth 100000 in
theorem dsk_new (n : Nat) (h0 : 0 < n) (h1 : n ≤ 16384) (w : World) : Calls Try.prog 9 #[.int .i64 n] w fun e w' =>
    ∃ p S, e = .returned (.tuple #[.pointer (some ⟨p, 0, none⟩), .int .i64 0]) ∧ DiskAt w' p (Dev.new n) S ∧ Below w.heap.size w w' ∧ ∀ k ∈ S, w.heap.size ≤ k := by
  obtain ⟨i0, hi, hz0, hz1, hz2⟩ := info_parts Try.info_by
  obtain ⟨i1, hj, hy0, hy1, hy2⟩ := info_parts Try.info_st
  have hok := Lib.hid (Dev.new_ok n h0 h1)
  have HX : Hid (∀ w B v, w.ownsRow B 5 1 v 64 (madeCells (Value.int .u8 0).cells (64 * 1)).toList → (convert 62 9 v).run Try.prog w = .ok (.string (zeros 64)) w) :=
    fun w B v h => convert_zeros (P := Try.prog) w 62 5 Try.underlying62 Try.underlying5 B v 64 h 9 Try.underlying9
  have hzs := zeros_size 64
  unfold Dev.new at *
  generalize zeros 64 = Z at *
  go_enter Try.func9, Try.ntmps9
  go_wp2_with ((at_make; refine wpList_make_full _ rfl _ _ 62 rfl (w.heap.size + 1) 5 i0 (.int .u8 0) 1 Try.underlying62 hi hz0 hz1 _ _ _ _ 64 rfl rfl rfl rfl (by rw [hz2]; omega) (by unfold maxLen; omega) (by simp) ?_; rintro w1 hown hg; (have hcv := HX.out w1 _ _ hown); (replace hcv : (convert 62 9 (.slice (some ⟨w.heap.size + 1, 0, none⟩) 64 64)).run Try.prog w1 = .ok (.string Z) w1 := by simpa using hcv); (have Hg := Lib.hid hg); clear hg hown))
  have hs1 : w.heap.size + 1 ≤ w1.heap.size := by have := Hg.out.size; simpa using this
  have HP1 : Hid (w1.heap[w.heap.size]? = some (.cells #[.slice none 0 0, .slice none 0 0, .slice none 0 0, .int .i64 (-1), .bool false] 61 (0, 0))) :=
    (Hg.out.block w.heap.size (by simp) (by simp)).trans (hN rfl)
  have HB1 : Hid (Below w.heap.size w w1) := (bA bR).grown Hg.out (by simp) (by simp)
  clear Hg hcv
  go_loopw [17] (fun i wr => ∃ (k : Nat) (fv : Value), k ≤ n ∧ i = .int .i64 k ∧ Hid (wr.heap[w.heap.size]? = some (.cells #[fv, .slice none 0 0, .slice none 0 0, .int .i64 (-1), .bool false] 61 (0, 0))) ∧
    Hid (OwnS wr 9 1 fv k (strV (List.replicate k Z))) ∧ Hid (∀ b ∈ blk fv, w.heap.size < b) ∧ Below w.heap.size w wr) (fun i _ => n - (intOf i).toNat)
  case atStart => exact ⟨0, .slice none 0 0, by omega, rfl, HP1, OwnS.nil _ _ _, by simp [Hid, blk, Value.ownBlock], HB1.out⟩
  case round =>
    obtain ⟨k, fv, hk, rfl, HP, HO, HF, hbr⟩ := hrel
    have HBr := Lib.hid hbr
    have hszr : w.heap.size < wr.heap.size := block_lt HP.out
    clear hbr HP1 HB1
    have P0 := cell_at HP.out 0
    have Q0 := free_at HP.out 0
    by_cases hkn : k < n
    · have HO1 : Hid (OwnS (wr.alloc (.cells #[.string Z] 9)) 9 1 fv k (strV (List.replicate k Z))) := HO.out.keep ((Keeps.refl (fun _ => False) wr).alloc _) (fun _ _ => id)
      go_wp2_with ((at_builtin; go_must (refine wpList_append_frame _ rfl _ _ 22 rfl 9 i1 (.string .empty) 1 16 Try.underlying22 hj hy0 hy1 hy2 rfl (by decide) _ _ _ rfl HO1.out ⟨wr.heap.size, 0, none⟩ 1 1 [.string Z] rfl rfl (cell_one_at _ _ _ _ _ rfl) (by simp [Value.oneCell']) (by unfold maxLen; omega) (by omega) ?_)); rintro v4 w4 ho4 hk4 hb4 hn4; (obtain ⟨g4, c4, rfl⟩ := ho4.has (by omega)); (replace hk4 : Keeps (· ∈ blk fv) (wr.alloc (.cells #[.string Z] 9)) w4 := hk4); (replace hb4 : ∀ b ∈ blk (.slice (some ⟨g4, 0, none⟩) (k + 1) c4), b ∈ blk fv ∨ (wr.alloc (.cells #[.string Z] 9)).heap.size ≤ b := hb4); (have HP4 := Lib.hid (hk4.keep (hO HP.out) (fun h => Nat.lt_irrefl _ (HF.out _ h)))); (have C4 := cell_at HP4.out 0); (have F4 := free_at HP4.out 0); (have HO4 := Lib.hid ho4); (have HK4 := Lib.hid hk4); (have HB4 := Lib.hid hb4); clear ho4 hk4 hb4 hn4)
      go_roundw
      case rel =>
        have hF : ∀ b ∈ blk (.slice (some ⟨g4, 0, none⟩) (k + 1) c4), w.heap.size < b := by
          intro b hb
          rcases HB4.out b hb with h | h
          · exact HF.out b h
          · simp at h; omega
        refine ⟨k + 1, .slice (some ⟨g4, 0, none⟩) (k + 1) c4, by omega, rfl, heap_set HP4.out 0 _, ?_, hF, ?_⟩
        · show OwnS _ _ _ _ _ _
          rw [replicate_snoc, show strV (List.replicate k Z ++ [Z]) = strV (List.replicate k Z) ++ [.string Z] from by simp [strV]]
          refine HO4.out.keep ((Keeps.refl (· = w.heap.size) w4).setCell _ _ (.inl rfl)) ?_
          rintro b hb rfl
          exact Nat.lt_irrefl _ (hF _ hb)
        · exact (((Keeps.of_below (fun _ => False) (bA HBr.out)).trans HK4.out (fun i hi h => by have := HF.out i h; omega)).below).setCell (Nat.le_refl _) _
      case measure => simp [intOf]; omega
    · obtain rfl : k = n := by omega
      obtain ⟨g, c, rfl⟩ := HO.out.has h0
      have hpg : w.heap.size < g := HF.out g (by simp [blk, Value.ownBlock])
      have hgr : g < wr.heap.size := HO.out.lt (by simp [blk, Value.ownBlock])
      go_wp2_with ((at_builtin; go_must (refine wpList_append_frame _ rfl _ _ 22 rfl 9 i1 (.string .empty) 1 16 Try.underlying22 hj hy0 hy1 hy2 rfl (by decide) _ _ _ rfl (OwnS.nil wr 9 1) ⟨g, 0, none⟩ k c (strV (List.replicate k Z)) rfl (by rw [strV_length, List.length_replicate]; omega) (World.ownsRow.cells HO.out (g := g) rfl) (strV_oneCell _) (by unfold maxLen; omega) (by omega) ?_)); rintro v4 w4 ho4 hk4 hb4 hn4; (simp only [Nat.zero_add, List.nil_append] at ho4 hb4); (obtain ⟨g4, c4, rfl⟩ := ho4.has h0); (replace hk4 : Keeps (fun _ => False) wr w4 := hk4.mono (fun i _ h => by simp [blk, Value.ownBlock, Act.eval] at h)); (have hg4 : wr.heap.size ≤ g4 := (hb4 g4 (by simp [blk, Value.ownBlock])).elim (fun h => by simp [blk, Value.ownBlock, Act.eval] at h) id); (have HP4 := Lib.hid (hk4.keep HP.out (fun h => h))); (have C4 := cell_at HP4.out 2); (have F4 := free_at HP4.out 2); (have HO4 := Lib.hid ho4); (have HK4 := Lib.hid hk4); clear ho4 hk4 hb4 hn4)
      refine bodyPost_ret (results_tmp2 rfl _ _ _) rfl ?_
      refine ⟨w.heap.size, w.heap.size :: (blk (.slice (some ⟨g, 0, none⟩) k c) ++ (blk (.slice none 0 0) ++ blk (.slice (some ⟨g4, 0, none⟩) k c4))), rfl, ⟨hok.out, _, _, _, heap_set HP4.out 2 _, ?_, OwnS.nil _ _ _, ?_, rfl, ?_⟩, ?_, ?_⟩
      · show OwnS _ _ 1 _ (List.replicate k Z).length _
        rw [List.length_replicate]
        refine (HO.out.keep HK4.out (fun _ _ => id)).keep ((Keeps.refl (· = w.heap.size) w4).setCell ⟨w.heap.size, 2, none⟩ _ (.inl rfl)) ?_
        rintro b hb rfl
        exact Nat.lt_irrefl _ (HF.out _ hb)
      · show OwnS _ _ 1 _ (List.replicate k Z).length _
        rw [List.length_replicate]
        refine HO4.out.keep ((Keeps.refl (· = w.heap.size) w4).setCell ⟨w.heap.size, 2, none⟩ _ (.inl rfl)) ?_
        rintro b hb rfl
        have := (show w.heap.size = g4 by simpa [blk, Value.ownBlock] using hb)
        omega
      · simp [blk, Value.ownBlock]; omega
      · exact (((Keeps.of_below (fun _ => False) HBr.out).trans HK4.out (fun i hi h => h)).below).setCell (Nat.le_refl _) _
      · intro b hb
        simp [blk, Value.ownBlock] at hb
        omega
end Go.Proofs.Ytafiojmbaickpaa
