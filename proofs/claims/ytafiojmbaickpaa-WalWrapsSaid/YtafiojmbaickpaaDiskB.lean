import Derived.Test.YtafiojmbaickpaaDisk
set_option linter.unusedSimpArgs false
set_option linter.unusedVariables false
namespace Go.Proofs.Ytafiojmbaickpaa
open Go.RowKit

def Dev.barrier (D : Dev) : Dev × Int := if D.down = true then (D, 20) else if D.burn.2 = false then (D.burn.1, 20) else ({ D.burn.1 with firm := D.burn.1.seen, soft := [] }, 0)
theorem Dev.barrier_ok {D : Dev} (h : DevOk D) : DevOk D.barrier.1 := by
  have hb := Dev.burn_ok h
  unfold Dev.barrier
  split
  · exact h
  · split
    · exact hb
    · obtain ⟨h1, h2, h3, h4, h5, h6, h7, h8⟩ := hb
      exact ⟨by show 0 < D.burn.1.seen.length; omega, by show D.burn.1.seen.length ≤ _; omega, rfl, by simp, h5, h6, h7, h7⟩
theorem Try.info_st : (Try.prog.info? 9).map (fun i => (i.zero, i.size, i.bytes)) = some (some (.string .empty), 1, 16) := by kernel_rfl
theorem strV_oneCell (l : List ByteArray) : ∀ v ∈ strV l, v.oneCell' = true := by
  intro v hv
  obtain ⟨s, _, rfl⟩ := List.mem_map.1 hv
  rfl
/-- copy of all of one owned row onto another one as long -/
theorem run_copy_own (w : World) (ty : TypeId) (g c g' c' n : Nat) (xs ys : List ByteArray) (h : OwnS w 9 1 (.slice (some ⟨g, 0, none⟩) n c) n (strV xs)) (h' : OwnS w 9 1 (.slice (some ⟨g', 0, none⟩) n c') n (strV ys)) :
    ∃ W, (Builtin.copy_ #[22, 22] ty #[.slice (some ⟨g, 0, none⟩) n c, .slice (some ⟨g', 0, none⟩) n c']).run Try.prog w = .ok (goInt n) W ∧ Keeps (· = g) w W ∧ OwnS W 9 1 (.slice (some ⟨g, 0, none⟩) n c) n (strV ys) := by
  have hl' : ys.length = n := by have := h'.1; rw [strV_length] at this; omega
  have hcell : ∀ j v, (strV ys)[j]? = some v → w.cell? ((⟨g', 0, none⟩ : Addr).add j) = some v := World.ownsRow.cells h' (g := g') rfl
  rcases h.2 with ⟨he, _⟩ | ⟨g1, cap, cur, he, hb, hg, hnc, hcm, hcs, htake⟩
  · simp at he
  · simp only [Value.slice.injEq, Option.some.injEq, Addr.mk.injEq, and_true, true_and] at he
    obtain ⟨rfl, rfl⟩ := he
    have hinfo : (Try.prog.info? 9).map (·.size) = some 1 := by kernel_rfl
    have hr := run_copy_row (P := Try.prog) w 22 22 ty 9 g 0 n c ⟨g', 0, none⟩ n c' cur 9 (strV ys) Try.underlying22 hinfo hg (by rw [strV_length, hl']; simp [Nat.min_def]) hcell (by rw [strV_length]; omega) (strV_oneCell ys)
    rw [strV_length, hl'] at hr
    refine ⟨_, hr, ⟨rfl, rfl, rfl, by simp, fun k _ hk => setRow_other _ _ _ _ hk⟩, by rw [strV_length]; omega, .inr ⟨g, c, _, rfl, Nat.zero_le _, setRow_heap w g cur _ 9 (0, 0) hg, hnc, hcm, ?_, ?_⟩⟩
    · simp [strV_length, hl']; omega
    · simp only [List.take_zero, List.nil_append, Nat.zero_add, Nat.mul_one]
      rw [List.take_append_of_le_length (by rw [strV_length]; omega)]
      exact List.take_of_length_le (by rw [strV_length]; omega)
set_option maxHeartbeats 800000 in
set_option maxRecDepth 100000 in
theorem dsk_barrier (p : Nat) (D : Dev) (S : List Nat) (w : World) (h : DiskAt w p D S) :
    Calls Try.prog 27 #[.pointer (some ⟨p, 0, none⟩)] w fun e w' =>
      e = .returned (.int .i64 D.barrier.2) ∧ ∃ S', DiskAt w' p D.barrier.1 S' ∧ Keeps (· ∈ S) w w' ∧ ∀ k ∈ S', k ∈ S ∨ w.heap.size ≤ k := by
  have H := Lib.hid (dsk_off p D S w h)
  have HB := Lib.hid (dsk_burn p D S w h)
  have HA := Lib.hid h
  have hwok := Dev.barrier_ok h.1
  obtain ⟨e1, e2, e3⟩ := burn_same D
  unfold Dev.barrier at hwok ⊢
  have hok := h.1
  obtain ⟨hn, hm, hsl, -⟩ := hok
  have fin : ∀ (w1 : World) (D1 : Dev), w1 = w → D1 = D → ∃ S', DiskAt w1 p D1 S' ∧ Keeps (· ∈ S) w w1 ∧ ∀ k ∈ S', k ∈ S ∨ w.heap.size ≤ k := by
    rintro _ _ rfl rfl
    exact ⟨S, HA.out, Keeps.refl _ _, fun k hk => .inl hk⟩
  clear h
  cases hdn : D.down with
  | true =>
    rw [hdn] at H
    simp only [if_true]
    go_enter Try.func27, Try.ntmps27
    go_wp2_with fail
    refine (H.out).mono ?_
    rintro e w1 ⟨rfl, rfl⟩
    go_wp2_with fail
    go_ret
    exact ⟨rfl, fin _ _ rfl rfl⟩
  | false =>
    rw [hdn] at H hwok
    simp only [Bool.false_eq_true, if_false] at hwok ⊢
    cases hb2 : D.burn.2 with
    | false =>
      rw [hb2] at HB
      simp only [if_true]
      go_enter Try.func27, Try.ntmps27
      go_wp2_with fail
      refine (H.out).mono ?_
      rintro e w1 ⟨rfl, rfl⟩
      go_wp2_with fail
      refine (HB.out).mono ?_
      rintro e w2 ⟨rfl, hD, hk⟩
      go_wp2_with fail
      go_ret
      exact ⟨rfl, S, hD, hk.mono fun i _ e => by subst e; exact HA.out.mem, fun k hk => .inl hk⟩
    | true =>
      rw [hb2] at HB hwok
      simp only [Bool.true_eq_false, if_false] at hwok ⊢
      have hwok := Lib.hid hwok
      have e1 := Lib.hid e1
      have e2 := Lib.hid e2
      have e3 := Lib.hid e3
      clear hm
      go_enter Try.func27, Try.ntmps27
      go_wp2_with fail
      refine (H.out).mono ?_
      rintro e w1 ⟨rfl, rfl⟩
      go_wp2_with fail
      refine (HB.out).mono ?_
      rintro e w2 ⟨rfl, hD, hk⟩
      have hbm := hD.mem
      have HD := Lib.hid hD
      have HK := Lib.hid hk
      obtain ⟨hok2, fv2, sv2, ev2, h1, h2, h3, h4, hS, h6⟩ := hD
      rw [e2.out] at h4
      rw [e1.out] at h2
      rw [hS] at h6
      obtain ⟨g2, c2', rfl⟩ := h4.has (by omega)
      obtain ⟨g1, c1', rfl⟩ := h2.has (by omega)
      rw [hsl] at h4
      have hnd := h6
      have hg1 : g1 ∈ blk (.slice (some ⟨g1, 0, none⟩) D.firm.length c1') := by simp [blk, Value.ownBlock]
      have hg2 : g2 ∈ blk (.slice (some ⟨g2, 0, none⟩) D.seen.length c2') := by simp [blk, Value.ownBlock]
      simp only [List.nodup_cons, List.nodup_append, List.mem_append, not_or] at hnd
      obtain ⟨⟨n1, n2, n3⟩, n4, ⟨n5, n6, n7⟩, n8⟩ := hnd
      have hp1 : p ≠ g1 := fun e => n1 (by subst e; exact hg1)
      have h12 : g2 ≠ g1 := fun e => n8 _ hg1 _ (.inr hg2) e.symm
      have C0 := cell_at h1 0
      have C2 := cell_at h1 2
      obtain ⟨W, hcopy, hKW, hOW⟩ := run_copy_own w2.drew 3 g1 c1' g2 c2' D.firm.length D.firm D.seen (World.ownsRow.drew h2) (World.ownsRow.drew h4)
      have HP := hKW.keep (hDr h1) hp1
      have P1 := cell_at HP 1
      have Q1 := free_at HP 1
      have H1 := Lib.hid h1
      have H2 := Lib.hid h2
      have H4 := Lib.hid h4
      have H6 := Lib.hid h6
      have HS := Lib.hid hS
      have HPH := Lib.hid HP
      have HKW := Lib.hid hKW
      have HOW := Lib.hid hOW
      clear hk h1 h2 h3 h4 h6 hS hok2 HP hKW hOW
      go_wp2_with fail
      go_region
      go_wp2_with fail
      go_ret
      have K2 : Keeps (fun k => k = p ∨ k = g1) w2 (W.setCell ⟨p, 1, none⟩ (.slice none 0 0)) :=
        ((((Keeps.refl (fun k => k = p ∨ k = g1) w2).drew).trans HKW.out fun k _ hk => .inr hk)).setCell ⟨p, 1, none⟩ (.slice none 0 0) (.inl (.inl rfl))
      refine ⟨rfl, p :: (blk (.slice (some ⟨g1, 0, none⟩) D.firm.length c1') ++ (blk (.slice none 0 0) ++ blk (.slice (some ⟨g2, 0, none⟩) D.firm.length c2'))),
        ⟨hwok.out, _, _, _, heap_set HPH.out 1 _, ?_, OwnS.nil _ _ _, ?_, rfl, ?_⟩, ?_, ?_⟩
      · show OwnS _ _ 1 _ D.burn.1.seen.length (strV D.burn.1.seen)
        rw [e2.out, hsl]
        refine HOW.out.keep ((Keeps.refl (· = p) W).setCell ⟨p, 1, none⟩ (.slice none 0 0) (.inl rfl)) ?_
        rintro k hk rfl
        exact n1 hk
      · show OwnS _ _ 1 _ D.burn.1.seen.length (strV D.burn.1.seen)
        rw [e2.out, hsl]
        refine H4.out.keep K2 ?_
        rintro k hk (rfl | rfl)
        · exact n3 hk
        · exact n8 _ hg1 _ (.inr hk) rfl
      · exact nodup_swap H6.out (blk_nodup _) (by simp [blk, Value.ownBlock])
      · rw [HS.out]
        refine (HK.out.mono (T := (· ∈ p :: (blk (.slice (some ⟨g1, 0, none⟩) D.firm.length c1') ++ (blk sv2 ++ blk (.slice (some ⟨g2, 0, none⟩) D.seen.length c2'))))) fun k _ e => by subst e; simp).trans K2 ?_
        rintro k _ (rfl | rfl)
        · simp
        · simp [hg1]
      · intro k hk
        rw [HS.out]
        left
        simp only [List.mem_cons, List.mem_append] at hk ⊢
        rcases hk with h | h | h | h
        · exact .inl h
        · exact .inr (.inl h)
        · simp [blk, Value.ownBlock] at h
        · exact .inr (.inr (.inr h))
end Go.Proofs.Ytafiojmbaickpaa
