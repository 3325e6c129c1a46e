import Derived.Test.YtbfifakacneacaaDkUp
import Derived.Deep.RegionLaw
set_option linter.unusedSimpArgs false
set_option linter.unusedVariables false
namespace Go.Proofs.Ytbfifakacneacaa
open Go.RowKit

/-! ### the document's device: it holds what a 'Dev' holds but for 'seen' -/
def over (firm : List ByteArray) : List (Int × ByteArray) → List ByteArray
  | [] => firm
  | x :: r => over (firm.set x.1.toNat x.2) r
theorem over_append : ∀ (r s : List (Int × ByteArray)) (firm : List ByteArray), over firm (r ++ s) = over (over firm r) s
  | [], s, firm => rfl
  | x :: r, s, firm => over_append r s _
theorem over_length : ∀ (r : List (Int × ByteArray)) (firm : List ByteArray), (over firm r).length = firm.length
  | [], firm => rfl
  | x :: r, firm => by rw [over, over_length r, List.length_set]
def Dev.Good (D : Dev) : Prop := D.seen = over D.firm D.soft
theorem good_new (n : Nat) : (Dev.new n).Good := rfl
theorem good_after (D : Dev) (ks : List Bool) : (D.after ks).Good := rfl
theorem good_burn {D : Dev} (h : D.Good) : D.burn.1.Good := by
  unfold Dev.Good at *
  obtain ⟨e1, e2, e3⟩ := burn_same D
  rw [e1, e2, e3, h]
theorem good_write {D : Dev} (h : D.Good) (s : Int) (d : ByteArray) : (D.write s d).1.Good := by
  have hb := good_burn h
  unfold Dev.write
  split
  · exact h
  · split
    · exact h
    · split
      · exact hb
      · show D.burn.1.seen.set s.toNat d = over D.burn.1.firm (D.burn.1.soft ++ [(s, d)])
        rw [over_append, ← hb]
        rfl
theorem good_barrier {D : Dev} (h : D.Good) : D.barrier.1.Good := by
  have hb := good_burn h
  unfold Dev.barrier
  split
  · exact h
  · split
    · exact hb
    · rfl
def RefAt (w : World) (p : Nat) (D : Dev) (S : List Nat) : Prop := DevOk D ∧ ∃ fv sv : Value,
  w.heap[p]? = some (.cells #[fv, sv, .int .i64 D.fuel, .bool D.down] 54 (0, 0)) ∧ OwnS w 9 1 fv D.firm.length (strV D.firm) ∧ OwnS w 67 2 sv D.soft.length (recV D.soft) ∧
  S = p :: (blk fv ++ blk sv) ∧ S.Nodup
theorem RefAt.keep {R : Nat → Prop} {w w' : World} {p : Nat} {D : Dev} {S : List Nat} (h : RefAt w p D S) (hk : Keeps R w w') (hS : ∀ k ∈ S, ¬ R k) : RefAt w' p D S := by
  obtain ⟨hok, fv, sv, h1, h2, h3, rfl, h6⟩ := h
  exact ⟨hok, fv, sv, hk.keep h1 (hS _ (by simp)), h2.keep hk (fun k hkk => hS k (by simp [hkk])), h3.keep hk (fun k hkk => hS k (by simp [hkk])), rfl, h6⟩
theorem RefAt.later {w w' : World} {p : Nat} {D : Dev} {S : List Nat} (h : RefAt w p D S) (hb : Below w.heap.size w w') : RefAt w' p D S := h.keep (Keeps.of_below (fun _ => False) hb) (fun _ _ => id)
theorem RefAt.lt {w : World} {p : Nat} {D : Dev} {S : List Nat} (h : RefAt w p D S) : ∀ k ∈ S, k < w.heap.size := by
  obtain ⟨hok, fv, sv, h1, h2, h3, rfl, h6⟩ := h
  intro k hk
  simp only [List.mem_cons, List.mem_append] at hk
  rcases hk with rfl | hk | hk
  · exact block_lt h1
  · exact h2.lt hk
  · exact h3.lt hk
theorem RefAt.mem {w : World} {p : Nat} {D : Dev} {S : List Nat} (h : RefAt w p D S) : p ∈ S := by
  obtain ⟨hok, fv, sv, h1, h2, h3, rfl, h6⟩ := h
  simp
theorem ref_put {w : World} {p : Nat} {D' : Dev} {fv sv : Value} {w' : World} (h6 : (p :: (blk fv ++ blk sv)).Nodup) (hok : DevOk D') (hk : Keeps (· = p) w w')
    (h1 : w'.heap[p]? = some (.cells #[fv, sv, .int .i64 D'.fuel, .bool D'.down] 54 (0, 0))) (h2 : OwnS w 9 1 fv D'.firm.length (strV D'.firm)) (h3 : OwnS w 67 2 sv D'.soft.length (recV D'.soft)) :
    RefAt w' p D' (p :: (blk fv ++ blk sv)) := by
  have hn := (List.nodup_cons.1 h6).1
  refine ⟨hok, fv, sv, h1, h2.keep hk fun k hkk e => hn ?_, h3.keep hk fun k hkk e => hn ?_, rfl, h6⟩
  all_goals (subst e; simp [hkk])
theorem ref_burn (p : Nat) (D : Dev) (S : List Nat) (w : World) (h : RefAt w p D S) : Calls Try.prog 28 #[.pointer (some ⟨p, 0, none⟩)] w fun e w' =>
    e = .returned (.bool D.burn.2) ∧ RefAt w' p D.burn.1 S ∧ Keeps (· = p) w w' := by
  have hbok := Dev.burn_ok h.1
  obtain ⟨hok, fv, sv, h1, h2, h3, rfl, h6⟩ := h
  have c3 := cell_at h1 2
  have c4 := cell_at h1 3
  have f3 := free_at h1 2
  have f4 := free_at h1 3
  have H1 := Lib.hid h1
  have hfu := hok.2.2.2.2
  unfold Dev.burn at *
  by_cases hf : D.fuel = 0
  · rw [if_pos hf] at hbok ⊢
    have hs := heap_set h1 3 (.bool true)
    have P := Lib.hid (ref_put (D' := { D with down := true }) h6 hbok ((Keeps.refl _ w).setCell ⟨p, 3, none⟩ (.bool true) (.inl rfl)) hs h2 h3)
    have K := Lib.hid ((Keeps.refl (· = p) w).setCell ⟨p, 3, none⟩ (.bool true) (.inl rfl))
    clear h1 h2 h3 h6 hok hs hbok
    go_enter Try.func28, Try.ntmps28
    go_wp2_with fail
    go_ret
    exact ⟨rfl, P.out, K.out⟩
  · rw [if_neg hf] at hbok ⊢
    by_cases hg : 0 < D.fuel
    · rw [if_pos hg] at hbok ⊢
      have hs := heap_set h1 2 (.int .i64 (D.fuel - 1))
      have P := Lib.hid (ref_put (D' := { D with fuel := D.fuel - 1 }) h6 hbok ((Keeps.refl _ w).setCell ⟨p, 2, none⟩ (.int .i64 (D.fuel - 1)) (.inl rfl)) hs h2 h3)
      have K := Lib.hid ((Keeps.refl (· = p) w).setCell ⟨p, 2, none⟩ (.int .i64 (D.fuel - 1)) (.inl rfl))
      clear h1 h2 h3 h6 hok hs hbok
      go_enter Try.func28, Try.ntmps28
      go_wp2_with fail
      go_ret
      exact ⟨rfl, P.out, K.out⟩
    · rw [if_neg hg] at hbok ⊢
      have P := Lib.hid (ref_put h6 hbok (Keeps.refl _ w) h1 h2 h3)
      have hne : (D.fuel == 0) = false := by simpa using hf
      clear h1 h2 h3 h6 hok hbok
      go_enter Try.func28, Try.ntmps28
      go_wp2_with fail
      go_ret
      exact ⟨rfl, P.out, Keeps.refl _ _⟩
theorem Try.info_rw : (Try.prog.info? 67).map (fun i => (i.zero, i.size, i.bytes)) = some (some (.agg #[.int .i64 0, .string .empty]), 2, 24) := by kernel_rfl
theorem nodup_swap2 {p : Nat} {F A B : List Nat} (h : (p :: (F ++ A)).Nodup) (hB : B.Nodup) (hsub : ∀ k ∈ B, k ∈ A ∨ (k ≠ p ∧ k ∉ F)) : (p :: (F ++ B)).Nodup := by
  have := nodup_swap (p := p) (F := F) (A := A) (B := B) (E := []) (by simpa using h) hB (fun k hk => (hsub k hk).imp id (fun h => ⟨h.1, h.2, by simp⟩))
  simpa using this
set_option maxHeartbeats 800000 in
theorem ref_write (p : Nat) (s : Int) (d : ByteArray) (hd : d.size ≤ maxLen) (D : Dev) (S : List Nat) (hsoft : D.soft.length ≤ 9000000000000) (w : World) (h : RefAt w p D S) :
    Calls Try.prog 22 #[.pointer (some ⟨p, 0, none⟩), .int .i64 s, .string d] w fun e w' =>
      e = .returned (.int .i64 (D.write s d).2) ∧ ∃ S', RefAt w' p (D.write s d).1 S' ∧ Keeps (· ∈ S) w w' ∧ ∀ k ∈ S', k ∈ S ∨ w.heap.size ≤ k := by
  have HB := Lib.hid (ref_burn p D S w h)
  have HA := Lib.hid h
  have hwok := Dev.write_ok h.1 s d
  obtain ⟨e1, e2, e3⟩ := burn_same D
  unfold Dev.write at hwok ⊢
  unfold maxLen at hd
  obtain ⟨hok, fv, sv, h1, h2, h3, hS, h6⟩ := h
  obtain ⟨hn, hm, hsl, -⟩ := hok
  obtain ⟨g, c, rfl⟩ := h2.has (by omega)
  have c0 := cell_at h1 0
  have c3 := cell_at h1 3
  clear h1 h2 h3 h6 hS
  have fin : ∀ (w1 : World) (D1 : Dev), w1 = w → D1 = D → ∃ S', RefAt w1 p D1 S' ∧ Keeps (· ∈ S) w w1 ∧ ∀ k ∈ S', k ∈ S ∨ w.heap.size ≤ k := by
    rintro _ _ rfl rfl
    exact ⟨S, HA.out, Keeps.refl _ _, fun k hk => .inl hk⟩
  cases hdn : D.down with
  | true =>
    rw [hdn] at c3
    simp only [if_true]
    go_enter Try.func22, Try.ntmps22
    go_wp2_with fail
    go_ret
    exact ⟨rfl, fin _ _ rfl rfl⟩
  | false =>
    rw [hdn] at c3 hwok
    simp only [Bool.false_eq_true, if_false] at hwok ⊢
    by_cases hs : s < 0
    · rw [if_pos (.inl hs)]
      go_enter Try.func22, Try.ntmps22
      go_wp2_with fail
      go_ret
      exact ⟨rfl, fin _ _ rfl rfl⟩
    · by_cases hs2 : (D.firm.length : Int) ≤ s
      · rw [if_pos (.inr (.inl hs2))]
        go_enter Try.func22, Try.ntmps22
        go_wp2_with fail
        go_ret
        exact ⟨rfl, fin _ _ rfl rfl⟩
      · have hs3 : s < (D.firm.length : Int) := by omega
        by_cases hz : d.size ≠ 64
        · rw [if_pos (.inr (.inr hz))]
          have hz' : ((d.size : Int) != 64) = true := by simp; omega
          go_enter Try.func22, Try.ntmps22
          go_wp2_with fail
          go_ret
          exact ⟨rfl, fin _ _ rfl rfl⟩
        · have hz' : d.size = 64 := by omega
          rw [if_neg (by omega)] at hwok ⊢
          cases hb2 : D.burn.2 with
          | false =>
            rw [hb2] at HB
            simp only [if_true]
            go_enter Try.func22, Try.ntmps22
            go_wp2_with fail
            refine (HB.out).mono ?_
            rintro e w2 ⟨rfl, hD, hk⟩
            go_wp2_with fail
            go_ret
            exact ⟨rfl, S, hD, hk.mono fun i _ e => by subst e; exact HA.out.mem, fun k hk => .inl hk⟩
          | true =>
            rw [hb2] at HB hwok
            simp only [Bool.true_eq_false, if_false] at hwok ⊢
            obtain ⟨i0, hi, hi0, hi1, hi2⟩ := info_parts Try.info_rw
            have hwok := Lib.hid hwok
            have e1 := Lib.hid e1
            have e2 := Lib.hid e2
            have e3 := Lib.hid e3
            clear hm hs2
            go_enter Try.func22, Try.ntmps22
            go_wp2_with fail
            refine (HB.out).mono ?_
            rintro e w2 ⟨rfl, hD, hk⟩
            have hbm := hD.mem
            have HD := Lib.hid hD
            have HK := Lib.hid hk
            obtain ⟨hok2, fv2, sv2, h1, h2, h3, hS, h6⟩ := hD
            rw [e3.out] at h3
            rw [hS] at h6
            have hpsv : p ∉ blk sv2 := fun e => (List.nodup_cons.1 h6).1 (by simp [e])
            have hplt : p < w2.heap.size := block_lt h1
            have C1 := cell_at h1 1
            have F1 := free_at h1 1
            have HO := Lib.hid (h3.keep ((Keeps.refl (fun _ => False) w2).alloc (.cells #[.int .i64 s, .string d] 67)) fun k hk e => e)
            have H1 := Lib.hid h1
            have H2 := Lib.hid h2
            have H6 := Lib.hid h6
            have HS := Lib.hid hS
            clear hk h1 h2 h3 h6 hS hok2
            go_wp2_with ((at_builtin; go_must (refine wpList_append_frame _ rfl _ _ 52 rfl 67 i0 (.agg #[.int .i64 0, .string .empty]) 2 24 Try.underlying52 hi hi0 hi1 hi2 rfl (by decide) _ _ _ rfl HO.out ⟨w2.heap.size, 0, none⟩ 1 1 [.int .i64 s, .string d] rfl rfl (cell_two_new _ _ _ _ _ _ (by simp)) (by simp [Value.oneCell']) (by unfold maxLen; omega) (by omega) ?_)); rintro v4 w4 ho4 hk4 hb4 hn4; (obtain ⟨g4, c4, rfl⟩ := ho4.has (by omega)); (replace hk4 : Keeps (· ∈ blk sv2) (w2.alloc (.cells #[.int .i64 s, .string d] 67)) w4 := hk4); (replace hb4 : ∀ k ∈ blk (.slice (some ⟨g4, 0, none⟩) (D.soft.length + 1) c4), k ∈ blk sv2 ∨ (w2.alloc (.cells #[.int .i64 s, .string d] 67)).heap.size ≤ k := hb4); (have HP4 := Lib.hid (hk4.keep (hO H1.out) hpsv)); (have C4 := cell_at HP4.out 1); (have F4 := free_at HP4.out 1); (have HO4 := Lib.hid ho4); (have HK4 := Lib.hid hk4); (have HB4 := Lib.hid hb4); clear ho4 hk4 hb4 hn4)
            go_ret
            have hB4 := HB4.out
            rw [show (w2.alloc (.cells #[.int .i64 s, .string d] 67)).heap.size = w2.heap.size + 1 by simp] at hB4
            have hnd := H6.out
            simp only [List.nodup_cons, List.nodup_append, List.mem_append, not_or] at hnd
            obtain ⟨⟨n1, n2⟩, n4, n5, n8⟩ := hnd
            have KF : Keeps (fun k => k = p ∨ k ∈ blk sv2) w2 (w4.setCell ⟨p, 1, none⟩ (.slice (some ⟨g4, 0, none⟩) (D.soft.length + 1) c4)) :=
              (((Keeps.refl (fun k => k = p ∨ k ∈ blk sv2) w2).alloc (.cells #[.int .i64 s, .string d] 67)).trans HK4.out fun k _ hk => .inr hk).setCell _ _ (.inl (.inl rfl))
            refine ⟨rfl, p :: (blk fv2 ++ blk (.slice (some ⟨g4, 0, none⟩) (D.soft.length + 1) c4)), ⟨hwok.out, fv2, _, heap_set HP4.out 1 _, H2.out.keep KF ?_, ?_, rfl, nodup_swap2 H6.out (blk_nodup _) ?_⟩, ?_, ?_⟩
            · rintro k hk (rfl | h)
              · exact n1 hk
              · exact n8 _ hk _ h rfl
            · show OwnS _ _ 2 _ (D.burn.1.soft ++ [(s, d)]).length (recV (D.burn.1.soft ++ [(s, d)]))
              rw [e3.out, List.length_append, recV_append]
              refine HO4.out.keep ((Keeps.refl (· = p) w4).setCell ⟨p, 1, none⟩ (.slice (some ⟨g4, 0, none⟩) (D.soft.length + 1) c4) (.inl rfl)) ?_
              rintro k hk rfl
              rcases hB4 _ hk with h | h
              · exact n2 h
              · omega
            · intro k hk
              rcases hB4 _ hk with h | h
              · exact .inl h
              · exact .inr ⟨by omega, fun hf => by have := H2.out.lt hf; omega⟩
            · rw [HS.out]
              refine (HK.out.mono (T := (· ∈ p :: (blk fv2 ++ blk sv2))) fun k _ e => by subst e; simp).trans KF ?_
              rintro k _ (rfl | h)
              · simp
              · simp [h]
            · intro k hk
              rw [HS.out]
              have hzz := HK.out.size
              simp only [List.mem_cons, List.mem_append] at hk ⊢
              rcases hk with h | h | h
              · exact .inl (.inl h)
              · exact .inl (.inr (.inl h))
              · rcases hB4 _ h with h' | h'
                · exact .inl (.inr (.inr h'))
                · exact .inr (by omega)
end Go.Proofs.Ytbfifakacneacaa
