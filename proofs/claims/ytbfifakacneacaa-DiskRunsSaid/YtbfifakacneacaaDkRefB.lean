import Derived.Test.YtbfifakacneacaaDkRef
import Derived.BigRegion
set_option linter.unusedSimpArgs false
set_option linter.unusedVariables false
namespace Go.Proofs.Ytbfifakacneacaa
open Go.RowKit

theorem over_take_succ (f : List ByteArray) (l : List (Int × ByteArray)) (k : Nat) (hk : k < l.length) : over f (l.take (k + 1)) = (over f (l.take k)).set l[k].1.toNat l[k].2 := by
  rw [List.take_succ_eq_append_getElem hk, over_append]
  rfl
def Dev.upto (D : Dev) (k : Nat) : Dev := { D with firm := over D.firm (D.soft.take k) }
theorem over_size : ∀ (r : List (Int × ByteArray)) (firm : List ByteArray), (∀ s ∈ firm, s.size = 64) → (∀ x ∈ r, x.2.size = 64) → ∀ s ∈ over firm r, s.size = 64
  | [], firm, h1, _ => h1
  | x :: r, firm, h1, h2 => by
    refine over_size r _ ?_ (fun y hy => h2 y (by simp [hy]))
    intro s hs
    rcases List.mem_or_eq_of_mem_set hs with h | h
    · exact h1 s h
    · rw [h]; exact h2 x (by simp)
theorem upto_ok {D : Dev} (h : DevOk D) (k : Nat) : DevOk (D.upto k) := by
  obtain ⟨h1, h2, h3, h4, h5, h6, h7, h8⟩ := h
  have hl : (D.upto k).firm.length = D.firm.length := over_length _ _
  refine ⟨by rw [hl]; exact h1, by rw [hl]; exact h2, by rw [hl]; exact h3, by rw [hl]; exact h4, h5, h6, h7, over_size _ _ h8 (fun x hx => (h4 x (List.mem_of_mem_take hx)).2.2)⟩
set_option maxHeartbeats 1600000 in
theorem ref_barrier (p : Nat) (D : Dev) (hg : D.Good) (S : List Nat) (w : World) (h : RefAt w p D S) :
    Calls Try.prog 23 #[.pointer (some ⟨p, 0, none⟩)] w fun e w' =>
      e = .returned (.int .i64 D.barrier.2) ∧ ∃ S', RefAt w' p D.barrier.1 S' ∧ Keeps (· ∈ S) w w' ∧ ∀ k ∈ S', k ∈ S ∨ w.heap.size ≤ k := by
  have HB := Lib.hid (ref_burn p D S w h)
  have HA := Lib.hid h
  have hwok := Dev.barrier_ok h.1
  have hgb := good_burn hg
  obtain ⟨e1, e2, e3⟩ := burn_same D
  unfold Dev.barrier at hwok ⊢
  have c3 : w.cell? ⟨p, 3, none⟩ = some (.bool D.down) := by
    obtain ⟨_, fv, sv, h1, _⟩ := h
    exact cell_at h1 3
  have fin : ∀ (w1 : World) (D1 : Dev), w1 = w → D1 = D → ∃ S', RefAt w1 p D1 S' ∧ Keeps (· ∈ S) w w1 ∧ ∀ k ∈ S', k ∈ S ∨ w.heap.size ≤ k := by
    rintro _ _ rfl rfl
    exact ⟨S, HA.out, Keeps.refl _ _, fun k hk => .inl hk⟩
  have hsm : D.soft.length ≤ maxLen := by
    obtain ⟨_, fv, sv, h1, _, h3, _⟩ := h
    rcases h3.2 with ⟨_, h⟩ | ⟨_, _, _, _, _, _, h, h', _⟩
    · omega
    · omega
  unfold maxLen at hsm
  clear h
  cases hdn : D.down with
  | true =>
    rw [hdn] at c3
    simp only [if_true]
    go_enter Try.func23, Try.ntmps23
    go_wp2_with fail
    go_ret
    exact ⟨rfl, fin _ _ rfl rfl⟩
  | false =>
    rw [hdn] at c3 hwok
    simp only [Bool.false_eq_true, if_false] at hwok ⊢
    cases hb2 : D.burn.2 with
    | false =>
      rw [hb2] at HB
      simp only [if_true]
      go_enter Try.func23, Try.ntmps23
      go_wp2_with fail
      refine (HB.out).mono ?_
      rintro e w2 ⟨rfl, hD, hk⟩
      go_wp2_with fail
      go_ret
      exact ⟨rfl, S, hD, hk.mono fun i _ e => by subst e; exact HA.out.mem, fun k hk => .inl hk⟩
    | true =>
      rw [hb2] at HB hwok
      simp only [Bool.true_eq_false, if_false] at hwok ⊢
      have hsl : D.burn.1.soft.length ≤ 9223372036854775807 := by rw [e3]; omega
      generalize D.burn.1 = E at *
      have hgb := Lib.hid hgb
      have hwok := Lib.hid hwok
      clear e1 e2 e3 hg hsm
      go_enter Try.func23, Try.ntmps23
      go_wp2_with fail
      refine (HB.out).mono ?_
      rintro e w2 ⟨rfl, hD, hk⟩
      have HD := Lib.hid hD
      have HK := Lib.hid hk
      clear hD hk c3
      go_wp2_with fail
      go_loopw [3] (fun i wr => ∃ (k : Nat), k ≤ E.soft.length ∧ i = .int .i64 k ∧ Hid (RefAt wr p (E.upto k) S) ∧ Keeps (· ∈ S) w wr) (fun i _ => E.soft.length - (intOf i).toNat)
      case atStart => exact ⟨0, by omega, rfl, HD.out, HK.out.mono fun i _ e => by subst e; exact HA.out.mem⟩
      case round =>
        obtain ⟨k, hk, rfl, HR, hkr⟩ := hrel
        have HKr := Lib.hid hkr
        clear hkr
        obtain ⟨hok, fv, sv, h1, h2, h3, hS, h6⟩ := HR.out
        have hfl : (E.upto k).firm.length = E.firm.length := over_length _ _
        obtain ⟨g, c, rfl⟩ := h2.has hok.1
        rw [hfl] at h1 h2 hS
        have h3 : OwnS wr 67 2 sv E.soft.length (recV E.soft) := h3
        obtain ⟨sa, sc, hsv⟩ := h3.form
        subst hsv
        have C0 := cell_at h1 0
        have C1 := cell_at h1 1
        have F1 := free_at h1 1
        have H1 := Lib.hid h1
        have H2 := Lib.hid h2
        by_cases hkm : k < E.soft.length
        · obtain ⟨gs, cs', hsv⟩ := h3.has (by omega)
          obtain ⟨rfl, rfl⟩ : sa = some ⟨gs, 0, none⟩ ∧ sc = cs' := by simpa using hsv
          have x0 : wr.cell? ⟨gs, k * 2, none⟩ = some (.int .i64 E.soft[k].1) := by
            rw [Nat.mul_comm k 2, h3.cellAt (2 * k) (by omega), (recV_get E.soft k).1, List.getElem?_eq_getElem hkm]; rfl
          have x1 : wr.cell? ⟨gs, k * 2 + 1, none⟩ = some (.string E.soft[k].2) := by
            rw [Nat.mul_comm k 2, h3.cellAt (2 * k + 1) (by omega), (recV_get E.soft k).2, List.getElem?_eq_getElem hkm]; rfl
          have hx := hok.2.2.2.1 E.soft[k] (List.getElem_mem _)
          rw [hfl] at hx
          have hst : (E.upto (k + 1)).firm = (E.upto k).firm.set E.soft[k].1.toNat E.soft[k].2 := over_take_succ _ _ _ hkm
          have hst := Lib.hid hst
          generalize E.soft[k] = x at *
          obtain ⟨xs, xd⟩ := x
          obtain ⟨hx0, hx1, hx2⟩ := hx
          dsimp only at hx0 hx1 hx2 x0 x1
          obtain ⟨s, rfl⟩ : ∃ s : Nat, xs = (s : Int) := ⟨xs.toNat, by omega⟩
          have z0 : wr.cell? ⟨g, s, none⟩ = some (.string ((E.upto k).firm.getD s ⟨#[]⟩)) := by
            rw [h2.cellAt s (by omega)]
            unfold strV
            rw [List.getElem?_map, List.getD_eq_getElem?_getD, List.getElem?_eq_getElem (by omega)]; rfl
          have z1 : wr.frozen? ⟨g, s, none⟩ = false := World.ownsRow.frozenAt h2 s
          have hkm' : (k : Int) < E.soft.length := by omega
          have hok1 := Lib.hid (upto_ok (D := E) (by
            have := HD.out.1; exact this) (k + 1))
          have H3 := Lib.hid h3
          have hSn := Lib.hid hS
          have H6 := Lib.hid h6
          generalize (E.upto k).firm.getD s ⟨#[]⟩ = old at *
          clear h1 h2 h3 hok hS h6 hx2
          go_wp2_with fail
          go_region
          all_goals
            go_wp2_with fail
            go_roundw
            case rel =>
              refine ⟨k + 1, by omega, rfl, ?_, ?_⟩
              · have hgS : g ∈ blk (.slice (some ⟨g, 0, none⟩) E.firm.length c) := by simp [blk, Value.ownBlock]
                have hnd := H6.out
                rw [hSn.out] at hnd
                have hpg : p ≠ g := fun e => (List.nodup_cons.1 hnd).1 (by simp [e, hgS])
                have hgsv : ∀ b ∈ blk (.slice (some ⟨gs, 0, none⟩) E.soft.length sc), b ≠ g := fun b hb e => (List.nodup_append.1 (List.nodup_cons.1 hnd).2).2.2 g hgS b hb e.symm
                have hK : Keeps (· = g) wr ((wr.drew).setCell ⟨g, s, none⟩ (.string xd)) := ((Keeps.refl (· = g) wr).drew).setCell _ _ (.inl rfl)
                refine ⟨hok1.out, .slice (some ⟨g, 0, none⟩) E.firm.length c, _, hK.keep H1.out hpg, ?_, H3.out.keep hK hgsv, hSn.out, H6.out⟩
                rw [hst.out, List.length_set, strV_set, show (E.upto k).firm.length = E.firm.length from over_length _ _]
                exact OwnS.set (w := wr.drew) (H2.out.keep ((Keeps.refl (fun _ => False) wr).drew) (fun _ _ h => h)) s (.string xd)
              · refine (HKr.out.drew).setCell _ _ (.inl ?_)
                show g ∈ S
                rw [hSn.out]
                simp [blk, Value.ownBlock]
            case measure => simp [intOf]; omega
        · obtain rfl : k = E.soft.length := by omega
          have hsn := heap_set h1 1 (.slice none 0 0)
          have hb := blk_nodup
          have hSn := Lib.hid hS
          have H6 := Lib.hid h6
          have HSN := Lib.hid hsn
          clear h1 h2 h3 hok hsn hb
          go_wp2_with fail
          go_ret
          have hnd := H6.out
          rw [hSn.out] at hnd
          have hK : Keeps (· = p) wr (wr.setCell ⟨p, 1, none⟩ (.slice none 0 0)) := (Keeps.refl (· = p) wr).setCell _ _ (.inl rfl)
          have hpg : ∀ b ∈ blk (.slice (some ⟨g, 0, none⟩) E.firm.length c), b ≠ p := fun b hb e => (List.nodup_cons.1 hnd).1 (by rw [← e]; simp [hb])
          refine ⟨rfl, p :: (blk (.slice (some ⟨g, 0, none⟩) E.firm.length c) ++ blk (.slice none 0 0)), ⟨hwok.out, _, _, HSN.out, ?_, OwnS.nil _ _ _, rfl, ?_⟩, ?_, ?_⟩
          · show OwnS _ _ 1 _ E.seen.length (strV E.seen)
            rw [hgb.out, over_length]
            have := H2.out.keep hK hpg
            rwa [show (E.upto E.soft.length).firm = over E.firm E.soft from by unfold Dev.upto; simp] at this
          · refine nodup_swap2 hnd (blk_nodup _) ?_
            intro b hb
            simp [blk, Value.ownBlock] at hb
          · refine HKr.out.setCell _ _ (.inl ?_)
            exact HA.out.mem
          · intro b hb
            rw [hSn.out]
            simp only [List.mem_cons, List.mem_append] at hb ⊢
            rcases hb with h | h | h
            · exact .inl (.inl h)
            · exact .inl (.inr (.inl h))
            · simp [blk, Value.ownBlock] at h
end Go.Proofs.Ytbfifakacneacaa
