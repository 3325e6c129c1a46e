import Derived.Test.YtbfifakacneacaaDkRefB
set_option linter.unusedSimpArgs false
set_option linter.unusedVariables false
namespace Go.Proofs.Ytbfifakacneacaa
open Go.RowKit

theorem over_getD (f : List ByteArray) (l : List (Int × ByteArray)) (k : Nat) (hk : k < l.length) (s : Nat) (hs : s < f.length) :
    (over f (l.take (k + 1))).getD s ⟨#[]⟩ = if l[k].1.toNat = s then l[k].2 else (over f (l.take k)).getD s ⟨#[]⟩ := by
  rw [over_take_succ f l k hk, List.getD_eq_getElem?_getD, List.getD_eq_getElem?_getD, List.getElem?_set]
  by_cases e : l[k].1.toNat = s
  · rw [if_pos e, if_pos e, if_pos (by rw [over_length]; omega)]; rfl
  · rw [if_neg e, if_neg e]
set_option maxHeartbeats 1600000 in
theorem ref_read (p : Nat) (s : Int) (D : Dev) (hg : D.Good) (S : List Nat) (w : World) (h : RefAt w p D S) : Calls Try.prog 25 #[.pointer (some ⟨p, 0, none⟩), .int .i64 s] w fun e w' =>
    e = .returned (.tuple #[.string (D.read s).1, .int .i64 (D.read s).2]) ∧ w' = w := by
  unfold Dev.read
  obtain ⟨hok, fv, sv, h1, h2, h3, hS, h6⟩ := h
  obtain ⟨g, c, rfl⟩ := h2.has hok.1
  obtain ⟨sa, sc, hsv⟩ := h3.form
  subst hsv
  have hsm : D.soft.length ≤ maxLen := by
    rcases h3.2 with ⟨_, h⟩ | ⟨_, _, _, _, _, _, h, h', _⟩
    · omega
    · omega
  unfold maxLen at hsm
  have c0 := cell_at h1 0
  have c1 := cell_at h1 1
  have c3 := cell_at h1 3
  have hso := hok.2.2.2.1
  have hso := Lib.hid hso
  have H3 := Lib.hid h3
  clear h1 h3 hS h6 hok
  cases hd : D.down with
  | true =>
    rw [hd] at c3
    simp only [if_true]
    go_enter Try.func25, Try.ntmps25
    go_wp2_with fail
    go_ret2
    exact ⟨rfl, rfl⟩
  | false =>
    rw [hd] at c3
    simp only [Bool.false_eq_true, if_false]
    by_cases hs : s < 0
    · rw [if_pos (.inl hs)]
      clear h2
      go_enter Try.func25, Try.ntmps25
      go_wp2_with fail
      go_ret2
      exact ⟨rfl, rfl⟩
    · by_cases hs2 : (D.firm.length : Int) ≤ s
      · rw [if_pos (.inr hs2)]
        clear h2
        go_enter Try.func25, Try.ntmps25
        go_wp2_with fail
        go_ret2
        exact ⟨rfl, rfl⟩
      · rw [if_neg (by omega)]
        obtain ⟨i, rfl⟩ : ∃ i : Nat, s = (i : Int) := ⟨s.toNat, by omega⟩
        have hi : (i : Int) < D.firm.length := by omega
        rw [Int.toNat_natCast, hg]
        have hc : w.cell? ⟨g, i, none⟩ = some (.string ((over D.firm (D.soft.take 0)).getD i ⟨#[]⟩)) := by
          rw [h2.cellAt i (by omega)]
          unfold strV
          show _ = some (Value.string (D.firm.getD i ⟨#[]⟩))
          rw [List.getElem?_map, List.getD_eq_getElem?_getD, List.getElem?_eq_getElem (by omega)]; rfl
        obtain ⟨f, hf⟩ : ∃ f : Nat → ByteArray, ∀ k, (over D.firm (D.soft.take k)).getD i ⟨#[]⟩ = f k := ⟨_, fun _ => rfl⟩
        have hfs : ∀ k (hk : k < D.soft.length), f (k + 1) = if D.soft[k].1.toNat = i then D.soft[k].2 else f k := fun k hk => by
          rw [← hf, ← hf]; exact over_getD _ _ k hk i (by omega)
        have hfe : (over D.firm D.soft).getD i ⟨#[]⟩ = f D.soft.length := by rw [← hf, List.take_length]
        rw [hfe]
        rw [hf] at hc
        have hfs := Lib.hid hfs
        clear hf hfe h2
        go_enter Try.func25, Try.ntmps25
        go_wp2_with fail
        go_loopw [6, 7] (fun t i wr => ∃ (k : Nat), k ≤ D.soft.length ∧ i = .int .i64 k ∧ t = .string (f k) ∧ wr = w) (fun _ i _ => D.soft.length - (intOf i).toNat)
        case atStart => exact ⟨0, by omega, rfl, rfl, rfl⟩
        case round =>
          obtain ⟨k, hk, rfl, rfl, rfl⟩ := hrel
          by_cases hkm : k < D.soft.length
          · have hkm' : (k : Int) < D.soft.length := by omega
            obtain ⟨gs, cs', hsv⟩ := H3.out.has (by omega)
            obtain ⟨rfl, rfl⟩ : sa = some ⟨gs, 0, none⟩ ∧ sc = cs' := by simpa using hsv
            have x0 : wr.cell? ⟨gs, k * 2, none⟩ = some (.int .i64 D.soft[k].1) := by
              rw [Nat.mul_comm k 2, H3.out.cellAt (2 * k) (by omega), (recV_get D.soft k).1, List.getElem?_eq_getElem hkm]; rfl
            have x1 : wr.cell? ⟨gs, k * 2 + 1, none⟩ = some (.string D.soft[k].2) := by
              rw [Nat.mul_comm k 2, H3.out.cellAt (2 * k + 1) (by omega), (recV_get D.soft k).2, List.getElem?_eq_getElem hkm]; rfl
            have hx := hso.out D.soft[k] (List.getElem_mem _)
            have hst := hfs.out k hkm
            generalize D.soft[k] = x at *
            obtain ⟨xs, xd⟩ := x
            obtain ⟨hx0, hx1, hx2⟩ := hx
            dsimp only at hx0 hx1 hx2 x0 x1 hst
            obtain ⟨s', rfl⟩ : ∃ s : Nat, xs = (s : Int) := ⟨xs.toNat, by omega⟩
            rw [Int.toNat_natCast] at hst
            by_cases hsi : s' = i
            · rw [if_pos hsi] at hst
              have he : ((s' : Int) == (i : Int)) = true := by simp; omega
              have hst := Lib.hid hst
              clear hsi
              go_wp2_with fail
              go_roundw
              case rel => exact ⟨k + 1, by omega, rfl, by rw [hst.out], by trivial⟩
              case measure => simp [intOf]; omega
            · rw [if_neg hsi] at hst
              have he : ((s' : Int) == (i : Int)) = false := by simp; omega
              have hst := Lib.hid hst
              clear hsi
              go_wp2_with fail
              go_roundw
              case rel => exact ⟨k + 1, by omega, rfl, by rw [hst.out], by trivial⟩
              case measure => simp [intOf]; omega
          · obtain rfl : k = D.soft.length := by omega
            go_wp2_with fail
            go_ret2
            exact ⟨rfl, rfl⟩
end Go.Proofs.Ytbfifakacneacaa
