import Derived.Test.YtdkilpjebmhkkaaDoorMai
import Derived.Maps.OwnSet
import Derived.Maps.StringElems
set_option linter.unusedSimpArgs false
set_option linter.unusedVariables false
namespace Go.Proofs.YtdkilpjebmhkkaaDoor
open Go.RowKit

/-- what the log's sector number k holds: its bytes; is it there?; an error -/
def Lg.load (G : Lg) (D : Dev) (k : Int) : ByteArray × Bool × Int :=
  if (D.read (G.first + k % G.n)).2 ≠ 0 then (⟨#[]⟩, false, (D.read (G.first + k % G.n)).2)
  else if valS ((D.read (G.first + k % G.n)).1.extract 0 8) ≠ k + 1 ∨ 54 < valS ((D.read (G.first + k % G.n)).1.extract 8 10) then (⟨#[]⟩, false, 0)
  else ((D.read (G.first + k % G.n)).1.extract 10 (10 + (valS ((D.read (G.first + k % G.n)).1.extract 8 10)).toNat), true, 0)
theorem read_size {D : Dev} (h : DevOk D) (s : Int) (he : (D.read s).2 = 0) : (D.read s).1.size = 64 := by
  unfold Dev.read at he ⊢
  by_cases h1 : D.down = true
  · rw [if_pos h1] at he; simp at he
  · rw [if_neg h1] at he ⊢
    by_cases h2 : s < 0 ∨ (D.firm.length : Int) ≤ s
    · rw [if_pos h2] at he; simp at he
    · rw [if_neg h2]
      obtain ⟨_, _, hl, _, _, _, hs, _⟩ := h
      have hlt : s.toNat < D.seen.length := by omega
      show (D.seen.getD s.toNat ⟨#[]⟩).size = 64
      rw [List.getD_eq_getElem?_getD, List.getElem?_eq_getElem hlt]
      exact hs _ (List.getElem_mem _)
theorem keepN (S : Nat → Prop) (w : World) (n : Nat) : Keeps S w (w.drewN n) := ⟨rfl, rfl, rfl, Nat.le_refl _, fun _ _ _ => rfl⟩
set_option maxRecDepth 100000 in
set_option maxHeartbeats 1600000 in
theorem wal_load (p dp : Nat) (G : Lg) (Sd : List Nat) (D : Dev) (k : Int) (hk : 0 ≤ k ∧ k ≤ 1152921504606846976) (w : World) (bv lv : Value) (h1 : w.heap[p]? = some (.cells (lgC dp G bv lv) 81 (0, 0))) (hG : 128 ≤ G.n ∧ G.n ≤ 4096 ∧ 0 ≤ G.first ∧ G.first ≤ 16384) (hd : DiskAt w dp D Sd) :
    Calls Tryd.prog 38 #[.pointer (some ⟨p, 0, none⟩), .int .i64 k] w fun e w' => e = .returned (.tuple #[.string (G.load D k).1, .bool (G.load D k).2.1, .int .i64 (G.load D k).2.2]) ∧ Below w.heap.size w w' := by
  have c0 : w.cell? ⟨p, 0, none⟩ = some (.pointer (some ⟨dp, 0, none⟩)) := cell_at h1 0
  have c1 : w.cell? ⟨p, 1, none⟩ = some (.int .i64 G.first) := cell_at h1 1
  have c2 : w.cell? ⟨p, 2, none⟩ = some (.int .i64 G.n) := cell_at h1 2
  obtain ⟨a1, a2, a3, a4⟩ := hG
  have hrz := Lib.hid (fun he => read_size hd.1 (G.first + k % G.n) he)
  have htm : k.tmod G.n = k % G.n := Int.tmod_eq_emod_of_nonneg (by omega)
  have hm1 : 0 ≤ k % G.n := Int.emod_nonneg _ (by omega)
  have hm2 : k % G.n < G.n := Int.emod_lt_of_pos _ (by omega)
  have e4 : IntKind.i64.wrap (G.first + k % G.n) = G.first + k % G.n := by rw [IntKind.wrap_i64]; omega
  have hu1 : IntKind.u64.wrap (k + 1) = k + 1 := wrap_u64_in _ (by omega) (by omega)
  have e5 : IntKind.i64.wrap (k + 1) = k + 1 := by rw [IntKind.wrap_i64]; omega
  have HRd : Hid (∀ n, Calls Tryd.prog 15 #[.pointer (some ⟨dp, 0, none⟩), .int .i64 (G.first + k % G.n)] (w.drewN n) fun e w' => e = .returned (.tuple #[.string (D.read (G.first + k % G.n)).1, .int .i64 (D.read (G.first + k % G.n)).2]) ∧ w.drewN n = w') := fun n => (dsk_read dp (G.first + k % G.n) D Sd (w.drewN n) (hd.keep (keepN (fun _ => False) w n) (fun _ _ h => h))).mono (fun _ _ h => ⟨h.1, h.2.symm⟩)
  have hres : ∃ R, G.load D k = R ∧ R = (if (D.read (G.first + k % G.n)).2 ≠ 0 then (⟨#[]⟩, false, (D.read (G.first + k % G.n)).2)
    else if valS ((D.read (G.first + k % G.n)).1.extract 0 8) ≠ k + 1 ∨ 54 < valS ((D.read (G.first + k % G.n)).1.extract 8 10) then (⟨#[]⟩, false, 0)
    else ((D.read (G.first + k % G.n)).1.extract 10 (10 + (valS ((D.read (G.first + k % G.n)).1.extract 8 10)).toNat), true, 0)) := ⟨_, rfl, rfl⟩
  obtain ⟨R, hR, hR2⟩ := hres
  rw [hR]
  clear h1 hd hR a3 a4
  generalize hX : (D.read (G.first + k % G.n)).1 = X at *
  generalize hE : (D.read (G.first + k % G.n)).2 = E at *
  by_cases hE0 : E = 0
  rotate_left
  · rw [if_pos hE0] at hR2
    subst hR2
    have b1 : (E != 0) = true := by simpa using hE0
    replace hE0 := Lib.hid hE0
    replace hX := Lib.hid hX
    replace hE := Lib.hid hE
    go_enter Tryd.func38, Tryd.ntmps38
    go_wp2_with fail
    go_quiet ((go_at_call 15; exact quiet_same (HRd.out _)))
    go_wp2_with fail
    go_ret3
    exact ⟨rfl, bN bR _⟩
  · subst hE0
    rw [if_neg (by simp)] at hR2
    have hsz : X.size = 64 := hrz.out rfl
    replace hX := Lib.hid hX
    replace hE := Lib.hid hE
    have hr1 : rdBytes X false 8 = (X.extract 0 8, X.extract 8 X.size, false) := rdBytes_yes ⟨rfl, by omega, by omega⟩
    have hs2 : (X.extract 8 X.size).size = 56 := by rw [ByteArray.size_extract]; omega
    have hr2 : rdBytes (X.extract 8 X.size) false 2 = (X.extract 8 10, X.extract 10 X.size, false) := by
      rw [rdBytes_yes ⟨rfl, by omega, by omega⟩, show (2 : Int).toNat = 2 from rfl, hs2, hsz, extract_extract X 8 64 0 2 (by omega) (by omega) (by omega), extract_extract X 8 64 2 56 (by omega) (by omega) (by omega)]
    have hs3 : (X.extract 10 X.size).size = 54 := by rw [ByteArray.size_extract]; omega
    obtain ⟨num, hnum⟩ : ∃ num, valS (X.extract 0 8) = num := ⟨_, rfl⟩
    obtain ⟨us, hus⟩ : ∃ us, valS (X.extract 8 10) = us := ⟨_, rfl⟩
    have hus0 : 0 ≤ us := by rw [← hus]; exact valL_nonneg _
    rw [hnum, hus] at hR2
    have H1 : Hid (∀ b w', Rd w' b X false → Calls Tryd.prog 60 #[.pointer (some ⟨b, 0, none⟩), .int .i64 8] w' fun e w'' => e = .returned (.int .u64 num) ∧ Rd w'' b (X.extract 8 X.size) false ∧ Keeps (· = b) w' w'') := fun b w' hr => by
      have := oct_rnum_good b X false 8 (by omega) (by omega) w' hr (by unfold maxLen; omega)
      rw [hr1, hnum] at this
      exact this
    have H2 : Hid (∀ b w', Rd w' b (X.extract 8 X.size) false → Calls Tryd.prog 60 #[.pointer (some ⟨b, 0, none⟩), .int .i64 2] w' fun e w'' => e = .returned (.int .u64 us) ∧ Rd w'' b (X.extract 10 X.size) false ∧ Keeps (· = b) w' w'') := fun b w' hr => by
      have := oct_rnum_good b (X.extract 8 X.size) false 2 (by omega) (by omega) w' hr (by unfold maxLen; omega)
      rw [hr2, hus] at this
      exact this
    have HO := Lib.hid (fun w' => oct_read X w')
    by_cases hbad : num ≠ k + 1 ∨ 54 < us
    · rw [if_pos hbad] at hR2
      subst hR2
      have hgo : Hid (¬ (num = k + 1 ∧ us ≤ 54)) := fun h => by rcases hbad with h' | h' <;> omega
      clear hnum hus
      by_cases hn1 : num = k + 1
      · subst hn1
        have h54 : 54 < us := hbad.resolve_left (fun h => h rfl)
        clear hbad hgo
        go_enter Tryd.func38, Tryd.ntmps38
        go_wp2_with fail
        go_quiet ((go_at_call 15; exact quiet_same (HRd.out _)))
        go_wp2_with fail
        refine (HO.out _).mono ?_
        rintro e w2 ⟨rfl, hrd, hb⟩
        have HB2 := Lib.hid (bT (bN bR nq) hb)
        have HX2 := Lib.hid (H1.out _ _ hrd)
        clear hb hrd
        go_wp2_with fail
        refine (HX2.out).mono ?_
        rintro e w3 ⟨rfl, hrd, hk3⟩
        have HB3 := Lib.hid (bK HB2.out hk3 (fun i h => by subst h; exact Nat.le_refl _))
        have HX3 := Lib.hid (H2.out _ _ hrd)
        clear hk3 hrd HX2 HB2
        go_wp2_with fail
        refine (HX3.out).mono ?_
        rintro e w4 ⟨rfl, hrd, hk4⟩
        have HB4 := Lib.hid (bK HB3.out hk4 (fun i h => by subst h; exact Nat.le_refl _))
        clear hk4 hrd HX3 HB3
        go_wp2_with fail
        go_ret3
        exact ⟨rfl, HB4.out⟩
      · have b1 : (num != k + 1) = true := by simpa using hn1
        clear hbad hgo
        replace hn1 := Lib.hid hn1
        go_enter Tryd.func38, Tryd.ntmps38
        go_wp2_with fail
        go_quiet ((go_at_call 15; exact quiet_same (HRd.out _)))
        go_wp2_with fail
        refine (HO.out _).mono ?_
        rintro e w2 ⟨rfl, hrd, hb⟩
        have HB2 := Lib.hid (bT (bN bR nq) hb)
        have HX2 := Lib.hid (H1.out _ _ hrd)
        clear hb hrd
        go_wp2_with fail
        refine (HX2.out).mono ?_
        rintro e w3 ⟨rfl, hrd, hk3⟩
        have HB3 := Lib.hid (bK HB2.out hk3 (fun i h => by subst h; exact Nat.le_refl _))
        have HX3 := Lib.hid (H2.out _ _ hrd)
        clear hk3 hrd HX2 HB2
        go_wp2_with fail
        refine (HX3.out).mono ?_
        rintro e w4 ⟨rfl, hrd, hk4⟩
        have HB4 := Lib.hid (bK HB3.out hk4 (fun i h => by subst h; exact Nat.le_refl _))
        clear hk4 hrd HX3 HB3
        go_wp2_with fail
        go_ret3
        exact ⟨rfl, HB4.out⟩
    · rw [if_neg hbad] at hR2
      subst hR2
      obtain rfl : num = k + 1 := Classical.byContradiction fun h => hbad (.inl h)
      have h54 : us ≤ 54 := by omega
      have h54' : ¬ 54 < us := by omega
      have hwu : IntKind.i64.wrap us = us := by rw [IntKind.wrap_i64]; omega
      have hfin : (X.extract 10 X.size).extract 0 us.toNat = X.extract 10 (10 + us.toNat) := by
        rw [hsz, extract_extract X 10 64 0 us.toNat (by omega) (by omega) (by omega)]
      have H3 : Hid (∀ b w', Rd w' b (X.extract 10 X.size) false → Calls Tryd.prog 61 #[.pointer (some ⟨b, 0, none⟩), .int .i64 us] w' fun e w'' => e = .returned (.string (X.extract 10 (10 + us.toNat))) ∧ Rd w'' b ((X.extract 10 X.size).extract us.toNat (X.extract 10 X.size).size) false ∧ Keeps (· = b) w' w'') := fun b w' hr => by
        have := oct_bytes_ok b (X.extract 10 X.size) us hus0 (by omega) w' hr (by unfold maxLen; omega)
        rw [hfin] at this
        exact this
      clear hbad hnum hus
      go_enter Tryd.func38, Tryd.ntmps38
      go_wp2_with fail
      go_quiet ((go_at_call 15; exact quiet_same (HRd.out _)))
      go_wp2_with fail
      refine (HO.out _).mono ?_
      rintro e w2 ⟨rfl, hrd, hb⟩
      have HB2 := Lib.hid (bT (bN bR nq) hb)
      have HX2 := Lib.hid (H1.out _ _ hrd)
      clear hb hrd
      go_wp2_with fail
      refine (HX2.out).mono ?_
      rintro e w3 ⟨rfl, hrd, hk3⟩
      have HB3 := Lib.hid (bK HB2.out hk3 (fun i h => by subst h; exact Nat.le_refl _))
      have HX3 := Lib.hid (H2.out _ _ hrd)
      clear hk3 hrd HX2 HB2
      go_wp2_with fail
      refine (HX3.out).mono ?_
      rintro e w4 ⟨rfl, hrd, hk4⟩
      have HB4 := Lib.hid (bK HB3.out hk4 (fun i h => by subst h; exact Nat.le_refl _))
      have HX4 := Lib.hid (H3.out _ _ hrd)
      clear hk4 hrd HX3 HB3
      go_wp2_with fail
      refine (HX4.out).mono ?_
      rintro e w5 ⟨rfl, hrd, hk5⟩
      have HB5 := Lib.hid (bK HB4.out hk5 (fun i h => by subst h; exact Nat.le_refl _))
      clear hk5 hrd HX4 HB4
      go_wp2_with fail
      go_ret3
      exact ⟨rfl, HB5.out⟩
end Go.Proofs.YtdkilpjebmhkkaaDoor

namespace Go.Proofs.YtdkilpjebmhkkaaDoor
open Go.RowKit
open Go.Maps (Keyed int_keyed keyOf_int_mk)

/-- block b is a map from numbers to texts: it holds M -/
def KMap (w : World) (b n : Nat) (M : Int → Option ByteArray) : Prop := ∃ D : DataW Unit, w.ownsMap Tryd.prog 3 (plainElem Tryd.prog 9) b n D ∧ ∀ i : Int, (M i = none → Maps.has D (.int .i64 i) = false) ∧ ∀ s, M i = some s → Maps.has D (.int .i64 i) = true ∧ D.atKey (.int .i64 i) (.lit (.string [])) = .lit (.string s.data.toList)
theorem KMap.made (w : World) : KMap (w.alloc (.map #[] 0)) w.heap.size 0 (fun _ => none) :=
  ⟨.map [], World.ownsMap_made _ _ _ _, fun i => ⟨fun _ => rfl, fun s h => by cases h⟩⟩
theorem KMap.keep {S : Nat → Prop} {w w' : World} {b n : Nat} {M : Int → Option ByteArray} (h : KMap w b n M) (hk : Keeps S w w') (hb : ¬ S b) : KMap w' b n M := by
  obtain ⟨D, ⟨es, clock, h1, h2⟩, h3⟩ := h
  exact ⟨D, ⟨es, clock, hk.keep h1 hb, h2⟩, h3⟩
theorem KMap.lt {w : World} {b n : Nat} {M : Int → Option ByteArray} (h : KMap w b n M) : b < w.heap.size := by
  obtain ⟨D, h1, _⟩ := h
  exact h1.lt
set_option maxRecDepth 100000 in
theorem KMap.put {w : World} {b n : Nat} {M : Int → Option ByteArray} (h : KMap w b n M) (hn : n < maxLen) (k : Int) (hk : -9223372036854775808 ≤ k ∧ k ≤ 9223372036854775807) (s : ByteArray) (hs : s.size ≤ maxLen) :
    ∃ w', (Instr.mapUpdate 136 (.map (some b)) (.int .i64 k) (.string s)).run Tryd.prog w = .ok () w' ∧ KMap w' b (n + 1) (fun i => if i = k then some s else M i) ∧ Keeps (· = b) w w' := by
  obtain ⟨D, h1, h2⟩ := h
  have hkey := keyOf_int_mk (P := Tryd.prog) (a := k) Tryd.underlying3 (WalkArith.wf_i64 (by omega))
  obtain ⟨w', hr, ho, hg⟩ := h1.update (t := 136) (int_keyed Tryd.underlying3) Tryd.underlying136 hn hkey (plainElem_string Tryd.underlying9 hs)
  refine ⟨w', hr, ⟨_, ho, fun i => ?_⟩, (Keeps.refl _ _).grown hg (fun j hj => .inl (by simpa [eq_comm] using hj))⟩
  have hkl : WideAt.IsKeyLit (.int .i64 k) := (int_keyed Tryd.underlying3).key hkey
  by_cases e : i = k
  · subst e
    refine ⟨fun h => by simp at h, fun s' h => ?_⟩
    have : s' = s := by simpa using h.symm
    subst this
    exact ⟨Maps.has_put_same h1.isMap hkl _, Maps.atKey_put_same h1.isMap hkl _ _⟩
  · have hne : (Lit.int .i64 i) ≠ (Lit.int .i64 k) := fun h => e (by injection h)
    simp only [if_neg e]
    rw [Maps.has_put_other hne]
    refine ⟨(h2 i).1, fun s' h => ?_⟩
    rw [Maps.atKey_put_other hne]
    exact (h2 i).2 s' h
set_option maxRecDepth 100000 in
theorem KMap.get {w : World} {b n : Nat} {M : Int → Option ByteArray} (h : KMap w b n M) (k : Int) (hk : -9223372036854775808 ≤ k ∧ k ≤ 9223372036854775807) :
    ∃ v : ByteArray, (Instr.lookup 136 (.map (some b)) (.int .i64 k) true).run Tryd.prog w = .ok (.tuple #[.string v, .bool (M k).isSome]) w ∧ ∀ s, M k = some s → v = s := by
  obtain ⟨D, h1, h2⟩ := h
  have hkey := keyOf_int_mk (P := Tryd.prog) (a := k) Tryd.underlying3 (WalkArith.wf_i64 (by omega))
  have hz : (zeroValue 9).run Tryd.prog w = .ok (.string ByteArray.empty) w := by kernel_rfl
  obtain ⟨v, ps, hr, hv⟩ := h1.look_ok (t := 136) (int_keyed Tryd.underlying3) Tryd.underlying136 hz (zd := .lit (.string [])) (zp := []) (plainElem_string Tryd.underlying9 (s := ByteArray.empty) (by simp)) hkey
  obtain ⟨s0, rfl, e0, _⟩ := plainElem_string_inv Tryd.underlying9 hv
  have e1 : D.atKey (.int .i64 k) (.lit (.string [])) = .lit (.string s0.data.toList) := congrArg Prod.fst e0
  refine ⟨s0, ?_, fun s hs => ?_⟩
  · rw [hr]
    congr 4
    cases hm : M k with
    | none => rw [(h2 k).1 hm]; rfl
    | some s => rw [((h2 k).2 s hm).1]; rfl
  · have e2 := ((h2 k).2 s hs).2
    rw [e1] at e2
    have e3 : s0.data.toList = s.data.toList := by injection e2 with e2; injection e2
    exact ByteArray.ext (Array.toList_inj.1 e3)
end Go.Proofs.YtdkilpjebmhkkaaDoor
