import Derived.Test.YtgealllnchpekaaNodeW
set_option linter.unusedSimpArgs false
set_option linter.unusedVariables false
namespace Go.Proofs.Ytgealllnchpekaa
open Go.RowKit

def RStep (P : Pg) (i : Nat) : Prop := (keyP (P.st i) (P.dt i)).2.2 = true ∧ (∀ m, i = m + 1 → Op.bytesLess (keyAt P m).toList (keyAt P i).toList = true) ∧ CellOk P i
def RNode (P : Pg) (n : Nat) : Prop := P.kind = 4 ∧ 0 ≤ P.level ∧ (∀ i, n ≤ i → i < 6 → P.st i = 0 ∧ (P.dt i).size = 0) ∧ (∀ i, i < n → RStep P i) ∧ (P.level ≠ 0 → n ≠ 0)
theorem node_r {P : Pg} {n : Nat} (hn : IsCount P n) : NodeOk P ↔ RNode P n := by
  obtain ⟨n1, n2, n3⟩ := hn
  constructor
  · rintro ⟨h1, h2, h3, h4⟩
    have hz : ∀ i, n ≤ i → i < 6 → P.st i = 0 := by
      intro i
      induction i with
      | zero => intro hi h6; obtain rfl : n = 0 := by omega
                exact n3 h6
      | succ i ih =>
        intro hi h6
        by_cases e : n = i + 1
        · subst e; exact n3 h6
        · have hs := h3 (i + 1) h6
          by_cases e2 : P.st (i + 1) = 0
          · exact e2
          · unfold StepOk at hs
            rw [if_neg e2] at hs
            exact absurd (ih (by omega) (by omega)) (hs.1 i rfl)
    refine ⟨h1, h2, fun i hi h6 => ?_, fun i hi => ?_, fun hl => ?_⟩
    · have hs := h3 i h6
      unfold StepOk at hs
      rw [if_pos (hz i hi h6)] at hs
      exact ⟨hz i hi h6, hs⟩
    · have hs := h3 i (by omega)
      unfold StepOk at hs
      rw [if_neg (n2 i hi)] at hs
      exact hs.2
    · obtain ⟨i, hi, hs⟩ := h4 (by omega)
      rintro rfl
      exact hs (hz i (by omega) hi)
  · rintro ⟨h1, h2, h3, h4, h5⟩
    refine ⟨h1, h2, fun i hi => ?_, fun hl => ⟨0, by omega, n2 0 (by have := h5 (by omega); omega)⟩⟩
    unfold StepOk
    by_cases hin : i < n
    · rw [if_neg (n2 i hin)]
      exact ⟨fun m e => n2 m (by omega), h4 i hin⟩
    · rw [if_pos (h3 i (by omega) hi).1]
      exact (h3 i (by omega) hi).2
theorem r_more {P : Pg} {k : Nat} (h : ∀ j, j < k → RStep P j) (hk : RStep P k) : ∀ j, j < k + 1 → RStep P j := fun j hj => by
  by_cases e : j = k
  · subst e; exact hk
  · exact h j (by omega)
theorem not_r {P : Pg} {n k : Nat} (hn : IsCount P n) (hk : k < n) (h : ¬ RStep P k) : ¬ NodeOk P := fun e => h (((node_r hn).1 e).2.2.2.1 k hk)
theorem not_r2 {P : Pg} {n k : Nat} (hn : IsCount P n) (hk : n ≤ k) (h6 : k < 6) (h : ¬ (P.st k = 0 ∧ (P.dt k).size = 0)) : ¬ NodeOk P := fun e => h (((node_r hn).1 e).2.2.1 k hk h6)
theorem le_of_not (a b : List UInt8) (h : ¬ Op.bytesLess b a = true) : (Op.bytesLess a b || a == b) = true := by
  cases e : Op.bytesLess a b with
  | true => rfl
  | false => rw [bl_total a b e (by simpa using h)]; simp
theorem le_no (a b : List UInt8) (h : Op.bytesLess b a = true) : Op.bytesLess a b = false ∧ (a == b) = false := by
  refine ⟨bl_asymm _ _ h, ?_⟩
  have : a ≠ b := fun e => by rw [e, bl_irrefl] at h; simp at h
  simpa using this
set_option maxRecDepth 100000 in
set_option maxHeartbeats 16000000 in
theorem rf_check {P : Pg} {n : Nat} (hn : IsCount P n) (hd : ∀ i, (P.dt i).size ≤ maxLen) (w : World) : Calls Try.prog 13 #[pgV P] w fun e w' => ∃ r, CheckR P r ∧ e = .returned (.int .i64 r) ∧ Below w.heap.size w w' := by
  have HC := Lib.hid (fun w => rf_cells hn w)
  have HQc : Hid ((w.alloc (.cells (pgC P) 26)).heap[w.heap.size]? = some (.cells (pgC P) 26 (0, 0))) := hN rfl
  have hn6 := hn.1
  have hn6' : (n : Int) ≤ 6 := by omega
  have hn := Lib.hid hn
  unfold pgV at *
  go_enter Try.func13, Try.ntmps13
  go_wp2_with (refine wpList_load_row rfl 26 _ rfl _ rfl 26 _ _ _ HQc.out Try.underlying26 rfl (by kernel_rfl) ?_)
  refine (HC.out _).mono ?_
  rintro e w1 ⟨v, rfl, hc, hb, -⟩
  have HB1 := Lib.hid (bT (bA bR) hb)
  replace HQc := Lib.hid (hBs hb HQc.out)
  obtain ⟨ad, cc, hv⟩ := hc.1.form
  have HV : Hid (CellsAt w1 (w.heap.size + 1) v P n) := ⟨hc.1, fun j h => by have := hc.2 j h; simpa using this⟩
  subst hv
  clear hb hc HC
  have d0 : w1.cell? ⟨w.heap.size, 0, none⟩ = some (.int .i64 P.kind) := cell_at HQc.out 0
  have d1 : w1.cell? ⟨w.heap.size, 1, none⟩ = some (.int .i64 P.level) := cell_at HQc.out 1
  by_cases hkind : P.kind = 4
  rotate_left
  · have hk' : (P.kind != 4) = true := by simpa using hkind
    go_wp2_with fail
    go_ret
    exact ⟨40, .inr ⟨rfl, fun h => hkind h.1⟩, rfl, HB1.out⟩
  by_cases hlev : P.level < 0
  · have hk' : (P.kind != 4) = false := by simpa using hkind
    replace hkind := Lib.hid hkind
    go_wp2_with fail
    go_ret
    exact ⟨40, .inr ⟨rfl, fun h => absurd h.2.1 (by omega)⟩, rfl, HB1.out⟩
  have hk' : (P.kind != 4) = false := by simpa using hkind
  replace hkind := Lib.hid hkind
  have hl0 : 0 ≤ P.level := by omega
  have hl0' : ¬ P.level < 0 := by omega
  clear hlev
  go_wp2_with fail
  clear d0 d1
  go_loopw [4] (fun s wr => ∃ (k : Nat), n ≤ k ∧ k ≤ 6 ∧ s = .int .i64 k ∧ Hid (∀ i, n ≤ i → i < k → P.st i = 0 ∧ (P.dt i).size = 0) ∧ Hid (CellsAt wr (w.heap.size + 1) (.slice ad n cc) P n) ∧ Hid (wr.heap[w.heap.size]? = some (.cells (pgC P) 26 (0, 0))) ∧ Hid (Below w.heap.size w wr)) (fun s _ => 6 - (intOf s).toNat)
  case atStart => exact ⟨n, by omega, by omega, rfl, fun i h1 h2 => by omega, HV, HQc, HB1⟩
  case round =>
    obtain ⟨k, hnk, hk6, rfl, hz, HVr, HQ, HB⟩ := hrel
    clear HV HQc HB1
    have hqr := block_lt HQ.out
    by_cases hk : k < 6
    · have hk' : (k : Int) < 6 := by omega
      obtain ⟨c0, c1⟩ := pg_at HQ.out k hk
      by_cases hs : P.st k = 0
      · by_cases he : (P.dt k).size = 0
        · have hz2 : Hid (∀ i, n ≤ i → i < k + 1 → P.st i = 0 ∧ (P.dt i).size = 0) := fun i h1 h2 => by
            by_cases e : i = k
            · subst e; exact ⟨hs, he⟩
            · exact hz.out i h1 (by omega)
          rw [hs] at c0
          rw [str_none he] at c1
          replace hs := Lib.hid hs
          replace he := Lib.hid he
          go_wp2_with fail
          go_roundw
          case rel => exact ⟨k + 1, by omega, by omega, rfl, hz2, HVr, HQ, HB⟩
          case measure => simp [intOf]; omega
        · have hbad := Lib.hid (not_r2 hn.out hnk hk (fun h => he h.2))
          obtain ⟨n1, n2⟩ := str_some he
          rw [hs] at c0
          replace hs := Lib.hid hs
          go_wp2_with fail
          go_ret
          exact ⟨40, .inr ⟨rfl, hbad.out⟩, rfl, HB.out⟩
      · have hbad := Lib.hid (not_r2 hn.out hnk hk (fun h => hs h.1))
        have hs' : (P.st k != 0) = true := by simpa using hs
        go_wp2_with fail
        go_ret
        exact ⟨40, .inr ⟨rfl, hbad.out⟩, rfl, HB.out⟩
    obtain rfl : k = 6 := by omega
    rw [show ((6 : Nat) : Int) = 6 from rfl]
    go_wp2_with fail
    go_loopw [5] (fun s wr => ∃ (k : Nat), k ≤ n ∧ s = .int .i64 k ∧ Hid (∀ i, i < k → RStep P i) ∧ Hid (CellsAt wr (w.heap.size + 1) (.slice ad n cc) P n) ∧ Hid (wr.heap[w.heap.size]? = some (.cells (pgC P) 26 (0, 0))) ∧ Hid (Below w.heap.size w wr)) (fun s _ => 6 - (intOf s).toNat)
    case atStart => exact ⟨0, by omega, rfl, fun i h1 => by omega, HVr, HQ, HB⟩
    case round =>
      clear HVr HQ HB hqr
      obtain ⟨k, hkn, rfl, hstep, HV, HQ, HB⟩ := hrel
      have hqr := block_lt HQ.out
      have cl : wr.cell? ⟨w.heap.size, 1, none⟩ = some (.int .i64 P.level) := cell_at HQ.out 1
      by_cases hk6 : k < n
      rotate_left
      · obtain rfl : k = n := by omega
        by_cases hl : P.level = 0
        · have hok : Hid (NodeOk P) := (node_r hn.out).2 ⟨hkind.out, hl0, hz.out, hstep.out, fun h => absurd hl h⟩
          rw [hl] at cl
          replace hl := Lib.hid hl
          go_wp2_with fail
          go_ret
          exact ⟨0, .inl ⟨rfl, hok.out⟩, rfl, HB.out⟩
        · have hl1 : (P.level != 0) = true := by simpa using hl
          by_cases h0 : k = 0
          · have hbad : Hid (¬ NodeOk P) := fun e => ((node_r hn.out).1 e).2.2.2.2 hl h0
            have h0' : ((k : Int) == 0) = true := by simpa using h0
            replace h0 := Lib.hid h0
            go_wp2_with fail
            go_ret
            exact ⟨40, .inr ⟨rfl, hbad.out⟩, rfl, HB.out⟩
          · have hok : Hid (NodeOk P) := (node_r hn.out).2 ⟨hkind.out, hl0, hz.out, hstep.out, fun h => h0⟩
            have h0' : ((k : Int) == 0) = false := by simpa using h0
            replace h0 := Lib.hid h0
            go_wp2_with fail
            go_ret
            exact ⟨0, .inl ⟨rfl, hok.out⟩, rfl, HB.out⟩
      obtain ⟨g, c, hv⟩ := HV.out.1.has (by omega)
      obtain ⟨rfl, rfl⟩ : ad = some ⟨g, 0, none⟩ ∧ cc = c := by simpa using hv
      clear hv
      obtain ⟨c0, c1⟩ := HV.out.at k hk6
      have hk6' : (k : Int) < n := by omega
      have hk66 : (k : Int) < 6 := by omega
      obtain ⟨s, es⟩ : ∃ s, P.st k = s := ⟨_, rfl⟩
      obtain ⟨d, ed⟩ : ∃ d, P.dt k = d := ⟨_, rfl⟩
      have hdz : d.size ≤ maxLen := ed ▸ hd k
      rw [es] at c0
      rw [ed] at c1
      replace es := Lib.hid es
      replace ed := Lib.hid ed
      have HK := Lib.hid (fun w => rf_says s d hdz w)
      have HH := Lib.hid (fun w => rf_child s d hdz w)
      unfold cellV at HK HH
      dsimp only at HK HH
      have hrz := keyP_rest s d
      obtain ⟨own, rest, ok, ek⟩ : ∃ own rest ok, keyP s d = (own, rest, ok) := ⟨_, _, _, rfl⟩
      rw [ek] at HK hrz
      obtain ⟨ch, ech⟩ : ∃ c, childP s d = c := ⟨_, rfl⟩
      rw [ech] at HH
      dsimp only at HK hrz
      have eown : Hid (keyAt P k = own) := by unfold keyAt; rw [es.out, ed.out, ek]; exact Lib.hid rfl
      have hstn : Hid (RStep P k ↔ (ok = true ∧ (∀ m, k = m + 1 → Op.bytesLess (keyAt P m).toList own.toList = true) ∧ (if P.level = 0 then own.size ≠ 0 ∧ rest.size ≤ 20 ∧ (s = 1 ∨ s = 2) else s = 1 ∧ ch ≠ 0 ∧ (k = 0 ↔ own.size = 0)))) := by
        unfold RStep CellOk
        rw [eown.out, es.out, ed.out, ek, ech]
        exact Lib.hid Iff.rfl
      have hrz : rest.size ≤ maxLen := Nat.le_trans hrz hdz
      unfold maxLen at hrz
      clear ek ech
      go_wp2_with fail
      refine (HK.out _).mono ?_
      rintro e w2 ⟨rfl, hb⟩
      have HB2 := Lib.hid (bT HB.out hb)
      have HQ2 := Lib.hid (hBs hb HQ.out)
      have HV2 := Lib.hid (HV.out.keep (Keeps.of_below (fun _ => False) hb) (fun _ _ h => h))
      clear hb HQ HB HV cl c0 c1
      cases ok with
      | false =>
        have hbad := Lib.hid (not_r hn.out hk6 (fun h => by have := (hstn.out.1 h).1; simp at this))
        go_wp2_with fail
        go_ret
        exact ⟨40, .inr ⟨rfl, hbad.out⟩, rfl, HB2.out⟩
      | true =>
        by_cases hk0 : k = 0
        · have hki : (k : Int) ≤ 0 := by omega
          have hkz : ((k : Int) == 0) = true := by simp [hk0]
          have hkq := Lib.hid hk0
          have hnm : Hid (∀ m, k = m + 1 → False) := fun m h => by omega
          clear hk0
          have hS : Hid (RStep P k ↔ (if P.level = 0 then own.size ≠ 0 ∧ rest.size ≤ 20 ∧ (s = 1 ∨ s = 2) else s = 1 ∧ ch ≠ 0 ∧ (k = 0 ↔ own.size = 0))) := ⟨fun h => (hstn.out.1 h).2.2, fun h => hstn.out.2 ⟨by simp, fun m e => (hnm.out m e).elim, h⟩⟩
          have cl : w2.cell? ⟨w.heap.size, 1, none⟩ = some (.int .i64 P.level) := cell_at HQ2.out 1
          obtain ⟨c0, c1⟩ := HV2.out.at k hk6
          rw [es.out] at c0
          rw [ed.out] at c1
          by_cases hl : P.level = 0
          · rw [hl] at cl
            replace hl := Lib.hid hl
            have hS0 : Hid (RStep P k ↔ own.size ≠ 0 ∧ rest.size ≤ 20 ∧ (s = 1 ∨ s = 2)) := by have := hS.out; rwa [if_pos hl.out] at this
            by_cases ho : own.size = 0
            · have hbad := Lib.hid (not_r hn.out hk6 (fun h => (hS0.out.1 h).1 ho))
              obtain rfl := str_none ho
              go_wp2_with fail
              go_ret
              exact ⟨40, .inr ⟨rfl, hbad.out⟩, rfl, HB2.out⟩
            obtain ⟨n1, n2⟩ := str_some ho
            by_cases hr : 20 < rest.size
            · have hbad := Lib.hid (not_r hn.out hk6 (fun h => absurd (hS0.out.1 h).2.1 (by omega)))
              have hr1 : (20 : Int) < rest.size := by omega
              go_wp2_with fail
              go_ret
              exact ⟨40, .inr ⟨rfl, hbad.out⟩, rfl, HB2.out⟩
            have hr1 : (rest.size : Int) ≤ 20 := by omega
            by_cases h1 : s = 1
            · have hg := Lib.hid (hS0.out.2 ⟨ho, by omega, .inl h1⟩)
              subst h1
              go_wp2_with fail
              go_roundw
              case rel => exact ⟨k + 1, by omega, rfl, r_more hstep.out hg.out, HV2, HQ2, HB2⟩
              case measure => first | (simp [intOf]; done) | (simp [intOf]; omega)
            by_cases h2 : s = 2
            · have hg := Lib.hid (hS0.out.2 ⟨ho, by omega, .inr h2⟩)
              subst h2
              go_wp2_with fail
              go_roundw
              case rel => exact ⟨k + 1, by omega, rfl, r_more hstep.out hg.out, HV2, HQ2, HB2⟩
              case measure => first | (simp [intOf]; done) | (simp [intOf]; omega)
            have hbad := Lib.hid (not_r hn.out hk6 (fun h => by have := (hS0.out.1 h).2.2; omega))
            by_cases h3 : 2 < s
            · go_wp2_with fail
              go_ret
              exact ⟨40, .inr ⟨rfl, hbad.out⟩, rfl, HB2.out⟩
            have h4 : s < 1 := by omega
            go_wp2_with fail
            go_ret
            exact ⟨40, .inr ⟨rfl, hbad.out⟩, rfl, HB2.out⟩
          have hl2 : (P.level == 0) = false := by simpa using hl
          have hS1 : Hid (RStep P k ↔ s = 1 ∧ ch ≠ 0 ∧ (k = 0 ↔ own.size = 0)) := by have := hS.out; rwa [if_neg hl] at this
          by_cases h1 : s = 1
          rotate_left
          · have hbad := Lib.hid (not_r hn.out hk6 (fun h => h1 (hS1.out.1 h).1))
            have h1 : (s != 1) = true := by simpa using h1
            go_wp2_with fail
            go_ret
            exact ⟨40, .inr ⟨rfl, hbad.out⟩, rfl, HB2.out⟩
          subst h1
          go_wp2_with fail
          refine (HH.out _).mono ?_
          rintro e w3 ⟨rfl, hb⟩
          have HB3 := Lib.hid (bT HB2.out hb)
          have HQ3 := Lib.hid (hBs hb HQ2.out)
          have HV3 := Lib.hid (HV2.out.keep (Keeps.of_below (fun _ => False) hb) (fun _ _ h => h))
          clear hb HQ2 HB2 HV2 cl c0 c1
          by_cases hch : ch = 0
          · have hbad := Lib.hid (not_r hn.out hk6 (fun h => (hS1.out.1 h).2.1 hch))
            subst hch
            go_wp2_with fail
            go_ret
            exact ⟨40, .inr ⟨rfl, hbad.out⟩, rfl, HB3.out⟩
          have hch' : (ch == 0) = false := by simpa using hch
          by_cases ho : own.size = 0
          · have hg := Lib.hid (hS1.out.2 ⟨by simp, hch, fun _ => ho, fun _ => hkq.out⟩)
            obtain rfl := str_none ho
            go_wp2_with fail
            go_roundw
            case rel => exact ⟨k + 1, by omega, rfl, r_more hstep.out hg.out, HV3, HQ3, HB3⟩
            case measure => first | (simp [intOf]; done) | (simp [intOf]; omega)
          obtain ⟨n1, n2⟩ := str_some ho
          have hbad := Lib.hid (not_r hn.out hk6 (fun h => ho ((hS1.out.1 h).2.2.1 hkq.out)))
          go_wp2_with fail
          go_ret
          exact ⟨40, .inr ⟨rfl, hbad.out⟩, rfl, HB3.out⟩
        · obtain ⟨m, hkm⟩ : ∃ m, k = m + 1 := ⟨k - 1, by omega⟩
          have hmn : m < n := by omega
          obtain ⟨c0, c1⟩ := HV2.out.at m hmn
          have hki : (0 : Int) < k := by omega
          have hkz : ((k : Int) == 0) = false := by simp; omega
          have hm' : ((k : Int) - 1).toNat = m := by omega
          have hk5 : (k : Int) - 1 < n := by omega
          have hk5' : 0 ≤ (k : Int) - 1 := by omega
          have hkq := Lib.hid hk0
          have hkm' := Lib.hid hkm
          clear hk0 hkm
          have HX := Lib.hid (fun w => rf_says (P.st m) (P.dt m) (hd m) w)
          unfold cellV at HX
          dsimp only at HX
          obtain ⟨bef, hbef⟩ : ∃ bef, keyAt P m = bef := ⟨_, rfl⟩
          rw [show (keyP (P.st m) (P.dt m)).1 = bef from hbef] at HX
          replace hbef := Lib.hid hbef
          go_wp2_with fail
          refine (HX.out _).mono ?_
          rintro e w3 ⟨rfl, hb⟩
          have HB3 := Lib.hid (bT HB2.out hb)
          have HQ3 := Lib.hid (hBs hb HQ2.out)
          have HV3 := Lib.hid (HV2.out.keep (Keeps.of_below (fun _ => False) hb) (fun _ _ h => h))
          clear hb HQ2 HB2 HV2 c0 c1
          by_cases hbl : Op.bytesLess bef.toList own.toList = true
          rotate_left
          · have hbad := Lib.hid (not_r hn.out hk6 (fun h => hbl (by rw [← hbef.out]; exact (hstn.out.1 h).2.1 m hkm'.out)))
            have hle := le_of_not _ _ hbl
            clear hbl
            go_wp2_with fail
            go_ret
            exact ⟨40, .inr ⟨rfl, hbad.out⟩, rfl, HB3.out⟩
          have hS : Hid (RStep P k ↔ (if P.level = 0 then own.size ≠ 0 ∧ rest.size ≤ 20 ∧ (s = 1 ∨ s = 2) else s = 1 ∧ ch ≠ 0 ∧ (k = 0 ↔ own.size = 0))) := ⟨fun h => (hstn.out.1 h).2.2, fun h => hstn.out.2 ⟨by simp, fun m' e => (by have e : m' = m := Nat.succ.inj (e.symm.trans hkm'.out); rw [e, hbef.out]; exact hbl), h⟩⟩
          obtain ⟨hle1, hle2⟩ := le_no _ _ hbl
          have ho : own.size ≠ 0 := fun e => by rw [str_none e] at hbl; cases h : bef.toList <;> rw [h] at hbl <;> simp [Op.bytesLess] at hbl
          clear hbl
          have cl : w3.cell? ⟨w.heap.size, 1, none⟩ = some (.int .i64 P.level) := cell_at HQ3.out 1
          obtain ⟨c0, c1⟩ := HV3.out.at k hk6
          rw [es.out] at c0
          rw [ed.out] at c1
          by_cases hl : P.level = 0
          · rw [hl] at cl
            replace hl := Lib.hid hl
            have hS0 : Hid (RStep P k ↔ own.size ≠ 0 ∧ rest.size ≤ 20 ∧ (s = 1 ∨ s = 2)) := by have := hS.out; rwa [if_pos hl.out] at this
            obtain ⟨n1, n2⟩ := str_some ho
            by_cases hr : 20 < rest.size
            · have hbad := Lib.hid (not_r hn.out hk6 (fun h => absurd (hS0.out.1 h).2.1 (by omega)))
              have hr1 : (20 : Int) < rest.size := by omega
              go_wp2_with fail
              go_ret
              exact ⟨40, .inr ⟨rfl, hbad.out⟩, rfl, HB3.out⟩
            have hr1 : (rest.size : Int) ≤ 20 := by omega
            by_cases h1 : s = 1
            · have hg := Lib.hid (hS0.out.2 ⟨ho, by omega, .inl h1⟩)
              subst h1
              go_wp2_with fail
              go_roundw
              case rel => exact ⟨k + 1, by omega, rfl, r_more hstep.out hg.out, HV3, HQ3, HB3⟩
              case measure => first | (simp [intOf]; done) | (simp [intOf]; omega)
            by_cases h2 : s = 2
            · have hg := Lib.hid (hS0.out.2 ⟨ho, by omega, .inr h2⟩)
              subst h2
              go_wp2_with fail
              go_roundw
              case rel => exact ⟨k + 1, by omega, rfl, r_more hstep.out hg.out, HV3, HQ3, HB3⟩
              case measure => first | (simp [intOf]; done) | (simp [intOf]; omega)
            have hbad := Lib.hid (not_r hn.out hk6 (fun h => by have := (hS0.out.1 h).2.2; omega))
            by_cases h3 : 2 < s
            · go_wp2_with fail
              go_ret
              exact ⟨40, .inr ⟨rfl, hbad.out⟩, rfl, HB3.out⟩
            have h4 : s < 1 := by omega
            go_wp2_with fail
            go_ret
            exact ⟨40, .inr ⟨rfl, hbad.out⟩, rfl, HB3.out⟩
          have hl2 : (P.level == 0) = false := by simpa using hl
          have hS1 : Hid (RStep P k ↔ s = 1 ∧ ch ≠ 0 ∧ (k = 0 ↔ own.size = 0)) := by have := hS.out; rwa [if_neg hl] at this
          by_cases h1 : s = 1
          rotate_left
          · have hbad := Lib.hid (not_r hn.out hk6 (fun h => h1 (hS1.out.1 h).1))
            have h1 : (s != 1) = true := by simpa using h1
            go_wp2_with fail
            go_ret
            exact ⟨40, .inr ⟨rfl, hbad.out⟩, rfl, HB3.out⟩
          subst h1
          go_wp2_with fail
          refine (HH.out _).mono ?_
          rintro e w4 ⟨rfl, hb⟩
          have HB4 := Lib.hid (bT HB3.out hb)
          have HQ4 := Lib.hid (hBs hb HQ3.out)
          have HV4 := Lib.hid (HV3.out.keep (Keeps.of_below (fun _ => False) hb) (fun _ _ h => h))
          clear hb HQ3 HB3 HV3 cl c0 c1
          by_cases hch : ch = 0
          · have hbad := Lib.hid (not_r hn.out hk6 (fun h => (hS1.out.1 h).2.1 hch))
            subst hch
            go_wp2_with fail
            go_ret
            exact ⟨40, .inr ⟨rfl, hbad.out⟩, rfl, HB4.out⟩
          have hch' : (ch == 0) = false := by simpa using hch
          have hg := Lib.hid (hS1.out.2 ⟨by simp, hch, fun e => absurd e hkq.out, fun e => absurd e ho⟩)
          obtain ⟨n1, n2⟩ := str_some ho
          go_wp2_with fail
          go_roundw
          case rel => exact ⟨k + 1, by omega, rfl, r_more hstep.out hg.out, HV4, HQ4, HB4⟩
          case measure => first | (simp [intOf]; done) | (simp [intOf]; omega)
end Go.Proofs.Ytgealllnchpekaa
