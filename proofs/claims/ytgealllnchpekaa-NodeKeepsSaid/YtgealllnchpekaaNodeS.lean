import Derived.Test.YtgealllnchpekaaNodeR
import Derived.Test.YtgealllnchpekaaNodeC
set_option linter.unusedSimpArgs false
set_option linter.unusedVariables false
namespace Go.Proofs.Ytgealllnchpekaa
open Go.RowKit

theorem not_node {P : Pg} {k : Nat} (hk : k < 6) (h : ¬ StepOk P k) : ¬ NodeOk P := fun n => h (n.2.2.1 k hk)
theorem step_more {P : Pg} {k : Nat} (h : ∀ j, j < k → StepOk P j) (hk : StepOk P k) : ∀ j, j < k + 1 → StepOk P j := fun j hj => by
  by_cases e : j = k
  · subst e; exact hk
  · exact h j (by omega)
theorem some_same {P : Pg} {k : Nat} {b : Bool} (h : b = true ↔ ∃ j, j < k ∧ P.st j ≠ 0) (hk : P.st k = 0) : b = true ↔ ∃ j, j < k + 1 ∧ P.st j ≠ 0 := by
  rw [h]
  constructor
  · rintro ⟨j, h1, h2⟩; exact ⟨j, by omega, h2⟩
  · rintro ⟨j, h1, h2⟩
    have : j ≠ k := fun e => h2 (by rw [e]; exact hk)
    exact ⟨j, by omega, h2⟩
theorem some_true {P : Pg} {k : Nat} (hk : P.st k ≠ 0) : true = true ↔ ∃ j, j < k + 1 ∧ P.st j ≠ 0 := ⟨fun _ => ⟨k, by omega, hk⟩, fun _ => rfl⟩
theorem last_none {P : Pg} {k : Nat} {last : ByteArray} (h : P.st k = 0) : ∀ m, k + 1 = m + 1 → P.st m ≠ 0 → last = keyAt P m := fun m e n => by
  obtain rfl : k = m := by omega
  exact absurd h n
theorem last_own {P : Pg} {k : Nat} {own : ByteArray} (h : keyAt P k = own) : ∀ m, k + 1 = m + 1 → P.st m ≠ 0 → own = keyAt P m := fun m e n => by
  obtain rfl : k = m := by omega
  exact h.symm
theorem size_nil : (⟨#[]⟩ : ByteArray).size = 0 := rfl
set_option maxRecDepth 100000 in
set_option maxHeartbeats 16000000 in
theorem nd_check (P : Pg) (hd : ∀ i, (P.dt i).size ≤ maxLen) (w : World) : Calls Try.prog 12 #[pgV P] w fun e w' => ∃ r, CheckR P r ∧ e = .returned (.int .i64 r) ∧ Below w.heap.size w w' := by
  have HCm := Lib.hid (fun a b w => str_cmp a b w)
  have hpc : pgC P = #[.int .i64 P.kind, .int .i64 P.level, .int .i64 P.store, .int .i64 P.next, .int .i64 (P.st 0), .string (P.dt 0), .int .i64 (P.st 1), .string (P.dt 1), .int .i64 (P.st 2), .string (P.dt 2),
  .int .i64 (P.st 3), .string (P.dt 3), .int .i64 (P.st 4), .string (P.dt 4), .int .i64 (P.st 5), .string (P.dt 5)] := rfl
  replace hpc := Lib.hid hpc
  have hpa : Hid (pgA P = #[.int .i64 (P.st 0), .string (P.dt 0), .int .i64 (P.st 1), .string (P.dt 1), .int .i64 (P.st 2), .string (P.dt 2), .int .i64 (P.st 3), .string (P.dt 3), .int .i64 (P.st 4), .string (P.dt 4), .int .i64 (P.st 5), .string (P.dt 5)]) := rfl
  have HQ : Hid ((w.alloc (.cells (pgC P) 26)).heap[w.heap.size]? = some (.cells (pgC P) 26 (0, 0))) := hN rfl
  unfold pgV
  rw [hpc.out]
  by_cases hkind : P.kind = 4
  rotate_left
  · have hk' : (P.kind != 4) = true := by simpa using hkind
    go_enter Try.func12, Try.ntmps12
    go_wp2_with fail
    go_ret
    exact ⟨40, .inr ⟨rfl, fun h => hkind h.1⟩, rfl, bA bR⟩
  by_cases hlev : P.level < 0
  · have hk' : (P.kind != 4) = false := by simpa using hkind
    go_enter Try.func12, Try.ntmps12
    go_wp2_with fail
    go_ret
    exact ⟨40, .inr ⟨rfl, fun h => absurd h.2.1 (by omega)⟩, rfl, bA bR⟩
  have hk' : (P.kind != 4) = false := by simpa using hkind
  have hkd := Lib.hid hkind
  have hl0 : 0 ≤ P.level := by omega
  clear hkind
  go_enter Try.func12, Try.ntmps12
  go_wp2_with fail
  rw [← hpc.out, ← hpa.out]
  clear hpc hpa hlev
  go_loopw [20, 3, 4] (fun i l s wr => ∃ (k : Nat) (last : ByteArray) (b : Bool), k ≤ 6 ∧ i = .int .i64 k ∧ l = .string last ∧ s = .bool b ∧ Hid (∀ j, j < k → StepOk P j) ∧ Hid (b = true ↔ ∃ j, j < k ∧ P.st j ≠ 0) ∧ Hid (∀ m, k = m + 1 → P.st m ≠ 0 → last = keyAt P m) ∧ Hid (wr.heap[w.heap.size]? = some (.cells (pgC P) 26 (0, 0))) ∧ Hid (Below w.heap.size w wr)) (fun i l s _ => 6 - (intOf i).toNat)
  case atStart => exact ⟨0, _, _, by omega, rfl, rfl, rfl, fun j h => by omega, ⟨fun h => by simp at h, fun ⟨j, h, _⟩ => by omega⟩, fun m h => by omega, HQ, bA bR⟩
  case round =>
    obtain ⟨k, last, b, hk, rfl, rfl, rfl, hstep, hsome, hlast, HQ, HBr⟩ := hrel
    have hqr := block_lt HQ.out
    have cl : wr.cell? ⟨w.heap.size, 1, none⟩ = some (.int .i64 P.level) := cell_at HQ.out 1
    by_cases hk6 : k < 6
    rotate_left
    · obtain rfl : k = 6 := by omega
      by_cases hl : P.level = 0
      · have hok : Hid (NodeOk P) := ⟨hkd.out, hl0, hstep.out, fun h => by omega⟩
        rw [hl] at cl
        go_wp2_with fail
        go_ret
        exact ⟨0, .inl ⟨rfl, hok.out⟩, rfl, HBr.out⟩
      · have hl1 : 0 < P.level := by omega
        cases b with
        | true =>
          have hok : Hid (NodeOk P) := ⟨hkd.out, hl0, hstep.out, fun h => hsome.out.1 rfl⟩
          go_wp2_with fail
          go_ret
          exact ⟨0, .inl ⟨rfl, hok.out⟩, rfl, HBr.out⟩
        | false =>
          have hok : Hid (¬ NodeOk P) := fun h => by have := hsome.out.2 (h.2.2.2 hl1); simp at this
          go_wp2_with fail
          go_ret
          exact ⟨40, .inr ⟨rfl, hok.out⟩, rfl, HBr.out⟩
    have hix := run_index_pg P k hk6
    obtain ⟨s, es⟩ : ∃ s, P.st k = s := ⟨_, rfl⟩
    obtain ⟨d, ed⟩ : ∃ d, P.dt k = d := ⟨_, rfl⟩
    rw [es, ed] at hix
    have hdz : d.size ≤ maxLen := ed ▸ hd k
    have es := Lib.hid es
    have ed := Lib.hid ed
    have hk6' : (k : Int) < 6 := by omega
    by_cases hs : s = 0
    · subst hs
      have hst0 : StepOk P k ↔ d.size = 0 := by unfold StepOk; rw [if_pos es.out, ed.out]
      have hst0 := Lib.hid hst0
      by_cases he : d.size = 0
      · have hg := Lib.hid (hst0.out.2 he)
        obtain rfl := str_none he
        go_wp2_with fail
        go_roundw
        case rel => exact ⟨k + 1, last, b, by omega, rfl, rfl, rfl, step_more hstep.out hg.out, some_same hsome.out es.out, last_none es.out, hO HQ.out, bA HBr.out⟩
        case measure => simp [intOf]; omega
      · obtain ⟨n1, n2⟩ := str_some he
        have hbad := Lib.hid (not_node hk6 (fun h => he (hst0.out.1 h)))
        go_wp2_with fail
        go_ret
        exact ⟨40, .inr ⟨rfl, hbad.out⟩, rfl, bA HBr.out⟩
    have hs' : (s == 0) = false := by simpa using hs
    have HK := Lib.hid (fun w => nd_key s d hdz w)
    have HH := Lib.hid (fun w => nd_child s d hdz w)
    unfold cellV at HK HH
    dsimp only at HK HH
    have hrz := keyP_rest s d
    obtain ⟨own, rest, ok, ek⟩ : ∃ own rest ok, keyP s d = (own, rest, ok) := ⟨_, _, _, rfl⟩
    rw [ek] at HK hrz
    obtain ⟨ch, ech⟩ : ∃ c, childP s d = c := ⟨_, rfl⟩
    rw [ech] at HH
    dsimp only at HK hrz
    have eown : Hid (keyAt P k = own) := by unfold keyAt; rw [es.out, ed.out, ek]; exact Lib.hid rfl
    have hstn : Hid (StepOk P k ↔ ((∀ m, k = m + 1 → P.st m ≠ 0) ∧ ok = true ∧ (∀ m, k = m + 1 → Op.bytesLess (keyAt P m).toList own.toList = true) ∧ (if P.level = 0 then own.size ≠ 0 ∧ rest.size ≤ 20 ∧ (s = 1 ∨ s = 2) else s = 1 ∧ ch ≠ 0 ∧ (k = 0 ↔ own.size = 0)))) := by
      unfold StepOk CellOk
      rw [if_neg (by rw [es.out]; exact hs), eown.out, es.out, ed.out, ek, ech]
      exact Lib.hid Iff.rfl
    have hrz : rest.size ≤ maxLen := Nat.le_trans hrz hdz
    unfold maxLen at hrz
    clear ek ech
    by_cases hpv : ∃ m, k = m + 1 ∧ P.st m = 0
    · obtain ⟨m, hkm, hm⟩ := hpv
      have hbad := Lib.hid (not_node hk6 (fun h => (hstn.out.1 h).1 m hkm hm))
      have c0 := (pg_at HQ.out m (by omega)).1
      rw [hm] at c0
      have hk0 : (0 : Int) < k := by omega
      have hm' : ((k : Int) - 1).toNat = m := by omega
      have hk5 : (k : Int) - 1 < 6 := by omega
      have hk5' : 0 ≤ (k : Int) - 1 := by omega
      clear hkm hm
      go_wp2_with fail
      go_ret
      exact ⟨40, .inr ⟨rfl, hbad.out⟩, rfl, bA HBr.out⟩
    have hpv : ∀ m, k = m + 1 → P.st m ≠ 0 := fun m h h' => hpv ⟨m, h, h'⟩
    by_cases hk0 : k = 0
    · have hki : (k : Int) ≤ 0 := by omega
      have hkz : ((k : Int) == 0) = true := by simp [hk0]
      have hkq := Lib.hid hk0
      have hnm : Hid (∀ m, k = m + 1 → False) := fun m h => by omega
      clear hk0
      have hsn : Hid (P.st k ≠ 0) := fun h => hs (es.out.symm.trans h)
      have hb0 : b = false := by
        cases b with
        | false => rfl
        | true => obtain ⟨j, h1, h2⟩ := hsome.out.1 rfl; have := hkq.out; omega
      subst hb0
      go_wp2_with fail
      refine (HK.out _).mono ?_
      rintro e w2 ⟨rfl, hb⟩
      have HB2 := Lib.hid (bT (bA HBr.out) hb)
      have HQ2 := Lib.hid (hBs hb (hO HQ.out))
      have HC2 := Lib.hid (hBs hb (hN rfl))
      clear hb HQ HBr cl
      have cl : w2.cell? ⟨w.heap.size, 1, none⟩ = some (.int .i64 P.level) := cell_at HQ2.out 1
      have q0 := cell_at HC2.out 0
      have q1 := cell_at HC2.out 1
      cases ok with
      | false =>
        have hbad := Lib.hid (not_node hk6 (fun h => by have := (hstn.out.1 h).2.1; simp at this))
        go_wp2_with fail
        go_ret
        exact ⟨40, .inr ⟨rfl, hbad.out⟩, rfl, HB2.out⟩
      | true =>
        have hS : Hid (StepOk P k ↔ (if P.level = 0 then own.size ≠ 0 ∧ rest.size ≤ 20 ∧ (s = 1 ∨ s = 2) else s = 1 ∧ ch ≠ 0 ∧ (k = 0 ↔ own.size = 0))) := ⟨fun h => (hstn.out.1 h).2.2.2, fun h => hstn.out.2 ⟨hpv, by simp, fun m e => (hnm.out m e).elim, h⟩⟩
        by_cases hl : P.level = 0
        · rw [hl] at cl
          replace hl := Lib.hid hl
          have hS0 : Hid (StepOk P k ↔ own.size ≠ 0 ∧ rest.size ≤ 20 ∧ (s = 1 ∨ s = 2)) := by have := hS.out; rwa [if_pos hl.out] at this
          by_cases ho : own.size = 0
          · have hbad := Lib.hid (not_node hk6 (fun h => (hS0.out.1 h).1 ho))
            obtain rfl := str_none ho
            go_wp2_with fail
            go_ret
            exact ⟨40, .inr ⟨rfl, hbad.out⟩, rfl, HB2.out⟩
          obtain ⟨n1, n2⟩ := str_some ho
          by_cases hr : 20 < rest.size
          · have hbad := Lib.hid (not_node hk6 (fun h => absurd (hS0.out.1 h).2.1 (by omega)))
            have hr1 : (20 : Int) < rest.size := by omega
            go_wp2_with fail
            go_ret
            exact ⟨40, .inr ⟨rfl, hbad.out⟩, rfl, HB2.out⟩
          have hr1 : (rest.size : Int) ≤ 20 := by omega
          by_cases h1 : s = 1
          · have hg := Lib.hid (hS0.out.2 ⟨ho, by omega, .inl h1⟩)
            subst h1
            go_wp2_with fail
            go_roundw
            case rel => exact ⟨k + 1, _, true, by omega, rfl, rfl, rfl, step_more hstep.out hg.out, some_true hsn.out, last_own eown.out, HQ2, HB2⟩
            case measure => first | (simp [intOf]; done) | (simp [intOf]; omega)
          by_cases h2 : s = 2
          · have hg := Lib.hid (hS0.out.2 ⟨ho, by omega, .inr h2⟩)
            subst h2
            go_wp2_with fail
            go_roundw
            case rel => exact ⟨k + 1, _, true, by omega, rfl, rfl, rfl, step_more hstep.out hg.out, some_true hsn.out, last_own eown.out, HQ2, HB2⟩
            case measure => first | (simp [intOf]; done) | (simp [intOf]; omega)
          have h1 : (s != 1) = true := by simpa using h1
          have h2 : (s != 2) = true := by simpa using h2
          have hbad := Lib.hid (not_node hk6 (fun h => by have := (hS0.out.1 h).2.2; simp at h1 h2; omega))
          go_wp2_with fail
          go_ret
          exact ⟨40, .inr ⟨rfl, hbad.out⟩, rfl, HB2.out⟩
        have hl1 : 0 < P.level := by omega
        have hl2 : (P.level == 0) = false := by simpa using hl
        have hS1 : Hid (StepOk P k ↔ s = 1 ∧ ch ≠ 0 ∧ (k = 0 ↔ own.size = 0)) := by have := hS.out; rwa [if_neg hl] at this
        by_cases h1 : s = 1
        rotate_left
        · have hbad := Lib.hid (not_node hk6 (fun h => h1 (hS1.out.1 h).1))
          have h1 : (s != 1) = true := by simpa using h1
          go_wp2_with fail
          go_ret
          exact ⟨40, .inr ⟨rfl, hbad.out⟩, rfl, HB2.out⟩
        subst h1
        go_wp2_with fail
        refine (HH.out _).mono ?_
        rintro e w3 ⟨rfl, hb⟩
        have HB3 := Lib.hid (bT HB2.out hb)
        have HQ3 := Lib.hid (hBs hb HQ2.out)
        clear hb HQ2 HB2 cl q0 q1
        by_cases hch : ch = 0
        · have hbad := Lib.hid (not_node hk6 (fun h => (hS1.out.1 h).2.1 hch))
          subst hch
          go_wp2_with fail
          go_ret
          exact ⟨40, .inr ⟨rfl, hbad.out⟩, rfl, HB3.out⟩
        have hch' : (ch == 0) = false := by simpa using hch
        by_cases ho : own.size = 0
        · have hg := Lib.hid (hS1.out.2 ⟨by simp, hch, fun _ => ho, fun _ => hkq.out⟩)
          obtain rfl := str_none ho
          go_wp2_with fail
          go_roundw
          case rel => exact ⟨k + 1, _, true, by omega, rfl, rfl, rfl, step_more hstep.out hg.out, some_true hsn.out, last_own eown.out, HQ3, HB3⟩
          case measure => first | (simp [intOf]; done) | (simp [intOf]; omega)
        obtain ⟨n1, n2⟩ := str_some ho
        have hbad := Lib.hid (not_node hk6 (fun h => ho ((hS1.out.1 h).2.2.1 hkq.out)))
        go_wp2_with fail
        go_ret
        exact ⟨40, .inr ⟨rfl, hbad.out⟩, rfl, HB3.out⟩
    · obtain ⟨m, hkm⟩ : ∃ m, k = m + 1 := ⟨k - 1, by omega⟩
      have hsm := hpv m hkm
      have hsn : Hid (P.st k ≠ 0) := fun h => hs (es.out.symm.trans h)
      have c0 := (pg_at HQ.out m (by omega)).1
      have hsm' : (P.st m == 0) = false := by simpa using hsm
      have hki : (0 : Int) < k := by omega
      have hkz : ((k : Int) == 0) = false := by simp; omega
      have hm' : ((k : Int) - 1).toNat = m := by omega
      have hk5 : (k : Int) - 1 < 6 := by omega
      have hk5' : 0 ≤ (k : Int) - 1 := by omega
      have hb0 : b = true := hsome.out.2 ⟨m, by omega, hsm⟩
      subst hb0
      have hlm := Lib.hid (hlast.out m hkm hsm)
      have hkq := Lib.hid hk0
      have hkm' := Lib.hid hkm
      clear hk0 hkm
      have HX := Lib.hid (fun w => str_cmp own last w)
      have hC : 0 < Lib.compareBytes own.data.toList last.data.toList ↔ Op.bytesLess last.toList own.toList = true := by rw [cmp_pos, toList_data', toList_data']
      obtain ⟨C, eC⟩ : ∃ C, Lib.compareBytes own.data.toList last.data.toList = C := ⟨_, rfl⟩
      rw [eC] at HX hC
      have hC := Lib.hid hC
      clear eC
      go_wp2_with fail
      refine (HK.out _).mono ?_
      rintro e w2 ⟨rfl, hb⟩
      have HB2 := Lib.hid (bT (bA HBr.out) hb)
      have HQ2 := Lib.hid (hBs hb (hO HQ.out))
      have HC2 := Lib.hid (hBs hb (hN rfl))
      clear hb HQ HBr cl
      have cl : w2.cell? ⟨w.heap.size, 1, none⟩ = some (.int .i64 P.level) := cell_at HQ2.out 1
      have q0 := cell_at HC2.out 0
      have q1 := cell_at HC2.out 1
      cases ok with
      | false =>
        have hbad := Lib.hid (not_node hk6 (fun h => by have := (hstn.out.1 h).2.1; simp at this))
        go_wp2_with fail
        go_ret
        exact ⟨40, .inr ⟨rfl, hbad.out⟩, rfl, HB2.out⟩
      | true =>
        go_wp2_with fail
        refine (HX.out _).mono ?_
        rintro e w3 ⟨rfl, rfl⟩
        by_cases hc : 0 < C
        rotate_left
        · have hbad := Lib.hid (not_node hk6 (fun h => hc (hC.out.2 (by rw [hlm.out]; exact (hstn.out.1 h).2.2.1 m hkm'.out))))
          have hc : C ≤ 0 := by omega
          go_wp2_with fail
          go_ret
          exact ⟨40, .inr ⟨rfl, hbad.out⟩, rfl, HB2.out⟩
        have hc' := hC.out.1 hc
        rw [hlm.out] at hc'
        have hS : Hid (StepOk P k ↔ (if P.level = 0 then own.size ≠ 0 ∧ rest.size ≤ 20 ∧ (s = 1 ∨ s = 2) else s = 1 ∧ ch ≠ 0 ∧ (k = 0 ↔ own.size = 0))) := ⟨fun h => (hstn.out.1 h).2.2.2, fun h => hstn.out.2 ⟨hpv, by simp, fun m' e => (by have e : m' = m := Nat.succ.inj (e.symm.trans hkm'.out); rw [e]; exact hc'), h⟩⟩
        clear hc'
        by_cases hl : P.level = 0
        · rw [hl] at cl
          replace hl := Lib.hid hl
          have hS0 : Hid (StepOk P k ↔ own.size ≠ 0 ∧ rest.size ≤ 20 ∧ (s = 1 ∨ s = 2)) := by have := hS.out; rwa [if_pos hl.out] at this
          by_cases ho : own.size = 0
          · have hbad := Lib.hid (not_node hk6 (fun h => (hS0.out.1 h).1 ho))
            obtain rfl := str_none ho
            go_wp2_with fail
            go_ret
            exact ⟨40, .inr ⟨rfl, hbad.out⟩, rfl, HB2.out⟩
          obtain ⟨n1, n2⟩ := str_some ho
          by_cases hr : 20 < rest.size
          · have hbad := Lib.hid (not_node hk6 (fun h => absurd (hS0.out.1 h).2.1 (by omega)))
            have hr1 : (20 : Int) < rest.size := by omega
            go_wp2_with fail
            go_ret
            exact ⟨40, .inr ⟨rfl, hbad.out⟩, rfl, HB2.out⟩
          have hr1 : (rest.size : Int) ≤ 20 := by omega
          by_cases h1 : s = 1
          · have hg := Lib.hid (hS0.out.2 ⟨ho, by omega, .inl h1⟩)
            subst h1
            go_wp2_with fail
            go_roundw
            case rel => exact ⟨k + 1, _, true, by omega, rfl, rfl, rfl, step_more hstep.out hg.out, some_true hsn.out, last_own eown.out, HQ2, HB2⟩
            case measure => first | (simp [intOf]; done) | (simp [intOf]; omega)
          by_cases h2 : s = 2
          · have hg := Lib.hid (hS0.out.2 ⟨ho, by omega, .inr h2⟩)
            subst h2
            go_wp2_with fail
            go_roundw
            case rel => exact ⟨k + 1, _, true, by omega, rfl, rfl, rfl, step_more hstep.out hg.out, some_true hsn.out, last_own eown.out, HQ2, HB2⟩
            case measure => first | (simp [intOf]; done) | (simp [intOf]; omega)
          have h1 : (s != 1) = true := by simpa using h1
          have h2 : (s != 2) = true := by simpa using h2
          have hbad := Lib.hid (not_node hk6 (fun h => by have := (hS0.out.1 h).2.2; simp at h1 h2; omega))
          go_wp2_with fail
          go_ret
          exact ⟨40, .inr ⟨rfl, hbad.out⟩, rfl, HB2.out⟩
        have hl1 : 0 < P.level := by omega
        have hl2 : (P.level == 0) = false := by simpa using hl
        have hS1 : Hid (StepOk P k ↔ s = 1 ∧ ch ≠ 0 ∧ (k = 0 ↔ own.size = 0)) := by have := hS.out; rwa [if_neg hl] at this
        by_cases h1 : s = 1
        rotate_left
        · have hbad := Lib.hid (not_node hk6 (fun h => h1 (hS1.out.1 h).1))
          have h1 : (s != 1) = true := by simpa using h1
          go_wp2_with fail
          go_ret
          exact ⟨40, .inr ⟨rfl, hbad.out⟩, rfl, HB2.out⟩
        subst h1
        go_wp2_with fail
        refine (HH.out _).mono ?_
        rintro e w3 ⟨rfl, hb⟩
        have HB3 := Lib.hid (bT HB2.out hb)
        have HQ3 := Lib.hid (hBs hb HQ2.out)
        clear hb HQ2 HB2 cl q0 q1
        by_cases hch : ch = 0
        · have hbad := Lib.hid (not_node hk6 (fun h => (hS1.out.1 h).2.1 hch))
          subst hch
          go_wp2_with fail
          go_ret
          exact ⟨40, .inr ⟨rfl, hbad.out⟩, rfl, HB3.out⟩
        have hch' : (ch == 0) = false := by simpa using hch
        by_cases ho : own.size = 0
        · have hbad := Lib.hid (not_node hk6 (fun h => hkq.out ((hS1.out.1 h).2.2.2 ho)))
          obtain rfl := str_none ho
          go_wp2_with fail
          go_ret
          exact ⟨40, .inr ⟨rfl, hbad.out⟩, rfl, HB3.out⟩
        have hg := Lib.hid (hS1.out.2 ⟨by simp, hch, fun e => absurd e hkq.out, fun e => absurd e ho⟩)
        obtain ⟨n1, n2⟩ := str_some ho
        go_wp2_with fail
        go_roundw
        case rel => exact ⟨k + 1, _, true, by omega, rfl, rfl, rfl, step_more hstep.out hg.out, some_true hsn.out, last_own eown.out, HQ3, HB3⟩
        case measure => first | (simp [intOf]; done) | (simp [intOf]; omega)
end Go.Proofs.Ytgealllnchpekaa
