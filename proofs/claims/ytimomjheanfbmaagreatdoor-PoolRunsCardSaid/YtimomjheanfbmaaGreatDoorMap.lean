import Derived.Test.YtimomjheanfbmaaGreatDoorMao
import Derived.ScopeJumps
import Derived.Test.YtimomjheanfbmaaGreatDoorMan
set_option linter.unusedSimpArgs false
set_option linter.unusedVariables false
namespace Go.Proofs.YtimomjheanfbmaaGreatDoor
open Go.RowKit

/-! ### a page out of its bytes -/
def stD (s : ByteArray) (i : Nat) : Int := valS (s.extract (8 + 36 * i) (9 + 36 * i))
def nD (s : ByteArray) (i : Nat) : Int := valS (s.extract (9 + 36 * i) (10 + 36 * i))
def bodD (s : ByteArray) (i : Nat) : ByteArray := s.extract (10 + 36 * i) (44 + 36 * i)
def dtD (s : ByteArray) (i : Nat) : ByteArray := (bodD s i).extract 0 (nD s i).toNat
def decP (s : ByteArray) : Pg := { kind := valS (s.extract 0 1), level := valS (s.extract 1 2), store := valS (s.extract 2 4), next := valS (s.extract 4 8), st := stD s, dt := dtD s }
def bld (s : ByteArray) (k : Nat) : Pg := { decP s with st := fun i => if i < k then stD s i else 0, dt := fun i => if i < k then dtD s i else ⟨#[]⟩ }
def pageZ : Pg := { kind := 0, level := 0, store := 0, next := 0, st := fun _ => 0, dt := fun _ => ⟨#[]⟩ }
def ClDec (s : ByteArray) (i : Nat) : Prop := nD s i ≤ 34 ∧ Lib.trimB ((bodD s i).extract (nD s i).toNat 34).data.toList 0 = []
def DecOk (s : ByteArray) : Prop := s.size = 224 ∧ (∀ i, i < 6 → ClDec s i) ∧ PgOk (decP s)
theorem bld_next (s : ByteArray) (k : Nat) (hk : k < 6) (t : Int) (d : ByteArray) (ht : stD s k = t) (hd : dtD s k = d) : ((pgC (bld s k)).setIfInBounds (4 + k * 2) (.int .i64 t)).setIfInBounds (4 + k * 2 + 1) (.string d) = pgC (bld s (k + 1)) := by
  subst ht; subst hd
  match k, hk with
  | 0, _ => simp [pgC, bld]
  | 1, _ => simp [pgC, bld]
  | 2, _ => simp [pgC, bld]
  | 3, _ => simp [pgC, bld]
  | 4, _ => simp [pgC, bld]
  | 5, _ => simp [pgC, bld]
theorem bld_six (s : ByteArray) : pgC (bld s 6) = pgC (decP s) := by simp [pgC, bld, decP]
theorem bld_none (s : ByteArray) : pgC (bld s 0) = #[.int .i64 (valS (s.extract 0 1)), .int .i64 (valS (s.extract 1 2)), .int .i64 (valS (s.extract 2 4)), .int .i64 (valS (s.extract 4 8)), .int .i64 0, .string ⟨#[]⟩, .int .i64 0, .string ⟨#[]⟩, .int .i64 0, .string ⟨#[]⟩, .int .i64 0, .string ⟨#[]⟩, .int .i64 0, .string ⟨#[]⟩, .int .i64 0, .string ⟨#[]⟩] := by simp [pgC, bld, decP]
theorem rd_bytes_at (s : ByteArray) (hs : s.size = 224) (o n : Nat) (h : o + n ≤ 224) : rdBytes (s.extract o 224) false n = (s.extract o (o + n), s.extract (o + n) 224, false) := by
  have hz : (s.extract o 224).size = 224 - o := by rw [ByteArray.size_extract]; omega
  rw [rdBytes_yes ⟨rfl, by omega, by omega⟩, Int.toNat_natCast, hz, extract_extract s o 224 0 n (by omega) (by omega) (by omega), extract_extract s o 224 n (224 - o) (by omega) (by omega) (by omega)]
  congr 2
  congr 1
  omega
theorem rd_num_at (s : ByteArray) (hs : s.size = 224) (o n : Nat) (h : o + n ≤ 224) (h1 : 1 ≤ n) (h8 : n ≤ 8) : rdNum (s.extract o 224) false n = (valS (s.extract o (o + n)), s.extract (o + n) 224, false) := by
  unfold rdNum
  rw [if_neg (by omega), rd_bytes_at s hs o n h]
theorem valS_lt (s : ByteArray) : 0 ≤ valS s ∧ valS s < 256 ^ s.size := by
  have h1 := valL_lt s.data.toList
  rw [list_size] at h1
  exact ⟨valL_nonneg _, h1⟩
theorem valS_one_lt (s : ByteArray) (a b : Nat) (h : b ≤ a + 1) : 0 ≤ valS (s.extract a b) ∧ valS (s.extract a b) < 256 := by
  have h1 := valS_lt (s.extract a b)
  have hz : (s.extract a b).size ≤ 1 := by rw [ByteArray.size_extract]; omega
  generalize (s.extract a b).size = m at *
  match m, hz with
  | 0, _ => exact ⟨h1.1, by omega⟩
  | 1, _ => exact h1
theorem valS_two_lt (s : ByteArray) (a b : Nat) (h : b ≤ a + 2) : 0 ≤ valS (s.extract a b) ∧ valS (s.extract a b) < 65536 := by
  have h1 := valS_lt (s.extract a b)
  have hz : (s.extract a b).size ≤ 2 := by rw [ByteArray.size_extract]; omega
  generalize (s.extract a b).size = m at *
  match m, hz with
  | 0, _ => exact ⟨h1.1, by omega⟩
  | 1, _ => exact ⟨h1.1, by omega⟩
  | 2, _ => exact h1
theorem valS_four_lt (s : ByteArray) (a b : Nat) (h : b ≤ a + 4) : 0 ≤ valS (s.extract a b) ∧ valS (s.extract a b) < 4294967296 := by
  have h1 := valS_lt (s.extract a b)
  have hz : (s.extract a b).size ≤ 4 := by rw [ByteArray.size_extract]; omega
  generalize (s.extract a b).size = m at *
  match m, hz with
  | 0, _ => exact ⟨h1.1, by omega⟩
  | 1, _ => exact ⟨h1.1, by omega⟩
  | 2, _ => exact ⟨h1.1, by omega⟩
  | 3, _ => exact ⟨h1.1, by omega⟩
  | 4, _ => exact h1
theorem cl_dec_more {s : ByteArray} {k : Nat} (h : ∀ j, j < k → ClDec s j) (hk : ClDec s k) : ∀ j, j < k + 1 → ClDec s j := fun j hj => by
  by_cases e : j = k
  · subst e; exact hk
  · exact h j (by omega)
theorem dtD_size (s : ByteArray) (i : Nat) : (dtD s i).size ≤ 34 := by
  unfold dtD bodD
  rw [ByteArray.size_extract, ByteArray.size_extract]
  omega
theorem heap_set_eq {w : World} {b j : Nat} {C C' : Array Value} {T : TypeId} {f : Nat × Nat} {u : Value} (h : w.heap[b]? = some (.cells C T f)) (hC : C.setIfInBounds j u = C') : (w.setCell ⟨b, j, none⟩ u).heap[b]? = some (.cells C' T f) := by
  rw [heap_set h, hC]
theorem results_row_tmp {P : Program} {fn : Func} {p k : Tmp} {ty : TypeId} (h : fn.results = #[.cell p ty, .tmp k]) (tmps : Array Value) (w : World) (g : Nat) (t : TypeId) (cs : Array Value) (fr : Nat × Nat) (d : TypeDesc)
    (hp : tmps.getD p undef = .pointer (some ⟨g, 0, none⟩)) (hg : w.heap[g]? = some (.cells cs t fr))
    (hu : P.underlying ty = some d) (hd : (match d with | .struct _ | .array _ _ => true | _ => false) = true) (hi : (P.info? ty).map (·.size) = some cs.size) :
    (results fn tmps).run P w = .ok (.tuple #[.agg cs, tmps.getD k undef]) w := by
  have hp' : tmps[p]?.getD undef = .pointer (some ⟨g, 0, none⟩) := by simpa using hp
  simp [results, h, hp', asAddr, run_loadVar_row w g t ty cs fr d hg hu hd hi]
theorem wp_scope_loop {P : Program} {a : Act} {w : World} {Q : Exit → Act → World → Prop} {c X : Code} (l : Nat) (J : Act → World → Prop) (μ : Act → World → Nat) (hf : findLabel c l = some (Code.skip.seq X))
    (pass : ∀ a w, J a w → X.wp P (Exit.jump l (fun a' w' => J a' w' ∧ μ a' w' < μ a w) Q) a w)
    (first : Hid (∀ a w, J a w → X.wp P (Exit.jump l J Q) a w) → c.wp P (Exit.jump l J Q) a w) : (Code.scope c).wp P Q a w := by
  refine wp_scope_jumps l J μ hf (first (fun a w hJ => wp_mono (pass a w hJ) fun e a' w' h => ?_)) (fun a w hJ => wp_seq (wp_skip (pass a w hJ)))
  cases e with
  | goto l' => exact ⟨h.1, h.2.1⟩
  | _ => exact h
/-- what the slots hold where the label stands -/
def FrOk (a : Act) (s : ByteArray) (z r p k : Nat) : Prop := a.defers = [] ∧ a.tmps.size = 70 ∧ a.tmps.getD 0 undef = .string s ∧ a.tmps.getD 2 undef = .pointer (some ⟨z, 0, none⟩) ∧ a.tmps.getD 3 undef = .int .i64 0 ∧ a.tmps.getD 4 undef = .pointer (some ⟨r, 0, none⟩) ∧ a.tmps.getD 5 undef = .pointer (some ⟨p, 0, none⟩) ∧ a.tmps.getD 6 undef = .int .i64 k
theorem lits (T : Array Value) : T = ((List.range T.size).map fun j => T.getD j undef).toArray := by
  apply Array.ext
  · simp
  · intro i h1 h2
    simp [Array.getD, h1]
theorem lits70 (V : Nat → Value) : ((List.range 70).map V).toArray = #[V 0, V 1, V 2, V 3, V 4, V 5, V 6, V 7, V 8, V 9, V 10, V 11, V 12, V 13, V 14, V 15, V 16, V 17, V 18, V 19, V 20, V 21, V 22, V 23, V 24, V 25, V 26, V 27, V 28, V 29, V 30, V 31, V 32, V 33, V 34, V 35, V 36, V 37, V 38, V 39, V 40, V 41, V 42, V 43, V 44, V 45, V 46, V 47, V 48, V 49, V 50, V 51, V 52, V 53, V 54, V 55, V 56, V 57, V 58, V 59, V 60, V 61, V 62, V 63, V 64, V 65, V 66, V 67, V 68, V 69] := rfl
theorem FrOk.lit {a : Act} {s : ByteArray} {z r p k : Nat} (h : FrOk a s z r p k) : ∃ V : Nat → Value, a = { tmps := #[.string s, V 1, .pointer (some ⟨z, 0, none⟩), .int .i64 0, .pointer (some ⟨r, 0, none⟩), .pointer (some ⟨p, 0, none⟩), .int .i64 k, V 7, V 8, V 9, V 10, V 11, V 12, V 13, V 14, V 15, V 16, V 17, V 18, V 19, V 20, V 21, V 22, V 23, V 24, V 25, V 26, V 27, V 28, V 29, V 30, V 31, V 32, V 33, V 34, V 35, V 36, V 37, V 38, V 39, V 40, V 41, V 42, V 43, V 44, V 45, V 46, V 47, V 48, V 49, V 50, V 51, V 52, V 53, V 54, V 55, V 56, V 57, V 58, V 59, V 60, V 61, V 62, V 63, V 64, V 65, V 66, V 67, V 68, V 69], defers := [] } := by
  obtain ⟨T, d⟩ := a
  obtain ⟨h1, h2, e0, e2, e3, e4, e5, e6⟩ := h
  simp only at h1 h2 e0 e2 e3 e4 e5 e6
  subst h1
  refine ⟨fun j => T.getD j undef, ?_⟩
  have hT := lits T
  rw [h2, lits70] at hT
  rw [e0, e2, e3, e4, e5, e6] at hT
  exact congrArg (fun t => ({ tmps := t, defers := [] } : Act)) hT
end Go.Proofs.YtimomjheanfbmaaGreatDoor

namespace Go.Proofs.YtimomjheanfbmaaGreatDoor
open Go.RowKit

set_option maxRecDepth 100000 in
set_option maxHeartbeats 16000000 in
theorem rf_right (P : Pg) (hd : ∀ i, i < 6 → (P.dt i).size ≤ maxLen) (w : World) : Calls Tryz.prog 81 #[pgV P] w fun e w' => (e = .returned (.bool true) ∧ PgOk P ∨ e = .returned (.bool false) ∧ ¬ PgOk P) ∧ Below w.heap.size w w' := by
  have hpc : pgC P = #[.int .i64 P.kind, .int .i64 P.level, .int .i64 P.store, .int .i64 P.next, .int .i64 (P.st 0), .string (P.dt 0), .int .i64 (P.st 1), .string (P.dt 1), .int .i64 (P.st 2), .string (P.dt 2),
  .int .i64 (P.st 3), .string (P.dt 3), .int .i64 (P.st 4), .string (P.dt 4), .int .i64 (P.st 5), .string (P.dt 5)] := rfl
  replace hpc := Lib.hid hpc
  have hpa : Hid (pgA P = #[.int .i64 (P.st 0), .string (P.dt 0), .int .i64 (P.st 1), .string (P.dt 1), .int .i64 (P.st 2), .string (P.dt 2), .int .i64 (P.st 3), .string (P.dt 3), .int .i64 (P.st 4), .string (P.dt 4), .int .i64 (P.st 5), .string (P.dt 5)]) := rfl
  have HQ : Hid ((w.alloc (.cells (pgC P) 49)).heap[w.heap.size]? = some (.cells (pgC P) 49 (0, 0))) := hN rfl
  unfold pgV
  rw [hpc.out]
  by_cases hh : HdOk P
  rotate_left
  · have hbad := Lib.hid (not_hd hh)
    rcases hd_cases hh with h | ⟨h1, h⟩ | ⟨h1, h2, h⟩ | ⟨h1, h2, h3, h⟩ | ⟨h1, h2, h3, h4, h⟩ | ⟨h1, h2, h3, h4, h5, h⟩ | ⟨h1, h2, h3, h4, h5, h6, h⟩ | ⟨h1, h2, h3, h4, h5, h6, h7, h⟩
    all_goals
      clear hh HQ hpa hpc
      go_enter Tryz.func81, Tryz.ntmps81
      go_wp2_with fail
      go_ret
      exact ⟨.inr ⟨rfl, hbad.out⟩, bA bR⟩
  obtain ⟨h1, h2, h3, h4, h5, h6, h7, h8⟩ := hh
  have hH : Hid (HdOk P) := ⟨h1, h2, h3, h4, h5, h6, h7, h8⟩
  go_enter Tryz.func81, Tryz.ntmps81
  go_wp2_with fail
  clear h1 h2 h3 h4 h5 h6 h7 h8
  rw [← hpc.out]
  try rw [← hpa.out]
  clear hpc hpa
  go_loopw [3] (fun i wr => ∃ (k : Nat), k ≤ 6 ∧ i = .int .i64 k ∧ Hid (∀ j, j < k → ClOk (P.st j) (P.dt j)) ∧ Hid (wr.heap[w.heap.size]? = some (.cells (pgC P) 49 (0, 0))) ∧ Hid (Below w.heap.size w wr)) (fun i _ => 6 - (intOf i).toNat)
  case atStart => exact ⟨0, by omega, rfl, fun j h => by omega, HQ, bA bR⟩
  case round =>
    obtain ⟨k, hk, rfl, hstep, HQ, HBr⟩ := hrel
    by_cases hk6 : k < 6
    rotate_left
    · obtain rfl : k = 6 := by omega
      go_wp2_with fail
      go_ret
      exact ⟨.inl ⟨rfl, hH.out, hstep.out⟩, HBr.out⟩
    have hix := run_index_pg P k hk6
    obtain ⟨c0, c1⟩ := pg_at HQ.out k hk6
    have hqr := block_lt HQ.out
    obtain ⟨s, es⟩ : ∃ s, P.st k = s := ⟨_, rfl⟩
    obtain ⟨d, ed⟩ : ∃ d, P.dt k = d := ⟨_, rfl⟩
    have hdz : d.size ≤ maxLen := ed ▸ hd k hk6
    unfold maxLen at hdz
    have hiff := Lib.hid (cl_more hstep.out (k := k))
    have hno := Lib.hid (not_cl (P := P) hk6)
    rw [es, ed] at hix hiff hno
    rw [es] at c0
    rw [ed] at c1
    replace es := Lib.hid es
    replace ed := Lib.hid ed
    have hk6' : (k : Int) < 6 := by omega
    by_cases hc : ClOk s d
    · have hcl := Lib.hid (hiff.out hc)
      obtain ⟨h1, h2, h3, h4⟩ := hc
      by_cases e : s = 0
      · subst e
        obtain rfl := str_none (h4 rfl)
        clear hiff hno h1 h2 h3 h4 hdz
        go_wp2_with fail
        go_roundw
        case rel => exact ⟨k + 1, by omega, rfl, hcl.out, hO HQ.out, bA HBr.out⟩
        case measure => simp [intOf]; omega
      · have e' : (s == 0) = false := by simpa using e
        clear hiff hno h4
        go_wp2_with fail
        go_roundw
        case rel => exact ⟨k + 1, by omega, rfl, hcl.out, hO HQ.out, bA HBr.out⟩
        case measure => simp [intOf]; omega
    · have hbad := Lib.hid (hno.out hc)
      rcases cl_cases hc with h | ⟨h1, h⟩ | ⟨h1, h2, h⟩ | ⟨h1, h2, h⟩
      · clear hc hiff hno hstep
        go_wp2_with fail
        go_ret
        exact ⟨.inr ⟨rfl, hbad.out⟩, bA HBr.out⟩
      · clear hc hiff hno hstep
        go_wp2_with fail
        go_ret
        exact ⟨.inr ⟨rfl, hbad.out⟩, bA HBr.out⟩
      · clear hc hiff hno hstep
        go_wp2_with fail
        go_ret
        exact ⟨.inr ⟨rfl, hbad.out⟩, bA HBr.out⟩
      · subst h1
        obtain ⟨n1, n2⟩ := str_some h
        clear hc hiff hno hstep
        go_wp2_with fail
        go_ret
        exact ⟨.inr ⟨rfl, hbad.out⟩, bA HBr.out⟩
end Go.Proofs.YtimomjheanfbmaaGreatDoor
