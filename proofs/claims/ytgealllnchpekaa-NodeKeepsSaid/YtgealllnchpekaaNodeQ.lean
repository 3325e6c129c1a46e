import Derived.Test.YtgealllnchpekaaNodeE
import Derived.Test.YtgealllnchpekaaNodeP
import Derived.Deep.Cut
set_option linter.unusedSimpArgs false
set_option linter.unusedVariables false
namespace Go.Proofs.Ytgealllnchpekaa
open Go.RowKit

def page0 : Pg := ⟨4, 0, 0, 0, fun _ => 0, fun _ => ⟨#[]⟩⟩
def bx : ByteArray := ⟨#[1, 98, 120]⟩
def page1 : Pg := ⟨4, 0, 0, 0, fun i => if i = 0 then 1 else 0, fun i => if i = 0 then bx else ⟨#[]⟩⟩
theorem count0 {n : Nat} (h : IsCount page0 n) : n = 0 := h.eq ⟨by omega, fun j hj => by omega, fun _ => rfl⟩
theorem count1 {n : Nat} (h : IsCount page1 n) : n = 1 := h.eq ⟨by omega, fun j hj => by obtain rfl : j = 0 := by omega
                                                                                         show (1 : Int) ≠ 0
                                                                                         omega, fun _ => rfl⟩
theorem key_bx : keyP 1 bx = (⟨#[98]⟩, ⟨#[120]⟩, true) := by
  have : bx = textS ⟨#[98]⟩ ++ ⟨#[120]⟩ := by decide +kernel
  rw [this, keyP_text _ _ _ (by omega) (by decide)]
theorem run_copy_zero {P : Program} (w : World) (dT sT ty elem : TypeId) (d a : Option Addr) (dCap sCap s : Nat) (hu : P.underlying dT = some (.slice elem)) (hs : (P.info? elem).map (·.size) = some s) :
    (Builtin.copy_ #[dT, sT] ty #[.slice d 0 dCap, .slice a 0 sCap]).run P w = .ok (goInt 0) w := by
  cases hq : P.info? elem with
  | none => simp [hq] at hs
  | some i =>
    have hl : ∀ (x : Addr), (loadCells x 0).run P w = .ok #[] w := fun x => by simpa using run_loadCells_list (P := P) w x [] (by simp)
    cases d <;> cases a <;> simp [Builtin.copy_, run_underlying hu, Builtin.lenOf, Builtin.firstCells, sizeOf, typeInfo, hq, storeCells, hl]
theorem forget {P : Program} {c : Code} {Q : Exit → Act → World → Prop} {a : Act} {W : World} (F : World → Prop) (hF : F W) (h : ∀ W', F W' → c.wp P Q a W') : c.wp P Q a W := h W hF
theorem forgetQ {Q : Exit → Act → World → Prop} {e : Exit} {a : Act} {W : World} (F : World → Prop) (hF : F W) (h : ∀ W', F W' → Q e a W') : Q e a W := h W hF
theorem forget_post {P : Program} {fn : Func} {R : Ending → World → Prop} {e : Exit} {a : Act} {W : World} (F : World → Prop) (hF : F W) (h : ∀ W', F W' → bodyPost P fn R e a W') : bodyPost P fn R e a W := h W hF
set_option maxRecDepth 100000 in
set_option maxHeartbeats 40000000 in
theorem nd_put0 (w : World) : Calls Try.prog 26 #[pgV page0, cellV (1, bx)] w fun e w' => e = .returned (.tuple #[pgV page1, .int .i64 0]) ∧ Below w.heap.size w w' := by
  have HK := Lib.hid (fun w => nd_key 1 bx (by decide) w)
  rw [key_bx] at HK
  have HC := Lib.hid (fun w => nd_count page0 w)
  have HF := Lib.hid (fun w => nd_find page0 ⟨#[98]⟩ (fun _ => Nat.zero_le _) (by decide) w)
  have e0 : pgV page0 = .agg #[.int .i64 4, .int .i64 0, .int .i64 0, .int .i64 0, .int .i64 0, .string ⟨#[]⟩, .int .i64 0, .string ⟨#[]⟩, .int .i64 0, .string ⟨#[]⟩, .int .i64 0, .string ⟨#[]⟩, .int .i64 0, .string ⟨#[]⟩, .int .i64 0, .string ⟨#[]⟩] := rfl
  have e1 : pgV page1 = .agg #[.int .i64 4, .int .i64 0, .int .i64 0, .int .i64 0, .int .i64 1, .string bx, .int .i64 0, .string ⟨#[]⟩, .int .i64 0, .string ⟨#[]⟩, .int .i64 0, .string ⟨#[]⟩, .int .i64 0, .string ⟨#[]⟩, .int .i64 0, .string ⟨#[]⟩] := rfl
  have hcount : Hid (∀ n, IsCount page0 n → n = 0) := fun n h => count0 h
  rw [e0] at HC HF ⊢
  rw [e1]
  have hfind : Hid (∀ n i t, IsCount page0 n → FindAt page0 ⟨#[98]⟩ n i t → i = 0 ∧ t = false) := by
    intro n i t hn hf
    obtain rfl := count0 hn
    obtain ⟨h1, h2, h3, h4⟩ := hf
    refine ⟨by omega, ?_⟩
    rw [h4]; simp
  unfold cellV at *
  dsimp only at *
  clear e0 e1
  have hbx : bx.size = 3 := rfl
  generalize bx = T at *
  go_enter Try.func26, Try.ntmps26
  go_wp2_with fail
  refine (HK.out _).mono ?_
  rintro e w1 ⟨rfl, hb⟩
  have HB1 := Lib.hid (bT (bA (bA (bA bR))) hb)
  have HP1 := Lib.hid (hBs hb (hO (hO (hN rfl))))
  have HC1 := Lib.hid (hBs hb (hO (hN (n := w.heap.size + 1) (by simp))))
  have HR1 := Lib.hid (hBs hb (hN (n := w.heap.size + 2) (by simp)))
  clear hb
  have p0 := cell_at HP1.out
  go_wp2_with fail
  refine (HC.out _).mono ?_
  rintro e w2 ⟨n, hn, rfl, hb⟩
  obtain rfl := hcount.out n hn
  have HB2 := Lib.hid (bT HB1.out hb)
  have HP2 := Lib.hid (hBs hb HP1.out)
  have HC2 := Lib.hid (hBs hb HC1.out)
  have HR2 := Lib.hid (hBs hb HR1.out)
  clear hb p0 hn HP1 HC1 HR1
  have p0 := cell_at HP2.out
  go_wp2_with fail
  refine (HF.out _).mono ?_
  rintro e w3 ⟨n, i, t, hn, hf, rfl, hb⟩
  obtain ⟨rfl, rfl⟩ := hfind.out n i t hn hf
  have HB3 := Lib.hid (bT HB2.out hb)
  have HP3 := Lib.hid (hBs hb HP2.out)
  have HC3 := Lib.hid (hBs hb HC2.out)
  have HR3 := Lib.hid (hBs hb HR2.out)
  clear hb p0 hn hf HP2 HC2 HR2
  have p0 := cell_at HP3.out
  have p1 := free_at HP3.out
  have c0 := cell_at HC3.out
  have r0 := cell_at HR3.out
  have r1 := free_at HR3.out
  have hz := block_lt HR3.out
  have hcp := run_copy_zero (P := Try.prog) w3.drew 62 62 3 23 (some ⟨w.heap.size, 6, none⟩) (some ⟨w.heap.size, 4, none⟩) 5 6 2 Try.underlying62 (by kernel_rfl)
  go_wp2_with fail
  go_region
  refine forgetQ (fun W => Hid (Below w.heap.size w W) ∧ Hid (W.heap[w.heap.size]? = some (.cells #[.int .i64 4, .int .i64 0, .int .i64 0, .int .i64 0, .int .i64 0, .string ⟨#[]⟩, .int .i64 0, .string ⟨#[]⟩, .int .i64 0, .string ⟨#[]⟩, .int .i64 0, .string ⟨#[]⟩, .int .i64 0, .string ⟨#[]⟩, .int .i64 0, .string ⟨#[]⟩] 26 (0, 0))) ∧ Hid (W.heap[w.heap.size + 1]? = some (.cells #[.int .i64 1, .string T] 23 (0, 0))) ∧ Hid (W.heap[w.heap.size + 2]? = some (.cells #[.int .i64 0, .int .i64 0, .int .i64 0, .int .i64 0, .int .i64 0, .string ⟨#[]⟩, .int .i64 0, .string ⟨#[]⟩, .int .i64 0, .string ⟨#[]⟩, .int .i64 0, .string ⟨#[]⟩, .int .i64 0, .string ⟨#[]⟩, .int .i64 0, .string ⟨#[]⟩] 26 (0, 0)))) ⟨bD HB3.out, hDr HP3.out, hDr HC3.out, hDr HR3.out⟩ ?_
  clear p0 p1 c0 r0 r1 hcp hz HF HC HK HP3 HC3 HR3 HB3
  rintro w4 ⟨HB4, HP4, HC4, HR4⟩
  have p0 := cell_at HP4.out
  have p1 := free_at HP4.out
  have c0 := cell_at HC4.out
  go_upto_region 12 with fail
  have HP5 := heap_set (heap_set HP4.out 4 (.int .i64 1)) 5 (.string T)
  have K5 : Keeps (· = w.heap.size) w4 ((w4.setCell ⟨w.heap.size, 4, none⟩ (.int .i64 1)).setCell ⟨w.heap.size, 5, none⟩ (.string T)) := ((Keeps.refl (· = w.heap.size) w4).setCell _ _ (.inl rfl)).setCell _ _ (.inl rfl)
  refine forget (fun W => Hid (Below w.heap.size w W) ∧ Hid (W.heap[w.heap.size]? = some (.cells #[.int .i64 4, .int .i64 0, .int .i64 0, .int .i64 0, .int .i64 1, .string T, .int .i64 0, .string ⟨#[]⟩, .int .i64 0, .string ⟨#[]⟩, .int .i64 0, .string ⟨#[]⟩, .int .i64 0, .string ⟨#[]⟩, .int .i64 0, .string ⟨#[]⟩] 26 (0, 0))) ∧ Hid (W.heap[w.heap.size + 2]? = some (.cells #[.int .i64 0, .int .i64 0, .int .i64 0, .int .i64 0, .int .i64 0, .string ⟨#[]⟩, .int .i64 0, .string ⟨#[]⟩, .int .i64 0, .string ⟨#[]⟩, .int .i64 0, .string ⟨#[]⟩, .int .i64 0, .string ⟨#[]⟩, .int .i64 0, .string ⟨#[]⟩] 26 (0, 0)))) ⟨bS (bS HB4.out (Nat.le_refl _)) (Nat.le_refl _), HP5, K5.keep HR4.out (by omega)⟩ ?_
  clear p0 p1 c0 HP5 K5 HP4 HC4 HR4 HB4
  rintro w5 ⟨HB5, HP5, HR5⟩
  have p0 := cell_at HP5.out
  have r0 := cell_at HR5.out
  have r1 := free_at HR5.out
  go_wp2_with fail
  have HR5' : w5.heap[w.heap.size + 1 + 1]? = some (.cells #[.int .i64 0, .int .i64 0, .int .i64 0, .int .i64 0, .int .i64 0, .string ⟨#[]⟩, .int .i64 0, .string ⟨#[]⟩, .int .i64 0, .string ⟨#[]⟩, .int .i64 0, .string ⟨#[]⟩, .int .i64 0, .string ⟨#[]⟩, .int .i64 0, .string ⟨#[]⟩] 26 (0, 0)) := HR5.out
  have HRF := put_all (r := w.heap.size + 1 + 1) T HR5'
  refine forget_post (fun W => Hid (Below w.heap.size w W) ∧ Hid (W.heap[w.heap.size + 1 + 1]? = some (.cells #[.int .i64 4, .int .i64 0, .int .i64 0, .int .i64 0, .int .i64 1, .string T, .int .i64 0, .string ⟨#[]⟩, .int .i64 0, .string ⟨#[]⟩, .int .i64 0, .string ⟨#[]⟩, .int .i64 0, .string ⟨#[]⟩, .int .i64 0, .string ⟨#[]⟩] 26 (0, 0)))) ⟨?_, HRF⟩ ?_
  · exact put_below T HB5.out (by omega)
  clear p0 r0 r1 HP5 HR5 HR5' HRF HB5
  rintro w6 ⟨HB6, HR6⟩
  refine bodyPost_ret (results_row_tmp Try.results26 _ _ _ _ _ _ _ rfl HR6.out Try.underlying26 rfl (by kernel_rfl)) rfl ⟨rfl, HB6.out⟩
end Go.Proofs.Ytgealllnchpekaa
