import Derived.Test.YtgeoblejfkoldaaFrm
set_option linter.unusedSimpArgs false
set_option linter.unusedVariables false
namespace Go.Proofs.Ytgeoblejfkoldaa
open Go.RowKit

def blank (n : Nat) : ByteArray := strOfNums (List.replicate n 0)
theorem blank_size (n : Nat) : (blank n).size = n := by unfold blank; rw [strOfNums_size, List.length_replicate]
theorem sec_size (b : ByteArray) (s : Int) (i : Nat) (h : b.size = 224) (hi : i < 4) : (sec b s i).size = 64 := by
  unfold sec; rw [bytes_size, ByteArray.size_extract, leS_size]; omega
theorem ext_size (b : ByteArray) (i j : Nat) (h : j ≤ b.size) (hij : i ≤ j) : (b.extract i j).size = j - i := by rw [ByteArray.size_extract]; omega
theorem sec_hd (b : ByteArray) (s : Int) (i : Nat) (h : b.size = 224) (hi : i < 4) : hd (sec b s i) = b.extract (56 * i) (56 * i + 56) := by
  unfold hd sec
  have := ext_size b (56 * i) (56 * i + 56) (by omega) (by omega)
  exact ByteArray.extract_append_eq_left (by omega)
theorem sec_tl (b : ByteArray) (s : Int) (i : Nat) (h : b.size = 224) (hi : i < 4) : tl (sec b s i) = leS s 8 := by
  unfold tl sec
  have := ext_size b (56 * i) (56 * i + 56) (by omega) (by omega)
  exact ByteArray.extract_append_eq_right (by omega) (by rw [leS_size]; omega)
theorem tlSame_eq (s t : ByteArray) : tlSame s t = ((tl s).toList == (tl t).toList) := rfl
theorem ext_join (b : ByteArray) (i j k : Nat) (hij : i ≤ j) (hjk : j ≤ k) : b.extract i j ++ b.extract j k = b.extract i k := by
  rw [ByteArray.extract_append_extract, Nat.min_eq_left hij, Nat.max_eq_right hjk]
theorem join4 (b : ByteArray) (h : b.size = 224) : b.extract 0 56 ++ b.extract 56 112 ++ b.extract 112 168 ++ b.extract 168 224 = b := by
  rw [ext_join b 0 56 112 (by omega) (by omega), ext_join b 0 112 168 (by omega) (by omega), ext_join b 0 168 224 (by omega) (by omega), ← h]
  exact ByteArray.extract_zero_size
theorem convert_blank {P : Program} (w : World) (src e : TypeId) (hs : P.underlying src = some (.slice e)) (he : P.underlying e = some (.int .u8)) (base : Nat) (v : Value) (n : Nat)
    (h : w.ownsRow base e 1 v n (madeCells (Value.int .u8 0).cells (n * 1)).toList) : ∀ dst, P.underlying dst = some .string → (convert src dst v).run P w = .ok (.string (blank n)) w := by
  intro dst hd
  refine convert_owned (P := P) w src e hs he base v n (List.replicate n 0) ?_ dst hd
  rw [List.map_replicate]
  have : (madeCells (Value.int .u8 0).cells (n * 1)).toList = List.replicate n (Value.int .u8 0) := by
    rw [Nat.mul_one]; exact toList_madeCells_one _ _
  rwa [this] at h
theorem frOpen_sec (b : ByteArray) (s : Int) (h : b.size = 224) (h0 : 0 ≤ s) (h1 : s < 256 ^ 8) : frOpen (sec b s 0) (sec b s 1) (sec b s 2) (sec b s 3) = (b, s, 0) := by
  unfold frOpen
  rw [if_neg (by rw [sec_size b s 0 h (by omega)]; omega), if_neg (by rw [sec_size b s 1 h (by omega)]; omega), if_neg, if_neg (by rw [sec_size b s 2 h (by omega)]; omega), if_neg, if_neg (by rw [sec_size b s 3 h (by omega)]; omega), if_neg]
  · rw [sec_hd b s 0 h (by omega), sec_hd b s 1 h (by omega), sec_hd b s 2 h (by omega), sec_hd b s 3 h (by omega), sec_tl b s 0 h (by omega), valS_leS s 8 h0 h1]
    simp only [Nat.reduceMul, Nat.reduceAdd, join4 b h]
  · rw [tlSame_eq, sec_tl b s 3 h (by omega), sec_tl b s 0 h (by omega)]; simp
  · rw [tlSame_eq, sec_tl b s 2 h (by omega), sec_tl b s 0 h (by omega)]; simp
  · rw [tlSame_eq, sec_tl b s 1 h (by omega), sec_tl b s 0 h (by omega)]; simp

theorem sec_mark (h : 56 < (sec (blank 224) 7 3).size) : ((sec (blank 224) 7 3)[56].toNat : Int) = 7 := by
  have e : (sec (blank 224) 7 3).data.toList[56]? = some 7 := by decide +kernel
  have h2 : (sec (blank 224) 7 3).data.toList[56]? = some (sec (blank 224) 7 3)[56] := by
    rw [Array.getElem?_toList, Array.getElem?_eq_getElem (show 56 < (sec (blank 224) 7 3).data.size from h)]; rfl
  rw [h2] at e
  rw [Option.some.inj e]; rfl

set_option maxRecDepth 100000 in
set_option maxHeartbeats 800000 in
theorem awake03 (w : World) : Calls Try.prog 7 #[] w fun e w' => e = .returned (.bool true) ∧ Below w.heap.size w w' := by
  obtain ⟨i0, hi, hz0, hz1, hz2⟩ := info_parts Try.info_u8
  have hb := blank_size 224
  have H1 := Lib.hid (frm_seal_ok (blank 224) 7 hb (by omega))
  have h0 := sec_size (blank 224) 7 0 hb (by omega)
  have h1 := sec_size (blank 224) 7 1 hb (by omega)
  have h2 := sec_size (blank 224) 7 2 hb (by omega)
  have h3 := sec_size (blank 224) 7 3 hb (by omega)
  have H2 := Lib.hid (frm_open (sec (blank 224) 7 0) (sec (blank 224) 7 1) (sec (blank 224) 7 2) (sec (blank 224) 7 3) (by rw [h0]; decide) (by rw [h1]; decide) (by rw [h2]; decide) (by rw [h3]; decide))
  rw [frOpen_sec (blank 224) 7 hb (by omega) (by decide)] at H2
  have Hm : Hid (∀ h : 56 < (sec (blank 224) 7 3).size, ((sec (blank 224) 7 3)[56].toNat : Int) = 7) := fun h => sec_mark h
  have HX : Hid (∀ w B v, w.ownsRow B 5 1 v 224 (madeCells (Value.int .u8 0).cells (224 * 1)).toList → (convert 39 9 v).run Try.prog w = .ok (.string (blank 224)) w) :=
    fun w B v h => convert_blank (P := Try.prog) w 39 5 Try.underlying39 Try.underlying5 B v 224 h 9 Try.underlying9
  generalize sec (blank 224) 7 0 = S0 at *
  generalize sec (blank 224) 7 1 = S1 at *
  generalize sec (blank 224) 7 2 = S2 at *
  generalize sec (blank 224) 7 3 = S3 at *
  generalize blank 224 = B at *
  go_enter Try.func7, Try.ntmps7
  go_wp2_with ((at_make; refine wpList_make_full _ rfl _ _ 39 rfl w.heap.size 5 i0 (.int .u8 0) 1 Try.underlying39 hi hz0 hz1 _ _ _ _ 224 rfl rfl rfl rfl (by rw [hz2]; omega) (by unfold maxLen; omega) (Nat.le_refl _) ?_; rintro w1 hown hg; (have hcv := HX.out w1 _ _ hown); (have Hg := Lib.hid hg); clear hg hown))
  refine (H1.out _).mono ?_
  rintro e w2 ⟨rfl, hb2⟩
  have HB2 := Lib.hid (((Below.refl _ _).grown Hg.out (Nat.le_refl _) (by simp)).trans (hb2.mono Hg.out.size))
  go_wp2_with fail
  refine (H2.out _).mono ?_
  rintro e w3 ⟨rfl, hb3⟩
  have b0 := hBs hb3 (hN rfl)
  have c00 := cell_at b0 0
  have c01 := cell_at b0 1
  have c02 := cell_at b0 2
  have c03 := cell_at b0 3
  have HB3 := Lib.hid (bT (bA HB2.out) hb3)
  clear hb3 b0
  go_wp2_with fail
  go_ret
  refine ⟨?_, HB3.out⟩
  simp [Hm.out]
end Go.Proofs.Ytgeoblejfkoldaa
