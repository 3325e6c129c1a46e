import Derived.Test.YtafiojmbaickpaaWalY
import Derived.Test.YtafiojmbaickpaaWalUb
set_option linter.unusedSimpArgs false
set_option linter.unusedVariables false
namespace Go.Proofs.Ytafiojmbaickpaa
open Go.RowKit

/-! ### plain law: Cut -/
theorem extract_sub (B : ByteArray) (o a b : Nat) (hab : a ≤ b) (hb : o + b ≤ B.size) : (B.extract o B.size).extract a b = B.extract (o + a) (o + b) := extract_extract B o B.size a b hab hb (Nat.le_refl _)
theorem SecOk.shift {bb n q f j : Nat} {B : ByteArray} {d : ByteArray} (h : SecOk bb B f (q + j) d) (hq : 54 * q ≤ B.size) (hf : 54 * q ≤ f) : SecOk (bb + q) (B.extract (54 * q) B.size) (f - 54 * q) j d := by
  have hs : (B.extract (54 * q) B.size).size = B.size - 54 * q := by rw [ByteArray.size_extract]; omega
  rcases h with ⟨h1, h2⟩ | ⟨m, h1, h2, h3, h4, h5⟩
  · exact .inl ⟨by rw [Nat.add_assoc]; exact h1, by omega⟩
  · refine .inr ⟨m, h1, h2, by omega, ?_, by omega⟩
    rw [extract_sub _ _ _ _ (by omega) (by omega), Nat.add_assoc bb q j, show 54 * q + 54 * j = 54 * (q + j) by omega, show 54 * q + (54 * j + m) = 54 * (q + j) + m by omega]
    exact h4
theorem DevHas.shift {D : Dev} {first n bb q f : Nat} {B : ByteArray} (h : DevHas D first n bb B f) (hq : 54 * q ≤ B.size) (hf : 54 * q ≤ f) (hfB : f ≤ B.size) (hB : B.size ≤ 54 * n) (hn : 0 < n) (hbb : bb + n < 72057594037927936) : DevHas D first n (bb + q) (B.extract (54 * q) B.size) (f - 54 * q) := by
  refine ⟨h.1, h.2.1, h.2.2.mono (fun p d hp => ⟨hp.1, fun j hj he => ?_⟩)⟩
  by_cases hlt : q + j < n
  · exact (hp.2 (q + j) hlt (by rw [← Nat.add_assoc]; exact he)).shift (n := n) hq hf
  · have hqn : q ≤ n := by omega
    have hj2 : q + j - n < n := by omega
    have hpl : (bb + q + j) % n = (bb + (q + j - n)) % n := by
      rw [show bb + q + j = bb + (q + j - n) + n by omega, Nat.add_mod_right]
    rw [hpl] at he
    have hO := hp.2 (q + j - n) hj2 he
    refine .inl ⟨?_, by omega⟩
    rcases hO with ⟨h1, _⟩ | ⟨m, m1, m2, m3, m4, _⟩
    · omega
    · have hsz : (B.extract (54 * (q + j - n)) (54 * (q + j - n) + m)).size = m := by rw [ByteArray.size_extract]; omega
      obtain ⟨t1, -, -⟩ := secS_tell (bb + (q + j - n)) (B.extract (54 * (q + j - n)) (54 * (q + j - n) + m)) (by rw [show (256 : Nat) ^ 8 = 18446744073709551616 by decide]; omega) (by omega)
      rw [m4, t1]
      omega
theorem plL_drop : ∀ (p : Int) (rs : List ByteArray) (k : Nat), (plL p rs).drop k = plL (p + lenL (rs.take k)) (rs.drop k)
  | p, [], k => by simp [plL]
  | p, r :: rs, 0 => by simp [lenL]
  | p, r :: rs, k + 1 => by
    rw [plL, List.drop_succ_cons, plL_drop _ rs k, List.take_succ_cons, List.drop_succ_cons, lenL]
    congr 1
    push_cast
    omega
/-- what stands ahead of record k in its sector -/
def cutP (bb : Nat) (P : ByteArray) (rs : List ByteArray) (k : Nat) : ByteArray := (P ++ encL rs).extract (54 * ((54 * bb + P.size + lenL (rs.take k)) / 54 - bb)) (P.size + lenL (rs.take k))
def cutB (bb : Nat) (P : ByteArray) (rs : List ByteArray) (k : Nat) : Nat := (54 * bb + P.size + lenL (rs.take k)) / 54
theorem cutP_size (bb : Nat) (P : ByteArray) (rs : List ByteArray) (k : Nat) : (cutP bb P rs k).size = (54 * bb + P.size + lenL (rs.take k)) - 54 * cutB bb P rs k := by
  unfold cutP cutB
  have := lenL_take_le rs k
  rw [ByteArray.size_extract, ByteArray.size_append, encL_size]
  omega
theorem cut_bytes (bb : Nat) (P : ByteArray) (rs : List ByteArray) (k : Nat) : (P ++ encL rs).extract (54 * ((54 * bb + P.size + lenL (rs.take k)) / 54 - bb)) (P ++ encL rs).size = cutP bb P rs k ++ encL (rs.drop k) := by
  have hle := lenL_take_le rs k
  have hsz : (P ++ encL rs).size = P.size + lenL rs := by rw [ByteArray.size_append, encL_size]
  have hspl : P ++ encL rs = (P ++ encL (rs.take k)) ++ encL (rs.drop k) := by rw [bytes_assoc, ← encL_append, List.take_append_drop]
  have hs1 : (P ++ encL (rs.take k)).size = P.size + lenL (rs.take k) := by rw [ByteArray.size_append, encL_size]
  have e2 : (P ++ encL rs).extract (P.size + lenL (rs.take k)) (P ++ encL rs).size = encL (rs.drop k) := by
    have := bytes_right (P ++ encL (rs.take k)) (encL (rs.drop k))
    rw [hs1, ← hspl] at this
    exact this
  rw [cutP, ← e2]
  generalize hq : 54 * ((54 * bb + P.size + lenL (rs.take k)) / 54 - bb) = q
  have h1 : q ≤ P.size + lenL (rs.take k) := by omega
  have hcB : P.size + lenL (rs.take k) ≤ (P ++ encL rs).size := by omega
  generalize P ++ encL rs = B at *
  generalize P.size + lenL (rs.take k) = c at *
  apply ByteArray.ext
  apply Array.toList_inj.1
  rw [ByteArray.data_append, ByteArray.data_extract, ByteArray.data_extract, ByteArray.data_extract, Array.toList_append, Array.toList_extract, Array.toList_extract, Array.toList_extract]
  simp only [List.extract]
  rw [show B.size - q = (c - q) + (B.size - c) by omega, List.take_add, List.drop_drop, show q + (c - q) = c by omega]
theorem mkLg_cut {first n bb : Nat} {P : ByteArray} {rs : List ByteArray} {i0 k : Nat} (hk : k ≤ i0) (hi : i0 ≤ rs.length) :
    (mkLg first n bb P rs i0).cut ((54 * bb + P.size + lenL (rs.take k) : Nat) : Int) k = mkLg first n (cutB bb P rs k) (cutP bb P rs k) (rs.drop k) (i0 - k) := by
  have h1 := cutP_size bb P rs k
  have hb : 54 * cutB bb P rs k ≤ 54 * bb + P.size + lenL (rs.take k) := by unfold cutB; omega
  have e1 : 54 * cutB bb P rs k + (cutP bb P rs k).size = 54 * bb + P.size + lenL (rs.take k) := by omega
  have e2 : lenL rs = lenL (rs.take k) + lenL (rs.drop k) := by
    have := lenL_append (rs.take k) (rs.drop k)
    rwa [List.take_append_drop] at this
  have e3 : lenL (rs.take i0) = lenL (rs.take k) + lenL ((rs.drop k).take (i0 - k)) := by
    have := lenL_append (rs.take k) ((rs.drop k).take (i0 - k))
    rw [← this]
    congr 1
    rw [← List.take_add, show k + (i0 - k) = i0 by omega]
  have e4 := cut_bytes bb P rs k
  have e5 : (((54 * bb + P.size + lenL (rs.take k) : Nat) : Int) / 54 * 54 - ((54 * bb : Nat) : Int)).toNat = 54 * ((54 * bb + P.size + lenL (rs.take k)) / 54 - bb) := by omega
  have e6 : ((54 * bb + P.size + lenL (rs.take k) : Nat) : Int) / 54 * 54 = ((54 * cutB bb P rs k : Nat) : Int) := by unfold cutB; omega
  have e7 := plL_drop ((54 * bb + P.size : Nat) : Int) rs k
  have e8 : ((54 * bb + P.size : Nat) : Int) + lenL (rs.take k) = ((54 * bb + P.size + lenL (rs.take k) : Nat) : Int) := by omega
  rw [e8] at e7
  unfold Lg.cut mkLg
  dsimp only
  rw [e5, e4, e6, e7, e1]
  simp only [Lg.mk.injEq, true_and, and_true]
  omega
theorem DevHas.cut {D : Dev} {first n bb : Nat} {P : ByteArray} {rs : List ByteArray} {i0 k : Nat} (h : DevHas D first n bb (P ++ encL rs) (P.size + lenL (rs.take i0))) (hk : k ≤ i0) (hi : i0 ≤ rs.length) (hB : P.size + lenL rs ≤ 54 * n) (hn : 0 < n) (hbb : bb + n < 72057594037927936) :
    DevHas D first n (cutB bb P rs k) (cutP bb P rs k ++ encL (rs.drop k)) ((cutP bb P rs k).size + lenL ((rs.drop k).take (i0 - k))) := by
  have hsz : (P ++ encL rs).size = P.size + lenL rs := by rw [ByteArray.size_append, encL_size]
  have e3 : lenL (rs.take i0) = lenL (rs.take k) + lenL ((rs.drop k).take (i0 - k)) := by
    have := lenL_append (rs.take k) ((rs.drop k).take (i0 - k))
    rw [← this]
    congr 1
    rw [← List.take_add, show k + (i0 - k) = i0 by omega]
  have hle := lenL_take_le rs i0
  have h1 := cutP_size bb P rs k
  have hq : (54 * bb + P.size + lenL (rs.take k)) / 54 - bb + bb = cutB bb P rs k := by unfold cutB; omega
  have := h.shift (q := (54 * bb + P.size + lenL (rs.take k)) / 54 - bb) (by omega) (by omega) (by omega) (by omega) hn hbb
  rw [cut_bytes, Nat.add_comm bb, hq] at this
  have e9 : P.size + lenL (rs.take i0) - 54 * ((54 * bb + P.size + lenL (rs.take k)) / 54 - bb) = (cutP bb P rs k).size + lenL ((rs.drop k).take (i0 - k)) := by
    unfold cutB at h1
    omega
  rwa [e9] at this
theorem plL_get : ∀ (p : Int) (rs : List ByteArray) (k : Nat), k < rs.length → (plL p rs).getD k (0, ⟨#[]⟩) = (p + lenL (rs.take k), rs.getD k ⟨#[]⟩)
  | p, r :: rs, 0, _ => by simp [plL, lenL]
  | p, r :: rs, k + 1, h => by
    rw [plL, List.getD_cons_succ, plL_get _ rs k (by simpa using h), List.take_succ_cons, lenL, List.getD_cons_succ]
    congr 1
    push_cast
    omega
theorem lenL_take_mono {rs : List ByteArray} (hr : RecOk rs) {i j : Nat} (h : i < j) (hj : j ≤ rs.length) : lenL (rs.take i) < lenL (rs.take j) := by
  have h1 : rs.take j = rs.take i ++ (rs.drop i).take (j - i) := by rw [← List.take_add, show i + (j - i) = j by omega]
  rw [h1, lenL_append]
  have : lenL ((rs.drop i).take (j - i)) ≠ 0 := fun h0 => by
    have h2 := congrArg List.length (lenL_pos.1 h0)
    rw [List.length_take, List.length_drop] at h2
    simp at h2
    omega
  omega
theorem plL_sorted {p : Nat} {rs : List ByteArray} (hr : RecOk rs) (hp : p + lenL rs ≤ 1152921504606846976) : Sorted (plL (p : Int) rs) := by
  refine ⟨fun x hx => ?_, fun i j hij hj => ?_⟩
  · obtain ⟨k, hk, rfl⟩ := List.mem_iff_getElem.1 hx
    have hk' : k < rs.length := by rwa [plL_length] at hk
    have h1 := plL_get (p : Int) rs k hk'
    rw [List.getD_eq_getElem?_getD, List.getElem?_eq_getElem hk, Option.getD_some] at h1
    rw [h1]
    have := lenL_take_le rs k
    dsimp only
    omega
  · rw [plL_length] at hj
    rw [plL_get _ _ _ (by omega), plL_get _ _ _ hj]
    have := lenL_take_mono hr hij (by omega)
    dsimp only
    omega
theorem plL_found {p : Nat} {rs : List ByteArray} (hr : RecOk rs) {k : Nat} (hk : k ≤ rs.length) : Found (plL (p : Int) rs) ((p : Int) + lenL (rs.take k)) k := by
  refine ⟨by rw [plL_length]; exact hk, fun j hj => ?_, fun j hj hjl => ?_⟩
  · rw [plL_get _ _ _ (by omega)]
    have := lenL_take_mono hr hj hk
    dsimp only
    omega
  · rw [plL_length] at hjl
    rw [plL_get _ _ _ hjl]
    dsimp only
    by_cases he : j = k
    · subst he; omega
    · have := lenL_take_mono hr (show k < j by omega) (by omega)
      omega
end Go.Proofs.Ytafiojmbaickpaa
