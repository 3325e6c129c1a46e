import Derived.Test.YtimomjheanfbmaaGreatDoorMav
import Derived.Test.YtimomjheanfbmaaGreatDoorMbp
import Derived.Test.YtimomjheanfbmaaGreatDoorMbo
set_option linter.unusedSimpArgs false
set_option linter.unusedVariables false
namespace Go.Proofs.YtimomjheanfbmaaGreatDoor
open Go.RowKit

section
variable {w0 w w' : World} {p dp first : Nat} {rs : List ByteArray} {i0 : Nat} {S Sd : List Nat} {D : Dev} {av : Value} {L : List (Int × ByteArray)}
/-- a device by itself, and the list -/
structure Cr (w0 w : World) (c : Nat) (D : Dev) (Sc : List Nat) (av : Value) (L : List (Int × ByteArray)) : Prop where
  dsk : DiskAt w c D Sc
  all : OwnS w 140 2 av L.length (recV L)
  fd : ∀ k ∈ Sc, w0.heap.size ≤ k
  fa : ∀ k ∈ blk av, w0.heap.size ≤ k ∧ k ∉ Sc
  bel : Below w0.heap.size w0 w
theorem Wf.cr (h : Wf w0 w p dp first rs i0 S Sd D av L) : Cr w0 w dp D Sd av L := ⟨h.ws.dsk, h.all, h.fd, fun k hk => ⟨(h.fa k hk).1, (h.fa k hk).2.2⟩, h.bel⟩
theorem Cr.later (h : Cr w0 w dp D Sd av L) (hb : Below w.heap.size w w') : Cr w0 w' dp D Sd av L := ⟨h.dsk.later hb, h.all.keep (Keeps.of_below (fun _ => False) hb) (fun _ _ h => h), h.fd, h.fa, bT h.bel hb⟩
/-- what Open tells: a list -/
def Got (w0 w : World) (v : Value) (M : List (Int × ByteArray)) (Sc : List Nat) (av : Value) : Prop := OwnS w 140 2 v M.length (recV M) ∧ ∀ k ∈ blk v, w0.heap.size ≤ k ∧ k ∉ Sc
theorem Got.keep {Sd' : List Nat} {v : Value} {M : List (Int × ByteArray)} (h : Got w0 w v M Sd av) (hk : Keeps (· ∈ Sd) w w') (hs : ∀ k ∈ Sd', k ∈ Sd ∨ w.heap.size ≤ k) : Got w0 w' v M Sd' av := ⟨h.1.keep hk (fun k hk' h' => (h.2 k hk').2 h'), fun k hk' => ⟨(h.2 k hk').1, fun h' => by
  rcases hs k h' with h2 | h2
  · exact (h.2 k hk').2 h2
  · have := h.1.lt hk'; omega⟩⟩
theorem Got.later {v : Value} {M : List (Int × ByteArray)} (h : Got w0 w v M Sd av) (hb : Below w.heap.size w w') : Got w0 w' v M Sd av := ⟨h.1.keep (Keeps.of_below (fun _ => False) hb) (fun _ _ h => h), h.2⟩
end
end Go.Proofs.YtimomjheanfbmaaGreatDoor

namespace Go.Proofs.YtimomjheanfbmaaGreatDoor
open Go.RowKit

/-! ### plain law: Cut -/
theorem extract_sub (B : ByteArray) (o a b : Nat) (hab : a ≤ b) (hb : o + b ≤ B.size) : (B.extract o B.size).extract a b = B.extract (o + a) (o + b) := extract_extract B o B.size a b hab hb (Nat.le_refl _)
theorem SecOk.shift {bb n q f j : Nat} {B : ByteArray} {d : ByteArray} (h : SecOk bb B f (q + j) d) (hq : 54 * q ≤ B.size) (hf : 54 * q ≤ f) : SecOk (bb + q) (B.extract (54 * q) B.size) (f - 54 * q) j d := by
  have hs : (B.extract (54 * q) B.size).size = B.size - 54 * q := by rw [ByteArray.size_extract]; omega
  rcases h with ⟨h1, h2⟩ | ⟨m, h1, h2, h3, h4, h5⟩
  · exact .inl ⟨by rw [Nat.add_assoc]; exact h1, by omega⟩
  · refine .inr ⟨m, h1, h2, by omega, ?_, by omega⟩
    rw [extract_sub _ _ _ _ (by omega) (by omega), Nat.add_assoc bb q j, show 54 * q + 54 * j = 54 * (q + j) by omega, show 54 * q + (54 * j + m) = 54 * (q + j) + m by omega]
    exact h4
theorem DevHas.shift {D : Dev} {first n bb q f : Nat} {B : ByteArray} (h : DevHas D first n bb B f) (hq : 54 * q ≤ B.size) (hf : 54 * q ≤ f) (hfB : f ≤ B.size) (hB : B.size ≤ 54 * n) (hn : 0 < n) (hbb : bb + n < 72057594037927936) : DevHas D first n (bb + q) (B.extract (54 * q) B.size) (f - 54 * q) := by
  refine ⟨h.1, h.2.1, h.2.2.mono (fun p d hp => ⟨hp.1, fun j hj he => ?_⟩)⟩
  by_cases hlt : q + j < n
  · exact (hp.2 (q + j) hlt (by rw [← Nat.add_assoc]; exact he)).shift (n := n) hq hf
  · have hqn : q ≤ n := by omega
    have hj2 : q + j - n < n := by omega
    have hpl : (bb + q + j) % n = (bb + (q + j - n)) % n := by
      rw [show bb + q + j = bb + (q + j - n) + n by omega, Nat.add_mod_right]
    rw [hpl] at he
    have hO := hp.2 (q + j - n) hj2 he
    refine .inl ⟨?_, by omega⟩
    rcases hO with ⟨h1, _⟩ | ⟨m, m1, m2, m3, m4, _⟩
    · omega
    · have hsz : (B.extract (54 * (q + j - n)) (54 * (q + j - n) + m)).size = m := by rw [ByteArray.size_extract]; omega
      obtain ⟨t1, -, -⟩ := secS_tell (bb + (q + j - n)) (B.extract (54 * (q + j - n)) (54 * (q + j - n) + m)) (by rw [show (256 : Nat) ^ 8 = 18446744073709551616 by decide]; omega) (by omega)
      rw [m4, t1]
      omega
theorem plL_drop : ∀ (p : Int) (rs : List ByteArray) (k : Nat), (plL p rs).drop k = plL (p + lenL (rs.take k)) (rs.drop k)
  | p, [], k => by simp [plL]
  | p, r :: rs, 0 => by simp [lenL]
  | p, r :: rs, k + 1 => by
    rw [plL, List.drop_succ_cons, plL_drop _ rs k, List.take_succ_cons, List.drop_succ_cons, lenL]
    congr 1
    push_cast
    omega
/-- what stands ahead of record k in its sector -/
def cutP (bb : Nat) (P : ByteArray) (rs : List ByteArray) (k : Nat) : ByteArray := (P ++ encL rs).extract (54 * ((54 * bb + P.size + lenL (rs.take k)) / 54 - bb)) (P.size + lenL (rs.take k))
def cutB (bb : Nat) (P : ByteArray) (rs : List ByteArray) (k : Nat) : Nat := (54 * bb + P.size + lenL (rs.take k)) / 54
theorem cutP_size (bb : Nat) (P : ByteArray) (rs : List ByteArray) (k : Nat) : (cutP bb P rs k).size = (54 * bb + P.size + lenL (rs.take k)) - 54 * cutB bb P rs k := by
  unfold cutP cutB
  have := lenL_take_le rs k
  rw [ByteArray.size_extract, ByteArray.size_append, encL_size]
  omega
theorem cut_bytes (bb : Nat) (P : ByteArray) (rs : List ByteArray) (k : Nat) : (P ++ encL rs).extract (54 * ((54 * bb + P.size + lenL (rs.take k)) / 54 - bb)) (P ++ encL rs).size = cutP bb P rs k ++ encL (rs.drop k) := by
  have hle := lenL_take_le rs k
  have hsz : (P ++ encL rs).size = P.size + lenL rs := by rw [ByteArray.size_append, encL_size]
  have hspl : P ++ encL rs = (P ++ encL (rs.take k)) ++ encL (rs.drop k) := by rw [bytes_assoc, ← encL_append, List.take_append_drop]
  have hs1 : (P ++ encL (rs.take k)).size = P.size + lenL (rs.take k) := by rw [ByteArray.size_append, encL_size]
  have e2 : (P ++ encL rs).extract (P.size + lenL (rs.take k)) (P ++ encL rs).size = encL (rs.drop k) := by
    have := bytes_right (P ++ encL (rs.take k)) (encL (rs.drop k))
    rw [hs1, ← hspl] at this
    exact this
  rw [cutP, ← e2]
  generalize hq : 54 * ((54 * bb + P.size + lenL (rs.take k)) / 54 - bb) = q
  have h1 : q ≤ P.size + lenL (rs.take k) := by omega
  have hcB : P.size + lenL (rs.take k) ≤ (P ++ encL rs).size := by omega
  generalize P ++ encL rs = B at *
  generalize P.size + lenL (rs.take k) = c at *
  apply ByteArray.ext
  apply Array.toList_inj.1
  rw [ByteArray.data_append, ByteArray.data_extract, ByteArray.data_extract, ByteArray.data_extract, Array.toList_append, Array.toList_extract, Array.toList_extract, Array.toList_extract]
  simp only [List.extract]
  rw [show B.size - q = (c - q) + (B.size - c) by omega, List.take_add, List.drop_drop, show q + (c - q) = c by omega]
theorem mkLg_cut {first n bb : Nat} {P : ByteArray} {rs : List ByteArray} {i0 k : Nat} (hk : k ≤ i0) (hi : i0 ≤ rs.length) :
    (mkLg first n bb P rs i0).cut ((54 * bb + P.size + lenL (rs.take k) : Nat) : Int) k = mkLg first n (cutB bb P rs k) (cutP bb P rs k) (rs.drop k) (i0 - k) := by
  have h1 := cutP_size bb P rs k
  have hb : 54 * cutB bb P rs k ≤ 54 * bb + P.size + lenL (rs.take k) := by unfold cutB; omega
  have e1 : 54 * cutB bb P rs k + (cutP bb P rs k).size = 54 * bb + P.size + lenL (rs.take k) := by omega
  have e2 : lenL rs = lenL (rs.take k) + lenL (rs.drop k) := by
    have := lenL_append (rs.take k) (rs.drop k)
    rwa [List.take_append_drop] at this
  have e3 : lenL (rs.take i0) = lenL (rs.take k) + lenL ((rs.drop k).take (i0 - k)) := by
    have := lenL_append (rs.take k) ((rs.drop k).take (i0 - k))
    rw [← this]
    congr 1
    rw [← List.take_add, show k + (i0 - k) = i0 by omega]
  have e4 := cut_bytes bb P rs k
  have e5 : (((54 * bb + P.size + lenL (rs.take k) : Nat) : Int) / 54 * 54 - ((54 * bb : Nat) : Int)).toNat = 54 * ((54 * bb + P.size + lenL (rs.take k)) / 54 - bb) := by omega
  have e6 : ((54 * bb + P.size + lenL (rs.take k) : Nat) : Int) / 54 * 54 = ((54 * cutB bb P rs k : Nat) : Int) := by unfold cutB; omega
  have e7 := plL_drop ((54 * bb + P.size : Nat) : Int) rs k
  have e8 : ((54 * bb + P.size : Nat) : Int) + lenL (rs.take k) = ((54 * bb + P.size + lenL (rs.take k) : Nat) : Int) := by omega
  rw [e8] at e7
  unfold Lg.cut mkLg
  dsimp only
  rw [e5, e4, e6, e7, e1]
  simp only [Lg.mk.injEq, true_and, and_true]
  omega
theorem DevHas.cut {D : Dev} {first n bb : Nat} {P : ByteArray} {rs : List ByteArray} {i0 k : Nat} (h : DevHas D first n bb (P ++ encL rs) (P.size + lenL (rs.take i0))) (hk : k ≤ i0) (hi : i0 ≤ rs.length) (hB : P.size + lenL rs ≤ 54 * n) (hn : 0 < n) (hbb : bb + n < 72057594037927936) :
    DevHas D first n (cutB bb P rs k) (cutP bb P rs k ++ encL (rs.drop k)) ((cutP bb P rs k).size + lenL ((rs.drop k).take (i0 - k))) := by
  have hsz : (P ++ encL rs).size = P.size + lenL rs := by rw [ByteArray.size_append, encL_size]
  have e3 : lenL (rs.take i0) = lenL (rs.take k) + lenL ((rs.drop k).take (i0 - k)) := by
    have := lenL_append (rs.take k) ((rs.drop k).take (i0 - k))
    rw [← this]
    congr 1
    rw [← List.take_add, show k + (i0 - k) = i0 by omega]
  have hle := lenL_take_le rs i0
  have h1 := cutP_size bb P rs k
  have hq : (54 * bb + P.size + lenL (rs.take k)) / 54 - bb + bb = cutB bb P rs k := by unfold cutB; omega
  have := h.shift (q := (54 * bb + P.size + lenL (rs.take k)) / 54 - bb) (by omega) (by omega) (by omega) (by omega) hn hbb
  rw [cut_bytes, Nat.add_comm bb, hq] at this
  have e9 : P.size + lenL (rs.take i0) - 54 * ((54 * bb + P.size + lenL (rs.take k)) / 54 - bb) = (cutP bb P rs k).size + lenL ((rs.drop k).take (i0 - k)) := by
    unfold cutB at h1
    omega
  rwa [e9] at this
theorem plL_get : ∀ (p : Int) (rs : List ByteArray) (k : Nat), k < rs.length → (plL p rs).getD k (0, ⟨#[]⟩) = (p + lenL (rs.take k), rs.getD k ⟨#[]⟩)
  | p, r :: rs, 0, _ => by simp [plL, lenL]
  | p, r :: rs, k + 1, h => by
    rw [plL, List.getD_cons_succ, plL_get _ rs k (by simpa using h), List.take_succ_cons, lenL, List.getD_cons_succ]
    congr 1
    push_cast
    omega
theorem lenL_take_mono {rs : List ByteArray} (hr : RecOk rs) {i j : Nat} (h : i < j) (hj : j ≤ rs.length) : lenL (rs.take i) < lenL (rs.take j) := by
  have h1 : rs.take j = rs.take i ++ (rs.drop i).take (j - i) := by rw [← List.take_add, show i + (j - i) = j by omega]
  rw [h1, lenL_append]
  have : lenL ((rs.drop i).take (j - i)) ≠ 0 := fun h0 => by
    have h2 := congrArg List.length (lenL_pos.1 h0)
    rw [List.length_take, List.length_drop] at h2
    simp at h2
    omega
  omega
theorem plL_sorted {p : Nat} {rs : List ByteArray} (hr : RecOk rs) (hp : p + lenL rs ≤ 1152921504606846976) : Sorted (plL (p : Int) rs) := by
  refine ⟨fun x hx => ?_, fun i j hij hj => ?_⟩
  · obtain ⟨k, hk, rfl⟩ := List.mem_iff_getElem.1 hx
    have hk' : k < rs.length := by rwa [plL_length] at hk
    have h1 := plL_get (p : Int) rs k hk'
    rw [List.getD_eq_getElem?_getD, List.getElem?_eq_getElem hk, Option.getD_some] at h1
    rw [h1]
    have := lenL_take_le rs k
    dsimp only
    omega
  · rw [plL_length] at hj
    rw [plL_get _ _ _ (by omega), plL_get _ _ _ hj]
    have := lenL_take_mono hr hij (by omega)
    dsimp only
    omega
theorem plL_found {p : Nat} {rs : List ByteArray} (hr : RecOk rs) {k : Nat} (hk : k ≤ rs.length) : Found (plL (p : Int) rs) ((p : Int) + lenL (rs.take k)) k := by
  refine ⟨by rw [plL_length]; exact hk, fun j hj => ?_, fun j hj hjl => ?_⟩
  · rw [plL_get _ _ _ (by omega)]
    have := lenL_take_mono hr hj hk
    dsimp only
    omega
  · rw [plL_length] at hjl
    rw [plL_get _ _ _ hjl]
    dsimp only
    by_cases he : j = k
    · subst he; omega
    · have := lenL_take_mono hr (show k < j by omega) (by omega)
      omega
end Go.Proofs.YtimomjheanfbmaaGreatDoor

namespace Go.Proofs.YtimomjheanfbmaaGreatDoor
open Go.RowKit

/-! ### the records of a transaction, one behind the other -/
theorem lenL_up (rs : List ByteArray) {i j : Nat} (h : i ≤ j) : lenL (rs.take i) ≤ lenL (rs.take j) := by
  have := lenL_take_le (rs.take j) i
  rwa [List.take_take, Nat.min_eq_left h] at this
theorem lenL_step (rs : List ByteArray) {m : Nat} (h : m < rs.length) : lenL (rs.take m) + 2 ≤ lenL (rs.take (m + 1)) := by
  rw [List.take_add_one, List.getElem?_eq_getElem h, Option.toList_some, lenL_append, lenL, lenL]; omega
def AtR (recs : List Rc) (t : Int) (R : Rc) : Prop := ∃ i : Nat, recs[i]? = some R ∧ t = ((54 + lenL ((recs.map rcS).take i) : Nat) : Int)
theorem AtR.more {recs : List Rc} {t : Int} {R Q : Rc} (h : AtR recs t R) : AtR (recs ++ [Q]) t R := by
  obtain ⟨i, h1, h2⟩ := h
  have hi := (List.getElem?_eq_some_iff.1 h1).1
  refine ⟨i, by rw [List.getElem?_append_left hi]; exact h1, ?_⟩
  rw [List.map_append, List.take_append_of_le_length (by rw [List.length_map]; omega)]
  exact h2
theorem AtR.last (recs : List Rc) (R : Rc) : AtR (recs ++ [R]) ((54 + lenL (recs.map rcS) : Nat) : Int) R := by
  refine ⟨recs.length, by rw [List.getElem?_append_right (Nat.le_refl _), Nat.sub_self]; rfl, ?_⟩
  rw [List.map_append, List.take_append_of_le_length (by rw [List.length_map]; omega), List.take_of_length_le (by rw [List.length_map]; omega)]
theorem AtR.lo {recs : List Rc} {t : Int} {R : Rc} (h : AtR recs t R) : 54 ≤ t ∧ t < ((54 + lenL (recs.map rcS) : Nat) : Int) := by
  obtain ⟨i, h1, rfl⟩ := h
  have hi := (List.getElem?_eq_some_iff.1 h1).1
  have h2 := lenL_step (recs.map rcS) (m := i) (by rw [List.length_map]; exact hi)
  have h3 := lenL_take_le (recs.map rcS) (i + 1)
  omega
theorem AtR.mem {recs : List Rc} {t : Int} {R : Rc} (h : AtR recs t R) : R ∈ recs := by
  obtain ⟨i, h1, _⟩ := h
  exact List.mem_of_getElem? h1
theorem AtR.uniq {recs : List Rc} {t : Int} {R Q : Rc} (h : AtR recs t R) (h' : AtR recs t Q) : R = Q := by
  obtain ⟨i, h1, h2⟩ := h
  obtain ⟨j, h3, h4⟩ := h'
  have hi := (List.getElem?_eq_some_iff.1 h1).1
  have hj := (List.getElem?_eq_some_iff.1 h3).1
  have key : ∀ a b : Nat, a < b → b < recs.length → lenL ((recs.map rcS).take a) < lenL ((recs.map rcS).take b) := fun a b hab hb => by
    have h5 := lenL_step (recs.map rcS) (m := a) (by rw [List.length_map]; omega)
    have h6 := lenL_up (recs.map rcS) (show a + 1 ≤ b by omega)
    omega
  rcases Nat.lt_trichotomy i j with h5 | h5 | h5
  · have := key i j h5 hj; omega
  · subst h5; rw [h1] at h3; injection h3
  · have := key j i h5 hi; omega
/-- what is to be taken back from a place on -/
inductive Stk (recs : List Rc) : Int → List (Int × Rc) → Prop
  | nil : Stk recs 0 []
  | clr {t : Int} {R : Rc} {l : List (Int × Rc)} : AtR recs t R → R.kind = 2 → 0 ≤ R.next → R.next < t → Stk recs R.next l → Stk recs t l
  | upd {t : Int} {R : Rc} {l : List (Int × Rc)} : AtR recs t R → R.kind = 1 → 0 ≤ R.prev → R.prev < t → Stk recs R.prev l → Stk recs t ((t, R) :: l)
theorem Stk.more {recs : List Rc} {t : Int} {l : List (Int × Rc)} (Q : Rc) (h : Stk recs t l) : Stk (recs ++ [Q]) t l := by
  induction h with
  | nil => exact .nil
  | clr h1 h2 h3 h4 _ ih => exact .clr h1.more h2 h3 h4 ih
  | upd h1 h2 h3 h4 _ ih => exact .upd h1.more h2 h3 h4 ih
theorem Stk.lo {recs : List Rc} {t : Int} {l : List (Int × Rc)} (h : Stk recs t l) : (t = 0 ∨ 54 ≤ t) ∧ t < ((54 + lenL (recs.map rcS) : Nat) : Int) := by
  cases h with
  | nil => exact ⟨.inl rfl, by omega⟩
  | clr h1 => exact ⟨.inr h1.lo.1, h1.lo.2⟩
  | upd h1 => exact ⟨.inr h1.lo.1, h1.lo.2⟩
theorem Stk.le {recs : List Rc} {t : Int} {l : List (Int × Rc)} (h : Stk recs t l) : ∀ y ∈ l, y.1 ≤ t := by
  induction h with
  | nil => intro y hy; cases hy
  | clr h1 h2 h3 h4 _ ih => intro y hy; have := ih y hy; omega
  | upd h1 h2 h3 h4 _ ih =>
    intro y hy
    rcases List.mem_cons.1 hy with rfl | hy
    · exact Int.le_refl _
    · have := ih y hy; omega
theorem Stk.zero {recs : List Rc} {l : List (Int × Rc)} (h : Stk recs 0 l) : l = [] := by
  cases h with
  | nil => rfl
  | clr h1 => have := h1.lo.1; omega
  | upd h1 => have := h1.lo.1; omega
/-- an update that can be taken back -/
def GoodU (pg : Nat) (R : Rc) : Prop := R.uk = 1 ∧ (0 ≤ R.up ∧ R.up < pg) ∧ (0 ≤ R.ul ∧ R.ul < 6) ∧ ClOk R.bs R.bd
def clrR (x last : Int) (R : Rc) (P : Pg) : Rc := { kind := 2, xct := x, prev := last, next := R.prev, uk := 0, us := 0, up := 0, ul := 0, key := ⟨#[]⟩, bs := 0, bd := ⟨#[]⟩, fresh := 0, ims := [(R.up, P)], lvs := [] }
/-- one update is taken back -/
def CS.undone (σ : CS) (x : Int) (i : Nat) (s : Lv) (R : Rc) (P : Pg) : CS :=
  { σ with recs := σ.recs ++ [clrR x s.2.2 R P], M := putIms σ.M [(R.up, P)] (σ.fin : Int), lives := σ.lives.set i (s.1, s.2.1, (σ.fin : Int)), B := subB σ.B x 320 1, T := (σ.T.1 - 320, σ.T.2 - 1), cnt := σ.cnt + 1 }
inductive Und (x : Int) (i : Nat) : CS → List (Int × Rc) → CS → Prop
  | nil (σ : CS) : Und x i σ [] σ
  | snoc {σ σ1 : CS} {l : List (Int × Rc)} {t : Int} {R : Rc} {s : Lv} {P : Pg} : Und x i σ l σ1 → σ1.lives[i]? = some s → s.1 = x → pgC P = pgC (setCl (σ1.M R.up.toNat).1 R.ul.toNat R.bs R.bd) → Und x i σ (l ++ [(t, R)]) (σ1.undone x i s R P)
theorem setCl_ok {P : Pg} (h : PgOk P) {k : Nat} {bs : Int} {bd : ByteArray} (hc : ClOk bs bd) : PgOk (setCl P k bs bd) := by
  refine ⟨h.1, fun i hi => ?_⟩
  show ClOk (if i = k then bs else P.st i) (if i = k then bd else P.dt i)
  by_cases e : i = k
  · rw [if_pos e, if_pos e]; exact hc
  · rw [if_neg e, if_neg e]; exact h.2 i hi
theorem pgC_ok {P Q : Pg} (h : pgC P = pgC Q) (hQ : PgOk Q) : PgOk P := by
  simp only [pgC, Array.mk.injEq, List.cons.injEq, Value.int.injEq, Value.string.injEq, true_and, and_true] at h
  obtain ⟨e1, e2, e3, e4, a0, b0, a1, b1, a2, b2, a3, b3, a4, b4, a5, b5⟩ := h
  refine PgOk.congr e1 e2 e3 e4 (fun i hi => ?_) hQ
  match i, hi with
  | 0, _ => exact ⟨a0, b0⟩
  | 1, _ => exact ⟨a1, b1⟩
  | 2, _ => exact ⟨a2, b2⟩
  | 3, _ => exact ⟨a3, b3⟩
  | 4, _ => exact ⟨a4, b4⟩
  | 5, _ => exact ⟨a5, b5⟩
section
variable {w0 w w' : World} {L : List Nat} {c lp p dp pg lb mb n : Nat} {lv : Value} {σ : CS}
theorem Cx.pages (h : Cx w0 w L c lp p dp pg lb mb n lv σ) (id : Nat) (hid : id < pg) : PgOk (σ.M id).1 := by
  obtain ⟨i0, X, sv, S, Sl, Sd, D, hk, hF, _⟩ := h.kx
  exact (hk.inv.mok id (by rw [hF]; exact hid)).1
theorem cx_read (h : Cx w0 w L c lp p dp pg lb mb n lv σ) {t : Int} {R : Rc} (hR : AtR σ.recs t R) :
    Calls Tryz.prog 17 #[.pointer (some ⟨lp, 0, none⟩), .int .i64 t] w fun e w' => e = .returned (.tuple #[.string (rcS R), .int .i64 0]) ∧ Below w.heap.size w w' := by
  have hcount := h.count
  obtain ⟨i0, X, sv, S, Sl, Sd, D, hk, _⟩ := h.kx
  obtain ⟨i, h1, rfl⟩ := hR
  have hi := (List.getElem?_eq_some_iff.1 h1).1
  have hrok : RecOk σ.rs := hk.pw.ws.rok
  have hil : i < σ.rs.length := by unfold CS.rs; rw [List.length_map]; exact hi
  have hP : P0.size = 0 := rfl
  have hlist : (mkLg 0 128 1 P0 σ.rs i0).list = plL ((54 : Nat) : Int) σ.rs := by
    show plL ((54 * 1 + P0.size : Nat) : Int) σ.rs = _
    rw [hP]
  have hle := lenL_take_le σ.rs i
  have ht : ((54 + lenL ((σ.recs.map rcS).take i) : Nat) : Int) = ((54 : Nat) : Int) + lenL (σ.rs.take i) := by unfold CS.rs; omega
  rw [ht]
  refine (wal_read lp dp (mkLg 0 128 1 P0 σ.rs i0) Sl _ (by rw [hlist]; exact plL_sorted hrok (by omega)) ⟨by omega, by omega⟩ w hk.pw.ws.log).mono fun e w' ⟨j, hj, hb, hres⟩ => ?_
  rw [hlist] at hj hres
  obtain rfl := hj.uniq (plL_found hrok (Nat.le_of_lt hil))
  have hg := plL_get ((54 : Nat) : Int) σ.rs j hil
  have hv : σ.rs.getD j ⟨#[]⟩ = rcS R := by
    unfold CS.rs
    rw [List.getD_eq_getElem?_getD, List.getElem?_map, h1]; rfl
  rcases hres with ⟨_, he⟩ | ⟨hno, _⟩
  · rw [hg, hv] at he
    exact ⟨he.2, hb⟩
  · exact absurd ⟨by rw [plL_length]; exact hil, by rw [hg]⟩ hno
end
end Go.Proofs.YtimomjheanfbmaaGreatDoor
