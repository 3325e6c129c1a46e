import Derived.Test.YtimomjheanfbmaaGreatDoorMae
set_option linter.unusedSimpArgs false
set_option linter.unusedVariables false
namespace Go.Proofs.YtimomjheanfbmaaGreatDoor
open Go.RowKit

/-! ### records, in plain Lean -/
structure Rc where
  kind : Int
  xct : Int
  prev : Int
  next : Int
  uk : Int
  us : Int
  up : Int
  ul : Int
  key : ByteArray
  bs : Int
  bd : ByteArray
  fresh : Int
  ims : List (Int × Pg)
  lvs : List (Int × Int × Int)
def inR (n m : Int) : Prop := 0 ≤ n ∧ n ≤ m
instance (n m : Int) : Decidable (inR n m) := by unfold inR; exact inferInstance
def ImOk (x : Int × Pg) : Prop := inR x.1 1023 ∧ PgOk x.2
instance (x : Int × Pg) : Decidable (ImOk x) := by unfold ImOk; exact inferInstance
def LvOk (x : Int × Int × Int) : Prop := inR x.1 2147483647 ∧ inR x.2.1 1099511627776 ∧ inR x.2.2 1099511627776
instance (x : Int × Int × Int) : Decidable (LvOk x) := by unfold LvOk; exact inferInstance
def RcHd (R : Rc) : Prop := (1 ≤ R.kind ∧ R.kind ≤ 6) ∧ inR R.xct 2147483647 ∧ inR R.prev 1099511627776 ∧ inR R.next 1099511627776 ∧ inR R.fresh 2147483647 ∧ inR R.uk 3 ∧ inR R.us 6 ∧ inR R.up 1023 ∧ inR R.ul 5
  ∧ R.key.size ≤ 8 ∧ inR R.bs 2 ∧ R.bd.size ≤ 34 ∧ R.ims.length ≤ 24 ∧ R.lvs.length ≤ 8
instance (R : Rc) : Decidable (RcHd R) := by unfold RcHd; exact inferInstance
def RcOk (R : Rc) : Prop := RcHd R ∧ (∀ x ∈ R.ims, ImOk x) ∧ ∀ x ∈ R.lvs, LvOk x
instance (R : Rc) : Decidable (RcOk R) := by unfold RcOk; exact inferInstance

/-! ### a record's bytes -/
def nB (w : Nat) (n : Int) : List UInt8 := (leS n w).data.toList
def tB (s : ByteArray) : List UInt8 := (textS s).data.toList
def imB (x : Int × Pg) : List UInt8 := nB 4 x.1 ++ (pageS x.2).data.toList
def lvB (x : Int × Int × Int) : List UInt8 := nB 4 x.1 ++ nB 8 x.2.1 ++ nB 8 x.2.2
def hdB (R : Rc) : List UInt8 := nB 1 R.kind ++ nB 4 R.xct ++ nB 8 R.prev ++ nB 8 R.next ++ nB 4 R.fresh ++ nB 1 R.uk ++ nB 1 R.us ++ nB 4 R.up ++ nB 1 R.ul ++ tB R.key ++ nB 1 R.bs ++ tB R.bd ++ nB 1 (R.ims.length : Int)
def rcL (R : Rc) : List UInt8 := hdB R ++ R.ims.flatMap imB ++ nB 1 (R.lvs.length : Int) ++ R.lvs.flatMap lvB
def rcS (R : Rc) : ByteArray := ⟨(rcL R).toArray⟩
theorem rcS_list (R : Rc) : (rcS R).data.toList = rcL R := by simp [rcS]
theorem nB_length (w : Nat) (n : Int) : (nB w n).length = w := leS_list_length n w
theorem tB_cons (s : ByteArray) : tB s = UInt8.ofNat s.size :: s.data.toList := by
  unfold tB textS
  rw [ByteArray.data_append, Array.toList_append, strOfNums_data]
  simp
theorem tB_length (s : ByteArray) : (tB s).length = s.size + 1 := by rw [tB_cons, List.length_cons, list_size]
theorem hdB_length (R : Rc) : (hdB R).length = 36 + R.key.size + R.bd.size := by
  simp only [hdB, List.length_append, nB_length, tB_length]; omega
theorem imB_length {x : Int × Pg} (h : ImOk x) : (imB x).length = 228 := by
  rw [imB, List.length_append, nB_length, list_size, pageS_size h.2]
theorem lvB_length (x : Int × Int × Int) : (lvB x).length = 20 := by
  simp only [lvB, List.length_append, nB_length]
theorem flat_length {α : Type} (f : α → List UInt8) (m : Nat) : ∀ (l : List α), (∀ x ∈ l, (f x).length = m) → (l.flatMap f).length = m * l.length
  | [], _ => by simp
  | x :: l, h => by
    rw [List.flatMap_cons, List.length_append, h x (by simp), flat_length f m l (fun y hy => h y (by simp [hy])), List.length_cons, Nat.mul_add]; omega
theorem rcS_size {R : Rc} (h : RcOk R) : (rcS R).size = 37 + R.key.size + R.bd.size + 228 * R.ims.length + 20 * R.lvs.length := by
  show (rcL R).toArray.size = _
  rw [List.size_toArray, rcL, List.length_append, List.length_append, List.length_append, hdB_length, nB_length, flat_length imB 228 _ (fun x hx => imB_length (h.2.1 x hx)), flat_length lvB 20 _ (fun x _ => lvB_length x)]
  omega

/-! ### reading -/
def clip (n : Int) : Int := if 1099511627776 < n then -1 else n
theorem clip_in {n : Int} (h : n ≤ 1099511627776) : clip n = n := if_neg (by omega)
abbrev St := ByteArray × Bool
def rN (w : Nat) (σ : St) : Int × St := (clip (rdNum σ.1 σ.2 w).1, (rdNum σ.1 σ.2 w).2)
def rT (σ : St) : ByteArray × St := rdText σ.1 σ.2
def rB (σ : St) : ByteArray × St := rdBytes σ.1 σ.2 224
def Gd (σ : St) (l : List UInt8) : Prop := σ.2 = false ∧ σ.1.data.toList = l
theorem Gd.mk' (l : List UInt8) : Gd (⟨l.toArray⟩, false) l := ⟨rfl, by simp⟩
theorem bytes_go {σ : St} {a r : List UInt8} {n : Nat} (h : Gd σ (a ++ r)) (ha : a.length = n) : (rdBytes σ.1 σ.2 n).1.data.toList = a ∧ Gd (rdBytes σ.1 σ.2 n).2 r := by
  obtain ⟨s, b⟩ := σ
  obtain ⟨hb, hl⟩ := h
  dsimp only at hb hl
  subst hb
  have hz : s.size = n + r.length := by rw [← list_size, hl, List.length_append, ha]
  dsimp only
  rw [rdBytes_yes ⟨rfl, by omega, by omega⟩, Int.toNat_natCast]
  refine ⟨?_, rfl, ?_⟩
  · dsimp only
    rw [ext_list, hl, List.drop_zero, Nat.sub_zero, ← ha, List.take_left]
  · dsimp only
    rw [ext_list, hl, ← ha, List.drop_left, hz, ha, Nat.add_sub_cancel_left, List.take_length]
theorem bytes_good {σ : St} {n : Nat} (h : (rdBytes σ.1 σ.2 n).2.2 = false) : ∃ a r, a.length = n ∧ Gd σ (a ++ r) ∧ (rdBytes σ.1 σ.2 n).1.data.toList = a ∧ Gd (rdBytes σ.1 σ.2 n).2 r := by
  by_cases hc : σ.2 = false ∧ (0 : Int) ≤ (n : Int) ∧ (n : Int) ≤ σ.1.size
  · have hl : (σ.1.data.toList.take n).length = n := by rw [List.length_take, list_size]; omega
    have hg : Gd σ (σ.1.data.toList.take n ++ σ.1.data.toList.drop n) := ⟨hc.1, (List.take_append_drop ..).symm⟩
    exact ⟨_, _, hl, hg, bytes_go hg hl⟩
  · rw [rdBytes_no hc] at h; cases h
theorem rdNum_eq {s : ByteArray} {b : Bool} {w : Nat} (h1 : 1 ≤ w) (h8 : w ≤ 8) : rdNum s b w = (valS (rdBytes s b w).1, (rdBytes s b w).2) := by
  unfold rdNum
  rw [if_neg (by omega)]
theorem num_go {σ : St} {a r : List UInt8} {w : Nat} (h : Gd σ (a ++ r)) (ha : a.length = w) (h1 : 1 ≤ w) (h8 : w ≤ 8) : (rdNum σ.1 σ.2 w).1 = valL a ∧ Gd (rdNum σ.1 σ.2 w).2 r := by
  rw [rdNum_eq h1 h8]
  obtain ⟨e, g⟩ := bytes_go h ha
  exact ⟨by dsimp only; unfold valS; rw [e], g⟩
theorem num_good {σ : St} {w : Nat} (h1 : 1 ≤ w) (h8 : w ≤ 8) (h : (rdNum σ.1 σ.2 w).2.2 = false) : ∃ a r, a.length = w ∧ Gd σ (a ++ r) ∧ (rdNum σ.1 σ.2 w).1 = valL a ∧ Gd (rdNum σ.1 σ.2 w).2 r := by
  rw [rdNum_eq h1 h8] at h ⊢
  obtain ⟨a, r, ha, hg, e, g⟩ := bytes_good (σ := σ) (n := w) h
  exact ⟨a, r, ha, hg, by dsimp only; unfold valS; rw [e], g⟩
theorem rN_go {σ : St} {a r : List UInt8} {w : Nat} (h : Gd σ (a ++ r)) (ha : a.length = w) (h1 : 1 ≤ w) (h8 : w ≤ 8) : (rN w σ).1 = clip (valL a) ∧ Gd (rN w σ).2 r := by
  obtain ⟨e, g⟩ := num_go h ha h1 h8
  exact ⟨by unfold rN; rw [e], g⟩
theorem rN_good {σ : St} {w : Nat} (h1 : 1 ≤ w) (h8 : w ≤ 8) (h : (rN w σ).2.2 = false) : ∃ a r, a.length = w ∧ Gd σ (a ++ r) ∧ (rN w σ).1 = clip (valL a) ∧ Gd (rN w σ).2 r := by
  obtain ⟨a, r, ha, hg, e, g⟩ := num_good h1 h8 h
  exact ⟨a, r, ha, hg, by unfold rN; rw [e], g⟩
theorem valL_one (b : UInt8) : valL [b] = b.toNat := by simp [valL]
theorem rT_go {σ : St} {t r : List UInt8} (h : Gd σ (UInt8.ofNat t.length :: (t ++ r))) (ht : t.length < 256) : (rT σ).1.data.toList = t ∧ Gd (rT σ).2 r := by
  obtain ⟨e, g⟩ := num_go (a := [UInt8.ofNat t.length]) (r := t ++ r) (w := 1) h rfl (by omega) (by omega)
  unfold rT rdText
  rw [valL_one, u8_back ht] at e
  have e' : (rdNum σ.1 σ.2 1).1 = (t.length : Int) := e
  rw [e']
  exact bytes_go (σ := ((rdNum σ.1 σ.2 1).2.1, (rdNum σ.1 σ.2 1).2.2)) g rfl
theorem rT_good {σ : St} (h : (rT σ).2.2 = false) : ∃ t r, t.length < 256 ∧ Gd σ (UInt8.ofNat t.length :: (t ++ r)) ∧ (rT σ).1.data.toList = t ∧ Gd (rT σ).2 r := by
  have h0 : 0 ≤ (rdNum σ.1 σ.2 1).1 ∧ (rdNum σ.1 σ.2 1).1 < 256 := rdNum_range _ _ 1
  obtain ⟨m, hm⟩ : ∃ m : Nat, (rdNum σ.1 σ.2 1).1 = m := ⟨(rdNum σ.1 σ.2 1).1.toNat, by omega⟩
  unfold rT rdText at h
  rw [hm] at h
  obtain ⟨t, r, ht, g1, e, g2⟩ := bytes_good (σ := ((rdNum σ.1 σ.2 1).2.1, (rdNum σ.1 σ.2 1).2.2)) h
  obtain ⟨a, r', ha, g3, e3, g4⟩ := num_good (σ := σ) (w := 1) (by omega) (by omega) g1.1
  have er : r' = t ++ r := g4.2.symm.trans g1.2
  subst er
  obtain ⟨b, rfl⟩ : ∃ b, a = [b] := by
    match a, ha with
    | [b], _ => exact ⟨b, rfl⟩
  have hb : b = UInt8.ofNat t.length := by
    rw [valL_one] at e3
    have : (rdNum σ.1 σ.2 1).1 = (b.toNat : Int) := e3
    rw [hm] at this
    rw [ht, show m = b.toNat by omega, UInt8.ofNat_toNat]
  subst hb
  refine ⟨t, r, by omega, g3, ?_, ?_⟩
  · unfold rT rdText; rw [hm]; exact e
  · unfold rT rdText; rw [hm]; exact g2
/-- the first twelve pieces, and what is left -/
def hdR (s : ByteArray) : Rc × St :=
  let a := rN 1 (s, false)
  let b := rN 4 a.2
  let c := rN 8 b.2
  let d := rN 8 c.2
  let e := rN 4 d.2
  let f := rN 1 e.2
  let g := rN 1 f.2
  let h := rN 4 g.2
  let i := rN 1 h.2
  let j := rT i.2
  let k := rN 1 j.2
  let l := rT k.2
  ({ kind := a.1, xct := b.1, prev := c.1, next := d.1, fresh := e.1, uk := f.1, us := g.1, up := h.1, ul := i.1, key := j.1, bs := k.1, bd := l.1, ims := [], lvs := [] }, l.2)
open Classical in
noncomputable def imgsR : Nat → St → List (Int × Pg) → Option (List (Int × Pg) × St)
  | 0, σ, acc => some (acc, σ)
  | n + 1, σ, acc => if σ.2 = true then some (acc, σ) else if DecOk (rB (rN 4 σ).2).1 then imgsR n (rB (rN 4 σ).2).2 (acc ++ [((rN 4 σ).1, decP (rB (rN 4 σ).2).1)]) else none
def livesR : Nat → St → List (Int × Int × Int) → List (Int × Int × Int) × St
  | 0, σ, acc => (acc, σ)
  | n + 1, σ, acc => if σ.2 = true then (acc, σ) else livesR n (rN 8 (rN 8 (rN 4 σ).2).2).2 (acc ++ [((rN 4 σ).1, (rN 8 (rN 4 σ).2).1, (rN 8 (rN 8 (rN 4 σ).2).2).1)])
def cntR (s : ByteArray) : Int × St := rN 1 (hdR s).2
open Classical in
noncomputable def endR (R : Rc) (σ : St) : Option Rc := if σ.2 = false ∧ σ.1.size = 0 ∧ RcOk R then some R else none
noncomputable def tailR (R : Rc) (x : List (Int × Pg) × St) : Option Rc :=
  endR { R with ims := x.1, lvs := (livesR (rN 1 x.2).1.toNat (rN 1 x.2).2 []).1 } (livesR (rN 1 x.2).1.toNat (rN 1 x.2).2 []).2
noncomputable def decR (s : ByteArray) : Option Rc :=
  match imgsR (cntR s).1.toNat (cntR s).2 [] with
  | none => none
  | some x => tailR (hdR s).1 x
/-- the same record, but for what stands behind a page's sixth cell -/
def imC (x : Int × Pg) : Int × Array Value := (x.1, pgC x.2)
def SameRc (R Q : Rc) : Prop := R.kind = Q.kind ∧ R.xct = Q.xct ∧ R.prev = Q.prev ∧ R.next = Q.next ∧ R.fresh = Q.fresh ∧ R.uk = Q.uk ∧ R.us = Q.us ∧ R.up = Q.up ∧ R.ul = Q.ul ∧ R.key = Q.key ∧ R.bs = Q.bs ∧ R.bd = Q.bd ∧ R.ims.map imC = Q.ims.map imC ∧ R.lvs = Q.lvs
theorem SameRc.refl (R : Rc) : SameRc R R := ⟨rfl, rfl, rfl, rfl, rfl, rfl, rfl, rfl, rfl, rfl, rfl, rfl, rfl, rfl⟩
theorem SameRc.symm {R Q : Rc} (h : SameRc R Q) : SameRc Q R := by
  obtain ⟨a1, a2, a3, a4, a5, a6, a7, a8, a9, a10, a11, a12, a13, a14⟩ := h
  exact ⟨a1.symm, a2.symm, a3.symm, a4.symm, a5.symm, a6.symm, a7.symm, a8.symm, a9.symm, a10.symm, a11.symm, a12.symm, a13.symm, a14.symm⟩
theorem SameRc.trans {R Q T : Rc} (h : SameRc R Q) (k : SameRc Q T) : SameRc R T := by
  obtain ⟨a1, a2, a3, a4, a5, a6, a7, a8, a9, a10, a11, a12, a13, a14⟩ := h
  obtain ⟨b1, b2, b3, b4, b5, b6, b7, b8, b9, b10, b11, b12, b13, b14⟩ := k
  exact ⟨a1.trans b1, a2.trans b2, a3.trans b3, a4.trans b4, a5.trans b5, a6.trans b6, a7.trans b7, a8.trans b8, a9.trans b9, a10.trans b10, a11.trans b11, a12.trans b12, a13.trans b13, a14.trans b14⟩

/-! ### what was written is read -/
theorem valL_nB {n : Int} {w : Nat} (h0 : 0 ≤ n) (h : n < 256 ^ w) : valL (nB w n) = n := valS_leS n w h0 h
theorem rN_nB {σ : St} {n : Int} {w : Nat} {r : List UInt8} (h : Gd σ (nB w n ++ r)) (h1 : 1 ≤ w) (h8 : w ≤ 8) (h0 : 0 ≤ n) (hn : n < 256 ^ w) (hc : n ≤ 1099511627776) : (rN w σ).1 = n ∧ Gd (rN w σ).2 r := by
  obtain ⟨e, g⟩ := rN_go h (nB_length w n) h1 h8
  rw [valL_nB h0 hn, clip_in hc] at e
  exact ⟨e, g⟩
theorem rN1 {σ : St} {n : Int} {r : List UInt8} (h : Gd σ (nB 1 n ++ r)) (h0 : 0 ≤ n) (hn : n ≤ 255) : (rN 1 σ).1 = n ∧ Gd (rN 1 σ).2 r := rN_nB h (by omega) (by omega) h0 (by omega) (by omega)
theorem rN4 {σ : St} {n : Int} {r : List UInt8} (h : Gd σ (nB 4 n ++ r)) (h0 : 0 ≤ n) (hn : n ≤ 2147483647) : (rN 4 σ).1 = n ∧ Gd (rN 4 σ).2 r := rN_nB h (by omega) (by omega) h0 (by omega) (by omega)
theorem rN8 {σ : St} {n : Int} {r : List UInt8} (h : Gd σ (nB 8 n ++ r)) (h0 : 0 ≤ n) (hn : n ≤ 1099511627776) : (rN 8 σ).1 = n ∧ Gd (rN 8 σ).2 r := rN_nB h (by omega) (by omega) h0 (by omega) hn
theorem rT_tB {σ : St} {t : ByteArray} {r : List UInt8} (h : Gd σ (tB t ++ r)) (ht : t.size ≤ 255) : (rT σ).1 = t ∧ Gd (rT σ).2 r := by
  rw [tB_cons, List.cons_append] at h
  have hz : t.data.toList.length = t.size := list_size t
  rw [← hz] at h
  obtain ⟨e, g⟩ := rT_go h (by omega)
  exact ⟨ba_ext e, g⟩
theorem hdB_app (R : Rc) (r : List UInt8) : hdB R ++ r = nB 1 R.kind ++ (nB 4 R.xct ++ (nB 8 R.prev ++ (nB 8 R.next ++ (nB 4 R.fresh ++ (nB 1 R.uk ++ (nB 1 R.us ++ (nB 4 R.up ++ (nB 1 R.ul ++ (tB R.key ++ (nB 1 R.bs ++ (tB R.bd ++ (nB 1 (R.ims.length : Int) ++ r)))))))))))) := by
  simp only [hdB, List.append_assoc]
theorem hdR_go {R : Rc} (h : RcHd R) {s : ByteArray} {r : List UInt8} (hs : s.data.toList = hdB R ++ r) : (hdR s).1 = { R with ims := [], lvs := [] } ∧ (cntR s).1 = R.ims.length ∧ Gd (cntR s).2 r := by
  obtain ⟨⟨a1, a2⟩, ⟨b1, b2⟩, ⟨c1, c2⟩, ⟨d1, d2⟩, ⟨e1, e2⟩, ⟨f1, f2⟩, ⟨g1, g2⟩, ⟨h1, h2⟩, ⟨i1, i2⟩, j, ⟨k1, k2⟩, l, m, n⟩ := h
  have G0 : Gd (s, false) (hdB R ++ r) := ⟨rfl, hs⟩
  rw [hdB_app] at G0
  obtain ⟨A, G⟩ := rN1 G0 (by omega) (by omega)
  obtain ⟨B, G⟩ := rN4 G (by omega) (by omega)
  obtain ⟨C, G⟩ := rN8 G (by omega) (by omega)
  obtain ⟨D, G⟩ := rN8 G (by omega) (by omega)
  obtain ⟨E, G⟩ := rN4 G (by omega) (by omega)
  obtain ⟨F, G⟩ := rN1 G (by omega) (by omega)
  obtain ⟨K, G⟩ := rN1 G (by omega) (by omega)
  obtain ⟨H, G⟩ := rN4 G (by omega) (by omega)
  obtain ⟨I, G⟩ := rN1 G (by omega) (by omega)
  obtain ⟨J, G⟩ := rT_tB G (by omega)
  obtain ⟨L, G⟩ := rN1 G (by omega) (by omega)
  obtain ⟨M, G⟩ := rT_tB G (by omega)
  obtain ⟨N, G⟩ := rN1 G (by omega) (by omega)
  refine ⟨?_, N, G⟩
  unfold hdR
  dsimp only
  rw [A, B, C, D, E, F, K, H, I, J, L, M]
theorem imgsR_go : ∀ (l : List (Int × Pg)) {σ : St} {r : List UInt8} (acc : List (Int × Pg)), (∀ x ∈ l, ImOk x) → Gd σ (l.flatMap imB ++ r) → ∃ l' τ, imgsR l.length σ acc = some (acc ++ l', τ) ∧ l'.map imC = l.map imC ∧ Gd τ r
  | [], σ, r, acc, _, hg => ⟨[], σ, by simp [imgsR], rfl, hg⟩
  | x :: l, σ, r, acc, h, hg => by
    obtain ⟨⟨h1, h2⟩, hp⟩ := h x (by simp)
    rw [List.flatMap_cons, imB, List.append_assoc, List.append_assoc] at hg
    have hσ := hg.1
    obtain ⟨A, G⟩ := rN4 hg h1 (by omega)
    obtain ⟨B, G⟩ := bytes_go (n := 224) G (by rw [list_size, pageS_size hp])
    have B' : (rB (rN 4 σ).2).1 = pageS x.2 := ba_ext B
    obtain ⟨l', τ, e1, e2, e3⟩ := imgsR_go l (σ := (rB (rN 4 σ).2).2) (acc ++ [((rN 4 σ).1, decP (rB (rN 4 σ).2).1)]) (fun y hy => h y (by simp [hy])) G
    refine ⟨((rN 4 σ).1, decP (rB (rN 4 σ).2).1) :: l', τ, ?_, ?_, e3⟩
    · rw [List.length_cons, imgsR, if_neg (by rw [hσ]; decide), if_pos (by rw [B']; exact dec_ok hp), e1, List.append_assoc]
      rfl
    · rw [List.map_cons, List.map_cons, e2]
      congr 1
      unfold imC
      rw [B', A, dec_enc hp]
theorem livesR_go : ∀ (l : List (Int × Int × Int)) {σ : St} {r : List UInt8} (acc : List (Int × Int × Int)), (∀ x ∈ l, LvOk x) → Gd σ (l.flatMap lvB ++ r) → ∃ τ, livesR l.length σ acc = (acc ++ l, τ) ∧ Gd τ r
  | [], σ, r, acc, _, hg => ⟨σ, by simp [livesR], hg⟩
  | x :: l, σ, r, acc, h, hg => by
    obtain ⟨⟨h1, h2⟩, ⟨h3, h4⟩, ⟨h5, h6⟩⟩ := h x (by simp)
    rw [List.flatMap_cons, lvB, List.append_assoc, List.append_assoc, List.append_assoc] at hg
    have hσ := hg.1
    obtain ⟨A, G⟩ := rN4 hg h1 (by omega)
    obtain ⟨B, G⟩ := rN8 G h3 (by omega)
    obtain ⟨C, G⟩ := rN8 G h5 (by omega)
    obtain ⟨τ, e1, e3⟩ := livesR_go l (acc ++ [((rN 4 σ).1, (rN 8 (rN 4 σ).2).1, (rN 8 (rN 8 (rN 4 σ).2).2).1)]) (fun y hy => h y (by simp [hy])) G
    refine ⟨τ, ?_, e3⟩
    rw [List.length_cons, livesR, if_neg (by rw [hσ]; decide), e1, A, B, C, List.append_assoc]
    rfl
theorem RcOk.congr {R Q : Rc} (h : RcOk Q) (hs : SameRc R Q) : RcOk R := by
  obtain ⟨a1, a2, a3, a4, a5, a6, a7, a8, a9, a10, a11, a12, a13, a14⟩ := hs
  have hl : R.ims.length = Q.ims.length := by simpa using congrArg List.length a13
  refine ⟨?_, ?_, by rw [a14]; exact h.2.2⟩
  · have := h.1
    unfold RcHd at this ⊢
    rw [a1, a2, a3, a4, a5, a6, a7, a8, a9, a10, a11, a12, a14, hl]
    exact this
  · intro x hx
    have : imC x ∈ Q.ims.map imC := by rw [← a13]; exact List.mem_map_of_mem hx
    obtain ⟨y, hy, e⟩ := List.mem_map.1 this
    have hk := h.2.1 y hy
    unfold imC at e
    obtain ⟨e1, e2⟩ := Prod.mk.inj e
    refine ⟨e1 ▸ hk.1, ?_⟩
    have e3 : (pgC y.2).toList = (pgC x.2).toList := by rw [e2]
    simp only [pgC, List.cons.injEq, Value.int.injEq, Value.string.injEq, true_and, and_true] at e3
    obtain ⟨p1, p2, p3, p4, p5, p6, p7, p8, p9, p10, p11, p12, p13, p14, p15, p16⟩ := e3
    refine PgOk.congr p1.symm p2.symm p3.symm p4.symm (fun i hi => ?_) hk.2
    match i, hi with
    | 0, _ => exact ⟨p5.symm, p6.symm⟩
    | 1, _ => exact ⟨p7.symm, p8.symm⟩
    | 2, _ => exact ⟨p9.symm, p10.symm⟩
    | 3, _ => exact ⟨p11.symm, p12.symm⟩
    | 4, _ => exact ⟨p13.symm, p14.symm⟩
    | 5, _ => exact ⟨p15.symm, p16.symm⟩
theorem rcL_app (R : Rc) (z : List UInt8) : rcL R ++ z = hdB R ++ (R.ims.flatMap imB ++ (nB 1 (R.lvs.length : Int) ++ (R.lvs.flatMap lvB ++ z))) := by
  simp only [rcL, List.append_assoc]
open Classical in
theorem decR_go {R : Rc} (h : RcOk R) {s : ByteArray} {z : List UInt8} (hs : s.data.toList = rcL R ++ z) : ∃ R', SameRc R' R ∧ decR s = if z = [] then some R' else none := by
  rw [rcL_app] at hs
  obtain ⟨e1, e2, G⟩ := hdR_go h.1 hs
  obtain ⟨l', τ, e3, e4, G⟩ := imgsR_go R.ims [] h.2.1 G
  have hlv : R.lvs.length ≤ 8 := h.1.2.2.2.2.2.2.2.2.2.2.2.2.2
  obtain ⟨e5, G⟩ := rN1 G (by omega) (by omega)
  obtain ⟨υ, e6, G⟩ := livesR_go R.lvs [] h.2.2 G
  refine ⟨{ R with ims := l' }, ⟨rfl, rfl, rfl, rfl, rfl, rfl, rfl, rfl, rfl, rfl, rfl, rfl, e4, rfl⟩, ?_⟩
  unfold decR
  rw [e2, Int.toNat_natCast, e3]
  dsimp only
  unfold tailR
  dsimp only
  rw [e5, Int.toNat_natCast, e6, e1]
  dsimp only
  simp only [List.nil_append]
  unfold endR
  have hz : υ.1.size = z.length := by rw [← list_size, G.2]
  have hok : RcOk { R with ims := l' } := h.congr ⟨rfl, rfl, rfl, rfl, rfl, rfl, rfl, rfl, rfl, rfl, rfl, rfl, e4, rfl⟩
  by_cases e : z = []
  · rw [if_pos e, if_pos ⟨G.1, by rw [hz, e]; rfl, hok⟩]
  · rw [if_neg e, if_neg (fun h => e (List.eq_nil_of_length_eq_zero (by omega)))]
/-! ### what is read was written so -/
theorem valL_back (a : List UInt8) (w : Nat) (h : a.length = w) : nB w (valL a) = a := by
  have := leS_back ⟨a.toArray⟩ w (by show a.toArray.size = w; simpa using h)
  simpa [nB, valS] using this
theorem clip_back {n m : Int} (h : clip n = m) (h0 : 0 ≤ m) : n = m := by
  unfold clip at h
  split at h <;> omega
theorem rN_back {σ : St} {w : Nat} {m : Int} (h1 : 1 ≤ w) (h8 : w ≤ 8) (hm : (rN w σ).1 = m) (h0 : 0 ≤ m) {r : List UInt8} (h : Gd (rN w σ).2 r) : Gd σ (nB w m ++ r) := by
  obtain ⟨a, r', ha, hg, e, g⟩ := rN_good h1 h8 h.1
  have er : r' = r := g.2.symm.trans h.2
  subst er
  rw [hm] at e
  have : valL a = m := clip_back e.symm h0
  rw [← this, valL_back a w ha]
  exact hg
theorem rT_back {σ : St} {t : ByteArray} (ht : (rT σ).1 = t) {r : List UInt8} (h : Gd (rT σ).2 r) : Gd σ (tB t ++ r) := by
  obtain ⟨t', r', hl, hg, e, g⟩ := rT_good h.1
  have er : r' = r := g.2.symm.trans h.2
  subst er
  rw [ht] at e
  rw [tB_cons, List.cons_append, ← list_size, e]
  exact hg
theorem hdR_back {s : ByteArray} {r : List UInt8} (hk : 0 ≤ (hdR s).1.kind ∧ 0 ≤ (hdR s).1.xct ∧ 0 ≤ (hdR s).1.prev ∧ 0 ≤ (hdR s).1.next ∧ 0 ≤ (hdR s).1.fresh ∧ 0 ≤ (hdR s).1.uk ∧ 0 ≤ (hdR s).1.us ∧ 0 ≤ (hdR s).1.up ∧ 0 ≤ (hdR s).1.ul ∧ 0 ≤ (hdR s).1.bs)
    {m : Nat} (hc : (cntR s).1 = m) (h : Gd (cntR s).2 r) (R : Rc) (hR : { R with ims := [], lvs := [] } = (hdR s).1) (hm : R.ims.length = m) : s.data.toList = hdB R ++ r := by
  rw [hdB_app]
  obtain ⟨k1, k2, k3, k4, k5, k6, k7, k8, k9, k10⟩ := hk
  rw [← hR] at k1 k2 k3 k4 k5 k6 k7 k8 k9 k10
  subst hm
  have G := rN_back (by omega) (by omega) hc (by omega) h
  have G := rT_back (t := R.bd) ((congrArg Rc.bd hR).symm) G
  have G := rN_back (m := R.bs) (by omega) (by omega) ((congrArg Rc.bs hR).symm) k10 G
  have G := rT_back (t := R.key) ((congrArg Rc.key hR).symm) G
  have G := rN_back (m := R.ul) (by omega) (by omega) ((congrArg Rc.ul hR).symm) k9 G
  have G := rN_back (m := R.up) (by omega) (by omega) ((congrArg Rc.up hR).symm) k8 G
  have G := rN_back (m := R.us) (by omega) (by omega) ((congrArg Rc.us hR).symm) k7 G
  have G := rN_back (m := R.uk) (by omega) (by omega) ((congrArg Rc.uk hR).symm) k6 G
  have G := rN_back (m := R.fresh) (by omega) (by omega) ((congrArg Rc.fresh hR).symm) k5 G
  have G := rN_back (m := R.next) (by omega) (by omega) ((congrArg Rc.next hR).symm) k4 G
  have G := rN_back (m := R.prev) (by omega) (by omega) ((congrArg Rc.prev hR).symm) k3 G
  have G := rN_back (m := R.xct) (by omega) (by omega) ((congrArg Rc.xct hR).symm) k2 G
  have G := rN_back (m := R.kind) (by omega) (by omega) ((congrArg Rc.kind hR).symm) k1 G
  exact G.2
theorem imgsR_back : ∀ (n : Nat) {σ : St} (acc : List (Int × Pg)) {l : List (Int × Pg)} {τ : St} {r : List UInt8}, imgsR n σ acc = some (l, τ) → Gd τ r → (∀ x ∈ l, 0 ≤ x.1) → ∃ l', l = acc ++ l' ∧ l'.length = n ∧ Gd σ (l'.flatMap imB ++ r)
  | 0, σ, acc, l, τ, r, e, hg, _ => by
    simp only [imgsR, Option.some.injEq, Prod.mk.injEq] at e
    obtain ⟨rfl, rfl⟩ := e
    exact ⟨[], by simp, rfl, hg⟩
  | n + 1, σ, acc, l, τ, r, e, hg, h0 => by
    rw [imgsR] at e
    split at e
    · rename_i hb
      simp only [Option.some.injEq, Prod.mk.injEq] at e
      obtain ⟨rfl, rfl⟩ := e
      rw [hg.1] at hb; cases hb
    · split at e
      · rename_i hb hd
        obtain ⟨l', rfl, hl, G⟩ := imgsR_back n _ e hg h0
        refine ⟨((rN 4 σ).1, decP (rB (rN 4 σ).2).1) :: l', by simp, by simp [hl], ?_⟩
        rw [List.flatMap_cons, imB, List.append_assoc, List.append_assoc]
        dsimp only
        rw [enc_dec hd]
        obtain ⟨a, r', ha, G1, e1, G2⟩ := bytes_good (σ := (rN 4 σ).2) (n := 224) G.1
        have er : r' = l'.flatMap imB ++ r := G2.2.symm.trans G.2
        subst er
        have ea : (rB (rN 4 σ).2).1.data.toList = a := e1
        rw [ea]
        exact rN_back (by omega) (by omega) rfl (h0 ((rN 4 σ).1, decP (rB (rN 4 σ).2).1) (by simp)) G1
      · cases e
theorem livesR_back : ∀ (n : Nat) {σ : St} (acc : List (Int × Int × Int)) {l : List (Int × Int × Int)} {τ : St} {r : List UInt8}, livesR n σ acc = (l, τ) → Gd τ r → (∀ x ∈ l, 0 ≤ x.1 ∧ 0 ≤ x.2.1 ∧ 0 ≤ x.2.2) → ∃ l', l = acc ++ l' ∧ l'.length = n ∧ Gd σ (l'.flatMap lvB ++ r)
  | 0, σ, acc, l, τ, r, e, hg, _ => by
    simp only [livesR, Prod.mk.injEq] at e
    obtain ⟨rfl, rfl⟩ := e
    exact ⟨[], by simp, rfl, hg⟩
  | n + 1, σ, acc, l, τ, r, e, hg, h0 => by
    rw [livesR] at e
    split at e
    · rename_i hb
      simp only [Prod.mk.injEq] at e
      obtain ⟨rfl, rfl⟩ := e
      rw [hg.1] at hb; cases hb
    · obtain ⟨l', rfl, hl, G⟩ := livesR_back n _ e hg h0
      refine ⟨_ :: l', (List.append_assoc ..).trans rfl, by simp [hl], ?_⟩
      obtain ⟨p1, p2, p3⟩ := h0 ((rN 4 σ).1, (rN 8 (rN 4 σ).2).1, (rN 8 (rN 8 (rN 4 σ).2).2).1) (by simp)
      rw [List.flatMap_cons, lvB, List.append_assoc, List.append_assoc, List.append_assoc]
      exact rN_back (by omega) (by omega) rfl p1 (rN_back (by omega) (by omega) rfl p2 (rN_back (by omega) (by omega) rfl p3 G))
theorem rN1_range (σ : St) : 0 ≤ (rN 1 σ).1 ∧ (rN 1 σ).1 ≤ 255 := by
  have h : 0 ≤ (rdNum σ.1 σ.2 1).1 ∧ (rdNum σ.1 σ.2 1).1 < 256 := rdNum_range σ.1 σ.2 1
  show 0 ≤ clip (rdNum σ.1 σ.2 1).1 ∧ clip (rdNum σ.1 σ.2 1).1 ≤ 255
  rw [clip_in (by omega)]
  omega
theorem decR_back {s : ByteArray} {R : Rc} (h : decR s = some R) : RcOk R ∧ rcS R = s := by
  unfold decR at h
  split at h
  · cases h
  · rename_i x hx
    obtain ⟨ims, σ⟩ := x
    unfold tailR at h
    dsimp only at h
    obtain ⟨L, eL⟩ : ∃ L, livesR (rN 1 σ).1.toNat (rN 1 σ).2 [] = L := ⟨_, rfl⟩
    rw [eL] at h
    obtain ⟨lvs, τ⟩ := L
    unfold endR at h
    dsimp only at h
    split at h
    · rename_i hc
      obtain ⟨h1, h2, hok⟩ := hc
      obtain rfl := Option.some.inj h
      refine ⟨hok, ?_⟩
      obtain ⟨q0, q1⟩ := rN1_range σ
      obtain ⟨c0, c1⟩ := rN1_range (hdR s).2
      have G0 : Gd τ [] := ⟨h1, List.eq_nil_of_length_eq_zero (by rw [list_size]; exact h2)⟩
      obtain ⟨l', el, hl, G⟩ := livesR_back _ [] eL G0 (fun x hx => by
        have := hok.2.2 x hx
        exact ⟨this.1.1, this.2.1.1, this.2.2.1⟩)
      rw [List.nil_append] at el
      subst el
      have G := rN_back (m := (lvs.length : Int)) (by omega) (by omega) (by rw [hl]; omega) (by omega) G
      obtain ⟨i', ei, hi, G⟩ := imgsR_back _ [] hx G (fun x hx => (hok.2.1 x hx).1.1)
      rw [List.nil_append] at ei
      subst ei
      obtain ⟨⟨a1, a2⟩, ⟨b1, b2⟩, ⟨c1, c2⟩, ⟨d1, d2⟩, ⟨e1, e2⟩, ⟨f1, f2⟩, ⟨g1, g2⟩, ⟨i1, i2⟩, ⟨j1, j2⟩, k, ⟨l1, l2⟩, m, n, o⟩ := hok.1
      have hcnt : (cntR s).1 = ims.length := by
        show (rN 1 (hdR s).2).1 = _
        have : ((cntR s).1.toNat : Int) = (cntR s).1 := Int.toNat_of_nonneg c0
        rw [hi, this]; rfl
      have := hdR_back (s := s) ⟨Int.le_trans (by decide) a1, b1, c1, d1, e1, f1, g1, i1, j1, l1⟩ hcnt G { (hdR s).1 with ims := ims, lvs := lvs } rfl rfl
      apply ba_ext
      rw [rcS_list, this]
      simp only [rcL, List.append_assoc, List.append_nil]
    · cases h
/-! ### there and back, and what is not -/
theorem rcL_inj {R Q : Rc} (hR : RcOk R) (hQ : RcOk Q) (h : rcS R = rcS Q) : SameRc R Q := by
  obtain ⟨R', h1, e1⟩ := decR_go hR (s := rcS R) (z := []) (by rw [rcS_list, List.append_nil])
  obtain ⟨Q', h2, e2⟩ := decR_go hQ (s := rcS R) (z := []) (by rw [h, rcS_list, List.append_nil])
  rw [if_pos rfl] at e1 e2
  rw [e1] at e2
  obtain rfl := Option.some.inj e2
  exact h1.symm.trans h2
theorem imB_congr {x y : Int × Pg} (h : imC x = imC y) : imB x = imB y := by
  unfold imC at h
  obtain ⟨e1, e2⟩ := Prod.mk.inj h
  unfold imB
  rw [e1, pageS_congr e2]
theorem flat_congr : ∀ (l m : List (Int × Pg)), l.map imC = m.map imC → l.flatMap imB = m.flatMap imB
  | [], [], _ => rfl
  | x :: l, y :: m, h => by
    simp only [List.map_cons, List.cons.injEq] at h
    rw [List.flatMap_cons, List.flatMap_cons, imB_congr h.1, flat_congr l m h.2]
  | [], _ :: _, h => by simp at h
  | _ :: _, [], h => by simp at h
theorem rcS_congr {R Q : Rc} (h : SameRc R Q) : rcS R = rcS Q := by
  obtain ⟨a1, a2, a3, a4, a5, a6, a7, a8, a9, a10, a11, a12, a13, a14⟩ := h
  have hl : R.ims.length = Q.ims.length := by simpa using congrArg List.length a13
  apply ba_ext
  rw [rcS_list, rcS_list]
  unfold rcL hdB
  rw [a1, a2, a3, a4, a5, a6, a7, a8, a9, a10, a11, a12, a14, hl, flat_congr _ _ a13]
theorem rcS_iff {R Q : Rc} (hR : RcOk R) (hQ : RcOk Q) : rcS R = rcS Q ↔ SameRc R Q := ⟨rcL_inj hR hQ, rcS_congr⟩
theorem dec_same {R : Rc} (h : RcOk R) : ∃ Q, decR (rcS R) = some Q ∧ SameRc Q R := by
  obtain ⟨Q, h1, e1⟩ := decR_go h (s := rcS R) (z := []) (by rw [rcS_list, List.append_nil])
  rw [if_pos rfl] at e1
  exact ⟨Q, e1, h1⟩
theorem dec_more {R : Rc} (h : RcOk R) (z : ByteArray) (hz : z.size ≠ 0) : decR (rcS R ++ z) = none := by
  obtain ⟨Q, h1, e1⟩ := decR_go h (s := rcS R ++ z) (z := z.data.toList) (by rw [ByteArray.data_append, Array.toList_append, rcS_list])
  rw [if_neg (fun e => hz (by rw [← list_size, e]; rfl))] at e1
  exact e1
theorem dec_less {R : Rc} (h : RcOk R) (n : Nat) (hn : n < (rcS R).size) : decR ((rcS R).extract 0 n) = none := by
  cases e : decR ((rcS R).extract 0 n) with
  | none => rfl
  | some Q =>
    obtain ⟨hQ, e2⟩ := decR_back e
    have h3 := dec_more hQ ((rcS R).extract n (rcS R).size) (by rw [ByteArray.size_extract]; omega)
    have h4 : rcS Q ++ (rcS R).extract n (rcS R).size = rcS R := by
      rw [e2]
      apply ba_ext
      rw [ByteArray.data_append, Array.toList_append, ext_list, ext_list, List.drop_zero, Nat.sub_zero, ← list_size, ← List.length_drop, List.take_length, List.take_append_drop]
    rw [h4] at h3
    obtain ⟨T, e5, _⟩ := dec_same h
    rw [e5] at h3
    cases h3
end Go.Proofs.YtimomjheanfbmaaGreatDoor
