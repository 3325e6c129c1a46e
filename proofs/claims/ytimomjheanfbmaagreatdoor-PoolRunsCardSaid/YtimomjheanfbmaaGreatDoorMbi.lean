import Derived.Test.YtimomjheanfbmaaGreatDoorMbh
import Derived.Test.YtimomjheanfbmaaGreatDoorMab
import Derived.Test.YtimomjheanfbmaaGreatDoorMan
set_option linter.unusedSimpArgs false
set_option linter.unusedVariables false
namespace Go.Proofs.YtimomjheanfbmaaGreatDoor
open Go.RowKit

theorem Kq.mono {w0 w : World} {L : List Nat} {p lp dp pg : Nat} {rs : List ByteArray} {M : Nat → Pg × Int} {N N' : Nat} (h : Kq w0 w L p lp dp pg rs M N) (hN : N ≤ N') (h2 : N' ≤ 4 * rs.length + 100) : Kq w0 w L p lp dp pg rs M N' :=
  let ⟨i0, X, sv, S, Sl, Sd, D, h1, h3⟩ := h
  ⟨i0, X, sv, S, Sl, Sd, D, ⟨h1.pw, h1.inv, h1.up, let ⟨m, a, b⟩ := h1.pot; ⟨m, a, by omega⟩, h2, h1.fr, h1.loc, h1.bel, h1.b128⟩, h3⟩
theorem sec_zero : ∀ i, i < 4 → sec (pageS pageZ) 0 i = zeros 64 := by
  have h : (sec (pageS pageZ) 0 0).data = (zeros 64).data ∧ (sec (pageS pageZ) 0 1).data = (zeros 64).data ∧ (sec (pageS pageZ) 0 2).data = (zeros 64).data ∧ (sec (pageS pageZ) 0 3).data = (zeros 64).data := by decide +kernel
  intro i hi
  match i, hi with
  | 0, _ => exact ByteArray.ext h.1
  | 1, _ => exact ByteArray.ext h.2.1
  | 2, _ => exact ByteArray.ext h.2.2.1
  | 3, _ => exact ByteArray.ext h.2.2.2
theorem pageZ_ok : PgOk pageZ := ⟨⟨by decide, by decide, by decide, by decide, by decide, by decide, by decide, by decide⟩, fun i hi => ⟨Int.le_refl 0, by show (0 : Int) ≤ 2; decide, by show (ByteArray.size ⟨#[]⟩) ≤ 34; decide, fun _ => rfl⟩⟩
def M0 : Nat → Pg × Int := fun _ => (pageZ, 0)
theorem new_at (N p : Nat) (hp : p < N) : (Dev.new N).at p = zeros 64 := by
  unfold Dev.at Dev.new
  rw [List.getD_eq_getElem?_getD, List.getElem?_replicate, if_pos hp]; rfl
theorem pinv_new (N : Nat) (base pages room : Nat) (h : base + 4 * pages ≤ N) : PInv { base := base, pages := pages, room := room, slots := [], hand := 0 } (Dev.new N) M0 := by
  refine ⟨fun i j s t hs => by simp at hs, fun i s hs => by simp at hs, fun i s hs => by simp at hs, fun _ id hid _ i hi => ?_, fun id _ => ⟨pageZ_ok, Int.le_refl 0, by show (0 : Int) ≤ 1152921504606846976; decide⟩⟩
  have hid : id < pages := hid
  rw [new_at N _ (by show base + 4 * id + i < N; omega)]
  exact (sec_zero i hi).symm
/-- a log over a new device -/
structure Lk (w0 w : World) (L : List Nat) (lp dp N0 : Nat) (Sl Sd : List Nat) : Prop where
  ws : Ws w lp dp 0 128 1 P0 [] 0 Sl Sd (Dev.new N0)
  fr : ∀ k, k ∈ Sl ∨ k ∈ Sd → w0.heap.size ≤ k ∧ k ∉ L
  loc : ∀ k ∈ L, k < w.heap.size
  bel : Below w0.heap.size w0 w
theorem lk_create {w0 w : World} {L : List Nat} {dp N0 : Nat} {Sd : List Nat} (hN : N0 ≤ 16384) (h3 : 128 ≤ N0) (hd : DiskAt w dp (Dev.new N0) Sd) (fr : ∀ k ∈ Sd, w0.heap.size ≤ k ∧ k ∉ L) (loc : ∀ k ∈ L, k < w.heap.size) (bel : Below w0.heap.size w0 w) :
    Calls Tryz.prog 21 #[.pointer (some ⟨dp, 0, none⟩), .int .i64 0, .int .i64 128] w fun e w' => ∃ lp Sl Sd', e = .returned (.tuple #[.pointer (some ⟨lp, 0, none⟩), .int .i64 0]) ∧ Lk w0 w' L lp dp N0 Sl Sd' ∧ Keeps (Own w0 L) w w' := by
  refine (wal_create0 dp N0 Sd hN h3 w hd).mono fun e w' ⟨lp, Sl, Sd', he, hl, hd', hk, hS, hSd⟩ => ?_
  have hko : Keeps (Own w0 L) w w' := hk.mono (fun k _ hk' => fr k hk')
  refine ⟨lp, Sl, Sd', he, ⟨⟨hl, hd', new_has N0 0 (by omega) (by omega), fun k hk => (hS k hk).2, (fun x hx => by cases hx), Nat.le_refl _, by decide, by decide, SoftOk.none rfl⟩, fun k hk' => ?_, fun k hk' => Nat.lt_of_lt_of_le (loc k hk') hk.size, bel.trans (hko.belowB bel.size (fun k hk' => hk'.1))⟩, hko⟩
  have fresh : ∀ k, w.heap.size ≤ k → w0.heap.size ≤ k ∧ k ∉ L := fun k h3 => ⟨Nat.le_trans bel.size h3, fun h4 => by have := loc k h4; omega⟩
  rcases hk' with hk' | hk'
  · exact fresh k (hS k hk').1
  · rcases hSd k hk' with h4 | h4
    · exact fr k h4
    · exact fresh k h4
theorem lk_pool {w0 w : World} {L : List Nat} {lp dp N0 : Nat} {Sl Sd : List Nat} (h : Lk w0 w L lp dp N0 Sl Sd) (pages frames : Nat) (h1 : 1 ≤ pages) (h2 : pages ≤ 1024) (h3 : 4 ≤ frames) (h4 : frames ≤ 256) (h5 : 128 + 4 * pages ≤ N0) :
    Calls Tryz.prog 22 #[.pointer (some ⟨dp, 0, none⟩), .pointer (some ⟨lp, 0, none⟩), .int .i64 128, .int .i64 pages, .int .i64 frames] w fun e w' => ∃ p, e = .returned (.tuple #[.pointer (some ⟨p, 0, none⟩), .int .i64 0]) ∧ Kq w0 w' L p lp dp pages [] M0 0 ∧ Keeps (Own w0 L) w w' := by
  have hlen : (Dev.new N0).firm.length = N0 := List.length_replicate
  refine (pl_new h.ws 128 pages frames h1 h2 h3 h4 (by rw [hlen]; exact h5) (by omega)).mono fun e w' ⟨p, he, hp, hb, hpl⟩ => ⟨p, he, ⟨0, _, _, [p], Sl, Sd, Dev.new N0, ⟨hp, pinv_new N0 128 pages frames h5, ⟨rfl, rfl⟩, ⟨0, .inl (by simp [Dev.new]), by simp [nDirty]⟩, by simp, fun k hk => ?_, fun k hk => Nat.lt_of_lt_of_le (h.loc k hk) hb.size, bT h.bel hb, rfl⟩, rfl⟩, Keeps.of_below _ hb⟩
  rcases hk with hk | hk
  · have := List.mem_singleton.1 hk
    subst this
    exact ⟨Nat.le_trans h.bel.size hpl, fun h4 => by have := h.loc k h4; omega⟩
  · exact h.fr k hk
/-! ### awake -/
def awX : Pg := { pageZ with kind := 3, store := 1 }
theorem awX_ok : PgOk awX := ⟨⟨by decide, by decide, by decide, by decide, by decide, by decide, by decide, by decide⟩, pageZ_ok.2⟩
theorem eqPg_of {X Y : Pg} (h : pgC X = pgC Y) : eqPg X Y = true := eqPg_same h
set_option maxRecDepth 100000 in
set_option maxHeartbeats 800000 in
theorem awake12 (w : World) : Calls Tryz.prog 19 #[] w fun e w' => e = .returned (.bool true) ∧ Below w.heap.size w w' := by
  have HN := Lib.hid (dsk_new 140 (by omega) (by omega) w)
  rw [show ((140 : Nat) : Int) = 140 from rfl] at HN
  go_enter Tryz.func19, Tryz.ntmps19
  go_wp2_with fail
  refine (HN.out).mono ?_
  rintro e w1 ⟨dp, Sd, rfl, hd, hb, hS⟩
  have HC := Lib.hid (lk_create (w0 := w) (L := []) (by omega) (by omega) hd (fun k hk => ⟨hS k hk, by simp⟩) (fun k hk => by simp at hk) hb)
  clear HN hd hb hS
  go_wp2_with fail
  refine (HC.out).mono ?_
  rintro e w2 ⟨lp, Sl, Sd2, rfl, hlk, -⟩
  have HP := Lib.hid (lk_pool hlk 3 4 (by omega) (by omega) (by omega) (by omega) (by omega))
  rw [show ((3 : Nat) : Int) = 3 from rfl, show ((4 : Nat) : Int) = 4 from rfl] at HP
  clear HC hlk
  go_wp2_with fail
  refine (HP.out).mono ?_
  rintro e w3 ⟨p, rfl, hq, -⟩
  have HQ3 := Lib.hid hq
  have HN3 : Hid ((w3.alloc (.cells (pgC pageZ) 49)).heap[w3.heap.size]? = some (.cells (pgC pageZ) 49 (0, 0))) := hN rfl
  clear hq HP
  go_wp2_with (first
    | (refine wpList_store_whole rfl 49 _ _ rfl _ (pgC awX) rfl rfl _ (pgC pageZ) HN3.out rfl (by kernel_rfl) (pgC_one _) ?_; intro w4 HR4 K4; (have HQ4 : Hid (Kq w w4 [w3.heap.size] p lp dp 3 [] M0 0) := HQ3.out.more ((((Keeps.refl (fun _ => False) w3).alloc _).trans K4.out (fun j hj e => by omega)).below) [w3.heap.size] (fun k hk => by rw [List.mem_singleton.1 hk]; exact block_lt HR4.out) (fun k hk => .inr (by rw [List.mem_singleton.1 hk]; exact Nat.le_refl _))); clear HN3 HQ3 K4)
    | (refine wpList_load_row rfl 49 _ rfl _ rfl 49 _ _ _ HR4.out Tryz.underlying49 rfl (by kernel_rfl) ?_))
  have HPut := Lib.hid (kq_put HQ4.out (by simp) 1 awX (fun i hi => by show (ByteArray.size ⟨#[]⟩) ≤ maxLen; unfold maxLen; exact Nat.zero_le _) 54 (by omega))
  unfold pgV at HPut
  refine (HPut.out).mono ?_
  rintro e w5 ⟨c, M1, rfl, hq, hk, hres⟩
  obtain ⟨rfl, rfl⟩ : c = 0 ∧ M1 = upd M0 1 (awX, 54) := by
    rcases hres with ⟨_, _, _, h1, h2⟩ | ⟨h, _⟩
    · exact ⟨h1, h2⟩
    · exact absurd ⟨by omega, by decide, awX_ok⟩ h
  have HQ5 := Lib.hid hq
  have HR5 := Lib.hid (hk.keep HR4.out (fun h => h.2 (by simp)))
  clear hq hk hres HPut HQ4 HR4
  have HG1 := Lib.hid (kq_get HQ5.out 1)
  unfold pgV at HG1
  go_wp2_with fail
  refine (HG1.out).mono ?_
  rintro e w6 ⟨Q1, c, rfl, hq, hk, hres⟩
  obtain ⟨rfl, hQ1⟩ : c = 0 ∧ pgC Q1 = pgC awX := by
    rcases hres with ⟨_, _, h1, h2⟩ | ⟨h, _⟩
    · exact ⟨h1, h2⟩
    · omega
  have HQ6 := Lib.hid hq
  have HR6 := Lib.hid (hk.keep HR5.out (fun h => h.2 (by simp)))
  have hlt6 : Hid (w3.heap.size < w6.heap.size) := block_lt HR6.out
  have HN6 : Hid ((w6.alloc (.cells (pgC pageZ) 49)).heap[w6.heap.size]? = some (.cells (pgC pageZ) 49 (0, 0))) := hN rfl
  replace hQ1 := Lib.hid hQ1
  clear hq hk hres HG1 HQ5 HR5
  go_wp2_with (refine wpList_store_whole rfl 49 _ _ rfl _ (pgC Q1) rfl rfl _ (pgC pageZ) HN6.out rfl (by kernel_rfl) (pgC_one _) ?_; intro w7 HS7 K7; (have HR7 := Lib.hid (K7.keep (hO HR6.out) (by have := hlt6.out; omega))); (have HQ7 : Hid (Kq w w7 [w3.heap.size, w6.heap.size] p lp dp 3 [] (upd M0 1 (awX, 54)) (0 + 4)) := HQ6.out.more ((((Keeps.refl (fun _ => False) w6).alloc _).trans K7.out (fun j hj e => by omega)).below) [w3.heap.size, w6.heap.size] (fun k hk => by rcases List.mem_cons.1 hk with rfl | hk; exact block_lt HR7.out; rw [List.mem_singleton.1 hk]; exact block_lt HS7.out) (fun k hk => by rcases List.mem_cons.1 hk with rfl | hk; exact .inl (by simp); rw [List.mem_singleton.1 hk]; exact .inr (Nat.le_refl _))); clear HN6 HQ6 K7 HR6)
  have HG0 := Lib.hid (kq_get HQ7.out 0)
  unfold pgV at HG0
  refine (HG0.out).mono ?_
  rintro e w8 ⟨Q2, c, rfl, hq, hk, hres⟩
  obtain ⟨rfl, hQ2⟩ : c = 0 ∧ pgC Q2 = pgC pageZ := by
    rcases hres with ⟨_, _, h1, h2⟩ | ⟨h, _⟩
    · exact ⟨h1, h2⟩
    · omega
  have HB8 := Lib.hid hq.bel
  have HR8 := Lib.hid (hk.keep HR7.out (fun h => h.2 (by simp)))
  have HS8 := Lib.hid (hk.keep HS7.out (fun h => h.2 (by simp)))
  have hlt8 : Hid (w3.heap.size < w8.heap.size ∧ w6.heap.size < w8.heap.size) := ⟨block_lt HR8.out, block_lt HS8.out⟩
  have HN8 : Hid ((w8.alloc (.cells (pgC pageZ) 49)).heap[w8.heap.size]? = some (.cells (pgC pageZ) 49 (0, 0))) := hN rfl
  replace hQ2 := Lib.hid hQ2
  clear hq hk hres HG0 HQ7 HR7 HS7
  go_wp2_with (first
    | (refine wpList_store_whole rfl 49 _ _ rfl _ (pgC Q2) rfl rfl _ (pgC pageZ) HN8.out rfl (by kernel_rfl) (pgC_one _) ?_; intro w9 HT9 K9; (have HR9 := Lib.hid (K9.keep (hO HR8.out) (by have := hlt8.out; omega))); (have HS9 := Lib.hid (K9.keep (hO HS8.out) (by have := hlt8.out; omega))); (have HB9 := Lib.hid (bK (bA HB8.out) K9 (fun j hj => by have := HB8.out.size; omega))); clear HN8 K9 HR8 HS8 HB8)
    | (refine wpList_load_want (by rfl) 49 _ rfl _ rfl 49 _ _ _ HS9.out Tryz.underlying49 rfl (by kernel_rfl) ?_)
    | (refine wpList_load_want (by rfl) 49 _ rfl _ rfl 49 _ _ _ HR9.out Tryz.underlying49 rfl (by kernel_rfl) ?_)
    | (refine wpList_load_want (by rfl) 49 _ rfl _ rfl 49 _ _ _ HT9.out Tryz.underlying49 rfl (by kernel_rfl) ?_)
    | (refine wpList_eq_pg (by rfl) _ _ _ rfl Q1 awX true (eqPg_of hQ1.out) rfl rfl ?_)
    | (refine wpList_eq_pg (by rfl) _ _ _ rfl Q2 pageZ true (eqPg_of hQ2.out) rfl rfl ?_))
  go_ret
  exact ⟨rfl, HB9.out⟩
end Go.Proofs.YtimomjheanfbmaaGreatDoor

namespace Go.Proofs.YtimomjheanfbmaaGreatDoor
open Go.RowKit

/-! ### a value's cells by their kinds, whatever structs and arrays lie between -/
inductive Kd where
  | b
  | i (k : IntKind)
  | s
  | sl (t : TypeId)
def flatAll (f : TypeId → Option (List Kd)) (P : Program) : Nat → List Field → Option (List Kd)
  | _, [] => some []
  | pos, fd :: r =>
    match f fd.type, flatAll f P (pos + P.cellsOf fd.type) r with
    | some ks, some ls => if fd.offset = pos ∧ ks.length = P.cellsOf fd.type then some (ks ++ ls) else none
    | _, _ => none
def flatRep (ks : List Kd) : Nat → List Kd
  | 0 => []
  | n + 1 => ks ++ flatRep ks n
def flat (P : Program) : Nat → TypeId → Option (List Kd)
  | 0, _ => none
  | n + 1, t =>
    match P.underlying t with
    | some .bool => some [.b]
    | some (.int k) => some [.i k]
    | some .string => some [.s]
    | some (.slice _) => some [.sl t]
    | some (.struct fs) => match flatAll (flat P n) P 0 fs.toList with
      | some ks => if ks.length = P.cellsOf t then some ks else none
      | none => none
    | some (.array m e) => match flat P n e with
      | some ks => if ks.length = P.cellsOf e ∧ P.cellsOf t = m * P.cellsOf e then some (flatRep ks m) else none
      | none => none
    | _ => none
section
variable {H : Type} (enc : TypeId × Value → H) (P : Program) (W : World) (sp : Nat → Bool) (held : Bool)
def KdOk : Kd → Value → Prop
  | .b, v => ∃ x, v = .bool x
  | .i k, v => ∃ n, v = .int k n ∧ (Lit.int k n).wf = true
  | .s, v => ∃ t : ByteArray, v = .string t ∧ t.size ≤ maxLen
  | .sl t, v => (∃ a l c, v = .slice a l c) ∧ ∃ d ps, DataW.Trod enc P W 0 sp held t v d ps
def Fa : List Kd → List Value → Prop
  | [], [] => True
  | k :: ks, v :: vs => KdOk enc P W sp held k v ∧ Fa ks vs
  | _, _ => False
variable {enc P W sp held}
theorem Fa.length : ∀ {ks : List Kd} {vs : List Value}, Fa enc P W sp held ks vs → ks.length = vs.length
  | [], [], _ => rfl
  | k :: ks, v :: vs, h => by simp [Fa.length h.2]
  | [], _ :: _, h => h.elim
  | _ :: _, [], h => h.elim
theorem Fa.append : ∀ {ks : List Kd} {vs : List Value} {ks' : List Kd} {vs' : List Value}, Fa enc P W sp held ks vs → Fa enc P W sp held ks' vs' → Fa enc P W sp held (ks ++ ks') (vs ++ vs')
  | [], [], _, _, _, h' => h'
  | k :: ks, v :: vs, _, _, h, h' => ⟨h.1, Fa.append h.2 h'⟩
  | [], _ :: _, _, _, h, _ => h.elim
  | _ :: _, [], _, _, h, _ => h.elim
theorem fa_flatAll {f : TypeId → Option (List Kd)} {n : Nat}
    (ih : ∀ t ks, f t = some ks → ∀ cs y, DataW.trod enc P W 0 sp held n t cs = some y → Fa enc P W sp held ks cs) :
    ∀ (fs : List Field) (pos : Nat) (ks : List Kd), flatAll f P pos fs = some ks → ∀ cs : List Value, cs.length = pos + ks.length →
      (∀ fd ∈ fs, ∃ y, DataW.trod enc P W 0 sp held n fd.type ((cs.drop fd.offset).take (P.cellsOf fd.type)) = some y) → Fa enc P W sp held ks (cs.drop pos)
  | [], pos, ks, h, cs, hl, _ => by
    simp [flatAll] at h; subst h
    have : cs.drop pos = [] := List.drop_eq_nil_of_le (by simp at hl; omega)
    rw [this]; trivial
  | fd :: r, pos, ks, h, cs, hl, ht => by
    unfold flatAll at h
    split at h
    · rename_i k1 k2 e1 e2
      split at h
      · rename_i hc
        obtain ⟨ho, hk⟩ := hc
        simp at h; subst h
        obtain ⟨y, hy⟩ := ht fd (by simp)
        have h1 := ih _ _ e1 _ _ hy
        rw [List.length_append] at hl
        have h2 := fa_flatAll ih r (pos + P.cellsOf fd.type) k2 e2 cs (by omega) (fun g hg => ht g (by simp [hg]))
        have e : cs.drop pos = (cs.drop pos).take (P.cellsOf fd.type) ++ cs.drop (pos + P.cellsOf fd.type) := by
          rw [← List.drop_drop, List.take_append_drop]
        rw [e]
        rw [ho] at h1
        exact h1.append h2
      · cases h
    · cases h
theorem fa_flatRep {n m : Nat} {e : TypeId} {ks : List Kd} (hk : ks.length = m) :
    ∀ (c : Nat) (cs : List Value), cs.length = c * m → (∀ i, i < c → Fa enc P W sp held ks ((cs.drop (i * m)).take m)) → Fa enc P W sp held (flatRep ks c) cs
  | 0, cs, hl, _ => by
    have : cs = [] := List.eq_nil_of_length_eq_zero (by omega)
    subst this; trivial
  | c + 1, cs, hl, h => by
    have h0 := h 0 (by omega)
    rw [Nat.zero_mul, List.drop_zero] at h0
    have hr := fa_flatRep (n := n) (e := e) hk c (cs.drop m) (by rw [List.length_drop, hl, Nat.add_mul]; omega) (fun i hi => by
      have := h (i + 1) (by omega)
      rw [List.drop_drop]
      rw [show m + i * m = (i + 1) * m from by rw [Nat.add_mul]; omega]
      exact this)
    have e : cs = cs.take m ++ cs.drop m := (List.take_append_drop m cs).symm
    rw [e]
    exact h0.append hr
theorem fa_flat : ∀ (n : Nat) (t : TypeId) (ks : List Kd), flat P n t = some ks → ∀ (fuel : Nat) (cs : List Value) (y : DataW H × List MemPlace), DataW.trod enc P W 0 sp held fuel t cs = some y → Fa enc P W sp held ks cs := by
  intro n
  induction n with
  | zero => intro t ks h; simp [flat] at h
  | succ n ih =>
    intro t ks h fuel cs y hy
    unfold flat at h
    split at h
    · rename_i hu; simp at h; subst h
      obtain ⟨b, hc, _⟩ := DataW.trod_bool hu hy
      subst hc
      exact ⟨⟨b, rfl⟩, trivial⟩
    · rename_i k hu; simp at h; subst h
      obtain ⟨a, hc, _, hw⟩ := DataW.trod_int hu hy
      subst hc
      exact ⟨⟨a, rfl, hw⟩, trivial⟩
    · rename_i hu; simp at h; subst h
      obtain ⟨a, hc, _, hw⟩ := DataW.trod_string hu hy
      subst hc
      exact ⟨⟨a, rfl, hw⟩, trivial⟩
    · rename_i e hu; simp at h; subst h
      have hform : ∃ a l c, cs = [.slice a l c] := by
        rcases Deep.open_slice hu hy with ⟨hcs, _⟩ | ⟨a, l, c, _, _, _, _, hcs, _⟩
        · exact ⟨_, _, _, hcs⟩
        · exact ⟨_, _, _, hcs⟩
      obtain ⟨a, l, c, rfl⟩ := hform
      exact ⟨⟨⟨a, l, c, rfl⟩, y.1, y.2, fuel, hy⟩, trivial⟩
    · rename_i fs hu
      split at h
      · rename_i ks1 e1
        split at h
        · rename_i hk
          simp at h; subst h
          obtain ⟨xs, m, rfl, _, hl, hlen, hf⟩ := DataW.trod_struct hu hy
          have := fa_flatAll (f := flat P n) (n := m) (fun t ks h cs y hy => ih t ks h m cs y hy) fs.toList 0 ks1 e1 cs (by omega) (fun fd hfd => by
            obtain ⟨i, hi, hfi⟩ := List.getElem_of_mem hfd
            have h1 := hf i fd (by rw [← Array.getElem?_toList, List.getElem?_eq_getElem hi, hfi])
            have hi' : i < xs.length := by rw [hlen]; simpa using hi
            exact ⟨xs[i], by rw [h1, List.getElem?_eq_getElem hi']⟩)
          simpa using this
        · cases h
      · cases h
    · rename_i m e hu
      split at h
      · rename_i k1 e1
        split at h
        · rename_i hk
          simp at h; subst h
          obtain ⟨xs, f', rfl, _, hl, hlen, hf⟩ := DataW.trod_array hu hy
          refine fa_flatRep (n := n) (e := e) hk.1 m cs (by rw [hl]; exact hk.2) (fun i hi => ?_)
          have h1 := hf i hi
          have hi' : i < xs.length := by omega
          rw [List.getElem?_eq_getElem hi'] at h1
          exact ih _ _ e1 _ _ _ h1
        · cases h
      · cases h
    · cases h
end
/-- a struct or an array that came in by value -/
theorem agg_of {H : Type} {enc : TypeId × Value → H} {P : Program} {W : World} {sp : Nat → Bool} {held : Bool} {r : Reach} {base : Nat} {t : TypeId} {v : Value} {d : DataW H} {ps : List MemPlace} {ks : List Kd} (n : Nat) (hf : flat P n t = some ks)
    (hagg : (match P.underlying t with | some (.struct _) | some (.array _ _) => true | _ => false) = true) (hok : Value.okWide P W r base t v) (h : DataW.Trod enc P W 0 sp held t v d ps) :
    ∃ cs : Array Value, v = .agg cs ∧ Fa enc P W sp held ks cs.toList := by
  have hv : ∃ cs : Array Value, v = .agg cs := by
    unfold Value.okWide at hok
    split at hok
    · obtain ⟨cs, h1, _⟩ := hok; exact ⟨cs, h1⟩
    · obtain ⟨cs, h1, _⟩ := hok; exact ⟨cs, h1⟩
    · rename_i h1 h2
      split at hagg
      · rename_i hh; exact (h1 _ hh).elim
      · rename_i hh; exact (h2 _ _ hh).elim
      · cases hagg
  obtain ⟨cs, rfl⟩ := hv
  obtain ⟨fuel, hfu⟩ := h
  exact ⟨cs, rfl, fa_flat n t ks hf fuel cs.toList (d, ps) hfu⟩
end Go.Proofs.YtimomjheanfbmaaGreatDoor

namespace Go.Proofs.YtimomjheanfbmaaGreatDoor
open Go.RowKit

/-! ### a page that is handed in -/
theorem fb1 {H : Type} {enc : TypeId × Value → H} {P : Program} {W : World} {sp : Nat → Bool} {held : Bool} {k : Kd} {ks : List Kd} {cs : List Value} (h : Fa enc P W sp held (k :: ks) cs) : ∃ c r, cs = c :: r ∧ KdOk enc P W sp held k c ∧ Fa enc P W sp held ks r := by
  match cs, h with
  | c :: r, h => exact ⟨c, r, rfl, h.1, h.2⟩
theorem fb0 {H : Type} {enc : TypeId × Value → H} {P : Program} {W : World} {sp : Nat → Bool} {held : Bool} {cs : List Value} (h : Fa enc P W sp held [] cs) : cs = [] := by
  match cs, h with
  | [], _ => rfl
def PgIs (v : Value) (P : Pg) : Prop := v = pgV P ∧ ∀ i, (P.dt i).size ≤ maxLen
theorem flatPg : flat Tryz.prog 6 49 = some [.i .i64, .i .i64, .i .i64, .i .i64, .i .i64, .s, .i .i64, .s, .i .i64, .s, .i .i64, .s, .i .i64, .s, .i .i64, .s] := by kernel_rfl
set_option maxRecDepth 100000 in
theorem page_of {H : Type} {enc : TypeId × Value → H} {W : World} {base : Nat} {v : Value} {d : DataW H} {p : List MemPlace} (hok : Value.okWide Tryz.prog W .any base 49 v)
    (h : DataW.Trod enc Tryz.prog W 0 (fun _ => true) true 49 v d p) : ∃ P, PgIs v P := by
  obtain ⟨cs, rfl, hf⟩ := agg_of 6 flatPg (by rw [Tryz.underlying49]) hok h
  obtain ⟨_, r0, e0, ⟨n0, rfl, z0⟩, f0⟩ := fb1 hf
  obtain ⟨_, r1, rfl, ⟨n1, rfl, z1⟩, f1⟩ := fb1 f0
  obtain ⟨_, r2, rfl, ⟨n2, rfl, z2⟩, f2⟩ := fb1 f1
  obtain ⟨_, r3, rfl, ⟨n3, rfl, z3⟩, f3⟩ := fb1 f2
  obtain ⟨_, r4, rfl, ⟨n4, rfl, z4⟩, f4⟩ := fb1 f3
  obtain ⟨_, r5, rfl, ⟨n5, rfl, z5⟩, f5⟩ := fb1 f4
  obtain ⟨_, r6, rfl, ⟨n6, rfl, z6⟩, f6⟩ := fb1 f5
  obtain ⟨_, r7, rfl, ⟨n7, rfl, z7⟩, f7⟩ := fb1 f6
  obtain ⟨_, r8, rfl, ⟨n8, rfl, z8⟩, f8⟩ := fb1 f7
  obtain ⟨_, r9, rfl, ⟨n9, rfl, z9⟩, f9⟩ := fb1 f8
  obtain ⟨_, r10, rfl, ⟨n10, rfl, z10⟩, f10⟩ := fb1 f9
  obtain ⟨_, r11, rfl, ⟨n11, rfl, z11⟩, f11⟩ := fb1 f10
  obtain ⟨_, r12, rfl, ⟨n12, rfl, z12⟩, f12⟩ := fb1 f11
  obtain ⟨_, r13, rfl, ⟨n13, rfl, z13⟩, f13⟩ := fb1 f12
  obtain ⟨_, r14, rfl, ⟨n14, rfl, z14⟩, f14⟩ := fb1 f13
  obtain ⟨_, r15, rfl, ⟨n15, rfl, z15⟩, f15⟩ := fb1 f14
  obtain rfl := fb0 f15
  refine ⟨⟨n0, n1, n2, n3, fun i => match i with | 0 => n4 | 1 => n6 | 2 => n8 | 3 => n10 | 4 => n12 | _ => n14, fun i => match i with | 0 => n5 | 1 => n7 | 2 => n9 | 3 => n11 | 4 => n13 | _ => n15⟩, ?_, ?_⟩
  · unfold pgV pgC
    congr 1
    rw [← Array.toList_inj, e0]
    rfl
  · intro i
    dsimp only
    split <;> assumption

def CellIs (v : Value) (c : Int × ByteArray) : Prop := v = .agg #[.int .i64 c.1, .string c.2] ∧ c.2.size ≤ maxLen
theorem flatCell : flat Tryz.prog 4 33 = some [.i .i64, .s] := by kernel_rfl
set_option maxRecDepth 100000 in
theorem cell_of {H : Type} {enc : TypeId × Value → H} {W : World} {base : Nat} {v : Value} {d : DataW H} {p : List MemPlace} (hok : Value.okWide Tryz.prog W .any base 33 v)
    (h : DataW.Trod enc Tryz.prog W 0 (fun _ => true) true 33 v d p) : ∃ c, CellIs v c := by
  obtain ⟨cs, rfl, hf⟩ := agg_of 4 flatCell (by rw [Tryz.underlying33]) hok h
  obtain ⟨c0, r0, e0, ⟨n0, rfl, z0⟩, f1⟩ := fb1 hf
  obtain ⟨c1, r1, rfl, ⟨s1, rfl, z1⟩, f2⟩ := fb1 f1
  obtain rfl := fb0 f2
  have : cs = #[.int .i64 n0, .string s1] := by rw [← Array.toList_inj, e0]
  exact ⟨(n0, s1), by rw [this], z1⟩
end Go.Proofs.YtimomjheanfbmaaGreatDoor
