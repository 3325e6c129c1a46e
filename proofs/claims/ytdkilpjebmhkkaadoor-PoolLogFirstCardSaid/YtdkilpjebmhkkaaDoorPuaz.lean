import Derived.Test.YtdkilpjebmhkkaaDoorPtaz
set_option linter.unusedSimpArgs false
set_option linter.unusedVariables false
namespace Go.Proofs.YtdkilpjebmhkkaaDoor
open Go.RowKit

/-! ### plain law: what a device's pages may be, whenever it gives out -/
def PgP (pts : List (PCall × Int)) (bd : Int) (p : Nat) (d : ByteArray) : Prop := ∀ id j, id < 6 → j < 4 → p = 128 + 4 * id + j → ∃ (P : Pg) (st : Int), PgOk P ∧ d = sec (pageS P) st j ∧ ((P = pageZ ∧ st = 0) ∨ ∃ x ∈ pts, x.1.id = (id : Int) ∧ x.1.pg = P ∧ x.2 = st ∧ st < bd)
theorem PgP.mono {pts pts' : List (PCall × Int)} {bd bd' : Int} {p : Nat} {d : ByteArray} (h : PgP pts bd p d) (hp : ∀ x ∈ pts, x ∈ pts') (hb : bd ≤ bd') : PgP pts' bd' p d := fun id j hid hj he => by
  obtain ⟨P, st, h1, h2, h3 | ⟨x, h3, h4, h5, h6, h7⟩⟩ := h id j hid hj he
  · exact ⟨P, st, h1, h2, .inl h3⟩
  · exact ⟨P, st, h1, h2, .inr ⟨x, hp x h3, h4, h5, h6, by omega⟩⟩
theorem lenL_mono (rs : List ByteArray) {i j : Nat} (h : i ≤ j) : lenL (rs.take i) ≤ lenL (rs.take j) := by
  have := lenL_take_le (rs.take j) i
  rwa [List.take_take, Nat.min_eq_left h] at this
theorem lenL_lt (rs : List ByteArray) {m : Nat} (h : m < rs.length) : lenL (rs.take m) + 2 ≤ lenL (rs.take (m + 1)) := by
  rw [List.take_add_one, List.getElem?_eq_getElem h, Option.toList_some, lenL_append, lenL, lenL]; omega
structure LInv (pts : List (PCall × Int)) (rs : List ByteArray) (i0 : Nat) (D : Dev) (l : List Slot) : Prop where
  all : AllP (PgP pts ((54 + lenL (rs.take i0) : Nat) : Int)) D
  dty : ∀ (j : Nat) (s : Slot), l[j]? = some s → s.dirty = true → ∃ x ∈ pts, x.1.id = s.id ∧ x.1.pg = s.P ∧ x.2 = s.st
  pok : ∀ x ∈ pts, PgOk x.1.pg ∧ 0 ≤ x.1.id ∧ x.1.id < 6 ∧ ∃ m, m < rs.length ∧ x.2 = ((54 + lenL (rs.take m) : Nat) : Int)
  asc : pts.Pairwise (fun x y => x.2 < y.2)
section
variable {pts : List (PCall × Int)} {rs : List ByteArray} {X : Pl} {i0 i1 : Nat} {D D' : Dev} {l : List Slot}
theorem AllP.later (h : AllP (PgP pts ((54 + lenL (rs.take i0) : Nat) : Int)) D) (hi : i0 ≤ i1) : AllP (PgP pts ((54 + lenL (rs.take i1) : Nat) : Int)) D :=
  h.mono (fun p d hp => hp.mono (fun x hx => hx) (by have := lenL_mono rs hi; omega))
theorem AllP.off {hi m : Nat} (h : AllP (PgP pts ((54 + lenL (rs.take i0) : Nat) : Int)) D) (ho : OffLaw hi m D D') (hhi : hi ≤ 128) : AllP (PgP pts ((54 + lenL (rs.take i0) : Nat) : Int)) D' :=
  ho.all _ (fun p d hp _ id j _ _ he => by omega) h
theorem wr_li (h : LInv pts rs i0 D l) {j : Nat} {s : Slot} (hs : l[j]? = some s) (hd : s.dirty = true) {c : Int} (hw : WrRel 0 128 1 P0 rs 128 s i0 D i1 D' c) : AllP (PgP pts ((54 + lenL (rs.take i1) : Nat) : Int)) D' ∧ i0 ≤ i1 := by
  obtain ⟨x, hx, e1, e2, e3⟩ := h.dty j s hs hd
  obtain ⟨ok, id0, id6, m, hm, hst⟩ := h.pok x hx
  rcases hw with ⟨hf, hc⟩ | ⟨D1, hf, hwl⟩
  · exact ⟨(h.all.later hf.le).off hf.off (by omega), hf.le⟩
  · refine ⟨hwl.all _ ((h.all.later hf.le).off hf.off (by omega)) (fun j' hj' id jj hid hjj he => ?_), hf.le⟩
    have hst2 : s.st < ((54 + lenL (rs.take i1) : Nat) : Int) := by
      rcases hf.code with ⟨_, h1 | h1, _⟩ | ⟨h1, _⟩
      · have : ((54 * 1 + P0.size + lenL (rs.take i1) : Nat) : Int) = ((54 + lenL (rs.take i1) : Nat) : Int) := by
          have : P0.size = 0 := rfl
          omega
        omega
      · have h2 := lenL_lt rs hm
        have h3 := lenL_mono rs (show m + 1 ≤ i1 by omega)
        omega
      · exact absurd h1 (by decide)
    have hidd : id = s.id.toNat ∧ jj = j' := by omega
    obtain ⟨rfl, rfl⟩ := hidd
    exact ⟨s.P, s.st, e2 ▸ ok, rfl, .inr ⟨x, hx, by rw [e1]; omega, e2, e3, hst2⟩⟩
theorem LInv.cool (h : LInv pts rs i0 D l) {l2 : List Slot} (hc : l2.map cool = l.map cool) : LInv pts rs i0 D l2 :=
  ⟨h.all, fun j s hs hd => by
    obtain ⟨t, ht, he⟩ := cool_at hc hs
    obtain ⟨e1, e2, e3, e4⟩ := cool_eq he
    obtain ⟨x, hx, q1, q2, q3⟩ := h.dty j t ht (by rw [e4]; exact hd)
    exact ⟨x, hx, by rw [q1, e1], by rw [q2, e2], by rw [q3, e3]⟩, h.pok, h.asc⟩
theorem LInv.wipe (h : LInv pts rs i0 D l) (i : Nat) (s : Slot) (hs : s.dirty = false) : LInv pts rs i0 D (l.set i s) :=
  ⟨h.all, fun j t ht hd => by
    rcases set_cases ht with ⟨_, rfl⟩ | ⟨_, ht⟩
    · rw [hs] at hd; cases hd
    · exact h.dty j t ht hd, h.pok, h.asc⟩
theorem LInv.dev (h : LInv pts rs i0 D l) (hA : AllP (PgP pts ((54 + lenL (rs.take i1) : Nat) : Int)) D') : LInv pts rs i1 D' l := ⟨hA, h.dty, h.pok, h.asc⟩
theorem place_li (h : LInv pts rs i0 D X.slots) (hb : X.base = 128) {X1 : Pl} {D1 : Dev} {cd : Int} {at_ : Nat} (hp : PlaceRel 0 128 1 P0 rs X i0 D X1 i1 D1 cd at_) : LInv pts rs i1 D1 X1.slots ∧ i0 ≤ i1 := by
  cases hp with
  | grow _ =>
    refine ⟨⟨h.all, fun j t ht hd => ?_, h.pok, h.asc⟩, Nat.le_refl _⟩
    rcases app_cases ht with ⟨_, rfl⟩ | ht
    · cases hd
    · exact h.dty j t ht hd
  | keep l at_ s hd _ hc _ _ => exact ⟨(h.cool hc).wipe _ _ rfl, Nat.le_refl _⟩
  | wrote l at_ s hd _ _ _ hc hs hdd hw =>
    rw [hb] at hw
    obtain ⟨h1, h2⟩ := wr_li (h.cool hc) hs hdd hw
    exact ⟨((h.cool hc).dev h1).wipe _ _ rfl, h2⟩
  | fail l at_ s hd _ _ _ hc hs hdd hw =>
    rw [hb] at hw
    obtain ⟨h1, h2⟩ := wr_li (h.cool hc) hs hdd hw
    exact ⟨(h.cool hc).dev h1, h2⟩
theorem get_li (h : LInv pts rs i0 D X.slots) (hb : X.base = 128) {id : Int} {Q : Pg} {c : Int} {X1 : Pl} {D1 : Dev} (hg : GetRel 0 128 1 P0 rs X i0 D id Q c X1 i1 D1) : LInv pts rs i1 D1 X1.slots ∧ i0 ≤ i1 := by
  cases hg with
  | wrong _ => exact ⟨h, Nat.le_refl _⟩
  | hit i s _ _ hs _ =>
    refine ⟨⟨h.all, fun j t ht hd => ?_, h.pok, h.asc⟩, Nat.le_refl _⟩
    rcases set_cases ht with ⟨_, rfl⟩ | ⟨_, ht⟩
    · exact h.dty i s hs hd
    · exact h.dty j t ht hd
  | bad _ _ _ _ _ _ _ _ => exact ⟨h, Nat.le_refl _⟩
  | full _ _ _ _ _ _ _ _ _ _ _ hp _ => exact place_li h hb hp
  | got _ _ X1 _ _ _ _ _ _ _ hp =>
    obtain ⟨h1, h2⟩ := place_li h hb hp
    exact ⟨h1.wipe _ _ rfl, h2⟩
theorem put_li (h : LInv pts rs i0 D X.slots) (hb : X.base = 128) {id : Int} {x : Pg} {st : Int} {c : Int} {X1 : Pl} {D1 : Dev} (hx : ∃ y ∈ pts, y.1.id = id ∧ y.1.pg = x ∧ y.2 = st) (hg : PutRel 0 128 1 P0 rs X i0 D id x st c X1 i1 D1) : LInv pts rs i1 D1 X1.slots ∧ i0 ≤ i1 := by
  have put : ∀ {l : List Slot} {i1 : Nat} {D1 : Dev} {i : Nat}, LInv pts rs i1 D1 l → LInv pts rs i1 D1 (l.set i { id := id, P := x, st := st, dirty := true, warm := true }) := fun h1 =>
    ⟨h1.all, fun j t ht hd => by
      rcases set_cases ht with ⟨_, rfl⟩ | ⟨_, ht⟩
      · exact hx
      · exact h1.dty j t ht hd, h1.pok, h1.asc⟩
  cases hg with
  | bad _ => exact ⟨h, Nat.le_refl _⟩
  | over i s _ _ _ _ hs _ => exact ⟨put h, Nat.le_refl _⟩
  | full _ _ _ _ _ _ _ _ _ _ hp _ => exact place_li h hb hp
  | new X1 _ _ _ _ _ _ _ _ hp =>
    obtain ⟨h1, h2⟩ := place_li h hb hp
    exact ⟨put h1, h2⟩
theorem fs_li (h : LInv pts rs i0 D X.slots) (hb : X.base = 128) {k : Nat} {l : List Slot} {D1 : Dev} (hf : FsRel 0 128 1 P0 rs X i0 D k l i1 D1) : LInv pts rs i1 D1 l ∧ i0 ≤ i1 := by
  induction hf with
  | zero => exact ⟨h, Nat.le_refl _⟩
  | skip k l i1 D1 s h h1 h2 ih => exact ih
  | wrote k l i1 D1 s i2 D2 h h1 h2 h3 ih =>
    rw [hb] at h3
    obtain ⟨q1, q2⟩ := wr_li ih.1 h1 h2 h3
    exact ⟨(ih.1.dev q1).wipe _ _ rfl, by have := ih.2; omega⟩
theorem flush_li (h : LInv pts rs i0 D X.slots) (hb : X.base = 128) {c : Int} {l : List Slot} {D1 : Dev} (hf : FlushRel 0 128 1 P0 rs X i0 D c l i1 D1) : LInv pts rs i1 D1 l ∧ i0 ≤ i1 := by
  cases hf with
  | fail k l i2 D2 s _ _ hfs hs hd hw =>
    rw [hb] at hw
    obtain ⟨h1, h2⟩ := fs_li h hb hfs
    obtain ⟨q1, q2⟩ := wr_li h1 hs hd hw
    exact ⟨h1.dev q1, by omega⟩
  | done l i1 D2 hfs hok =>
    obtain ⟨h1, h2⟩ := fs_li h hb hfs
    exact ⟨h1.dev (h1.all.barrier hok.2.2.1), h2⟩
theorem LInv.push (h : LInv pts rs i0 D l) (hi : i0 ≤ rs.length) (r : ByteArray) : LInv pts (rs ++ [r]) i0 D l := by
  refine ⟨by rw [List.take_append_of_le_length hi]; exact h.all, h.dty, fun x hx => ?_, h.asc⟩
  obtain ⟨h1, h2, h3, m, h4, h5⟩ := h.pok x hx
  exact ⟨h1, h2, h3, m, by rw [List.length_append]; omega, by rw [List.take_append_of_le_length (by omega)]; exact h5⟩
theorem LInv.add {r : ByteArray} (h : LInv pts rs i0 D l) (hi : i0 ≤ rs.length) (c : PCall) (hc : PgOk c.pg) (h0 : 0 ≤ c.id) (h6 : c.id < 6) : LInv (pts ++ [(c, ((54 + lenL rs : Nat) : Int))]) (rs ++ [r]) i0 D l := by
  have hp := h.push hi r
  refine ⟨hp.all.mono (fun p d hq => hq.mono (fun x hx => List.mem_append_left _ hx) (by omega)), fun j s hs hd => ?_, fun x hx => ?_, ?_⟩
  · obtain ⟨x, hx, q⟩ := h.dty j s hs hd
    exact ⟨x, List.mem_append_left _ hx, q⟩
  · rw [List.mem_append, List.mem_singleton] at hx
    rcases hx with hx | rfl
    · exact hp.pok x hx
    · exact ⟨hc, h0, h6, rs.length, by rw [List.length_append]; simp, by rw [List.take_left']; rfl⟩
  · rw [List.pairwise_append]
    refine ⟨h.asc, List.pairwise_singleton _ _, fun x hx y hy => ?_⟩
    have := List.mem_singleton.1 hy
    subst this
    obtain ⟨_, _, _, m, h4, h5⟩ := h.pok x hx
    have h2 := lenL_lt rs h4
    have h3 := lenL_take_le rs (m + 1)
    show x.2 < ((54 + lenL rs : Nat) : Int)
    omega
end
/-- what a page may be behind a crash -/
theorem open_li {pts : List (PCall × Int)} {bd : Int} {D : Dev} (hA : AllP (PgP pts bd) D) (hpk : ∀ x ∈ pts, PgOk x.1.pg ∧ 54 ≤ x.2 ∧ x.2 ≤ 1152921504606846976) (hs : pts.Pairwise (fun x y => x.2 < y.2)) (id : Nat) (hid : id < 6) (hl : 152 ≤ D.seen.length) :
    opn D (128 + 4 * id) = (⟨#[]⟩, 0, 30) ∨ ∃ (P : Pg) (st : Int), PgOk P ∧ 0 ≤ st ∧ st ≤ 1152921504606846976 ∧ opn D (128 + 4 * id) = (pageS P, st, 0) ∧ ((P = pageZ ∧ st = 0) ∨ (st ≠ 0 ∧ ∃ x ∈ pts, x.1.id = (id : Int) ∧ x.1.pg = P ∧ x.2 = st ∧ st < bd)) := by
  have key : ∀ j, j < 4 → ∃ (P : Pg) (st : Int), PgOk P ∧ D.at (128 + 4 * id + j) = sec (pageS P) st j ∧ 0 ≤ st ∧ st ≤ 1152921504606846976 ∧ ((P = pageZ ∧ st = 0) ∨ (st ≠ 0 ∧ ∃ x ∈ pts, x.1.id = (id : Int) ∧ x.1.pg = P ∧ x.2 = st ∧ st < bd)) := fun j hj => by
    obtain ⟨P, st, h1, h2, h3⟩ := hA.2.1 (128 + 4 * id + j) (by omega) id j hid hj rfl
    refine ⟨P, st, h1, h2, ?_⟩
    rcases h3 with ⟨rfl, rfl⟩ | ⟨x, h3, h4, h5, h6, h7⟩
    · exact ⟨Int.le_refl _, by decide, .inl ⟨rfl, rfl⟩⟩
    · have := hpk x h3
      exact ⟨by omega, by omega, .inr ⟨by omega, x, h3, h4, h5, h6, h7⟩⟩
  have huni : ∀ {x y : PCall × Int}, x ∈ pts → y ∈ pts → x.2 = y.2 → x = y := by
    intro x y hx hy he
    obtain ⟨i, hi, rfl⟩ := List.getElem_of_mem hx
    obtain ⟨j, hj, rfl⟩ := List.getElem_of_mem hy
    have hp := List.pairwise_iff_getElem.1 hs
    rcases Nat.lt_trichotomy i j with h | h | h
    · have := hp i j hi hj h; omega
    · subst h; rfl
    · have := hp j i hj hi h; omega
  obtain ⟨P0', t0, k0, d0, a0, b0, c0⟩ := key 0 (by omega)
  obtain ⟨P1', t1, k1, d1, a1, b1, c1⟩ := key 1 (by omega)
  obtain ⟨P2', t2, k2, d2, a2, b2, c2⟩ := key 2 (by omega)
  obtain ⟨P3', t3, k3, d3, a3, b3, c3⟩ := key 3 (by omega)
  have same : ∀ {P Q : Pg} {s t : Int}, ((P = pageZ ∧ s = 0) ∨ (s ≠ 0 ∧ ∃ x ∈ pts, x.1.id = (id : Int) ∧ x.1.pg = P ∧ x.2 = s ∧ s < bd)) → ((Q = pageZ ∧ t = 0) ∨ (t ≠ 0 ∧ ∃ x ∈ pts, x.1.id = (id : Int) ∧ x.1.pg = Q ∧ x.2 = t ∧ t < bd)) → s = t → P = Q := by
    intro P Q s t h1 h2 he
    rcases h1 with ⟨rfl, rfl⟩ | ⟨q0, x, q1, q2, q3, q4, _⟩
    · rcases h2 with ⟨rfl, _⟩ | ⟨r0, _⟩
      · rfl
      · exact absurd he.symm r0
    · rcases h2 with ⟨_, r0⟩ | ⟨_, y, r1, r2, r3, r4, _⟩
      · exact absurd (he.trans r0) q0
      · have := huni q1 r1 (by omega)
        subst this
        rw [← q3, ← r3]
  rw [Nat.add_zero] at d0
  unfold opn
  rw [d0, d1, d2, d3]
  have hm := frOpen_mix (pageS P0') (pageS P1') (pageS P2') (pageS P3') t0 t1 t2 t3 (pageS_size k0) (pageS_size k1) (pageS_size k2) (pageS_size k3) ⟨a0, by omega⟩ ⟨a1, by omega⟩ ⟨a2, by omega⟩ ⟨a3, by omega⟩
  by_cases hall : t1 = t0 ∧ t2 = t0 ∧ t3 = t0
  · obtain ⟨rfl, rfl, rfl⟩ := hall
    obtain rfl := same c0 c1 rfl
    obtain rfl := same c0 c2 rfl
    obtain rfl := same c0 c3 rfl
    exact .inr ⟨_, _, k0, a0, b0, frOpen_sec _ _ (pageS_size k0) a0 (by rw [show (256 : Int) ^ 8 = 18446744073709551616 by decide]; omega), c0⟩
  · exact .inl (hm.2 hall)
end Go.Proofs.YtdkilpjebmhkkaaDoor
