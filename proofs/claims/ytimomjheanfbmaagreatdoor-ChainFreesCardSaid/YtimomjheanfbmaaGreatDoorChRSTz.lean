import Derived.Test.YtimomjheanfbmaaGreatDoorMbv
set_option linter.unusedSimpArgs false
set_option linter.unusedVariables false
namespace Go.Proofs.YtimomjheanfbmaaGreatDoor
open Go.RowKit

/-! ### the log is flushed, a transaction commits -/
section
variable {w0 w w' : World} {L : List Nat} {c lp p dp pg lb mb n : Nat} {lv : Value} {σ : CS} {rs : List ByteArray} {M : Nat → Pg × Int} {N : Nat} {F : Pl → Prop}
theorem kx_flush (h : Kx w0 w L p lp dp rs M N F) (at_ : Int) :
    Calls Tryz.prog 122 #[.pointer (some ⟨lp, 0, none⟩), .int .i64 at_] w fun e w' => e = .returned (.int .i64 0) ∧ Kx w0 w' L p lp dp rs M N F ∧ Keeps (Own w0 L) w w' := by
  obtain ⟨i0, X, sv, S, Sl, Sd, D, h1, h2⟩ := h
  refine (ws_flush2 h1.pw.ws at_).mono fun e w' ⟨c, i1, Sd', D', he, hw, hk, hs, hf⟩ => ?_
  have hup := hf.off.up h1.up
  have hc : c = 0 := by
    rcases hf.code with ⟨h, _⟩ | ⟨_, h⟩
    · exact h
    · rw [hup.2] at h; cases h
  subst hc
  have hpw : Pw w' p lp dp 0 128 1 P0 rs i1 X sv S Sl Sd' D' := ⟨h1.pw.pool.keep hk (fun k hk' h' => by
    rcases h' with h' | h'
    · exact h1.pw.dl k hk' h'
    · exact h1.pw.dd k hk' h'), hw, h1.pw.dl, fun k hk' h' => by
    rcases hs k h' with h3 | h3
    · exact h1.pw.dd k hk' h3
    · have := h1.pw.pool.lt k hk'; omega, h1.pw.ring, by rw [hf.off.len]; exact h1.pw.fit⟩
  have hr := h1.pw.ring
  have hinv : PInv X D' M := ⟨h1.inv.uniq, h1.inv.hold, h1.inv.dty, fun hdn id hid hcl j hj => by
    have h3 := h1.inv.dev h1.up.2 id hid hcl j hj
    rw [← h3]
    exact hf.off.seen _ (by omega), h1.inv.mok⟩
  obtain ⟨m, p1, p2⟩ := h1.pot
  obtain ⟨k1, k2⟩ := h1.step hpw (hk.mono (fun k _ h => h.elim (fun h => .inr (.inl h)) (fun h => .inr (.inr h)))) (fun k hk' => .inl hk') hs hinv hup ⟨m, hf.softB p1, p2⟩ h1.nN rfl
  exact ⟨he, ⟨i1, X, sv, S, Sl, Sd', D', k1, h2⟩, k2⟩
theorem cx_flush (h : Cx w0 w L c lp p dp pg lb mb n lv σ) (at_ : Int) :
    Calls Tryz.prog 122 #[.pointer (some ⟨lp, 0, none⟩), .int .i64 at_] w fun e w' => e = .returned (.int .i64 0) ∧ Cx w0 w' L c lp p dp pg lb mb n lv σ ∧ Keeps (Own w0 (chL c lb mb lv ++ L)) w w' :=
  (kx_flush h.kx at_).mono fun e w' ⟨he, hx, hk⟩ => ⟨he, ⟨h.ch.keep hk (fun q hq => own_ch hq), hx, h.hi, h.most, h.ok, h.cn⟩, hk⟩
end
end Go.Proofs.YtimomjheanfbmaaGreatDoor

namespace Go.Proofs.YtimomjheanfbmaaGreatDoor
open Go.RowKit

section
variable {w0 w w' : World} {L : List Nat} {c lp p dp pg lb mb n : Nat} {lv : Value} {σ : CS}
set_option maxRecDepth 100000 in
set_option maxHeartbeats 1600000 in
theorem cx_end3 (h : Cx w0 w L c lp p dp pg lb mb n lv σ) (x : Int) (hx : 1 ≤ x ∧ x ≤ 2147483647) (i : Nat) (s : Lv) (hi : σ.lives[i]? = some s ∧ s.1 = x ∧ (∀ j s', j < i → σ.lives[j]? = some s' → s'.1 ≠ x)) (hl : 0 ≤ s.2.2 ∧ s.2.2 ≤ 10000) (hT : s.2.1 ≠ 0 → lenL σ.rs + 39 ≤ 6912) :
    Calls Tryz.prog 88 #[.pointer (some ⟨c, 0, none⟩), .int .i64 x, .int .i64 3] w fun e w' => e = .returned (.int .i64 0) ∧ Keeps (Own w0 L) w w' ∧ ∃ lv', Cx w0 w' L c lp p dp pg lb mb n lv' ((σ.last 3 x s).ended i) := by
  have H := Lib.hid h
  have HFi := Lib.hid (ch_find h.ch x)
  have hil : i < σ.lives.length := (List.getElem?_eq_some_iff.1 hi.1).1
  obtain ⟨sa, sc, hlv⟩ := h.ch.own.form
  subst hlv
  obtain ⟨g, rfl⟩ := h.ch.own.spot (by omega)
  have hfin := Lib.hid hi
  have hxk := Lib.hid hx
  have hlN := Lib.hid hl
  have hTN := Lib.hid hT
  clear h hi hx hl hT
  go_enter Tryz.func88, Tryz.ntmps88
  go_wp2_with fail
  refine (HFi.out).mono ?_
  rintro e w1 ⟨hr, hb1⟩
  obtain rfl : e = .returned (.int .i64 i) := by
    rcases hr with ⟨j, s', e1, e2, e3, he⟩ | ⟨e1, _⟩
    · have : j = i := by
        rcases Nat.lt_trichotomy j i with h | h | h
        · exact absurd e2 (hfin.out.2.2 j s' h e1)
        · exact h
        · exact absurd hfin.out.2.1 (e3 i s h hfin.out.1)
      subst this; exact he
    · exact absurd hfin.out.2.1 (e1 s (List.mem_of_getElem? hfin.out.1))
  have HX1 := Lib.hid (H.out.later hb1)
  have HK1 : Hid (Keeps (Own w0 L) w w1) := Keeps.of_below _ hb1
  have hown := HX1.out.ch.own
  have C3 : w1.cell? ⟨c, 3, none⟩ = some (.slice (some ⟨g, 0, none⟩) σ.lives.length sc) := cell_at HX1.out.ch.cell 3
  have hl1 := lv_range hown i s hfin.out.1 1 _ rfl
  have hl2 := lv_range hown i s hfin.out.1 2 _ rfl
  have hi0 : ¬ (i : Int) < 0 := by omega
  have hd0 : decide ((i : Int) < 0) = false := decide_eq_false hi0
  have hi1 : (i : Int) < σ.lives.length := by omega
  have hn8 := HX1.out.ch.len
  have hiw : IntKind.i64.wrap ((i : Int) + 1) = (i : Int) + 1 := by rw [IntKind.wrap_i64]; omega
  have hilN := Lib.hid hil
  obtain ⟨m, hm⟩ : ∃ m, σ.lives.length = m := ⟨_, rfl⟩
  rw [hm] at C3 hi1 hn8 hilN
  have hmN := Lib.hid hm
  have hn8N := Lib.hid hn8
  clear hr hb1 HFi hil hown hm hn8
  -- the last step, wherever the record has gone
  have hcut : Hid (∀ (w4 : World) (σ2 : CS), Cx w0 w4 L c lp p dp pg lb mb n (.slice (some ⟨g, 0, none⟩) σ.lives.length sc) σ2 → σ2.lives = σ.lives → Calls Tryz.prog 130 #[.slice (some ⟨g, 0, none⟩) m sc, .int .i64 i, .int .i64 ((i : Int) + 1)] w4 fun e w' => e = .returned (.slice (some ⟨g, 0, none⟩) (m - 1) sc) ∧ Keeps (Own w0 L) w4 w' ∧ w'.heap[c]? = some (.cells (chC lp p lb (.slice (some ⟨g, 0, none⟩) σ.lives.length sc) σ2.fresh) 124 (0, 0)) ∧ Cx w0 (w'.setCell ⟨c, 3, none⟩ (.slice (some ⟨g, 0, none⟩) (m - 1) sc)) L c lp p dp pg lb mb n (.slice (some ⟨g, 0, none⟩) (m - 1) sc) (σ2.ended i)) := fun w4 σ2 hx4 hlv2 => by
    have ho4 : OwnS w4 61 3 (.slice (some ⟨g, 0, none⟩) m sc) m (lvV σ.lives) := by
      have := hx4.ch.own
      rw [hlv2] at this
      rw [← hmN.out]
      exact this
    refine (ch_delete ho4 hmN.out hilN.out hn8N.out).mono fun e w' ⟨he, ho, hk⟩ => ?_
    have hgb : g ∈ blk (.slice (some ⟨g, 0, none⟩) σ.lives.length sc) := by simp [blk, Value.ownBlock]
    have hgc : c ≠ g := by
      have := hx4.ch.nd
      simp only [List.nodup_cons, List.mem_cons, not_or] at this
      exact fun e => this.1.2.2 (e ▸ hgb)
    refine ⟨he, hk.mono (fun k _ e => by subst e; exact hx4.owns (by simp [chL, hgb])), hk.keep hx4.ch.cell hgc, ?_⟩
    refine hx4.setLives (l := σ2.lives.eraseIdx i) ?_ (hk.mono (fun k _ e => by subst e; exact hgb)) (fun k hk' => .inl (by simp [blk, Value.ownBlock] at hk' ⊢; exact hk')) ?_
    · rw [hlv2, List.length_eraseIdx_of_lt (by rw [hmN.out]; exact hilN.out), hmN.out]
      exact ho
    · rw [hlv2, List.length_eraseIdx_of_lt (by rw [hmN.out]; exact hilN.out), hmN.out]
      have := hn8N.out; omega
  by_cases hfst : s.2.1 = 0
  · have hdf : (s.2.1 == 0) = true := by simpa using hfst
    have hdf2 : (s.2.1 != 0) = false := by simpa using hfst
    have hla : Hid (σ.last 3 x s = σ) := by show _ = _; unfold CS.last; rw [if_pos hfst]
    replace hfst := Lib.hid hfst
    have HD := Lib.hid (hcut.out w1 σ HX1.out rfl)
    go_wp2_with fail
    refine (HD.out).mono ?_
    rintro e w2 ⟨rfl, hk2, hc2, hx2⟩
    have HX2 := Lib.hid hx2
    have HK2 := Lib.hid (HK1.out.trans hk2 (fun _ _ h => h))
    have D3 := cell_at hc2 3
    have F3 := free_at hc2 3
    have hoc : Hid (Own w0 L c) := HX1.out.owns (by simp [chL])
    clear hx2 hk2 hc2 HD hcut HX1 HK1 hl1 hl2 C3
    go_wp2_with fail
    go_ret
    exact ⟨rfl, HK2.out.setCell _ _ (.inl hoc.out), _, by rw [hla.out]; exact HX2.out⟩
  · have hdf : (s.2.1 == 0) = false := by simpa using hfst
    have hdf2 : (s.2.1 != 0) = true := by simpa using hfst
    have hT39 := Lib.hid (hTN.out hfst)
    have hla : Hid (σ.last 3 x s = { σ with recs := σ.recs ++ [finR 3 x s.2.2] }) := by show _ = _; unfold CS.last; rw [if_neg hfst]
    have hoke : Hid (RcOk (finR 3 x s.2.2)) := end_ok (.inl rfl) ⟨by have := hxk.out.1; omega, hxk.out.2⟩ hlN.out
    replace hfst := Lib.hid hfst
    have HW := Lib.hid (cx_write HX1.out (finR 3 x s.2.2) hoke.out (by show 0 ≤ 1; omega) (fun y hy => by cases hy) nilS nilS (fun w' hk => ⟨⟨none, 0, rfl, Nat.zero_le _, fun h => absurd rfl h⟩, nil_sl w', by show 0 ≤ maxLen; omega, by show 0 ≤ maxLen; omega, fun y hy => by cases hy⟩))
    go_wp2_with fail
    refine (HW.out).mono ?_
    rintro e w2 ⟨hres, hk2⟩
    have hsz := end_size hoke.out
    have HK2 : Hid (Keeps (Own w0 L) w w2) := HK1.out.trans hk2 (fun k _ h => ⟨h.1, fun h' => h.2 (by simp [h'])⟩)
    rcases hres with ⟨hf, -⟩ | ⟨-, rfl, hx2⟩
    · exfalso
      have h1 : 6912 < lenL σ.rs + (2 + (rcS (finR 3 x s.2.2)).size) := hf
      have := hT39.out
      omega
    have HX2 : Hid (Cx w0 w2 L c lp p dp pg lb mb n (.slice (some ⟨g, 0, none⟩) σ.lives.length sc) { σ with recs := σ.recs ++ [finR 3 x s.2.2] }) := hx2
    obtain ⟨fin, hfn⟩ : ∃ f : Int, (σ.fin : Int) = f := ⟨_, rfl⟩
    rw [hfn]
    have HFl := Lib.hid (cx_flush HX2.out fin)
    have E0 : w2.cell? ⟨c, 0, none⟩ = some (.pointer (some ⟨lp, 0, none⟩)) := cell_at HX2.out.ch.cell 0
    clear hx2 hk2 HW hsz C3 hl1 hl2 HX1 HK1 hfn
    go_wp2_with fail
    refine (HFl.out).mono ?_
    rintro e wf ⟨rfl, hxf, hkf⟩
    have HXf := Lib.hid hxf
    have HKf : Hid (Keeps (Own w0 L) w wf) := HK2.out.trans hkf (fun k _ h => ⟨h.1, fun h' => h.2 (List.mem_append_right _ h')⟩)
    have HD := Lib.hid (hcut.out wf _ HXf.out rfl)
    have E3 : wf.cell? ⟨c, 3, none⟩ = some (.slice (some ⟨g, 0, none⟩) m sc) := by have := (chb_cells HXf.out.ch.cell).2.2.1; rw [hmN.out] at this; exact this
    clear hxf hkf HFl hcut HX2 HK2 E0
    go_wp2_with fail
    refine (HD.out).mono ?_
    rintro e w3 ⟨rfl, hk3, hc3, hx3⟩
    have HX3 := Lib.hid hx3
    have HK3 := Lib.hid (HKf.out.trans hk3 (fun _ _ h => h))
    have D3 := cell_at hc3 3
    have F3 := free_at hc3 3
    have hoc : Hid (Own w0 L c) := HXf.out.owns (by simp [chL])
    clear hx3 hk3 hc3 HD HXf HKf E3
    go_wp2_with fail
    go_ret
    exact ⟨rfl, HK3.out.setCell _ _ (.inl hoc.out), _, by rw [hla.out]; exact HX3.out⟩
set_option maxRecDepth 100000 in
theorem cx_commit (h : Cx w0 w L c lp p dp pg lb mb n lv σ) (x : Int) (hx : 1 ≤ x ∧ x ≤ 2147483647) (i : Nat) (s : Lv) (hi : σ.lives[i]? = some s ∧ s.1 = x ∧ (∀ j s', j < i → σ.lives[j]? = some s' → s'.1 ≠ x)) (hl : 0 ≤ s.2.2 ∧ s.2.2 ≤ 10000) (hT : s.2.1 ≠ 0 → lenL σ.rs + 39 ≤ 6912) :
    Calls Tryz.prog 35 #[.pointer (some ⟨c, 0, none⟩), .int .i64 x] w fun e w' => e = .returned (.int .i64 0) ∧ Keeps (Own w0 L) w w' ∧ ∃ lv', Cx w0 w' L c lp p dp pg lb mb n lv' ((σ.last 3 x s).ended i) := by
  have HE := Lib.hid (cx_end3 h x hx i s hi hl hT)
  clear h hx hi hl hT
  go_enter Tryz.func35, Tryz.ntmps35
  go_wp2_with fail
  refine (HE.out).mono ?_
  rintro e w2 ⟨rfl, hk, hx⟩
  have HF := Lib.hid (And.intro hk hx)
  clear hk hx HE
  go_wp2_with fail
  go_ret
  exact ⟨rfl, HF.out.1, HF.out.2⟩
end
end Go.Proofs.YtimomjheanfbmaaGreatDoor

namespace Go.Proofs.YtimomjheanfbmaaGreatDoor
open Go.RowKit

/-! ### one transaction -/
theorem und_T {x : Int} {i : Nat} {σ σ' : CS} {d : List (Int × Rc)} (h : Und x i σ d σ') : σ'.T = (σ.T.1 - 320 * d.length, σ.T.2 - d.length) := by
  induction h with
  | nil => simp
  | @snoc σ1 l t R s1 P hu hs hx hP ih =>
    show (σ1.T.1 - 320, σ1.T.2 - 1) = _
    rw [ih, List.length_append, List.length_singleton]
    exact Prod.ext (by show σ.T.1 - 320 * l.length - 320 = σ.T.1 - 320 * (l.length + 1); omega) (by show σ.T.2 - l.length - 1 = σ.T.2 - (l.length + 1); omega)
def One (σ : CS) (q : Nat) : Prop := (∃ s, σ.lives = [s] ∧ s.1 = 1) ∧ σ.T = (128 + 320 * q, q) ∧ σ.B 1 = (128 + 320 * q, q)
theorem One.begun : One (CS.init 1).begun 0 := ⟨⟨(1, 0, 0), rfl, rfl⟩, rfl, rfl⟩
theorem One.changed {σ : CS} {q : Nat} (h : One σ q) {i : Nat} {s : Lv} {u : Un} {ims : List (Int × Pg)} (hs : σ.lives[i]? = some s) (hx : s.1 = 1) : One (σ.changed 1 i s u ims) (q + 1) := by
  obtain ⟨⟨s0, h1, h2⟩, h3, h4⟩ := h
  rw [h1] at hs
  obtain ⟨rfl, rfl⟩ : i = 0 ∧ s = s0 := by
    cases i with
    | zero => exact ⟨rfl, (Option.some.inj hs).symm⟩
    | succ i => simp at hs
  refine ⟨⟨setLast s (σ.fin : Int), by show σ.lives.set 0 _ = _; rw [h1]; rfl, hx⟩, ?_, ?_⟩
  · show (σ.T.1 + 320, σ.T.2 + 1) = _
    rw [h3]; exact Prod.ext (by show 128 + 320 * q + 320 = 128 + 320 * (q + 1); omega) rfl
  · have e : (σ.changed 1 0 s u ims).B 1 = ((σ.B 1).1 + 320, (σ.B 1).2 + 1) := by show addB σ.B 1 320 1 1 = _; unfold addB; rw [if_pos rfl]
    rw [e, h4]; exact Prod.ext (by show 128 + 320 * q + 320 = 128 + 320 * (q + 1); omega) rfl
section
variable {w0 w w' : World} {L : List Nat} {c lp p dp pg lb mb n : Nat} {lv : Value} {σ : CS}
theorem cx_change_full (h : Cx w0 w L c lp p dp 6 lb mb n lv σ) (hcnt : σ.cnt < 10000000000) {f : Nat → Pg} (hok : ∀ i, i < 6 → PgOk (f i)) (x : Int) (hx : RngK x) (y : LCall) (hy : y.dt.size ≤ maxLen) (ib : Nat) (hib : ib ∈ L)
    (hi : w.heap[ib]? = some (.cells (imA ((pos6 y.page : Int), imgP f y)) 51 (0, 0))) :
    Calls Tryz.prog 15 #[.pointer (some ⟨c, 0, none⟩), .int .i64 x, .agg (unL (imgU f y)).toArray, .slice (some ⟨ib, 0, none⟩) 1 1, .int .i64 0] w fun e w' => ∃ cd n' σ', e = .returned (.int .i64 cd) ∧ Keeps (Own w0 L) w w' ∧ Cx w0 w' L c lp p dp 6 lb mb n' lv σ' ∧
      (((∀ s ∈ σ.lives, s.1 ≠ x) ∧ cd = 191 ∧ σ' = σ) ∨ ∃ i s, σ.lives[i]? = some s ∧ s.1 = x ∧ (∀ j s', j < i → σ.lives[j]? = some s' → s'.1 ≠ x) ∧
        ((¬ RcOk (chgR x s.2.2 (imgU f y) [((pos6 y.page : Int), imgP f y)]) ∧ cd = 1 ∧ σ' = σ) ∨
         (RcOk (chgR x s.2.2 (imgU f y) [((pos6 y.page : Int), imgP f y)]) ∧ ¬ Fits 320 1 σ.T (σ.free ((rcS (chgR x s.2.2 (imgU f y) [((pos6 y.page : Int), imgP f y)])).size + 2)) 1073741824 ∧ cd = 70 ∧ σ' = σ) ∨
         (RcOk (chgR x s.2.2 (imgU f y) [((pos6 y.page : Int), imgP f y)]) ∧ Fits 320 1 σ.T (σ.free ((rcS (chgR x s.2.2 (imgU f y) [((pos6 y.page : Int), imgP f y)])).size + 2)) 1073741824 ∧ cd = 0 ∧ σ' = σ.changed x i s (imgU f y) [((pos6 y.page : Int), imgP f y)]))) := by
  have hl := (pos6_eq y.page).2
  refine (cx_change h (by omega) x hx (imgU f y) (by show (1 : Int) ≠ 0; omega) (by show (0 : Nat) ≤ maxLen; omega) ?_ [((pos6 y.page : Int), imgP f y)] (by simp) ?_ ?_ _ (fun w' hk => sl_one (hk.keep hi (fun h => h.2 hib)))).mono ?_
  · have h1 := ((hok (pos6 y.page) hl).2 (pos6 y.slot) (pos6_eq _).2).2.2.1
    show ((f (pos6 y.page)).dt (pos6 y.slot)).size ≤ maxLen
    unfold maxLen; omega
  · intro z hz
    rw [List.mem_singleton.1 hz]
    show (pos6 y.page : Int) < ((6 : Nat) : Int)
    omega
  · intro z hz i hi
    rw [List.mem_singleton.1 hz]
    exact imgP_dt hok hy i hi
  · rintro e w' ⟨hk, hr⟩
    rcases hr with ⟨h0, rfl, hx'⟩ | ⟨i, s, h1, h2, h3, hr⟩
    · exact ⟨_, n, σ, rfl, hk, hx', .inl ⟨h0, rfl, rfl⟩⟩
    · rcases hr with ⟨h4, rfl, hx'⟩ | ⟨h4, h5, rfl, hx'⟩ | ⟨h4, h5, rfl, n', hx'⟩
      · exact ⟨_, n, σ, rfl, hk, hx', .inr ⟨i, s, h1, h2, h3, .inl ⟨h4, rfl, rfl⟩⟩⟩
      · exact ⟨_, n, σ, rfl, hk, hx', .inr ⟨i, s, h1, h2, h3, .inr (.inl ⟨h4, h5, rfl, rfl⟩)⟩⟩
      · exact ⟨0, n', _, rfl, hk, hx', .inr ⟨i, s, h1, h2, h3, .inr (.inr ⟨h4, h5, rfl, rfl⟩)⟩⟩
theorem cx_change_one (h : Cx w0 w L c lp p dp 6 lb mb n lv σ) (hv : Inv 6 σ) {q : Nat} (ho : One σ q) (hcnt : σ.cnt < 10000000000) {f : Nat → Pg} (hok : ∀ i, i < 6 → PgOk (f i)) (y : LCall) (hy : y.dt.size ≤ maxLen) (ib : Nat) (hib : ib ∈ L)
    (hi : w.heap[ib]? = some (.cells (imA ((pos6 y.page : Int), imgP f y)) 51 (0, 0))) :
    Calls Tryz.prog 15 #[.pointer (some ⟨c, 0, none⟩), .int .i64 1, .agg (unL (imgU f y)).toArray, .slice (some ⟨ib, 0, none⟩) 1 1, .int .i64 0] w fun e w' => ∃ cd n' σ', e = .returned (.int .i64 cd) ∧ Keeps (Own w0 L) w w' ∧ Cx w0 w' L c lp p dp 6 lb mb n' lv σ' ∧ Inv 6 σ' ∧ σ'.fresh = σ.fresh ∧ σ'.cnt ≤ σ.cnt + 1 ∧
      ((cd ≠ 0 ∧ One σ' q) ∨ (cd = 0 ∧ One σ' (q + 1) ∧ PgOk (imgP f y))) := by
  refine (cx_change_full h hcnt hok 1 ⟨by omega, by omega⟩ y hy ib hib hi).mono ?_
  rintro e w' ⟨cd, n', σ', rfl, hk, hx', hr⟩
  rcases hr with ⟨_, rfl, rfl⟩ | ⟨i, s, h1, h2, h3, hr⟩
  · exact ⟨_, n', σ', rfl, hk, hx', hv, rfl, by omega, .inl ⟨by omega, ho⟩⟩
  · rcases hr with ⟨_, rfl, rfl⟩ | ⟨_, _, rfl, rfl⟩ | ⟨h4, h5, rfl, rfl⟩
    · exact ⟨_, n', σ', rfl, hk, hx', hv, rfl, by omega, .inl ⟨by omega, ho⟩⟩
    · exact ⟨_, n', σ', rfl, hk, hx', hv, rfl, by omega, .inl ⟨by omega, ho⟩⟩
    · exact ⟨_, n', _, rfl, hk, hx', hv.changed h1 h2 (imgU_good hok y 1 s.2.2 _) h5, rfl, Nat.le_refl _, .inr ⟨rfl, ho.changed h1 h2, (h4.2.1 _ (List.mem_singleton.2 rfl)).2⟩⟩
theorem cx_begin_one (h : Cx w0 w L c lp p dp pg lb mb n lv (CS.init 1)) :
    Calls Tryz.prog 12 #[.pointer (some ⟨c, 0, none⟩)] w fun e w' => ∃ n' lv', e = .returned (.tuple #[.int .i64 1, .int .i64 0]) ∧ Keeps (Own w0 L) w w' ∧ Cx w0 w' L c lp p dp pg lb mb n' lv' (CS.init 1).begun := by
  refine (cx_begin h ⟨by show (1 : Int) ≤ 1; omega, by show (1 : Int) ≤ 2000000000; omega⟩ (by show 0 < 100000000000; omega)).mono ?_
  rintro e w' ⟨hk, hr⟩
  rcases hr with ⟨h1, _⟩ | ⟨_, h1, _⟩ | ⟨_, _, h1, n', lv', h2⟩
  · exact absurd h1 (by decide)
  · exact absurd ⟨by show 128 + 0 ≤ 6912 - lenL [] - 0; rw [lenL]; omega, by show 0 + 0 ≤ 1073741824; omega⟩ h1
  · exact ⟨n', lv', h1, hk, h2⟩
theorem inv_begun1 (pg : Nat) : Inv pg (CS.init 1).begun := (Inv.init pg 1 (by omega)).begun ⟨by show 128 + 0 ≤ 6912 - lenL [] - 0; rw [lenL]; omega, by show 0 + 0 ≤ 1073741824; omega⟩
/-- the only transaction is taken back -/
theorem cx_abort_one (h : Cx w0 w L c lp p dp pg lb mb n lv σ) (hv : Inv pg σ) {q : Nat} (ho : One σ q) (hcnt : σ.cnt < 10000000000) (hpg : pg ≤ 1024) :
    Calls Tryz.prog 36 #[.pointer (some ⟨c, 0, none⟩), .int .i64 1, kitV p] w fun e w' => e = .returned (.int .i64 0) ∧ Keeps (Own w0 L) w w' ∧ ∃ n' lv' σ', Cx w0 w' L c lp p dp pg lb mb n' lv' σ' ∧ σ'.lives = [] ∧ σ'.T = (128, 0) ∧ σ'.B 1 = (128, 0) := by
  obtain ⟨⟨s, h1, h2⟩, h3, h4⟩ := ho
  have hs : σ.lives[0]? = some s := by rw [h1]; rfl
  obtain ⟨l, k, g1, g2, g3, g4, g5, g6, g7⟩ := hv.live 0 s hs
  rw [h2, h4] at g3
  have hq : q = l.length := (Prod.mk.inj g3).2
  have hr : Rev pg σ 1 0 s l := ⟨⟨hs, h2, fun j s' hj => absurd hj (by omega)⟩, ⟨by omega, by omega⟩, g1, g2, ⟨by rw [h4]; show _ ≤ 128 + 320 * q; omega, by rw [h4]; show _ ≤ q; omega⟩, hv.tk⟩
  refine (cx_abort h hr hcnt hpg).mono ?_
  rintro e w' ⟨rfl, hk, σ', s', n', lv', hu, hs', hx'⟩
  obtain ⟨m1, m2, m3, m4, m5, m6⟩ := CS.last_M σ' 4 1 s'
  refine ⟨rfl, hk, n', lv', _, hx', ?_, ?_, ?_⟩
  · show ((σ'.last 4 1 s').lives).eraseIdx 0 = []
    rw [m2]
    have e1 := (und_len hu).1
    rw [h1] at e1
    have e2 : σ'.lives.length = 1 := e1
    match hl : σ'.lives, e2 with
    | [a], _ => rfl
  · show (σ'.last 4 1 s').T = _
    rw [m5, und_T hu, h3]
    exact Prod.ext (by show 128 + 320 * q - 320 * l.length = 128; omega) (by show q - l.length = 0; omega)
  · show (σ'.last 4 1 s').B 1 = _
    rw [m4]
    have e1 := und_B hu
    rw [h4] at e1
    exact Prod.ext (by rw [e1.1]; show 128 + 320 * q - 320 * l.length = 128; omega) (by rw [e1.2]; show q - l.length = 0; omega)
theorem cx_commit_one (h : Cx w0 w L c lp p dp pg lb mb n lv σ) (hv : Inv pg σ) {q : Nat} (ho : One σ q) :
    Calls Tryz.prog 35 #[.pointer (some ⟨c, 0, none⟩), .int .i64 1] w fun e w' => e = .returned (.int .i64 0) ∧ Keeps (Own w0 L) w w' ∧ ∃ n' lv' σ', Cx w0 w' L c lp p dp pg lb mb n' lv' σ' ∧ σ'.lives = [] ∧ σ'.T = (128 + 320 * q, q) ∧ σ'.B 1 = (128 + 320 * q, q) := by
  obtain ⟨⟨s, h1, h2⟩, h3, h4⟩ := ho
  have hs : σ.lives[0]? = some s := by rw [h1]; rfl
  obtain ⟨l, k, g1, g2, g3, g4, g5, g6, g7⟩ := hv.live 0 s hs
  have htk := hv.tk
  rw [h3] at htk
  have htk' : 128 + 320 * q + lenL σ.rs ≤ 6912 := htk
  have hlo := g1.lo
  have hfin : lenL σ.rs = lenL (σ.recs.map rcS) := rfl
  refine (cx_commit h 1 ⟨by omega, by omega⟩ 0 s ⟨hs, h2, fun j s' hj => absurd hj (by omega)⟩ ⟨by omega, by omega⟩ (fun _ => by omega)).mono ?_
  rintro e w' ⟨rfl, hk, lv', hx'⟩
  obtain ⟨m1, m2, m3, m4, m5, m6⟩ := CS.last_M σ 3 1 s
  refine ⟨rfl, hk, n, lv', _, hx', ?_, ?_, ?_⟩
  · show ((σ.last 3 1 s).lives).eraseIdx 0 = []
    rw [m2, h1]; rfl
  · show (σ.last 3 1 s).T = _
    rw [m5, h3]
  · show (σ.last 3 1 s).B 1 = _
    rw [m4, h4]
end
end Go.Proofs.YtimomjheanfbmaaGreatDoor
