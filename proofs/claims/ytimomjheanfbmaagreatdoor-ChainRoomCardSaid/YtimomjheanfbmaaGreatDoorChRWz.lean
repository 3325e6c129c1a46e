import Derived.Test.YtimomjheanfbmaaGreatDoorMbv
set_option linter.unusedSimpArgs false
set_option linter.unusedVariables false
namespace Go.Proofs.YtimomjheanfbmaaGreatDoor
open Go.RowKit

/-! ### the log is flushed, a transaction commits -/
section
variable {w0 w w' : World} {L : List Nat} {c lp p dp pg lb mb n : Nat} {lv : Value} {σ : CS} {rs : List ByteArray} {M : Nat → Pg × Int} {N : Nat} {F : Pl → Prop}
theorem kx_flush (h : Kx w0 w L p lp dp rs M N F) (at_ : Int) :
    Calls Tryz.prog 122 #[.pointer (some ⟨lp, 0, none⟩), .int .i64 at_] w fun e w' => e = .returned (.int .i64 0) ∧ Kx w0 w' L p lp dp rs M N F ∧ Keeps (Own w0 L) w w' := by
  obtain ⟨i0, X, sv, S, Sl, Sd, D, h1, h2⟩ := h
  refine (ws_flush2 h1.pw.ws at_).mono fun e w' ⟨c, i1, Sd', D', he, hw, hk, hs, hf⟩ => ?_
  have hup := hf.off.up h1.up
  have hc : c = 0 := by
    rcases hf.code with ⟨h, _⟩ | ⟨_, h⟩
    · exact h
    · rw [hup.2] at h; cases h
  subst hc
  have hpw : Pw w' p lp dp 0 128 1 P0 rs i1 X sv S Sl Sd' D' := ⟨h1.pw.pool.keep hk (fun k hk' h' => by
    rcases h' with h' | h'
    · exact h1.pw.dl k hk' h'
    · exact h1.pw.dd k hk' h'), hw, h1.pw.dl, fun k hk' h' => by
    rcases hs k h' with h3 | h3
    · exact h1.pw.dd k hk' h3
    · have := h1.pw.pool.lt k hk'; omega, h1.pw.ring, by rw [hf.off.len]; exact h1.pw.fit⟩
  have hr := h1.pw.ring
  have hinv : PInv X D' M := ⟨h1.inv.uniq, h1.inv.hold, h1.inv.dty, fun hdn id hid hcl j hj => by
    have h3 := h1.inv.dev h1.up.2 id hid hcl j hj
    rw [← h3]
    exact hf.off.seen _ (by omega), h1.inv.mok⟩
  obtain ⟨m, p1, p2⟩ := h1.pot
  obtain ⟨k1, k2⟩ := h1.step hpw (hk.mono (fun k _ h => h.elim (fun h => .inr (.inl h)) (fun h => .inr (.inr h)))) (fun k hk' => .inl hk') hs hinv hup ⟨m, hf.softB p1, p2⟩ h1.nN rfl
  exact ⟨he, ⟨i1, X, sv, S, Sl, Sd', D', k1, h2⟩, k2⟩
theorem cx_flush (h : Cx w0 w L c lp p dp pg lb mb n lv σ) (at_ : Int) :
    Calls Tryz.prog 122 #[.pointer (some ⟨lp, 0, none⟩), .int .i64 at_] w fun e w' => e = .returned (.int .i64 0) ∧ Cx w0 w' L c lp p dp pg lb mb n lv σ ∧ Keeps (Own w0 (chL c lb mb lv ++ L)) w w' :=
  (kx_flush h.kx at_).mono fun e w' ⟨he, hx, hk⟩ => ⟨he, ⟨h.ch.keep hk (fun q hq => own_ch hq), hx, h.hi, h.most, h.ok, h.cn⟩, hk⟩
end
end Go.Proofs.YtimomjheanfbmaaGreatDoor

namespace Go.Proofs.YtimomjheanfbmaaGreatDoor
open Go.RowKit

section
variable {w0 w w' : World} {L : List Nat} {c lp p dp pg lb mb n : Nat} {lv : Value} {σ : CS}
set_option maxRecDepth 100000 in
set_option maxHeartbeats 1600000 in
theorem cx_end3 (h : Cx w0 w L c lp p dp pg lb mb n lv σ) (x : Int) (hx : 1 ≤ x ∧ x ≤ 2147483647) (i : Nat) (s : Lv) (hi : σ.lives[i]? = some s ∧ s.1 = x ∧ (∀ j s', j < i → σ.lives[j]? = some s' → s'.1 ≠ x)) (hl : 0 ≤ s.2.2 ∧ s.2.2 ≤ 10000) (hT : s.2.1 ≠ 0 → lenL σ.rs + 39 ≤ 6912) :
    Calls Tryz.prog 88 #[.pointer (some ⟨c, 0, none⟩), .int .i64 x, .int .i64 3] w fun e w' => e = .returned (.int .i64 0) ∧ Keeps (Own w0 L) w w' ∧ ∃ lv', Cx w0 w' L c lp p dp pg lb mb n lv' ((σ.last 3 x s).ended i) := by
  have H := Lib.hid h
  have HFi := Lib.hid (ch_find h.ch x)
  have hil : i < σ.lives.length := (List.getElem?_eq_some_iff.1 hi.1).1
  obtain ⟨sa, sc, hlv⟩ := h.ch.own.form
  subst hlv
  obtain ⟨g, rfl⟩ := h.ch.own.spot (by omega)
  have hfin := Lib.hid hi
  have hxk := Lib.hid hx
  have hlN := Lib.hid hl
  have hTN := Lib.hid hT
  clear h hi hx hl hT
  go_enter Tryz.func88, Tryz.ntmps88
  go_wp2_with fail
  refine (HFi.out).mono ?_
  rintro e w1 ⟨hr, hb1⟩
  obtain rfl : e = .returned (.int .i64 i) := by
    rcases hr with ⟨j, s', e1, e2, e3, he⟩ | ⟨e1, _⟩
    · have : j = i := by
        rcases Nat.lt_trichotomy j i with h | h | h
        · exact absurd e2 (hfin.out.2.2 j s' h e1)
        · exact h
        · exact absurd hfin.out.2.1 (e3 i s h hfin.out.1)
      subst this; exact he
    · exact absurd hfin.out.2.1 (e1 s (List.mem_of_getElem? hfin.out.1))
  have HX1 := Lib.hid (H.out.later hb1)
  have HK1 : Hid (Keeps (Own w0 L) w w1) := Keeps.of_below _ hb1
  have hown := HX1.out.ch.own
  have C3 : w1.cell? ⟨c, 3, none⟩ = some (.slice (some ⟨g, 0, none⟩) σ.lives.length sc) := cell_at HX1.out.ch.cell 3
  have hl1 := lv_range hown i s hfin.out.1 1 _ rfl
  have hl2 := lv_range hown i s hfin.out.1 2 _ rfl
  have hi0 : ¬ (i : Int) < 0 := by omega
  have hd0 : decide ((i : Int) < 0) = false := decide_eq_false hi0
  have hi1 : (i : Int) < σ.lives.length := by omega
  have hn8 := HX1.out.ch.len
  have hiw : IntKind.i64.wrap ((i : Int) + 1) = (i : Int) + 1 := by rw [IntKind.wrap_i64]; omega
  have hilN := Lib.hid hil
  obtain ⟨m, hm⟩ : ∃ m, σ.lives.length = m := ⟨_, rfl⟩
  rw [hm] at C3 hi1 hn8 hilN
  have hmN := Lib.hid hm
  have hn8N := Lib.hid hn8
  clear hr hb1 HFi hil hown hm hn8
  -- the last step, wherever the record has gone
  have hcut : Hid (∀ (w4 : World) (σ2 : CS), Cx w0 w4 L c lp p dp pg lb mb n (.slice (some ⟨g, 0, none⟩) σ.lives.length sc) σ2 → σ2.lives = σ.lives → Calls Tryz.prog 130 #[.slice (some ⟨g, 0, none⟩) m sc, .int .i64 i, .int .i64 ((i : Int) + 1)] w4 fun e w' => e = .returned (.slice (some ⟨g, 0, none⟩) (m - 1) sc) ∧ Keeps (Own w0 L) w4 w' ∧ w'.heap[c]? = some (.cells (chC lp p lb (.slice (some ⟨g, 0, none⟩) σ.lives.length sc) σ2.fresh) 124 (0, 0)) ∧ Cx w0 (w'.setCell ⟨c, 3, none⟩ (.slice (some ⟨g, 0, none⟩) (m - 1) sc)) L c lp p dp pg lb mb n (.slice (some ⟨g, 0, none⟩) (m - 1) sc) (σ2.ended i)) := fun w4 σ2 hx4 hlv2 => by
    have ho4 : OwnS w4 61 3 (.slice (some ⟨g, 0, none⟩) m sc) m (lvV σ.lives) := by
      have := hx4.ch.own
      rw [hlv2] at this
      rw [← hmN.out]
      exact this
    refine (ch_delete ho4 hmN.out hilN.out hn8N.out).mono fun e w' ⟨he, ho, hk⟩ => ?_
    have hgb : g ∈ blk (.slice (some ⟨g, 0, none⟩) σ.lives.length sc) := by simp [blk, Value.ownBlock]
    have hgc : c ≠ g := by
      have := hx4.ch.nd
      simp only [List.nodup_cons, List.mem_cons, not_or] at this
      exact fun e => this.1.2.2 (e ▸ hgb)
    refine ⟨he, hk.mono (fun k _ e => by subst e; exact hx4.owns (by simp [chL, hgb])), hk.keep hx4.ch.cell hgc, ?_⟩
    refine hx4.setLives (l := σ2.lives.eraseIdx i) ?_ (hk.mono (fun k _ e => by subst e; exact hgb)) (fun k hk' => .inl (by simp [blk, Value.ownBlock] at hk' ⊢; exact hk')) ?_
    · rw [hlv2, List.length_eraseIdx_of_lt (by rw [hmN.out]; exact hilN.out), hmN.out]
      exact ho
    · rw [hlv2, List.length_eraseIdx_of_lt (by rw [hmN.out]; exact hilN.out), hmN.out]
      have := hn8N.out; omega
  by_cases hfst : s.2.1 = 0
  · have hdf : (s.2.1 == 0) = true := by simpa using hfst
    have hdf2 : (s.2.1 != 0) = false := by simpa using hfst
    have hla : Hid (σ.last 3 x s = σ) := by show _ = _; unfold CS.last; rw [if_pos hfst]
    replace hfst := Lib.hid hfst
    have HD := Lib.hid (hcut.out w1 σ HX1.out rfl)
    go_wp2_with fail
    refine (HD.out).mono ?_
    rintro e w2 ⟨rfl, hk2, hc2, hx2⟩
    have HX2 := Lib.hid hx2
    have HK2 := Lib.hid (HK1.out.trans hk2 (fun _ _ h => h))
    have D3 := cell_at hc2 3
    have F3 := free_at hc2 3
    have hoc : Hid (Own w0 L c) := HX1.out.owns (by simp [chL])
    clear hx2 hk2 hc2 HD hcut HX1 HK1 hl1 hl2 C3
    go_wp2_with fail
    go_ret
    exact ⟨rfl, HK2.out.setCell _ _ (.inl hoc.out), _, by rw [hla.out]; exact HX2.out⟩
  · have hdf : (s.2.1 == 0) = false := by simpa using hfst
    have hdf2 : (s.2.1 != 0) = true := by simpa using hfst
    have hT39 := Lib.hid (hTN.out hfst)
    have hla : Hid (σ.last 3 x s = { σ with recs := σ.recs ++ [finR 3 x s.2.2] }) := by show _ = _; unfold CS.last; rw [if_neg hfst]
    have hoke : Hid (RcOk (finR 3 x s.2.2)) := end_ok (.inl rfl) ⟨by have := hxk.out.1; omega, hxk.out.2⟩ hlN.out
    replace hfst := Lib.hid hfst
    have HW := Lib.hid (cx_write HX1.out (finR 3 x s.2.2) hoke.out (by show 0 ≤ 1; omega) (fun y hy => by cases hy) nilS nilS (fun w' hk => ⟨⟨none, 0, rfl, Nat.zero_le _, fun h => absurd rfl h⟩, nil_sl w', by show 0 ≤ maxLen; omega, by show 0 ≤ maxLen; omega, fun y hy => by cases hy⟩))
    go_wp2_with fail
    refine (HW.out).mono ?_
    rintro e w2 ⟨hres, hk2⟩
    have hsz := end_size hoke.out
    have HK2 : Hid (Keeps (Own w0 L) w w2) := HK1.out.trans hk2 (fun k _ h => ⟨h.1, fun h' => h.2 (by simp [h'])⟩)
    rcases hres with ⟨hf, -⟩ | ⟨-, rfl, hx2⟩
    · exfalso
      have h1 : 6912 < lenL σ.rs + (2 + (rcS (finR 3 x s.2.2)).size) := hf
      have := hT39.out
      omega
    have HX2 : Hid (Cx w0 w2 L c lp p dp pg lb mb n (.slice (some ⟨g, 0, none⟩) σ.lives.length sc) { σ with recs := σ.recs ++ [finR 3 x s.2.2] }) := hx2
    obtain ⟨fin, hfn⟩ : ∃ f : Int, (σ.fin : Int) = f := ⟨_, rfl⟩
    rw [hfn]
    have HFl := Lib.hid (cx_flush HX2.out fin)
    have E0 : w2.cell? ⟨c, 0, none⟩ = some (.pointer (some ⟨lp, 0, none⟩)) := cell_at HX2.out.ch.cell 0
    clear hx2 hk2 HW hsz C3 hl1 hl2 HX1 HK1 hfn
    go_wp2_with fail
    refine (HFl.out).mono ?_
    rintro e wf ⟨rfl, hxf, hkf⟩
    have HXf := Lib.hid hxf
    have HKf : Hid (Keeps (Own w0 L) w wf) := HK2.out.trans hkf (fun k _ h => ⟨h.1, fun h' => h.2 (List.mem_append_right _ h')⟩)
    have HD := Lib.hid (hcut.out wf _ HXf.out rfl)
    have E3 : wf.cell? ⟨c, 3, none⟩ = some (.slice (some ⟨g, 0, none⟩) m sc) := by have := (chb_cells HXf.out.ch.cell).2.2.1; rw [hmN.out] at this; exact this
    clear hxf hkf HFl hcut HX2 HK2 E0
    go_wp2_with fail
    refine (HD.out).mono ?_
    rintro e w3 ⟨rfl, hk3, hc3, hx3⟩
    have HX3 := Lib.hid hx3
    have HK3 := Lib.hid (HKf.out.trans hk3 (fun _ _ h => h))
    have D3 := cell_at hc3 3
    have F3 := free_at hc3 3
    have hoc : Hid (Own w0 L c) := HXf.out.owns (by simp [chL])
    clear hx3 hk3 hc3 HD HXf HKf E3
    go_wp2_with fail
    go_ret
    exact ⟨rfl, HK3.out.setCell _ _ (.inl hoc.out), _, by rw [hla.out]; exact HX3.out⟩
set_option maxRecDepth 100000 in
theorem cx_commit (h : Cx w0 w L c lp p dp pg lb mb n lv σ) (x : Int) (hx : 1 ≤ x ∧ x ≤ 2147483647) (i : Nat) (s : Lv) (hi : σ.lives[i]? = some s ∧ s.1 = x ∧ (∀ j s', j < i → σ.lives[j]? = some s' → s'.1 ≠ x)) (hl : 0 ≤ s.2.2 ∧ s.2.2 ≤ 10000) (hT : s.2.1 ≠ 0 → lenL σ.rs + 39 ≤ 6912) :
    Calls Tryz.prog 35 #[.pointer (some ⟨c, 0, none⟩), .int .i64 x] w fun e w' => e = .returned (.int .i64 0) ∧ Keeps (Own w0 L) w w' ∧ ∃ lv', Cx w0 w' L c lp p dp pg lb mb n lv' ((σ.last 3 x s).ended i) := by
  have HE := Lib.hid (cx_end3 h x hx i s hi hl hT)
  clear h hx hi hl hT
  go_enter Tryz.func35, Tryz.ntmps35
  go_wp2_with fail
  refine (HE.out).mono ?_
  rintro e w2 ⟨rfl, hk, hx⟩
  have HF := Lib.hid (And.intro hk hx)
  clear hk hx HE
  go_wp2_with fail
  go_ret
  exact ⟨rfl, HF.out.1, HF.out.2⟩
end
end Go.Proofs.YtimomjheanfbmaaGreatDoor

namespace Go.Proofs.YtimomjheanfbmaaGreatDoor
open Go.RowKit

/-! ### one transaction -/
theorem und_T {x : Int} {i : Nat} {σ σ' : CS} {d : List (Int × Rc)} (h : Und x i σ d σ') : σ'.T = (σ.T.1 - 320 * d.length, σ.T.2 - d.length) := by
  induction h with
  | nil => simp
  | @snoc σ1 l t R s1 P hu hs hx hP ih =>
    show (σ1.T.1 - 320, σ1.T.2 - 1) = _
    rw [ih, List.length_append, List.length_singleton]
    exact Prod.ext (by show σ.T.1 - 320 * l.length - 320 = σ.T.1 - 320 * (l.length + 1); omega) (by show σ.T.2 - l.length - 1 = σ.T.2 - (l.length + 1); omega)
def One (σ : CS) (q : Nat) : Prop := (∃ s, σ.lives = [s] ∧ s.1 = 1) ∧ σ.T = (128 + 320 * q, q) ∧ σ.B 1 = (128 + 320 * q, q)
theorem One.begun : One (CS.init 1).begun 0 := ⟨⟨(1, 0, 0), rfl, rfl⟩, rfl, rfl⟩
theorem One.changed {σ : CS} {q : Nat} (h : One σ q) {i : Nat} {s : Lv} {u : Un} {ims : List (Int × Pg)} (hs : σ.lives[i]? = some s) (hx : s.1 = 1) : One (σ.changed 1 i s u ims) (q + 1) := by
  obtain ⟨⟨s0, h1, h2⟩, h3, h4⟩ := h
  rw [h1] at hs
  obtain ⟨rfl, rfl⟩ : i = 0 ∧ s = s0 := by
    cases i with
    | zero => exact ⟨rfl, (Option.some.inj hs).symm⟩
    | succ i => simp at hs
  refine ⟨⟨setLast s (σ.fin : Int), by show σ.lives.set 0 _ = _; rw [h1]; rfl, hx⟩, ?_, ?_⟩
  · show (σ.T.1 + 320, σ.T.2 + 1) = _
    rw [h3]; exact Prod.ext (by show 128 + 320 * q + 320 = 128 + 320 * (q + 1); omega) rfl
  · have e : (σ.changed 1 0 s u ims).B 1 = ((σ.B 1).1 + 320, (σ.B 1).2 + 1) := by show addB σ.B 1 320 1 1 = _; unfold addB; rw [if_pos rfl]
    rw [e, h4]; exact Prod.ext (by show 128 + 320 * q + 320 = 128 + 320 * (q + 1); omega) rfl
section
variable {w0 w w' : World} {L : List Nat} {c lp p dp pg lb mb n : Nat} {lv : Value} {σ : CS}
theorem cx_change_full (h : Cx w0 w L c lp p dp 6 lb mb n lv σ) (hcnt : σ.cnt < 10000000000) {f : Nat → Pg} (hok : ∀ i, i < 6 → PgOk (f i)) (x : Int) (hx : RngK x) (y : LCall) (hy : y.dt.size ≤ maxLen) (ib : Nat) (hib : ib ∈ L)
    (hi : w.heap[ib]? = some (.cells (imA ((pos6 y.page : Int), imgP f y)) 51 (0, 0))) :
    Calls Tryz.prog 15 #[.pointer (some ⟨c, 0, none⟩), .int .i64 x, .agg (unL (imgU f y)).toArray, .slice (some ⟨ib, 0, none⟩) 1 1, .int .i64 0] w fun e w' => ∃ cd n' σ', e = .returned (.int .i64 cd) ∧ Keeps (Own w0 L) w w' ∧ Cx w0 w' L c lp p dp 6 lb mb n' lv σ' ∧
      (((∀ s ∈ σ.lives, s.1 ≠ x) ∧ cd = 191 ∧ σ' = σ) ∨ ∃ i s, σ.lives[i]? = some s ∧ s.1 = x ∧ (∀ j s', j < i → σ.lives[j]? = some s' → s'.1 ≠ x) ∧
        ((¬ RcOk (chgR x s.2.2 (imgU f y) [((pos6 y.page : Int), imgP f y)]) ∧ cd = 1 ∧ σ' = σ) ∨
         (RcOk (chgR x s.2.2 (imgU f y) [((pos6 y.page : Int), imgP f y)]) ∧ ¬ Fits 320 1 σ.T (σ.free ((rcS (chgR x s.2.2 (imgU f y) [((pos6 y.page : Int), imgP f y)])).size + 2)) 1073741824 ∧ cd = 70 ∧ σ' = σ) ∨
         (RcOk (chgR x s.2.2 (imgU f y) [((pos6 y.page : Int), imgP f y)]) ∧ Fits 320 1 σ.T (σ.free ((rcS (chgR x s.2.2 (imgU f y) [((pos6 y.page : Int), imgP f y)])).size + 2)) 1073741824 ∧ cd = 0 ∧ σ' = σ.changed x i s (imgU f y) [((pos6 y.page : Int), imgP f y)]))) := by
  have hl := (pos6_eq y.page).2
  refine (cx_change h (by omega) x hx (imgU f y) (by show (1 : Int) ≠ 0; omega) (by show (0 : Nat) ≤ maxLen; omega) ?_ [((pos6 y.page : Int), imgP f y)] (by simp) ?_ ?_ _ (fun w' hk => sl_one (hk.keep hi (fun h => h.2 hib)))).mono ?_
  · have h1 := ((hok (pos6 y.page) hl).2 (pos6 y.slot) (pos6_eq _).2).2.2.1
    show ((f (pos6 y.page)).dt (pos6 y.slot)).size ≤ maxLen
    unfold maxLen; omega
  · intro z hz
    rw [List.mem_singleton.1 hz]
    show (pos6 y.page : Int) < ((6 : Nat) : Int)
    omega
  · intro z hz i hi
    rw [List.mem_singleton.1 hz]
    exact imgP_dt hok hy i hi
  · rintro e w' ⟨hk, hr⟩
    rcases hr with ⟨h0, rfl, hx'⟩ | ⟨i, s, h1, h2, h3, hr⟩
    · exact ⟨_, n, σ, rfl, hk, hx', .inl ⟨h0, rfl, rfl⟩⟩
    · rcases hr with ⟨h4, rfl, hx'⟩ | ⟨h4, h5, rfl, hx'⟩ | ⟨h4, h5, rfl, n', hx'⟩
      · exact ⟨_, n, σ, rfl, hk, hx', .inr ⟨i, s, h1, h2, h3, .inl ⟨h4, rfl, rfl⟩⟩⟩
      · exact ⟨_, n, σ, rfl, hk, hx', .inr ⟨i, s, h1, h2, h3, .inr (.inl ⟨h4, h5, rfl, rfl⟩)⟩⟩
      · exact ⟨0, n', _, rfl, hk, hx', .inr ⟨i, s, h1, h2, h3, .inr (.inr ⟨h4, h5, rfl, rfl⟩)⟩⟩
theorem cx_change_one (h : Cx w0 w L c lp p dp 6 lb mb n lv σ) (hv : Inv 6 σ) {q : Nat} (ho : One σ q) (hcnt : σ.cnt < 10000000000) {f : Nat → Pg} (hok : ∀ i, i < 6 → PgOk (f i)) (y : LCall) (hy : y.dt.size ≤ maxLen) (ib : Nat) (hib : ib ∈ L)
    (hi : w.heap[ib]? = some (.cells (imA ((pos6 y.page : Int), imgP f y)) 51 (0, 0))) :
    Calls Tryz.prog 15 #[.pointer (some ⟨c, 0, none⟩), .int .i64 1, .agg (unL (imgU f y)).toArray, .slice (some ⟨ib, 0, none⟩) 1 1, .int .i64 0] w fun e w' => ∃ cd n' σ', e = .returned (.int .i64 cd) ∧ Keeps (Own w0 L) w w' ∧ Cx w0 w' L c lp p dp 6 lb mb n' lv σ' ∧ Inv 6 σ' ∧ σ'.fresh = σ.fresh ∧ σ'.cnt ≤ σ.cnt + 1 ∧
      ((cd ≠ 0 ∧ One σ' q) ∨ (cd = 0 ∧ One σ' (q + 1) ∧ PgOk (imgP f y))) := by
  refine (cx_change_full h hcnt hok 1 ⟨by omega, by omega⟩ y hy ib hib hi).mono ?_
  rintro e w' ⟨cd, n', σ', rfl, hk, hx', hr⟩
  rcases hr with ⟨_, rfl, rfl⟩ | ⟨i, s, h1, h2, h3, hr⟩
  · exact ⟨_, n', σ', rfl, hk, hx', hv, rfl, by omega, .inl ⟨by omega, ho⟩⟩
  · rcases hr with ⟨_, rfl, rfl⟩ | ⟨_, _, rfl, rfl⟩ | ⟨h4, h5, rfl, rfl⟩
    · exact ⟨_, n', σ', rfl, hk, hx', hv, rfl, by omega, .inl ⟨by omega, ho⟩⟩
    · exact ⟨_, n', σ', rfl, hk, hx', hv, rfl, by omega, .inl ⟨by omega, ho⟩⟩
    · exact ⟨_, n', _, rfl, hk, hx', hv.changed h1 h2 (imgU_good hok y 1 s.2.2 _) h5, rfl, Nat.le_refl _, .inr ⟨rfl, ho.changed h1 h2, (h4.2.1 _ (List.mem_singleton.2 rfl)).2⟩⟩
theorem cx_begin_one (h : Cx w0 w L c lp p dp pg lb mb n lv (CS.init 1)) :
    Calls Tryz.prog 12 #[.pointer (some ⟨c, 0, none⟩)] w fun e w' => ∃ n' lv', e = .returned (.tuple #[.int .i64 1, .int .i64 0]) ∧ Keeps (Own w0 L) w w' ∧ Cx w0 w' L c lp p dp pg lb mb n' lv' (CS.init 1).begun := by
  refine (cx_begin h ⟨by show (1 : Int) ≤ 1; omega, by show (1 : Int) ≤ 2000000000; omega⟩ (by show 0 < 100000000000; omega)).mono ?_
  rintro e w' ⟨hk, hr⟩
  rcases hr with ⟨h1, _⟩ | ⟨_, h1, _⟩ | ⟨_, _, h1, n', lv', h2⟩
  · exact absurd h1 (by decide)
  · exact absurd ⟨by show 128 + 0 ≤ 6912 - lenL [] - 0; rw [lenL]; omega, by show 0 + 0 ≤ 1073741824; omega⟩ h1
  · exact ⟨n', lv', h1, hk, h2⟩
theorem inv_begun1 (pg : Nat) : Inv pg (CS.init 1).begun := (Inv.init pg 1 (by omega)).begun ⟨by show 128 + 0 ≤ 6912 - lenL [] - 0; rw [lenL]; omega, by show 0 + 0 ≤ 1073741824; omega⟩
/-- the only transaction is taken back -/
theorem cx_abort_one (h : Cx w0 w L c lp p dp pg lb mb n lv σ) (hv : Inv pg σ) {q : Nat} (ho : One σ q) (hcnt : σ.cnt < 10000000000) (hpg : pg ≤ 1024) :
    Calls Tryz.prog 36 #[.pointer (some ⟨c, 0, none⟩), .int .i64 1, kitV p] w fun e w' => e = .returned (.int .i64 0) ∧ Keeps (Own w0 L) w w' ∧ ∃ n' lv' σ', Cx w0 w' L c lp p dp pg lb mb n' lv' σ' ∧ σ'.lives = [] ∧ σ'.T = (128, 0) ∧ σ'.B 1 = (128, 0) := by
  obtain ⟨⟨s, h1, h2⟩, h3, h4⟩ := ho
  have hs : σ.lives[0]? = some s := by rw [h1]; rfl
  obtain ⟨l, k, g1, g2, g3, g4, g5, g6, g7⟩ := hv.live 0 s hs
  rw [h2, h4] at g3
  have hq : q = l.length := (Prod.mk.inj g3).2
  have hr : Rev pg σ 1 0 s l := ⟨⟨hs, h2, fun j s' hj => absurd hj (by omega)⟩, ⟨by omega, by omega⟩, g1, g2, ⟨by rw [h4]; show _ ≤ 128 + 320 * q; omega, by rw [h4]; show _ ≤ q; omega⟩, hv.tk⟩
  refine (cx_abort h hr hcnt hpg).mono ?_
  rintro e w' ⟨rfl, hk, σ', s', n', lv', hu, hs', hx'⟩
  obtain ⟨m1, m2, m3, m4, m5, m6⟩ := CS.last_M σ' 4 1 s'
  refine ⟨rfl, hk, n', lv', _, hx', ?_, ?_, ?_⟩
  · show ((σ'.last 4 1 s').lives).eraseIdx 0 = []
    rw [m2]
    have e1 := (und_len hu).1
    rw [h1] at e1
    have e2 : σ'.lives.length = 1 := e1
    match hl : σ'.lives, e2 with
    | [a], _ => rfl
  · show (σ'.last 4 1 s').T = _
    rw [m5, und_T hu, h3]
    exact Prod.ext (by show 128 + 320 * q - 320 * l.length = 128; omega) (by show q - l.length = 0; omega)
  · show (σ'.last 4 1 s').B 1 = _
    rw [m4]
    have e1 := und_B hu
    rw [h4] at e1
    exact Prod.ext (by rw [e1.1]; show 128 + 320 * q - 320 * l.length = 128; omega) (by rw [e1.2]; show q - l.length = 0; omega)
theorem cx_commit_one (h : Cx w0 w L c lp p dp pg lb mb n lv σ) (hv : Inv pg σ) {q : Nat} (ho : One σ q) :
    Calls Tryz.prog 35 #[.pointer (some ⟨c, 0, none⟩), .int .i64 1] w fun e w' => e = .returned (.int .i64 0) ∧ Keeps (Own w0 L) w w' ∧ ∃ n' lv' σ', Cx w0 w' L c lp p dp pg lb mb n' lv' σ' ∧ σ'.lives = [] ∧ σ'.T = (128 + 320 * q, q) ∧ σ'.B 1 = (128 + 320 * q, q) := by
  obtain ⟨⟨s, h1, h2⟩, h3, h4⟩ := ho
  have hs : σ.lives[0]? = some s := by rw [h1]; rfl
  obtain ⟨l, k, g1, g2, g3, g4, g5, g6, g7⟩ := hv.live 0 s hs
  have htk := hv.tk
  rw [h3] at htk
  have htk' : 128 + 320 * q + lenL σ.rs ≤ 6912 := htk
  have hlo := g1.lo
  have hfin : lenL σ.rs = lenL (σ.recs.map rcS) := rfl
  refine (cx_commit h 1 ⟨by omega, by omega⟩ 0 s ⟨hs, h2, fun j s' hj => absurd hj (by omega)⟩ ⟨by omega, by omega⟩ (fun _ => by omega)).mono ?_
  rintro e w' ⟨rfl, hk, lv', hx'⟩
  obtain ⟨m1, m2, m3, m4, m5, m6⟩ := CS.last_M σ 3 1 s
  refine ⟨rfl, hk, n, lv', _, hx', ?_, ?_, ?_⟩
  · show ((σ.last 3 1 s).lives).eraseIdx 0 = []
    rw [m2, h1]; rfl
  · show (σ.last 3 1 s).T = _
    rw [m5, h3]
  · show (σ.last 3 1 s).B 1 = _
    rw [m4, h4]
end
end Go.Proofs.YtimomjheanfbmaaGreatDoor

namespace Go.Proofs.YtimomjheanfbmaaGreatDoor
open Go.RowKit

theorem lcl_info : (Tryz.prog.info? 35).map (·.size) = some 8 := by kernel_rfl
theorem un_info : (Tryz.prog.info? 42).map (·.size) = some 7 := by kernel_rfl
theorem un_cells (u : Un) : ∀ v ∈ unL u, v.oneCell' = true := fun v hv => by
  simp only [unL, List.mem_cons, List.not_mem_nil, or_false] at hv
  rcases hv with h | h | h | h | h | h | h <;> (subst h; rfl)
def lcZ : LCall := ⟨0, 0, 0, 0, 0, ⟨#[]⟩, 0, 0⟩
theorem lcL_cells (c : LCall) : ∀ v ∈ lcL c, v.oneCell' = true := fun v hv => by
  simp only [lcL, List.mem_cons, List.not_mem_nil, or_false] at hv
  rcases hv with h | h | h | h | h | h | h | h <;> (subst h; rfl)
theorem lc_at {w : World} {g : Nat} {c : LCall} {T : TypeId} (h : w.heap[g]? = some (.cells (lcL c).toArray T (0, 0))) : w.cell? ⟨g, 0, none⟩ = some (.int .i64 c.kind) ∧ w.cell? ⟨g, 1, none⟩ = some (.int .i64 c.x) ∧ w.cell? ⟨g, 7, none⟩ = some (.int .i64 c.n) :=
  ⟨cell_at h 0, cell_at h 1, cell_at h 7⟩
theorem cell_keep {a b : World} {g q j : Nat} {v : Value} (hk : Keeps (· = g) a b) (hq : q ≠ g) (hc : a.cell? ⟨q, j, none⟩ = some v) : b.cell? ⟨q, j, none⟩ = some v := by
  have hlt : q < a.heap.size := World.block_lt_of_cell? a ⟨q, j, none⟩ (by rw [hc])
  have h1 := hk.block q hlt hq
  unfold World.cell? at hc ⊢
  rw [h1]
  exact hc
/-- what 'm.Pages[images[0].Id] = images[0].Page' reads -/
def MpS (m g ib pi : Nat) (P : Pg) (w : World) : Prop := w.cell? ⟨m, 6, none⟩ = some (.slice (some ⟨g, 0, none⟩) 6 6) ∧ w.cell? ⟨ib, 0, none⟩ = some (.int .i64 pi) ∧ w.rangeAt ib 1 (pgC P).toList
theorem mps_of {w : World} {m g ib pi : Nat} {P : Pg} {f : Nat → Pg} {T : TypeId} (hm : Mx w m g f) (hi : w.heap[ib]? = some (.cells (imA ((pi : Int), P)) T (0, 0))) : MpS m g ib pi P w :=
  ⟨hm.cell, cell_at hi 0, fun j v hj => by
    rw [cell_at hi]
    show (imA ((pi : Int), P))[1 + j]? = some v
    rw [← Array.getElem?_toList, Nat.add_comm]
    exact hj⟩
section
variable {w0 w w' : World} {L : List Nat} {c lp p dp pg lb mb n : Nat} {lv : Value} {σ : CS}
theorem Cx.loc (h : Cx w0 w L c lp p dp pg lb mb n lv σ) {S : Nat → Prop} (hk : Keeps S w w') (hS : ∀ q, S q → q ∈ L ∧ w0.heap.size ≤ q) : Cx w0 w' L c lp p dp pg lb mb n lv σ :=
  ⟨h.ch.keep hk (fun q hq hs => (h.hi q hq).2 (hS q hs).1), h.kx.keep3 hk (fun q hq => ⟨List.mem_append_right _ (hS q hq).1, (hS q hq).2⟩), h.hi, h.most, h.ok, h.cn⟩
end
theorem Cx.swap {w0 w w' : World} {L : List Nat} {c lp p dp pg lb mb n : Nat} {lv : Value} {σ : CS} (h : Cx w0 w L c lp p dp pg lb mb n lv σ) {S : Nat → Prop} (hk : Keeps S w w') (hS : ∀ q, S q → q ∈ L ∧ w0.heap.size ≤ q) (L' : List Nat) (hl : ∀ k ∈ L', k < w'.heap.size) (hn : ∀ k ∈ L', k ∈ L ∨ w.heap.size ≤ k) : Cx w0 w' L' c lp p dp pg lb mb n lv σ := by
  have h1 := h.loc hk hS
  have hb0 := h.bel.size
  refine ⟨h1.ch, ?_, fun q hq => ⟨(h.hi q hq).1, fun h' => ?_⟩, h1.most, h1.ok, h1.cn⟩
  · obtain ⟨i0, X, sv, S1, Sl, Sd, D, a, b⟩ := h.kx
    have a' := a.keep3 hk (fun q hq => ⟨List.mem_append_right _ (hS q hq).1, (hS q hq).2⟩)
    refine ⟨i0, X, sv, S1, Sl, Sd, D, a'.relist _ (fun k hk' => ?_) (fun k hk' => ?_), b⟩
    · rcases List.mem_append.1 hk' with h' | h'
      · exact h1.ch.lt k h'
      · exact hl k h'
    · rcases List.mem_append.1 hk' with h' | h'
      · exact .inl (List.mem_append_left _ h')
      · rcases hn k h' with h2 | h2
        · exact .inl (List.mem_append_right _ h2)
        · exact .inr ⟨fun h3 => by have := a.pw.pool.lt k h3; omega, fun h3 => by have := a.pw.ws.log.lt k h3; omega, fun h3 => by have := a.pw.ws.dsk.lt k h3; omega⟩
  · rcases hn q h' with h2 | h2
    · exact (h.hi q hq).2 h2
    · have := h.ch.lt q hq; omega
end Go.Proofs.YtimomjheanfbmaaGreatDoor

namespace Go.Proofs.YtimomjheanfbmaaGreatDoor
open Go.RowKit

/-! ### four transactions -/
def SumT (σ : CS) : Prop := σ.T.1 = (σ.B 1).1 + (σ.B 2).1 + (σ.B 3).1 + (σ.B 4).1 ∧ σ.T.2 = (σ.B 1).2 + (σ.B 2).2 + (σ.B 3).2 + (σ.B 4).2
theorem SumT.upd {σ τ : CS} (h : SumT σ) {x : Int} (hx : 1 ≤ x ∧ x ≤ 4) (ho : ∀ y, y ≠ x → τ.B y = σ.B y) (h1 : τ.T.1 + (σ.B x).1 = σ.T.1 + (τ.B x).1) (h2 : τ.T.2 + (σ.B x).2 = σ.T.2 + (τ.B x).2) : SumT τ := by
  obtain ⟨g1, g2⟩ := h
  obtain rfl | rfl | rfl | rfl : x = 1 ∨ x = 2 ∨ x = 3 ∨ x = 4 := by omega
  · have a := ho 2 (by omega); have b := ho 3 (by omega); have c := ho 4 (by omega)
    unfold SumT; rw [a, b, c]; omega
  · have a := ho 1 (by omega); have b := ho 3 (by omega); have c := ho 4 (by omega)
    unfold SumT; rw [a, b, c]; omega
  · have a := ho 1 (by omega); have b := ho 2 (by omega); have c := ho 4 (by omega)
    unfold SumT; rw [a, b, c]; omega
  · have a := ho 1 (by omega); have b := ho 2 (by omega); have c := ho 3 (by omega)
    unfold SumT; rw [a, b, c]; omega
structure Rm (a : Nat) (σ : CS) : Prop where
  inv : Inv 6 σ
  num : σ.lives.map (·.1) = ([1, 2, 3, 4] : List Int).drop a
  sum : SumT σ
  gone : ∀ x : Int, 1 ≤ x → x ≤ a → σ.B x = (0, 0)
  fresh : σ.fresh = 5
theorem Rm.rng {a : Nat} {σ : CS} (h : Rm a σ) {s : Lv} (hs : s ∈ σ.lives) : (a : Int) < s.1 ∧ s.1 ≤ 4 := by
  have h1 : s.1 ∈ σ.lives.map (·.1) := List.mem_map_of_mem hs
  rw [h.num] at h1
  match a with
  | 0 => simp at h1; omega
  | 1 => simp at h1; omega
  | 2 => simp at h1; omega
  | 3 => simp at h1; omega
  | a + 4 => simp at h1
theorem map_set_fst {l : List Lv} {i : Nat} {s s' : Lv} (hs : l[i]? = some s) (he : s'.1 = s.1) : (l.set i s').map (·.1) = l.map (·.1) := by
  apply List.ext_getElem?
  intro j
  rw [List.getElem?_map, List.getElem?_map]
  by_cases e : i = j
  · subst e
    rw [List.getElem?_set_self (List.getElem?_eq_some_iff.1 hs).1, hs]
    exact congrArg some he
  · rw [List.getElem?_set_ne e]
theorem Rm.changed {σ : CS} (h : Rm 0 σ) {x : Int} {i : Nat} {s : Lv} {u : Un} {ims : List (Int × Pg)} (hs : σ.lives[i]? = some s) (hx : s.1 = x) (hU : GoodU 6 (chgR x s.2.2 u ims))
    (hf : Fits 320 1 σ.T (σ.free ((rcS (chgR x s.2.2 u ims)).size + 2)) 1073741824) : Rm 0 (σ.changed x i s u ims) := by
  have hr := h.rng (List.mem_of_getElem? hs)
  have e : (σ.changed x i s u ims).B x = ((σ.B x).1 + 320, (σ.B x).2 + 1) := by show addB σ.B x 320 1 x = _; unfold addB; rw [if_pos rfl]
  refine ⟨h.inv.changed hs hx hU hf, ?_, h.sum.upd (x := x) (by omega) (fun y hy => if_neg hy) ?_ ?_, fun y h1 h2 => by omega, h.fresh⟩
  · show (σ.lives.set i (setLast s (σ.fin : Int))).map (·.1) = _
    rw [map_set_fst (s' := setLast s (σ.fin : Int)) hs rfl]; exact h.num
  · rw [e]; show σ.T.1 + 320 + (σ.B x).1 = σ.T.1 + ((σ.B x).1 + 320); omega
  · rw [e]; show σ.T.2 + 1 + (σ.B x).2 = σ.T.2 + ((σ.B x).2 + 1); omega
theorem und_fst {x : Int} {i : Nat} {σ σ' : CS} {d : List (Int × Rc)} (h : Und x i σ d σ') : σ'.lives.map (·.1) = σ.lives.map (·.1) := by
  induction h with
  | nil => rfl
  | @snoc σ1 l t R s1 P hu hs hx hP ih =>
    rw [← ih]
    exact map_set_fst (s' := (s1.1, s1.2.1, (σ1.fin : Int))) hs rfl
set_option maxRecDepth 100000 in
/-- going back frees more than it writes -/
theorem und_tk {x : Int} {i : Nat} {σ σ' : CS} {d : List (Int × Rc)} (h : Und x i σ d σ') : (∀ R ∈ σ'.recs, RcOk R) → 320 * d.length ≤ σ.T.1 → σ'.T.1 + lenL σ'.rs ≤ σ.T.1 + lenL σ.rs := by
  induction h with
  | nil => intro _ _; exact Nat.le_refl _
  | @snoc σ1 l t R s1 P hu hs hx hP ih =>
    intro hok hle
    rw [List.length_append, List.length_singleton] at hle
    have h1 := ih (fun R hR => hok R (List.mem_append_left _ hR)) (by omega)
    have hT := und_T hu
    have hT1 : σ1.T.1 = σ.T.1 - 320 * l.length := by rw [hT]
    have hrs : (σ1.undone x i s1 R P).rs = σ1.rs ++ [rcS (clrR x s1.2.2 R P)] := by unfold CS.rs CS.undone; rw [List.map_append]; rfl
    have hsz := clr_size (hok (clrR x s1.2.2 R P) (List.mem_append_right _ (by simp)))
    have e2 : lenL (σ1.undone x i s1 R P).rs = lenL σ1.rs + (2 + 265 + 0) := by rw [hrs, lenL_append, lenL, lenL, hsz]
    have e1 : (σ1.undone x i s1 R P).T.1 = σ1.T.1 - 320 := by unfold CS.undone; rfl
    have e3 : 320 ≤ σ1.T.1 := by omega
    rw [e1, e2]
    generalize σ1.T.1 = A at *
    generalize lenL σ1.rs = B at *
    clear ih hP hu hs hok hsz hrs e1 e2 hT
    omega
theorem Rm.undo {a : Nat} {σ σ' : CS} (h : Rm a σ) {x : Int} {i : Nat} {s : Lv} {done rest : List (Int × Rc)} (hs : σ.lives[i]? = some s) (hx : s.1 = x) (hS : Stk σ.recs s.2.2 (done ++ rest)) (hG : ∀ y ∈ rest, GoodU 6 y.2)
    (hB : σ.B x = (128 + 320 * (done ++ rest).length, (done ++ rest).length)) (hu : Und x i σ done σ') (htk : σ'.T.1 + lenL σ'.rs ≤ 6912) : Rm a σ' := by
  have hr := h.rng (List.mem_of_getElem? hs)
  have hT := und_T hu
  have hb := und_B hu
  have ho := (und_other hu).2
  have h1 : (σ.B x).1 = 128 + 320 * (done.length + rest.length) := by rw [hB, List.length_append]
  have h2 : (σ.B x).2 = done.length + rest.length := by rw [hB, List.length_append]
  have hle : (σ.B x).1 ≤ σ.T.1 ∧ (σ.B x).2 ≤ σ.T.2 := by
    have hsum := h.sum
    unfold SumT at hsum
    obtain rfl | rfl | rfl | rfl : x = 1 ∨ x = 2 ∨ x = 3 ∨ x = 4 := by omega
    all_goals omega
  refine ⟨h.inv.undo hs hx hS hG hB hu htk, by rw [und_fst hu]; exact h.num, h.sum.upd (x := x) (by omega) ho ?_ ?_, fun y h3 h4 => ?_, by rw [(und_len hu).2]; exact h.fresh⟩
  · rw [hT, hb.1]; show σ.T.1 - 320 * done.length + _ = _; omega
  · rw [hT, hb.2]; show σ.T.2 - done.length + _ = _; omega
  · rw [ho y (by omega)]; exact h.gone y h3 h4
/-- a transaction ends and is freed -/
theorem Rm.done {a : Nat} {σ τ : CS} (h : Rm a σ) {s : Lv} {rest : List Lv} (hl : σ.lives = s :: rest) {q : List Rc} (hr : τ.recs = σ.recs ++ q) (hq : lenL τ.rs ≤ lenL σ.rs + 39) (hv : τ.lives = rest) (hf : τ.fresh = σ.fresh)
    (hB : τ.B = delB σ.B s.1) (hT : τ.T = (σ.T.1 - (σ.B s.1).1, σ.T.2 - (σ.B s.1).2)) : Rm (a + 1) τ := by
  have hs : σ.lives[0]? = some s := by rw [hl]; rfl
  have hrg := h.rng (List.mem_of_getElem? hs)
  have hn := h.num
  rw [hl, List.map_cons] at hn
  have ha : a < 4 := by omega
  have hsa : s.1 = (a : Int) + 1 ∧ rest.map (·.1) = ([1, 2, 3, 4] : List Int).drop (a + 1) := by
    match a, ha with
    | 0, _ => simp at hn; exact ⟨by simpa using hn.1, by simpa using hn.2⟩
    | 1, _ => simp at hn; exact ⟨by simpa using hn.1, by simpa using hn.2⟩
    | 2, _ => simp at hn; exact ⟨by simpa using hn.1, by simpa using hn.2⟩
    | 3, _ => simp at hn; exact ⟨by simpa using hn.1, by simpa using hn.2⟩
  obtain ⟨l, k, g1, g2, g3, g4, g5, g6, g7⟩ := h.inv.live 0 s hs
  have hbx : (σ.B s.1).1 = 128 + 320 * l.length := by rw [g3]
  have hle : (σ.B s.1).1 ≤ σ.T.1 ∧ (σ.B s.1).2 ≤ σ.T.2 := by
    have hsum := h.sum
    unfold SumT at hsum
    obtain e | e | e | e : s.1 = 1 ∨ s.1 = 2 ∨ s.1 = 3 ∨ s.1 = 4 := by omega
    all_goals (rw [e]; omega)
  have ex : τ.B s.1 = (0, 0) := by rw [hB]; unfold delB; rw [if_pos rfl]
  have eo : ∀ y, y ≠ s.1 → τ.B y = σ.B y := fun y hy => by rw [hB]; unfold delB; rw [if_neg hy]
  have hidx : ∀ (i : Nat) (s' : Lv), τ.lives[i]? = some s' → σ.lives[i + 1]? = some s' := fun i s' hs' => by rw [hl, List.getElem?_cons_succ, ← hv]; exact hs'
  refine ⟨⟨fun i s' hs' => ?_, fun i j s' s'' hs' hs'' he => ?_, by rw [hf]; exact h.inv.fresh, fun y hy => ?_, ?_⟩, by rw [hv]; exact hsa.2, h.sum.upd (x := s.1) (by omega) eo ?_ ?_, fun y h3 h4 => ?_, by rw [hf]; exact h.fresh⟩
  · have h1 := hidx i s' hs'
    refine (h.inv.live _ s' h1).more hr (eo _ (fun e => ?_)) (by rw [hf]; exact Int.le_refl _)
    have := h.inv.uniq _ _ s' s h1 hs e
    omega
  · have := h.inv.uniq _ _ s' s'' (hidx i s' hs') (hidx j s'' hs'') he
    omega
  · rw [hf] at hy
    rw [eo y (by omega)]
    exact h.inv.zero y hy
  · have := h.inv.tk
    rw [hT]
    show σ.T.1 - (σ.B s.1).1 + lenL τ.rs ≤ 6912
    omega
  · rw [hT, ex]; show σ.T.1 - (σ.B s.1).1 + (σ.B s.1).1 = σ.T.1 + 0; omega
  · rw [hT, ex]; show σ.T.2 - (σ.B s.1).2 + (σ.B s.1).2 = σ.T.2 + 0; omega
  · by_cases e : y = s.1
    · rw [e]; exact ex
    · rw [eo y e]; exact h.gone y h3 (by omega)
theorem Rm.none {σ : CS} (h : Rm 4 σ) : σ.lives = [] ∧ σ.T = (0, 0) := by
  have h1 := h.num
  have h2 : σ.lives = [] := by
    rw [show ([1, 2, 3, 4] : List Int).drop 4 = [] from rfl, List.map_eq_nil_iff] at h1
    exact h1
  have e1 := h.gone 1 (by omega) (by decide)
  have e2 := h.gone 2 (by omega) (by decide)
  have e3 := h.gone 3 (by omega) (by decide)
  have e4 := h.gone 4 (by omega) (by decide)
  obtain ⟨s1, s2⟩ := h.sum
  rw [e1, e2, e3, e4] at s1 s2
  exact ⟨h2, Prod.ext s1 s2⟩
end Go.Proofs.YtimomjheanfbmaaGreatDoor

namespace Go.Proofs.YtimomjheanfbmaaGreatDoor
open Go.RowKit

theorem und_cnt {x : Int} {i : Nat} {σ σ' : CS} {d : List (Int × Rc)} (h : Und x i σ d σ') : σ'.cnt = σ.cnt + d.length := by
  induction h with
  | nil => rfl
  | @snoc σ1 l t R s1 P hu hs hx hP ih =>
    have e1 : (σ1.undone x i s1 R P).cnt = σ1.cnt + 1 := by unfold CS.undone; rfl
    rw [e1, ih, List.length_append, List.length_singleton]; omega
/-- ended, not freed yet -/
def Half (a : Nat) (σ : CS) : Prop := (∀ s ∈ σ.lives, s.1 ≠ (a : Int) + 1) ∧ Rm (a + 1) { σ with B := delB σ.B ((a : Int) + 1), T := (σ.T.1 - (σ.B ((a : Int) + 1)).1, σ.T.2 - (σ.B ((a : Int) + 1)).2) }
theorem Rm.head {a : Nat} {σ : CS} (h : Rm a σ) (ha : a < 4) : ∃ s rest, σ.lives = s :: rest ∧ s.1 = (a : Int) + 1 ∧ ∀ y ∈ rest, y.1 ≠ (a : Int) + 1 := by
  have hn := h.num
  cases hl : σ.lives with
  | nil =>
    rw [hl] at hn
    match a, ha with
    | 0, _ => simp at hn
    | 1, _ => simp at hn
    | 2, _ => simp at hn
    | 3, _ => simp at hn
  | cons s rest =>
    have h1 : s.1 = (a : Int) + 1 := by
      rw [hl, List.map_cons] at hn
      match a, ha with
      | 0, _ => simp at hn; simpa using hn.1
      | 1, _ => simp at hn; simpa using hn.1
      | 2, _ => simp at hn; simpa using hn.1
      | 3, _ => simp at hn; simpa using hn.1
    refine ⟨s, rest, rfl, h1, fun y hy he => ?_⟩
    obtain ⟨i, hi⟩ := List.mem_iff_getElem?.1 hy
    have := h.inv.uniq (i + 1) 0 y s (by rw [hl]; exact hi) (by rw [hl]; rfl) (by rw [he, h1])
    omega
theorem last_recs (σ : CS) (kind x : Int) (s : Lv) : ∃ q, (σ.last kind x s).recs = σ.recs ++ q ∧ (q = [] ∨ q = [finR kind x s.2.2]) := by
  unfold CS.last
  split
  · exact ⟨[], (List.append_nil _).symm, .inl rfl⟩
  · exact ⟨[finR kind x s.2.2], rfl, .inr rfl⟩
theorem Rm.half {a : Nat} {σ : CS} (h : Rm a σ) {s : Lv} {rest : List Lv} (hl : σ.lives = s :: rest) (h1 : s.1 = (a : Int) + 1) (h2 : ∀ y ∈ rest, y.1 ≠ (a : Int) + 1) (kind : Int) (s' : Lv) (hok : ∀ R ∈ (σ.last kind ((a : Int) + 1) s').recs, RcOk R) : Half a ((σ.last kind ((a : Int) + 1) s').ended 0) := by
  obtain ⟨m1, m2, m3, m4, m5, m6⟩ := CS.last_M σ kind ((a : Int) + 1) s'
  obtain ⟨q, hq, hq2⟩ := last_recs σ kind ((a : Int) + 1) s'
  have hlv : ((σ.last kind ((a : Int) + 1) s').ended 0).lives = rest := by
    show ((σ.last kind ((a : Int) + 1) s').lives).eraseIdx 0 = rest
    rw [m2, hl]; rfl
  have hB : ((σ.last kind ((a : Int) + 1) s').ended 0).B = σ.B := m4
  have hT : ((σ.last kind ((a : Int) + 1) s').ended 0).T = σ.T := m5
  refine ⟨fun y hy => by rw [hlv] at hy; exact h2 y hy, ?_⟩
  rw [hB, hT]
  refine h.done hl (q := q) hq ?_ hlv m3 (by rw [h1]) (by rw [h1])
  show lenL ((σ.last kind ((a : Int) + 1) s').recs.map rcS) ≤ _
  rw [hq, List.map_append, lenL_append]
  show lenL σ.rs + _ ≤ _
  rcases hq2 with rfl | rfl
  · simp [lenL]
  · have := rcS_size (hok (finR kind ((a : Int) + 1) s'.2.2) (by rw [hq]; simp))
    have e : (rcS (finR kind ((a : Int) + 1) s'.2.2)).size = 37 := this
    simp only [List.map_cons, List.map_nil, lenL, e]
    omega
section
variable {w0 w w' : World} {L : List Nat} {c lp p dp lb mb n : Nat} {lv : Value} {σ : CS}
theorem Rm.back {a : Nat} (h : Rm a σ) (ha : a < 4) : ∃ s l, σ.lives[0]? = some s ∧ s.1 = (a : Int) + 1 ∧ Stk σ.recs s.2.2 l ∧ (∀ y ∈ l, GoodU 6 y.2) ∧ σ.B ((a : Int) + 1) = (128 + 320 * l.length, l.length) := by
  obtain ⟨s, rest, hl, h1, h2⟩ := h.head ha
  have hs : σ.lives[0]? = some s := by rw [hl]; rfl
  obtain ⟨l, k, g1, g2, g3, g4, g5, g6, g7⟩ := h.inv.live 0 s hs
  exact ⟨s, l, hs, h1, g1, g2, h1 ▸ g3⟩
theorem cx_back_rm (h : Cx w0 w L c lp p dp 6 lb mb n lv σ) {a : Nat} (hr : Rm a σ) (ha : a < 4) (tu : Int) (hcnt : σ.cnt < 10000000000) :
    Calls Tryz.prog 13 #[.pointer (some ⟨c, 0, none⟩), .int .i64 ((a : Int) + 1), .int .i64 tu, kitV p] w fun e w' => e = .returned (.int .i64 0) ∧ Keeps (Own w0 L) w w' ∧ ∃ n' σ', Cx w0 w' L c lp p dp 6 lb mb n' lv σ' ∧ Rm a σ' ∧ σ'.cnt ≤ σ.cnt + 100 := by
  obtain ⟨s, l, hs, hx, g1, g2, g3⟩ := hr.back ha
  have hle := (h.ch.lg.2.1.le ((a : Int) + 1)).1
  have htk := hr.inv.tk
  rw [g3] at hle
  have hle' : 128 + 320 * l.length ≤ σ.T.1 := hle
  refine (cx_back h ((a : Int) + 1) tu ⟨by omega, by omega⟩ 0 s ⟨hs, hx, fun j s' hj => absurd hj (by omega)⟩ l g1 g2 ⟨by rw [g3]; show _ ≤ 128 + 320 * l.length; omega, by rw [g3]; exact Nat.le_refl _⟩ htk hcnt (by omega)).mono ?_
  rintro e w' ⟨rfl, hk, σ', n', next, rest, hx', hb, hn⟩
  obtain ⟨done, hu, hd, -⟩ := hb.und
  subst hd
  have hc := hb.cnt
  exact ⟨rfl, hk, n', σ', hx', hr.undo hs hx g1 hb.good g3 hu hb.tk, by omega⟩
theorem cx_commit_rm (h : Cx w0 w L c lp p dp 6 lb mb n lv σ) {a : Nat} (hr : Rm a σ) (ha : a < 4) :
    Calls Tryz.prog 35 #[.pointer (some ⟨c, 0, none⟩), .int .i64 ((a : Int) + 1)] w fun e w' => e = .returned (.int .i64 0) ∧ Keeps (Own w0 L) w w' ∧ ∃ n' lv' σ', Cx w0 w' L c lp p dp 6 lb mb n' lv' σ' ∧ Half a σ' ∧ σ'.cnt ≤ σ.cnt + 100 := by
  obtain ⟨s, rest, hl, h1, h2⟩ := hr.head ha
  obtain ⟨s2, l, hs, hx, g1, g2, g3⟩ := hr.back ha
  obtain rfl : s2 = s := by rw [hl] at hs; exact (Option.some.inj hs).symm
  have hle := (h.ch.lg.2.1.le ((a : Int) + 1)).1
  have htk := hr.inv.tk
  rw [g3] at hle
  have hle' : 128 + 320 * l.length ≤ σ.T.1 := hle
  have hlo := g1.lo
  have hfin : lenL σ.rs = lenL (σ.recs.map rcS) := rfl
  refine (cx_commit h ((a : Int) + 1) ⟨by omega, by omega⟩ 0 s2 ⟨hs, hx, fun j s' hj => absurd hj (by omega)⟩ ⟨by omega, by omega⟩ (fun _ => by omega)).mono ?_
  rintro e w' ⟨rfl, hk, lv', hx'⟩
  exact ⟨rfl, hk, n, lv', _, hx', hr.half hl h1 h2 3 s2 hx'.ok, by show (σ.last 3 _ s2).cnt ≤ _; rw [(CS.last_M σ 3 _ s2).2.2.2.2.2]; omega⟩
theorem cx_abort_rm (h : Cx w0 w L c lp p dp 6 lb mb n lv σ) {a : Nat} (hr : Rm a σ) (ha : a < 4) (hcnt : σ.cnt < 1000000000) :
    Calls Tryz.prog 36 #[.pointer (some ⟨c, 0, none⟩), .int .i64 ((a : Int) + 1), kitV p] w fun e w' => e = .returned (.int .i64 0) ∧ Keeps (Own w0 L) w w' ∧ ∃ n' lv' σ', Cx w0 w' L c lp p dp 6 lb mb n' lv' σ' ∧ Half a σ' ∧ σ'.cnt ≤ σ.cnt + 100 := by
  obtain ⟨s, rest, hl, h1, h2⟩ := hr.head ha
  obtain ⟨s2, l, hs, hx, g1, g2, g3⟩ := hr.back ha
  obtain rfl : s2 = s := by rw [hl] at hs; exact (Option.some.inj hs).symm
  have hle := (h.ch.lg.2.1.le ((a : Int) + 1)).1
  have htk := hr.inv.tk
  rw [g3] at hle
  have hle' : 128 + 320 * l.length ≤ σ.T.1 := hle
  have hrv : Rev 6 σ ((a : Int) + 1) 0 s2 l := ⟨⟨hs, hx, fun j s' hj => absurd hj (by omega)⟩, ⟨by omega, by omega⟩, g1, g2, ⟨by rw [g3]; exact Nat.le_refl _, by rw [g3]; exact Nat.le_refl _⟩, htk⟩
  refine (cx_abort h hrv (by omega) (by omega)).mono ?_
  rintro e w' ⟨rfl, hk, σ', s', n', lv', hu, hs', hx'⟩
  have hok : ∀ R ∈ (σ'.last 4 ((a : Int) + 1) s').recs, RcOk R := hx'.ok
  obtain ⟨q, hq, -⟩ := last_recs σ' 4 ((a : Int) + 1) s'
  have hok1 : ∀ R ∈ σ'.recs, RcOk R := fun R hR => hok R (by rw [hq]; exact List.mem_append_left _ hR)
  have h320 : 320 * l.length ≤ σ.T.1 := by omega
  have htk2 := und_tk hu hok1 h320
  have hr2 : Rm a σ' := hr.undo (rest := []) hs hx (by rw [List.append_nil]; exact g1) (fun y hy => by cases hy) (by rw [List.append_nil]; exact g3) hu (by omega)
  obtain ⟨s3, rest3, e1, e2, e3⟩ := hr2.head ha
  exact ⟨rfl, hk, n', lv', _, hx', hr2.half e1 e2 e3 4 s' hok, by show (σ'.last 4 _ s').cnt ≤ _; rw [(CS.last_M σ' 4 _ s').2.2.2.2.2, und_cnt hu]; omega⟩
theorem cx_free_rm (h : Cx w0 w L c lp p dp 6 lb mb n lv σ) {a : Nat} (hr : Half a σ) (ha : a < 4) :
    Calls Tryz.prog 34 #[.pointer (some ⟨c, 0, none⟩), .int .i64 ((a : Int) + 1)] w fun e w' => e = .returned (.tuple #[]) ∧ Keeps (Own w0 L) w w' ∧ ∃ σ', Cx w0 w' L c lp p dp 6 lb mb n lv σ' ∧ Rm (a + 1) σ' ∧ σ'.cnt = σ.cnt := by
  refine (cx_drop h ((a : Int) + 1) ⟨by omega, by omega⟩).mono ?_
  rintro e w' ⟨rfl, hres⟩
  rcases hres with ⟨h1, _⟩ | ⟨_, h2, hk⟩
  · rcases h1 with ⟨s, h2, h3⟩ | h2
    · exact absurd h3 (hr.1 s h2)
    · omega
  · exact ⟨rfl, hk, _, h2, hr.2, rfl⟩
/-! the beginning -/
def bgN : Nat → CS
  | 0 => CS.init 1
  | j + 1 => (bgN j).begun
theorem bgN_facts : ∀ j, j ≤ 4 → (bgN j).lives.length = j ∧ (bgN j).fresh = (j : Int) + 1 ∧ (bgN j).T = (128 * j, 0) ∧ (bgN j).recs = [] ∧ (bgN j).cnt = j ∧ Inv 6 (bgN j)
  | 0, _ => ⟨rfl, rfl, rfl, rfl, rfl, Inv.init 6 1 (by omega)⟩
  | j + 1, h => by
    obtain ⟨h1, h2, h3, h4, h5, h6⟩ := bgN_facts j (by omega)
    refine ⟨?_, ?_, ?_, h4, ?_, ?_⟩
    · show ((bgN j).lives ++ [_]).length = _; rw [List.length_append, h1]; rfl
    · show (bgN j).fresh + 1 = _; rw [h2]; push_cast; omega
    · show ((bgN j).T.1 + 128, (bgN j).T.2 + 0) = _
      rw [h3]; exact Prod.ext (by show 128 * j + 128 = 128 * (j + 1); omega) rfl
    · show (bgN j).cnt + 1 = _; rw [h5]
    · refine h6.begun ⟨?_, ?_⟩
      · rw [h3]
        unfold CS.free CS.rs
        rw [h4]
        show 128 + 128 * j ≤ 6912 - lenL [] - 0
        rw [lenL]; omega
      · rw [h3]; show 0 + 0 ≤ 1073741824; omega
theorem bgN_four : Rm 0 (bgN 4) :=
  ⟨(bgN_facts 4 (by omega)).2.2.2.2.2, rfl, ⟨by decide, by decide⟩, fun x h1 h2 => by omega, rfl⟩
theorem cx_begin_n {j : Nat} (hj : j < 4) (h : Cx w0 w L c lp p dp 6 lb mb n lv (bgN j)) :
    Calls Tryz.prog 12 #[.pointer (some ⟨c, 0, none⟩)] w fun e w' => ∃ n' lv', e = .returned (.tuple #[.int .i64 ((j + 1 : Nat) : Int), .int .i64 0]) ∧ Keeps (Own w0 L) w w' ∧ Cx w0 w' L c lp p dp 6 lb mb n' lv' (bgN (j + 1)) := by
  obtain ⟨h1, h2, h3, h4, h5, h6⟩ := bgN_facts j (by omega)
  refine (cx_begin h ⟨by omega, by omega⟩ (by omega)).mono ?_
  rintro e w' ⟨hk, hr⟩
  rcases hr with ⟨g1, _⟩ | ⟨_, g1, _⟩ | ⟨_, _, g1, n', lv', g2⟩
  · omega
  · refine absurd ⟨?_, ?_⟩ g1
    · rw [h3]
      unfold CS.free CS.rs
      rw [h4]
      show 128 + 128 * j ≤ 6912 - lenL [] - 0
      rw [lenL]; omega
    · rw [h3]; show 0 + 0 ≤ 1073741824; omega
  · exact ⟨n', lv', by rw [g1, h2]; rfl, hk, g2⟩
/-- a change by one of the four -/
theorem cx_change_rm (h : Cx w0 w L c lp p dp 6 lb mb n lv σ) (hr : Rm 0 σ) (hcnt : σ.cnt < 10000000000) {f : Nat → Pg} (hok : ∀ i, i < 6 → PgOk (f i)) (x : Int) (hx : 1 ≤ x ∧ x ≤ 4) (y : LCall) (hy : ClOk y.st y.dt) (ib : Nat) (hib : ib ∈ L)
    (hi : w.heap[ib]? = some (.cells (imA ((pos6 y.page : Int), imgP f y)) 51 (0, 0))) :
    Calls Tryz.prog 15 #[.pointer (some ⟨c, 0, none⟩), .int .i64 x, .agg (unL (imgU f y)).toArray, .slice (some ⟨ib, 0, none⟩) 1 1, .int .i64 0] w fun e w' => ∃ cd n' σ', e = .returned (.int .i64 cd) ∧ Keeps (Own w0 L) w w' ∧ Cx w0 w' L c lp p dp 6 lb mb n' lv σ' ∧ Rm 0 σ' ∧ σ'.cnt ≤ σ.cnt + 1 ∧ (cd = 0 ∨ cd = 70) ∧ PgOk (imgP f y) := by
  have hPk : PgOk (imgP f y) := setCl_ok (P := kindC (f (pos6 y.page))) ⟨by have := (hok (pos6 y.page) (pos6_eq _).2).1; exact ⟨by show (0 : Int) ≤ 3; omega, by show (3 : Int) ≤ 4; omega, this.2.2⟩, (hok (pos6 y.page) (pos6_eq _).2).2⟩ hy
  refine (cx_change_full h hcnt hok x ⟨by omega, by omega⟩ y (by have := hy.2.2.1; unfold maxLen; omega) ib hib hi).mono ?_
  rintro e w' ⟨cd, n', σ', rfl, hk, hx', hres⟩
  have hex : ∃ s ∈ σ.lives, s.1 = x := by
    have h1 : x ∈ σ.lives.map (·.1) := by
      rw [hr.num]
      show x ∈ [(1 : Int), 2, 3, 4]
      simp; omega
    obtain ⟨s, h2, h3⟩ := List.mem_map.1 h1
    exact ⟨s, h2, h3⟩
  rcases hres with ⟨h1, _⟩ | ⟨i, s, h1, h2, h3, hres⟩
  · obtain ⟨s, h2, h3⟩ := hex
    exact absurd h3 (h1 s h2)
  · have hRok : RcOk (chgR x s.2.2 (imgU f y) [((pos6 y.page : Int), imgP f y)]) := by
      obtain ⟨l, k, g1, g2, g3, g4, g5, g6, g7⟩ := hr.inv.live i s h1
      have hlo := g1.lo
      have htk := hr.inv.tk
      have hfin : lenL σ.rs = lenL (σ.recs.map rcS) := rfl
      have hp6 := (pos6_eq y.page).2
      have hs6 := (pos6_eq y.slot).2
      obtain ⟨b1, b2, b3, b4⟩ := (hok (pos6 y.page) hp6).2 (pos6 y.slot) hs6
      refine ⟨⟨⟨by show (1 : Int) ≤ 1; omega, by show (1 : Int) ≤ 6; omega⟩, ⟨by show 0 ≤ x; omega, by show x ≤ 2147483647; omega⟩, ⟨by show 0 ≤ s.2.2; omega, by show s.2.2 ≤ 1099511627776; omega⟩, ⟨Int.le_refl _, by show (0 : Int) ≤ 1099511627776; decide⟩, ⟨Int.le_refl _, by show (0 : Int) ≤ 2147483647; decide⟩, ⟨by show (0 : Int) ≤ 1; omega, by show (1 : Int) ≤ 3; omega⟩, ⟨Int.le_refl _, by show (0 : Int) ≤ 6; decide⟩, ⟨by show (0 : Int) ≤ (pos6 y.page : Int); omega, by show (pos6 y.page : Int) ≤ 1023; omega⟩, ⟨by show (0 : Int) ≤ (pos6 y.slot : Int); omega, by show (pos6 y.slot : Int) ≤ 5; omega⟩, ?_, ⟨b1, b2⟩, b3, ?_, ?_⟩, fun z hz => ?_, fun z hz => by cases hz⟩
      · show (ByteArray.size ⟨#[]⟩) ≤ 8; decide
      · show 1 ≤ 24; decide
      · show 0 ≤ 8; decide
      · obtain rfl := List.mem_singleton.1 hz
        exact ⟨⟨by show (0 : Int) ≤ (pos6 y.page : Int); omega, by show (pos6 y.page : Int) ≤ 1023; omega⟩, hPk⟩
    rcases hres with ⟨h4, _⟩ | ⟨_, _, rfl, rfl⟩ | ⟨h4, h5, rfl, rfl⟩
    · exact absurd hRok h4
    · exact ⟨_, n', _, rfl, hk, hx', hr, by omega, .inr rfl, hPk⟩
    · exact ⟨_, n', _, rfl, hk, hx', hr.changed h1 h2 (imgU_good hok y x s.2.2 _) h5, Nat.le_refl _, .inl rfl, hPk⟩
end
end Go.Proofs.YtimomjheanfbmaaGreatDoor
