import Derived.Test.YtimomjheanfbmaaGreatDoorMbq
set_option linter.unusedSimpArgs false
set_option linter.unusedVariables false
namespace Go.Proofs.YtimomjheanfbmaaGreatDoor
open Go.RowKit

theorem sl_one {w : World} {ib : Nat} {y : Int × Pg} {T : TypeId} (h : w.heap[ib]? = some (.cells (imA y) T (0, 0))) : Sl w (.slice (some ⟨ib, 0, none⟩) 1 1) 17 ([y].map imL) := by
  refine ⟨some ⟨ib, 0, none⟩, 1, rfl, by show 1 ≤ maxLen; unfold maxLen; omega, fun _ => ⟨ib, 0, rfl, block_lt h, fun i hi j hj => ?_⟩⟩
  have hi0 : i = 0 := by have : i < 1 := hi; omega
  subst hi0
  rw [cell_at h]
  show (imA y)[0 + 0 * 17 + j]? = (imL y)[j]?
  rw [show 0 + 0 * 17 + j = j by omega, ← Array.getElem?_toList]
  rfl
/-- where going back stands -/
structure BkSt (x : Int) (i : Nat) (bd : Int) (pg : Nat) (l : List (Int × Rc)) (σ σk : CS) (next : Int) (rest : List (Int × Rc)) : Prop where
  und : ∃ done, Und x i σ done σk ∧ l = done ++ rest ∧ ∀ y ∈ done, bd < y.1
  stk : Stk σk.recs next rest
  good : ∀ y ∈ rest, GoodU pg y.2
  bk : 320 * rest.length ≤ (σk.B x).1 ∧ rest.length ≤ (σk.B x).2
  tk : σk.T.1 + lenL σk.rs ≤ 6912
  liv : ∃ s, σk.lives[i]? = some s ∧ s.1 = x ∧ 0 ≤ s.2.2 ∧ s.2.2 ≤ 10000
  len : σk.lives.length = σ.lives.length
  cnt : σk.cnt + rest.length ≤ σ.cnt + l.length
theorem BkSt.step {x : Int} {i : Nat} {bd : Int} {pg : Nat} {l : List (Int × Rc)} {σ σk : CS} {next : Int} {R : Rc} {rest : List (Int × Rc)} (h : BkSt x i bd pg l σ σk next ((next, R) :: rest)) (hn : bd < next) (hkk : Stk σk.recs R.prev rest) {s : Lv} (hs : σk.lives[i]? = some s ∧ s.1 = x) {P : Pg}
    (hP : pgC P = pgC (setCl (σk.M R.up.toNat).1 R.ul.toNat R.bs R.bd)) (hsz : (rcS (clrR x s.2.2 R P)).size ≤ 265) (hle : 320 ≤ σk.T.1) : BkSt x i bd pg l σ (σk.undone x i s R P) R.prev rest := by
  obtain ⟨done, h1, h2, h3⟩ := h.und
  have hi := (List.getElem?_eq_some_iff.1 hs.1).1
  have hrs : (σk.undone x i s R P).rs = σk.rs ++ [rcS (clrR x s.2.2 R P)] := by unfold CS.rs CS.undone; rw [List.map_append]; rfl
  have hb := h.bk
  have ht := h.tk
  have hc := h.cnt
  rw [List.length_cons] at hb hc
  refine ⟨⟨done ++ [(next, R)], .snoc h1 hs.1 hs.2 hP, by rw [h2]; simp, fun y hy => ?_⟩, hkk.more _, fun y hy => h.good y (by simp [hy]), ?_, ?_, ?_, ?_, ?_⟩
  · rcases List.mem_append.1 hy with hy | hy
    · exact h3 y hy
    · rw [List.mem_singleton.1 hy]; exact hn
  · have e : (σk.undone x i s R P).B x = ((σk.B x).1 - 320, (σk.B x).2 - 1) := if_pos rfl
    rw [e]
    exact ⟨by show _ ≤ (σk.B x).1 - 320; omega, by show _ ≤ (σk.B x).2 - 1; omega⟩
  · rw [hrs, lenL_append, lenL, lenL]
    show σk.T.1 - 320 + _ ≤ 6912
    omega
  · have hf : (σk.fin : Int) ≤ 10000 := by unfold CS.fin; omega
    exact ⟨(s.1, s.2.1, (σk.fin : Int)), List.getElem?_set_self hi, hs.2, by show (0 : Int) ≤ (σk.fin : Int); omega, hf⟩
  · show (σk.lives.set i _).length = _; rw [List.length_set]; exact h.len
  · show σk.cnt + 1 + rest.length ≤ _; omega
theorem clr_ok {x : Int} {last : Int} {R : Rc} {P : Pg} {pg : Nat} (hx : 0 ≤ x ∧ x ≤ 2147483647) (hl : 0 ≤ last ∧ last ≤ 10000) (hp : 0 ≤ R.prev ∧ R.prev ≤ 10000) (hu : 0 ≤ R.up ∧ R.up < pg) (hpg : pg ≤ 1024) (hP : PgOk P) : RcOk (clrR x last R P) := by
  refine ⟨⟨⟨by show (1 : Int) ≤ 2; decide, by show (2 : Int) ≤ 6; decide⟩, ⟨hx.1, hx.2⟩, ⟨hl.1, by show last ≤ 1099511627776; omega⟩, ⟨hp.1, by show R.prev ≤ 1099511627776; omega⟩, ⟨Int.le_refl _, by show (0 : Int) ≤ 2147483647; decide⟩, ⟨Int.le_refl _, by show (0 : Int) ≤ 3; decide⟩, ⟨Int.le_refl _, by show (0 : Int) ≤ 6; decide⟩, ⟨Int.le_refl _, by show (0 : Int) ≤ 1023; decide⟩, ⟨Int.le_refl _, by show (0 : Int) ≤ 5; decide⟩, ?_, ⟨Int.le_refl _, by show (0 : Int) ≤ 2; decide⟩, ?_, ?_, ?_⟩, fun y hy => ?_, fun y hy => by cases hy⟩
  · show (ByteArray.size ⟨#[]⟩) ≤ 8; decide
  · show (ByteArray.size ⟨#[]⟩) ≤ 34; decide
  · show 1 ≤ 24; decide
  · show 0 ≤ 8; decide
  · obtain rfl := List.mem_singleton.1 hy
    exact ⟨⟨hu.1, by show R.up ≤ 1023; omega⟩, hP⟩
theorem clr_size {x last : Int} {R : Rc} {P : Pg} (h : RcOk (clrR x last R P)) : (rcS (clrR x last R P)).size = 265 := rcS_size h
theorem BkSt.pass {x : Int} {i : Nat} {bd : Int} {pg : Nat} {l : List (Int × Rc)} {σ σk : CS} {next next' : Int} {rest : List (Int × Rc)} (h : BkSt x i bd pg l σ σk next rest) (hk : Stk σk.recs next' rest) : BkSt x i bd pg l σ σk next' rest :=
  ⟨h.und, hk, h.good, h.bk, h.tk, h.liv, h.len, h.cnt⟩
theorem BkSt.top {x : Int} {i : Nat} {bd : Int} {pg : Nat} {l : List (Int × Rc)} {σ σk : CS} {next : Int} {rest : List (Int × Rc)} (h : BkSt x i bd pg l σ σk next rest) (hn : 0 < next) : ∃ R, AtR σk.recs next R ∧
    ((R.kind = 2 ∧ 0 ≤ R.next ∧ R.next < next ∧ Stk σk.recs R.next rest) ∨ (R.kind = 1 ∧ 0 ≤ R.prev ∧ R.prev < next ∧ ∃ rest', rest = (next, R) :: rest' ∧ Stk σk.recs R.prev rest')) := by
  have hst := h.stk
  cases hst with
  | nil => omega
  | clr h1 h2 h3 h4 h5 => exact ⟨_, h1, .inl ⟨h2, h3, h4, h5⟩⟩
  | upd h1 h2 h3 h4 h5 => exact ⟨_, h1, .inr ⟨h2, h3, h4, _, rfl, h5⟩⟩
def BackIs (w0 w : World) (L : List Nat) (c lp p dp pg lb mb : Nat) (lv : Value) (x : Int) (i : Nat) (bd : Int) (l : List (Int × Rc)) (σ : CS) : Prop :=
  ∃ σ' n' next rest, Cx w0 w L c lp p dp pg lb mb n' lv σ' ∧ BkSt x i bd pg l σ σ' next rest ∧ next ≤ bd
section
variable {w0 w w' : World} {L : List Nat} {c lp p dp pg lb mb n : Nat} {lv : Value} {σ : CS}
theorem restore_at (p : Nat) : ∀ w, (method (Tryz.prog.types.size + 100) 40 (.agg #[.pointer (some ⟨p, 0, none⟩)]) "Restore").run Tryz.prog w = .ok (213, .agg #[.pointer (some ⟨p, 0, none⟩)]) w := fun w => by kernel_rfl
def kitV (p : Nat) : Value := .iface 40 (.agg #[.pointer (some ⟨p, 0, none⟩)])
set_option maxRecDepth 100000 in
set_option maxHeartbeats 3200000 in
theorem cx_back (h : Cx w0 w L c lp p dp pg lb mb n lv σ) (x tu : Int) (hx : 1 ≤ x ∧ x ≤ 2147483647) (i : Nat) (s : Lv) (hi : σ.lives[i]? = some s ∧ s.1 = x ∧ (∀ j s', j < i → σ.lives[j]? = some s' → s'.1 ≠ x)) (l : List (Int × Rc)) (hS : Stk σ.recs s.2.2 l) (hG : ∀ y ∈ l, GoodU pg y.2)
    (hB : 320 * l.length ≤ (σ.B x).1 ∧ l.length ≤ (σ.B x).2) (hT : σ.T.1 + lenL σ.rs ≤ 6912) (hcnt : σ.cnt < 10000000000) (hpg : pg ≤ 1024) :
    Calls Tryz.prog 13 #[.pointer (some ⟨c, 0, none⟩), .int .i64 x, .int .i64 tu, kitV p] w fun e w' => e = .returned (.int .i64 0) ∧ Keeps (Own w0 L) w w' ∧
      BackIs w0 w' L c lp p dp pg lb mb lv x i (max tu 0) l σ := by
  have H := Lib.hid h
  have HFi := Lib.hid (ch_find h.ch x)
  obtain ⟨bd, hbd⟩ : ∃ b, max tu 0 = b := ⟨_, rfl⟩
  have hmx2 : (if tu < 0 then (0 : Int) else tu) = bd := by split <;> omega
  have hbd0 : 0 ≤ bd := by omega
  rw [hbd]
  have hlast : s.2.2 ≤ 10000 ∧ 0 ≤ s.2.2 := by have := hS.lo; have := h.count.2; unfold CS.rs at this; omega
  have hl21 : Hid (l.length ≤ 21) := by have := (h.ch.lg.2.1.le x).1; show _ ≤ _; omega
  have HBK : Hid (BkSt x i bd pg l σ σ s.2.2 l) := ⟨⟨[], .nil σ, rfl, fun y hy => by cases hy⟩, hS, hG, hB, hT, ⟨s, hi.1, hi.2.1, hlast.2, hlast.1⟩, rfl, Nat.le_refl _⟩
  have hil : i < σ.lives.length := (List.getElem?_eq_some_iff.1 hi.1).1
  obtain ⟨sa, sc, hlv⟩ := h.ch.own.form
  subst hlv
  obtain ⟨g, rfl⟩ := h.ch.own.spot (by omega)
  have mL := restore_at p
  have hfin := Lib.hid hi
  have hxk := Lib.hid hx
  have hcn := Lib.hid hcnt
  have hpg2 := Lib.hid hpg
  have hbd2 := Lib.hid hbd0
  clear h hS hG hB hT hlast hi hx hcnt hpg hbd0
  unfold kitV
  go_enter Tryz.func13, Tryz.ntmps13
  go_wp2_with fail
  refine (HFi.out).mono ?_
  rintro e w1 ⟨hr, hb1⟩
  obtain rfl : e = .returned (.int .i64 i) := by
    rcases hr with ⟨j, s', e1, e2, e3, he⟩ | ⟨e1, _⟩
    · have : j = i := by
        rcases Nat.lt_trichotomy j i with h | h | h
        · exact absurd e2 (hfin.out.2.2 j s' h e1)
        · exact h
        · exact absurd hfin.out.2.1 (e3 i s h hfin.out.1)
      subst this; exact he
    · exact absurd hfin.out.2.1 (e1 s (List.mem_of_getElem? hfin.out.1))
  have HX1 := Lib.hid (H.out.later hb1)
  have HK1 : Hid (Keeps (Own w0 L) w w1) := Keeps.of_below _ hb1
  have C3 : w1.cell? ⟨c, 3, none⟩ = some (.slice (some ⟨g, 0, none⟩) σ.lives.length sc) := cell_at HX1.out.ch.cell 3
  have hls := lv_range HX1.out.ch.own i s hfin.out.1 2 _ rfl
  have hi0 : ¬ (i : Int) < 0 := by omega
  have hd0 : decide ((i : Int) < 0) = false := decide_eq_false hi0
  have hi1 : (i : Int) < σ.lives.length := by omega
  have hilN := Lib.hid hil
  clear hr hb1 HFi hil
  go_wp2_with fail
  clear C3 hls hd0
  go_loopw [10] (fun y wr => ∃ (next : Int) (σk : CS) (nk : Nat) (rest : List (Int × Rc)), y = .int .i64 next ∧ Hid (Cx w0 wr L c lp p dp pg lb mb nk (.slice (some ⟨g, 0, none⟩) σ.lives.length sc) σk) ∧ Hid (BkSt x i bd pg l σ σk next rest) ∧ Hid (Keeps (Own w0 L) w wr)) (fun y _ => (intOf y).toNat)
  case atStart => exact ⟨s.2.2, σ, n, l, rfl, HX1, HBK, HK1⟩
  case round =>
    obtain ⟨next, σk, nk, rest, rfl, HX, HBk, HK⟩ := hrel
    by_cases hgt : bd < next
    rotate_left
    · have hdg : decide (bd < next) = false := decide_eq_false hgt
      go_wp2_with fail
      go_ret
      exact ⟨rfl, HK.out, σk, nk, next, rest, HX.out, HBk.out, (by omega)⟩
    have hdg : decide (bd < next) = true := decide_eq_true hgt
    have hgtN := Lib.hid hgt
    have hnx : 0 < next := by have := hbd2.out; omega
    obtain ⟨R, hA, hcase⟩ := HBk.out.top hnx
    have hok := HX.out.ok R hA.mem
    obtain ⟨Q0, hdec0, hsame⟩ := dec_same hok
    have hRsz := (rc_sizes hok).2
    have HRd := Lib.hid (cx_read HX.out hA)
    have hAn := Lib.hid hA
    have hokN := Lib.hid hok
    obtain ⟨S, hS⟩ : ∃ S, rcS R = S := ⟨_, rfl⟩
    rw [hS] at hdec0 hRsz HRd
    have HDc := Lib.hid (fun w => rc_decode S (by unfold maxLen; omega) w)
    have hdecN := Lib.hid hdec0
    have hsameN := Lib.hid hsame
    have hcaseN := Lib.hid hcase
    have C0 : wr.cell? ⟨c, 0, none⟩ = some (.pointer (some ⟨lp, 0, none⟩)) := cell_at HX.out.ch.cell 0
    clear hgt hnx hA hok hdec0 hsame hcase hRsz hS
    go_wp2_with fail
    refine (HRd.out).mono ?_
    rintro e w2 ⟨rfl, hb2⟩
    have HX2 := Lib.hid (HX.out.later hb2)
    have HK2 : Hid (Keeps (Own w0 L) w w2) := HK.out.trans (Keeps.of_below (fun _ => False) hb2) (fun _ _ h => h.elim)
    clear hb2 HRd C0 HX HK hdg
    go_wp2_with fail
    refine (HDc.out _).mono ?_
    rintro e w3 ⟨hdi, hb3⟩
    obtain ⟨Q, iv, lw, rfl, hsl, hsQ⟩ : ∃ (Q : Rc) (iv lw : Value), e = .returned (.tuple #[.agg (rcC Q iv lw), .int .i64 0]) ∧ RcSl w3 Q iv lw ∧ SameRc Q R := by
      rcases hdi with ⟨Q, iv, lw, hd, he, hsl⟩ | ⟨hd, _⟩
      · have hq : Q = Q0 := by have := hd.symm.trans hdecN.out; injection this
        exact ⟨Q, iv, lw, he, hsl, hq ▸ hsameN.out⟩
      · rw [hdecN.out] at hd; cases hd
    have HX3 := Lib.hid (HX2.out.later hb3)
    have HK3 : Hid (Keeps (Own w0 L) w w3) := HK2.out.trans (Keeps.of_below (fun _ => False) hb3) (fun _ _ h => h.elim)
    have hones : Hid (∀ v ∈ (rcC Q iv lw).toList, v.oneCell' = true) := rcC_one (by obtain ⟨a', m', c', rfl, _⟩ := sl_open hsl.1; rfl) (by obtain ⟨a', m', c', rfl, _⟩ := sl_open hsl.2.1; rfl)
    have hbdz := Lib.hid hsl.2.2.2.1
    have HN3 : Hid ((w3.alloc (.cells (rcC rcZ nilS nilS) 65)).heap[w3.heap.size]? = some (.cells (rcC rcZ nilS nilS) 65 (0, 0))) := hN rfl
    have hsQN := Lib.hid hsQ
    clear hb3 hdi HX2 HK2 hsl HDc hsQ
    go_upto_region 12 with (refine wpList_store_whole rfl 65 _ _ rfl _ (rcC Q iv lw) rfl rfl _ (rcC rcZ nilS nilS) HN3.out rfl (by kernel_rfl) hones.out ?_; intro w4 HR4 K4; (have hk4 : Keeps (fun _ => False) w3 w4 := ((Keeps.refl (fun _ => False) w3).alloc _).trans K4.out (fun q hq e => by omega)); (have HX4 := Lib.hid (HX3.out.push hk4.below w3.heap.size (Nat.le_refl _) (block_lt HR4.out))); (have HK4 : Hid (Keeps (Own w0 L) w w4) := HK3.out.trans hk4 (fun _ _ h => h.elim)); clear K4 hk4 HN3 HX3 HK3)
    obtain ⟨q1, q2, q3, q4, q5, q6, q7, q8, q9, q10, q11, q12, -, -⟩ := hsQN.out
    have R0 : w4.cell? ⟨w3.heap.size, 0, none⟩ = some (.int .i64 R.kind) := by rw [← q1]; exact cell_at HR4.out 0
    have R2 : w4.cell? ⟨w3.heap.size, 2, none⟩ = some (.int .i64 R.prev) := by rw [← q3]; exact cell_at HR4.out 2
    have R3 : w4.cell? ⟨w3.heap.size, 3, none⟩ = some (.int .i64 R.next) := by rw [← q4]; exact cell_at HR4.out 3
    have RU : Hid (w4.rangeAt w3.heap.size 4 (unL { uk := R.uk, us := R.us, up := R.up, ul := R.ul, key := R.key, bs := R.bs, bd := R.bd })) := by
      show World.rangeAt _ _ _ _
      rw [← q6, ← q7, ← q8, ← q9, ← q10, ← q11, ← q12]
      exact World.rangeAt_of_block HR4.out 4 7
    have hbdR : Hid (R.bd.size ≤ maxLen) := by show _ ≤ _; rw [← q12]; exact hbdz.out
    clear q1 q2 q3 q4 q5 q6 q7 q8 q9 q10 q11 q12
    rcases hcaseN.out with ⟨hk2, hn0, hnl, hst⟩ | ⟨hk1, hp0, hpl, rest', hre, hst⟩
    · rw [hk2] at R0
      have HXl := Lib.hid HX4.out.pop
      have HBn := Lib.hid (HBk.out.pass hst)
      have hmeas : Hid (R.next.toNat < next.toNat) := by show _ < _; omega
      clear hk2 hn0 hnl hst hcaseN
      go_wp2_with fail
      go_roundw
      case rel => exact ⟨R.next, σk, nk, rest, rfl, HXl, HBn, HK4⟩
      case measure => simpa [intOf] using hmeas.out
    rw [hk1] at R0
    have hgood := HBk.out.good (next, R) (by rw [hre]; simp)
    obtain ⟨g1, ⟨g2, g3⟩, ⟨g4, g5⟩, g6⟩ := hgood
    dsimp only at g1 g2 g3 g4 g5 g6
    obtain ⟨up, hup⟩ : ∃ k : Nat, R.up = k := ⟨R.up.toNat, by omega⟩
    obtain ⟨ul, hul⟩ : ∃ k : Nat, R.ul = k := ⟨R.ul.toNat, by omega⟩
    obtain ⟨s2, hs2, hsx, hsl0, hsl1⟩ := HBk.out.liv
    have hul6 : ul < 6 := by omega
    have hupg : up < pg := by omega
    have hbk := HBk.out.bk
    rw [hre, List.length_cons] at hbk
    have HRs := Lib.hid (cx_restore HX4.out { uk := R.uk, us := R.us, up := R.up, ul := R.ul, key := R.key, bs := R.bs, bd := R.bd } g1 up ul hup hul hupg hul6 hbdR.out)
    have hpgm := Lib.hid (HX4.out.pages up hupg)
    have hle := HX4.out.ch.lg.2.1.le x
    have hmost := Lib.hid HX4.out.most
    have hnk := Lib.hid HX4.out.cn
    have hcnk : Hid (σk.cnt ≤ 20000000000) := by have := HBk.out.cnt; have := hl21.out; have := hcn.out; show _ ≤ _; omega
    have hbkN := Lib.hid hbk
    have hleN := Lib.hid hle
    have hg6 := Lib.hid g6
    have hupN := Lib.hid hup
    have hulN := Lib.hid hul
    have hs2N := Lib.hid (And.intro hs2 (And.intro hsx (And.intro hsl0 hsl1)))
    have hul6N := Lib.hid hul6
    have hupgN := Lib.hid hupg
    have hpN : Hid (0 ≤ R.prev ∧ R.prev ≤ 10000 ∧ R.prev < next) := ⟨hp0, by have := hAn.out.lo; have := HX4.out.count.2; unfold CS.rs at this; omega, hpl⟩
    have hreN := Lib.hid hre
    have hstN := Lib.hid hst
    clear hk1 hp0 hpl hre hst hcaseN g1 g2 g3 g4 g5 g6 hup hul hs2 hsx hsl0 hsl1 hul6 hupg hbk hle R3
    go_wp2_with (refine wpList_load_mid rfl 42 _ rfl w3.heap.size 4 rfl (unL { uk := R.uk, us := R.us, up := R.up, ul := R.ul, key := R.key, bs := R.bs, bd := R.bd }) _ RU.out Tryz.underlying42 rfl (by kernel_rfl) ?_)
    refine (HRs.out).mono ?_
    rintro e w5 ⟨ib, Q', hQ', rfl, hib, hx5, hk5⟩
    have HR5 := Lib.hid (hk5.keep HR4.out (own_loc (by simp)))
    have HX5 := Lib.hid hx5
    have HI5 := Lib.hid hib
    have HK5 : Hid (Keeps (Own w0 L) w w5) := HK4.out.trans hk5 (fun k _ h => ⟨h.1, fun h' => h.2 (by simp [h'])⟩)
    obtain ⟨P, hP⟩ : ∃ P, setCl Q' ul R.bs R.bd = P := ⟨_, rfl⟩
    rw [hP] at HI5
    have hPok : PgOk P := by rw [← hP]; exact setCl_ok (pgC_ok hQ' hpgm.out) hg6.out
    have hPeq : pgC P = pgC (setCl (σk.M R.up.toNat).1 R.ul.toNat R.bs R.bd) := by
      rw [← hP, hupN.out, hulN.out, Int.toNat_natCast, Int.toNat_natCast]
      exact setCl_congr hQ' ul hul6N.out _ _
    have hokc : Hid (RcOk (clrR x s2.2.2 R P)) := clr_ok ⟨by have := hxk.out.1; omega, hxk.out.2⟩ hs2N.out.2.2 ⟨hpN.out.1, hpN.out.2.1⟩ ⟨by rw [hupN.out]; omega, by have := hupgN.out; rw [hupN.out]; omega⟩ hpg2.out hPok
    have hPokN := Lib.hid hPok
    have hPeqN := Lib.hid hPeq
    have HGv := Lib.hid (lg_give hx5.ch.lg hmost.out (by have := hnk.out; have := hcnk.out; omega) x ⟨by have := hxk.out.1; omega, by have := hxk.out.2; omega⟩ 320 1 ⟨by have := hbkN.out.1; omega, by have := hbkN.out.2; omega⟩)
    rw [flB_clr, flB_one] at HGv
    have C2 : w5.cell? ⟨c, 2, none⟩ = some (.pointer (some ⟨lb, 0, none⟩)) := cell_at hx5.ch.cell 2
    clear hx5 hib hk5 HRs HX4 HK4 HR4 RU hP hPok hPeq hQ' R0 R2
    go_wp2_with fail
    refine (HGv.out).mono ?_
    rintro e w6 ⟨rfl, hl6, hk6⟩
    have HX6 := Lib.hid (HX5.out.book (q := σk.cnt + 1) hl6 hk6 ⟨by have := hmost.out.1; show _ - _ ≤ _; omega, by have := hmost.out.2; show _ - _ ≤ _; omega⟩ (by have := hnk.out; omega))
    have hmbl : mb ∉ ib :: w3.heap.size :: L := (HX5.out.hi mb (by simp [chL])).2
    have HR6 := Lib.hid (hk6.keep HR5.out (fun e => hmbl (by simp [e])))
    have HI6 := Lib.hid (hk6.keep HI5.out (fun e => hmbl (by simp [e])))
    have HK6 : Hid (Keeps (Own w0 L) w w6) := HK5.out.trans hk6 (fun k _ e => by subst e; exact ⟨(HX5.out.hi _ (by simp [chL])).1, fun h' => hmbl (by simp [h'])⟩)
    clear hl6 hk6 HGv C2 HX5 HR5 HI5 HK5 hmbl
    go_upto_region 20 with fail
    have hown6 : OwnS w6 61 3 (.slice (some ⟨g, 0, none⟩) σ.lives.length sc) σk.lives.length (lvV σk.lives) := HX6.out.ch.own
    have hlen : σk.lives.length = σ.lives.length := HBk.out.len
    rw [hlen] at hown6
    have hS0 : w6.drew.cell? ⟨c, 3, none⟩ = some (.slice (some ⟨g, 0, none⟩) σ.lives.length sc) ∧ w6.drew.cell? ⟨g, i * 3 + 2, none⟩ = some (.int .i64 s2.2.2) ∧ w6.drew.cell? ⟨w3.heap.size, 2, none⟩ = some (.int .i64 R.prev) :=
      ⟨cell_at HX6.out.ch.cell 3, lv_range hown6 i s2 hs2N.out.1 2 _ rfl, by rw [← hsQN.out.2.2.1]; exact cell_at HR6.out 2⟩
    have HXd := Lib.hid (HX6.out.later (bD bR))
    have HRd6 := Lib.hid (hDr HR6.out)
    have HId := Lib.hid (hDr HI6.out)
    have HKd : Hid (Keeps (Own w0 L) w w6.drew) := HK6.out.drew
    clear HX6 HR6 HI6 HK6 hown6 hlen
    refine wp_region_held_drew (S := fun W => W.cell? ⟨c, 3, none⟩ = some (.slice (some ⟨g, 0, none⟩) σ.lives.length sc) ∧ W.cell? ⟨g, i * 3 + 2, none⟩ = some (.int .i64 s2.2.2) ∧ W.cell? ⟨w3.heap.size, 2, none⟩ = some (.int .i64 R.prev)) (by kernel_rfl) hS0 (fun hHeld => ?_)
    refine wpAnyH_take (i := 0) (oi := ⟨some 79, _, _, _, _, _⟩) (v := ?_) rfl (by kernel_rfl) (by kernel_rfl) (by kernel_rfl) (fun _ _ _ h => h) (Or.inl ⟨by rfl, ?_⟩) hHeld ?_
    rotate_left
    · intro w' hSw
      obtain ⟨s3, s4, s5⟩ := hSw
      go_simp
      try with_reducible rfl
      try omega
    simp only [Act.put, List.setIfInBounds_toArray, List.set_cons_zero, List.set_cons_succ]
    refine wpAnyH_take (i := 1) (oi := ⟨some 80, _, _, _, _, _⟩) (v := ?_) rfl (by kernel_rfl) (by kernel_rfl) (by kernel_rfl) (fun _ _ _ h => h) (Or.inl ⟨by rfl, ?_⟩) hHeld ?_
    rotate_left
    · intro w' hSw
      obtain ⟨s3, s4, s5⟩ := hSw
      go_simp
      try with_reducible rfl
      try omega
    simp only [Act.put, List.setIfInBounds_toArray, List.set_cons_zero, List.set_cons_succ]
    refine wpAnyH_take (i := 2) (oi := ⟨some 81, _, _, _, _, _⟩) (v := ?_) rfl (by kernel_rfl) (by kernel_rfl) (by kernel_rfl) (fun _ _ _ h => h) (Or.inl ⟨by rfl, ?_⟩) hHeld ?_
    rotate_left
    · intro w' hSw
      obtain ⟨s3, s4, s5⟩ := hSw
      go_simp
      try with_reducible rfl
      try omega
    simp only [Act.put, List.setIfInBounds_toArray, List.set_cons_zero, List.set_cons_succ]
    refine wpAnyH_take (i := 3) (oi := ⟨some 82, _, _, _, _, _⟩) (v := ?_) rfl (by kernel_rfl) (by kernel_rfl) (by kernel_rfl) (fun _ _ _ h => h) (Or.inl ⟨by rfl, ?_⟩) hHeld ?_
    rotate_left
    · intro w' hSw
      obtain ⟨s3, s4, s5⟩ := hSw
      go_simp
      try with_reducible rfl
      try omega
    simp only [Act.put, List.setIfInBounds_toArray, List.set_cons_zero, List.set_cons_succ]
    refine wpAnyH_take (i := 4) (oi := ⟨some 83, _, _, _, _, _⟩) (v := ?_) rfl (by kernel_rfl) (by kernel_rfl) (by kernel_rfl) (fun _ _ _ h => h) (Or.inl ⟨by rfl, ?_⟩) hHeld ?_
    rotate_left
    · intro w' hSw
      obtain ⟨s3, s4, s5⟩ := hSw
      go_simp
      try with_reducible rfl
      try omega
    simp only [Act.put, List.setIfInBounds_toArray, List.set_cons_zero, List.set_cons_succ]
    refine wpAnyH_take (i := 5) (oi := ⟨some 84, _, _, _, _, _⟩) (v := ?_) rfl (by kernel_rfl) (by kernel_rfl) (by kernel_rfl) (fun _ _ _ h => h) (Or.inl ⟨by rfl, ?_⟩) hHeld ?_
    rotate_left
    · intro w' hSw
      obtain ⟨s3, s4, s5⟩ := hSw
      go_simp
      try with_reducible rfl
      try omega
    simp only [Act.put, List.setIfInBounds_toArray, List.set_cons_zero, List.set_cons_succ]
    refine wpAnyH_take (i := 6) (oi := ⟨some 85, _, _, _, _, _⟩) (v := ?_) rfl (by kernel_rfl) (by kernel_rfl) (by kernel_rfl) (fun _ _ _ h => h) (Or.inl ⟨by rfl, ?_⟩) hHeld ?_
    rotate_left
    · intro w' hSw
      obtain ⟨s3, s4, s5⟩ := hSw
      go_simp
      try with_reducible rfl
      try omega
    simp only [Act.put, List.setIfInBounds_toArray, List.set_cons_zero, List.set_cons_succ]
    refine wpAnyH_take (i := 7) (oi := ⟨some 86, _, _, _, _, _⟩) (v := ?_) rfl (by kernel_rfl) (by kernel_rfl) (by kernel_rfl) (fun _ _ _ h => h) (Or.inl ⟨by rfl, ?_⟩) hHeld ?_
    rotate_left
    · intro w' hSw
      obtain ⟨s3, s4, s5⟩ := hSw
      go_simp
      try with_reducible rfl
      try omega
    simp only [Act.put, List.setIfInBounds_toArray, List.set_cons_zero, List.set_cons_succ]
    refine wpAnyH_take (i := 8) (oi := ⟨some 87, _, _, _, _, _⟩) (v := ?_) rfl (by kernel_rfl) (by kernel_rfl) (by kernel_rfl) (fun _ _ _ h => h) (Or.inl ⟨by rfl, ?_⟩) hHeld ?_
    rotate_left
    · intro w' hSw
      obtain ⟨s3, s4, s5⟩ := hSw
      go_simp
      try with_reducible rfl
      try omega
    simp only [Act.put, List.setIfInBounds_toArray, List.set_cons_zero, List.set_cons_succ]
    refine wpAnyH_take (i := 9) (oi := ⟨some 88, _, _, _, _, _⟩) (v := ?_) rfl (by kernel_rfl) (by kernel_rfl) (by kernel_rfl) (fun _ _ _ h => h) (Or.inl ⟨by rfl, ?_⟩) hHeld ?_
    rotate_left
    · intro w' hSw
      obtain ⟨s3, s4, s5⟩ := hSw
      go_simp
      try with_reducible rfl
      try omega
    simp only [Act.put, List.setIfInBounds_toArray, List.set_cons_zero, List.set_cons_succ]
    refine wpAnyH_take (i := 10) (oi := ⟨some 89, _, _, _, _, _⟩) (v := ?_) rfl (by kernel_rfl) (by kernel_rfl) (by kernel_rfl) (fun _ _ _ h => h) (Or.inl ⟨by rfl, ?_⟩) hHeld ?_
    rotate_left
    · intro w' hSw
      obtain ⟨s3, s4, s5⟩ := hSw
      go_simp
      try with_reducible rfl
      try omega
    simp only [Act.put, List.setIfInBounds_toArray, List.set_cons_zero, List.set_cons_succ]
    refine wpAnyH_take (i := 11) (oi := ⟨some 90, _, _, _, _, _⟩) (v := ?_) rfl (by kernel_rfl) (by kernel_rfl) (by kernel_rfl) (fun _ _ _ h => h) (Or.inl ⟨by rfl, ?_⟩) hHeld ?_
    rotate_left
    · intro w' hSw
      obtain ⟨s3, s4, s5⟩ := hSw
      go_simp
      try with_reducible rfl
      try omega
    simp only [Act.put, List.setIfInBounds_toArray, List.set_cons_zero, List.set_cons_succ]
    refine wpAnyH_take (i := 12) (oi := ⟨some 91, _, _, _, _, _⟩) (v := ?_) rfl (by kernel_rfl) (by kernel_rfl) (by kernel_rfl) (fun _ _ _ h => h) (Or.inl ⟨by rfl, ?_⟩) hHeld ?_
    rotate_left
    · intro w' hSw
      obtain ⟨s3, s4, s5⟩ := hSw
      go_simp
      try with_reducible rfl
      try omega
    simp only [Act.put, List.setIfInBounds_toArray, List.set_cons_zero, List.set_cons_succ]
    refine wpAnyH_take (i := 13) (oi := ⟨some 92, _, _, _, _, _⟩) (v := .agg (rcC (clrR x s2.2.2 R P) (.slice (some ⟨ib, 0, none⟩) 1 1) nilS)) rfl (by kernel_rfl) (by kernel_rfl) (by kernel_rfl) (fun _ _ _ h => h) (Or.inl ⟨by rfl, ?_⟩) hHeld ?_
    · intro w' hSw
      clear hSw
      go_simp
      try rfl
      try omega
    simp only [Act.put, List.setIfInBounds_toArray, List.set_cons_zero, List.set_cons_succ]
    refine wpAnyH_ready (rs := [14]) (by kernel_rfl) (by simp) ?_
    refine AllReadyH.cons (o := ⟨some 93, _, _, _, _, _⟩) rfl (fun K hK => ?_) AllReadyH.nil
    go_simp
    go_at_call 57
    have HW := Lib.hid (cx_write HXd.out (clrR x s2.2.2 R P) hokc.out (by show 1 ≤ 1; omega) (fun y hy => by obtain rfl := List.mem_singleton.1 hy; show R.up < _; rw [hupN.out]; have := hupgN.out; omega) (.slice (some ⟨ib, 0, none⟩) 1 1) nilS (fun w' hk => ⟨by
      have := sl_one (hk.keep HId.out (own_loc (by simp)))
      rw [← hupN.out] at this
      exact this, nil_sl w', by show 0 ≤ maxLen; omega, by show 0 ≤ maxLen; omega, fun y hy j hj => by
      obtain rfl := List.mem_singleton.1 hy
      have := (hPokN.out.2 j hj).2.2.1
      unfold maxLen
      show (P.dt j).size ≤ _
      omega⟩))
    refine (HW.out).mono ?_
    rintro e w7 ⟨hres, hk7⟩
    have hsz := clr_size hokc.out
    have HK7 : Hid (Keeps (Own w0 L) w w7) := HKd.out.trans hk7 (fun k _ h => ⟨h.1, fun h' => h.2 (by simp [h'])⟩)
    have HR7 := Lib.hid (hk7.keep HRd6.out (own_loc (by simp)))
    rcases hres with ⟨hf, -⟩ | ⟨-, he, hx7⟩
    · exfalso
      have h1 : 6912 < lenL σk.rs + (2 + (rcS (clrR x s2.2.2 R P)).size) := hf
      have := HBk.out.tk
      have := hbkN.out.1
      have := hleN.out.1
      omega
    obtain ⟨fin, hfn⟩ : ∃ f : Int, (σk.fin : Int) = f := ⟨_, rfl⟩
    have he' : e = .returned (.tuple #[.int .i64 fin, .int .i64 0]) := by rw [he, ← hfn]; rfl
    subst he'
    have HX7 : Hid (Cx w0 w7 L c lp p dp pg lb mb (nk + 1) (.slice (some ⟨g, 0, none⟩) σ.lives.length sc) { σk with recs := σk.recs ++ [clrR x s2.2.2 R P], M := putIms σk.M [(R.up, P)] (σk.fin : Int), B := subB σk.B x 320 1, T := (σk.T.1 - 320, σk.T.2 - 1), cnt := σk.cnt + 1 }) := hx7.pop.pop
    have hlen : σk.lives.length = σ.lives.length := HBk.out.len
    have hown7 : OwnS w7 61 3 (.slice (some ⟨g, 0, none⟩) σ.lives.length sc) σ.lives.length (lvV σk.lives) := by
      have := hx7.ch.own
      rw [← hlen]
      exact (show OwnS w7 61 3 (.slice (some ⟨g, 0, none⟩) σ.lives.length sc) σk.lives.length (lvV σk.lives) from this) |> fun h => by rw [hlen] at h ⊢; exact h
    have hS7 : w7.cell? ⟨c, 3, none⟩ = some (.slice (some ⟨g, 0, none⟩) σ.lives.length sc) ∧ w7.cell? ⟨g, i * 3 + 2, none⟩ = some (.int .i64 s2.2.2) ∧ w7.cell? ⟨w3.heap.size, 2, none⟩ = some (.int .i64 R.prev) :=
      ⟨cell_at HX7.out.ch.cell 3, lv_range hown7 i s2 hs2N.out.1 2 _ rfl, by rw [← hsQN.out.2.2.1]; exact cell_at HR7.out 2⟩
    have HFN := Lib.hid hfn
    have HO7 := Lib.hid hown7
    have hszN := Lib.hid hsz
    have hgb : g ∈ blk (.slice (some ⟨g, 0, none⟩) σ.lives.length sc) := by simp [blk, Value.ownBlock]
    have hog : Hid (Own w0 L g) := HX7.out.owns (by simp [chL, hgb])
    have hgr : Hid (w3.heap.size ≠ g) := fun e => (hx7.hi g (by simp [chL, hgb])).2 (by simp [e])
    have hlenN := Lib.hid hlen
    clear hx7 he hk7 HW HXd HRd6 HId HKd hS0 hfn hown7 hsz hlen
    go_wp2_with fail
    refine hK.out _ _ hS7 (fun hHeld => ?_)
    clear hK K
    try simp only [Act.put, List.setIfInBounds_toArray, List.set_cons_zero, List.set_cons_succ]
    refine wpAnyH_take (i := 15) (oi := ⟨some 78, _, _, _, _, _⟩) (v := ?_) rfl (by kernel_rfl) (by kernel_rfl) (by kernel_rfl) (fun _ _ _ h => h) (Or.inl ⟨by rfl, ?_⟩) hHeld ?_
    rotate_left
    · intro w' hSw
      clear hSw
      go_simp
      try with_reducible rfl
      try omega
    simp only [Act.put, List.setIfInBounds_toArray, List.set_cons_zero, List.set_cons_succ]
    refine wpAnyH_take (i := 16) (oi := ⟨some 94, _, _, _, _, _⟩) (v := ?_) rfl (by kernel_rfl) (by kernel_rfl) (by kernel_rfl) (fun _ _ _ h => h) (Or.inl ⟨by rfl, ?_⟩) hHeld ?_
    rotate_left
    · intro w' hSw
      clear hSw
      go_simp
      try with_reducible rfl
      try omega
    simp only [Act.put, List.setIfInBounds_toArray, List.set_cons_zero, List.set_cons_succ]
    refine wpAnyH_take (i := 17) (oi := ⟨some 95, _, _, _, _, _⟩) (v := ?_) rfl (by kernel_rfl) (by kernel_rfl) (by kernel_rfl) (fun _ _ _ h => h) (Or.inl ⟨by rfl, ?_⟩) hHeld ?_
    rotate_left
    · intro w' hSw
      clear hSw
      go_simp
      try with_reducible rfl
      try omega
    simp only [Act.put, List.setIfInBounds_toArray, List.set_cons_zero, List.set_cons_succ]
    refine wpAnyH_take (i := 18) (oi := ⟨some 16, _, _, _, _, _⟩) (v := ?_) rfl (by kernel_rfl) (by kernel_rfl) (by kernel_rfl) (fun _ _ _ h => h) (Or.inl ⟨by rfl, ?_⟩) hHeld ?_
    rotate_left
    · intro w' hSw
      clear hSw
      go_simp
      try with_reducible rfl
      try omega
    simp only [Act.put, List.setIfInBounds_toArray, List.set_cons_zero, List.set_cons_succ]
    refine wpAnyH_take (i := 19) (oi := ⟨some 15, _, _, _, _, _⟩) (v := ?_) rfl (by kernel_rfl) (by kernel_rfl) (by kernel_rfl) (fun _ _ _ h => h) (Or.inl ⟨by rfl, ?_⟩) hHeld ?_
    rotate_left
    · intro w' hSw
      clear hSw
      go_simp
      try with_reducible rfl
      try omega
    simp only [Act.put, List.setIfInBounds_toArray, List.set_cons_zero, List.set_cons_succ]
    clear hHeld
    refine wpAnyH_done (by kernel_rfl) ?_ _
    obtain ⟨C3, G2, -⟩ := hS7
    have F2 := own_free HO7.out (i * 3 + 2)
    go_upto_region 24 with fail
    have hb9 : BkSt x i bd pg l σ (σk.undone x i s2 R P) R.prev rest' := by
      have h9 := HBk.out
      rw [hreN.out] at h9
      exact h9.step hgtN.out hstN.out ⟨hs2N.out.1, hs2N.out.2.1⟩ hPeqN.out (by rw [hszN.out]; exact Nat.le_refl _) (by have := hbkN.out.1; have := hleN.out.1; omega)
    have HB9 := Lib.hid hb9
    have hun : Hid (σk.undone x i s2 R P = { { σk with recs := σk.recs ++ [clrR x s2.2.2 R P], M := putIms σk.M [(R.up, P)] (σk.fin : Int), B := subB σk.B x 320 1, T := (σk.T.1 - 320, σk.T.2 - 1), cnt := σk.cnt + 1 } with lives := σk.lives.set i (s2.1, s2.2.1, fin) }) := by
      show _ = _
      unfold CS.undone
      rw [HFN.out]
    clear hb9
    refine name_world (fun W => Cx w0 W L c lp p dp pg lb mb (nk + 1) (.slice (some ⟨g, 0, none⟩) σ.lives.length sc) (σk.undone x i s2 R P) ∧ W.cell? ⟨w3.heap.size, 2, none⟩ = some (.int .i64 R.prev) ∧ Keeps (Own w0 L) w W) ⟨?_, ?_, HK7.out.setCell _ _ (.inl hog.out)⟩ ?_
    · rw [hun.out]
      refine HX7.out.setIn (l := σk.lives.set i (s2.1, s2.2.1, fin)) ?_ ((Keeps.refl _ _).setCell _ _ (.inl hgb)) (by rw [List.length_set])
      have h2 := HO7.out.set (i * 3 + 2) (.int .i64 fin)
      rw [lvV_set σk.lives i 2 s2 (s2.1, s2.2.1, fin) (.int .i64 fin) hs2N.out.1 (by decide) rfl] at h2
      rw [List.length_set, hlenN.out]
      exact h2
    · rw [cell_at (hSO HR7.out hgr.out) 2]
      rw [← hsQN.out.2.2.1]
      rfl
    rintro W9 ⟨hx9, R9, hk9⟩
    have HX9 := Lib.hid hx9
    have HK9 := Lib.hid hk9
    have hmeas : Hid (R.prev.toNat < next.toNat) := by have := hpN.out; show _ < _; omega
    clear hx9 hk9 C3 G2 F2 HX7 HK7 HR7 HO7
    go_wp2_with fail
    go_roundw
    case rel => exact ⟨R.prev, σk.undone x i s2 R P, nk + 1, rest', rfl, HX9, HB9, HK9⟩
    case measure => simpa [intOf] using hmeas.out
end
end Go.Proofs.YtimomjheanfbmaaGreatDoor
