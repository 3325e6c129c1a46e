import Derived.Test.YtafiojmbaickpaaWalF
set_option linter.unusedSimpArgs false
set_option linter.unusedVariables false
namespace Go.Proofs.Ytafiojmbaickpaa
open Go.RowKit

theorem refuse_none {G : Lg} {rec : ByteArray} (h : G.refuse rec = none) : rec.size ≠ 0 ∧ rec.size ≤ 65535 ∧ 2 + (rec.size : Int) ≤ G.room := by
  unfold Lg.refuse at h
  have h0 : rec.size ≠ 0 := fun e => by rw [if_pos e] at h; cases h
  rw [if_neg h0] at h
  have h1 : ¬ 65535 < rec.size := fun e => by rw [if_pos e] at h; cases h
  rw [if_neg h1] at h
  have h2 : ¬ G.room < 2 + rec.size := fun e => by rw [if_pos e] at h; cases h
  exact ⟨h0, by omega, by omega⟩
set_option maxRecDepth 100000 in
set_option maxHeartbeats 3200000 in
theorem walRoom_walk (v0 : Value) (ss : List ByteArray) (w : World) (h : StrSl w v0 ss) :
    Calls Try.prog 3 #[v0] w fun e w' => e = .returned (.bool true) ∧ Below w.heap.size w w' := by
  obtain ⟨ad, cc, rfl, hml⟩ := h.form
  have HX := Lib.hid h
  have HA := Lib.hid (awake07 w)
  obtain ⟨m, hm⟩ : ∃ m, ss.length = m := ⟨_, rfl⟩
  rw [hm] at hml HX ⊢
  replace hm := Lib.hid hm
  unfold maxLen at hml
  clear h
  have HN := Lib.hid (fun w1 => dsk_new 128 (by omega) (by omega) w1)
  rw [show ((128 : Nat) : Int) = 128 from rfl] at HN
  go_enter Try.func3, Try.ntmps3
  go_wp2_with fail
  refine (HA.out).mono ?_
  rintro e w0 ⟨rfl, hb⟩
  have HB0 := Lib.hid hb
  clear hb HA
  go_wp2_with fail
  refine (HN.out w0).mono ?_
  rintro e w1 ⟨dp, Sd, rfl, hd, hb, hS⟩
  have HC := Lib.hid (wal_create0 dp 128 Sd (by omega) (by omega) w1 hd)
  have HB1 := Lib.hid (bT HB0.out hb)
  have hS : Hid (∀ k ∈ Sd, w.heap.size ≤ k) := fun k hk => Nat.le_trans HB0.out.size (hS k hk)
  clear hb hd HN HB0
  go_wp2_with fail
  refine (HC.out).mono ?_
  rintro e w2 ⟨p, S, Sd2, rfl, hl, hd, hk, hS2, hSd2⟩
  have HL2 := Lib.hid hl
  have HB2 : Hid (Below w.heap.size w w2) := HB1.out.trans (hk.belowB HB1.out.size hS.out)
  have hlow : Hid (∀ k ∈ S, w.heap.size ≤ k) := fun k hk => Nat.le_trans HB1.out.size (hS2 k hk).1
  clear hl hd hk hS2 hSd2 HC HB1 hS
  go_wp2_with fail
  go_loopw [33] (fun s wr => ∃ (i : Nat) (G : Lg) (S' : List Nat), i ≤ m ∧ s = .int .i64 i ∧ Hid (LogAt wr p dp G S') ∧ Hid (G.base = 54 ∧ G.n = 128) ∧ Hid (∀ k ∈ S', w.heap.size ≤ k) ∧ Hid (Below w.heap.size w wr)) (fun s _ => m - (intOf s).toNat)
  case atStart => exact ⟨0, _, S, by omega, rfl, HL2, ⟨rfl, rfl⟩, hlow, HB2⟩
  case round =>
    clear HL2 hlow HB2
    obtain ⟨i, G, S', hi, rfl, HL, HG, hlow, HB⟩ := hrel
    by_cases him : i < m
    rotate_left
    · obtain rfl : i = m := by omega
      go_wp2_with fail
      go_ret
      exact ⟨rfl, HB.out⟩
    · have hi' : (i : Int) < m := by omega
      have hi0 : (0 : Int) ≤ i := by omega
      have wri : IntKind.i64.wrap ((i : Int) + 1) = (i : Int) + 1 := by rw [IntKind.wrap_i64]; omega
      obtain ⟨b, off, rfl, hbl, c0, hrs⟩ := HX.out.at HB.out i (by rw [hm.out]; exact him)
      generalize ss.getD i ⟨#[]⟩ = rec at c0 hrs
      obtain ⟨hok, -⟩ := id HL.out
      obtain ⟨a1, a2, a3, a4, a5, a6, a7, a8, -⟩ := hok
      obtain ⟨g1, g2⟩ := HG.out
      have hfin : G.fin ≤ 7000 := by omega
      have hfin0 : 0 ≤ G.fin := by omega
      have hroom : 0 ≤ G.room ∧ G.room ≤ 7000 := by unfold Lg.room; omega
      have HR := Lib.hid (wal_room p dp G S' wr HL.out)
      have hrs' := hrs
      unfold maxLen at hrs'
      have hpush : (G.push rec).room = G.room - (2 + rec.size) := by unfold Lg.room Lg.push; simp only; omega
      have hpf : (G.push rec).fin = G.fin + (2 + rec.size) := rfl
      have hpb : Hid ((G.push rec).base = 54 ∧ (G.push rec).n = 128) := HG.out
      replace a1 := Lib.hid a1
      replace g1 := Lib.hid g1
      replace g2 := Lib.hid g2
      clear a1 a2 a3 a4 a5 a6 a7 a8
      cases hrf : G.refuse rec with
      | some cde =>
        have HAp := Lib.hid (fun w1 h1 => wal_append_no p dp G S' rec hrs cde hrf w1 h1)
        have hcase : (rec.size = 0 ∧ cde = 1) ∨ (rec.size ≠ 0 ∧ 65535 < rec.size ∧ cde = 2) ∨ (rec.size ≠ 0 ∧ rec.size ≤ 65535 ∧ G.room < 2 + (rec.size : Int) ∧ cde = 70) := by
          unfold Lg.refuse at hrf
          by_cases h0 : rec.size = 0
          · rw [if_pos h0] at hrf
            exact .inl ⟨h0, (Option.some.inj hrf).symm⟩
          · rw [if_neg h0] at hrf
            by_cases h1 : 65535 < rec.size
            · rw [if_pos h1] at hrf
              exact .inr (.inl ⟨h0, h1, (Option.some.inj hrf).symm⟩)
            · rw [if_neg h1] at hrf
              by_cases h2 : G.room < 2 + (rec.size : Int)
              · rw [if_pos h2] at hrf
                exact .inr (.inr ⟨h0, by omega, h2, (Option.some.inj hrf).symm⟩)
              · rw [if_neg h2] at hrf; cases hrf
        replace hrf := Lib.hid hrf
        have HSp := Lib.hid (fun w1 (h1 : LogAt w1 p dp G S') => wal_span p dp G S' w1 h1)
        have HRm := Lib.hid (fun w1 (h1 : LogAt w1 p dp G S') => wal_room p dp G S' w1 h1)
        generalize G.room = R at *
        generalize G.fin = F at *
        generalize G.start = St at *
        generalize G.firm = Fm at *
        clear hpush hpf
        rcases hcase with ⟨h0, rfl⟩ | ⟨h0, h1, rfl⟩ | ⟨h0, h1, h2, rfl⟩
        · obtain rfl := str_none h0
          replace h0 := Lib.hid h0
          go_wp2_with fail
          refine (HR.out).mono ?_
          rintro e w3 ⟨rfl, hb⟩
          have HL3 := Lib.hid (HL.out.later hb)
          have HB3 := Lib.hid (bT HB.out hb)
          clear hb HR HL HB
          go_wp2_with fail
          refine (HSp.out _ HL3.out).mono ?_
          rintro e w4 ⟨rfl, hb⟩
          have HL4 := Lib.hid (HL3.out.later hb)
          have HB4 := Lib.hid (bT HB3.out hb)
          clear hb HL3 HB3
          go_wp2_with fail
          refine (HAp.out _ HL4.out).mono ?_
          rintro e w5 ⟨rfl, hb⟩
          have HL5 := Lib.hid (HL4.out.later hb)
          have HB5 := Lib.hid (bT HB4.out hb)
          clear hb HAp HL4 HB4
          go_wp2_with fail
          refine (HSp.out _ HL5.out).mono ?_
          rintro e w6 ⟨rfl, hb⟩
          have HL6 := Lib.hid (HL5.out.later hb)
          have HB6 := Lib.hid (bT HB5.out hb)
          clear hb HL5 HB5
          go_wp2_with fail
          refine (HRm.out _ HL6.out).mono ?_
          rintro e w7 ⟨rfl, hb⟩
          have HL7 := Lib.hid (HL6.out.later hb)
          have HB7 := Lib.hid (bT HB6.out hb)
          clear hb HL6 HB6
          go_wp2_with fail
          go_roundw
          case rel => exact ⟨i + 1, _, S', by omega, rfl, HL7, HG, hlow, HB7⟩
          case measure => simp [intOf]; omega
        · obtain ⟨n1, n2⟩ := str_some h0
          have h65 : (65535 : Int) < rec.size := by omega
          replace h0 := Lib.hid h0
          go_wp2_with fail
          refine (HR.out).mono ?_
          rintro e w3 ⟨rfl, hb⟩
          have HL3 := Lib.hid (HL.out.later hb)
          have HB3 := Lib.hid (bT HB.out hb)
          clear hb HR HL HB
          go_wp2_with fail
          refine (HSp.out _ HL3.out).mono ?_
          rintro e w4 ⟨rfl, hb⟩
          have HL4 := Lib.hid (HL3.out.later hb)
          have HB4 := Lib.hid (bT HB3.out hb)
          clear hb HL3 HB3
          go_wp2_with fail
          refine (HAp.out _ HL4.out).mono ?_
          rintro e w5 ⟨rfl, hb⟩
          have HL5 := Lib.hid (HL4.out.later hb)
          have HB5 := Lib.hid (bT HB4.out hb)
          clear hb HAp HL4 HB4
          go_wp2_with fail
          refine (HSp.out _ HL5.out).mono ?_
          rintro e w6 ⟨rfl, hb⟩
          have HL6 := Lib.hid (HL5.out.later hb)
          have HB6 := Lib.hid (bT HB5.out hb)
          clear hb HL5 HB5
          go_wp2_with fail
          refine (HRm.out _ HL6.out).mono ?_
          rintro e w7 ⟨rfl, hb⟩
          have HL7 := Lib.hid (HL6.out.later hb)
          have HB7 := Lib.hid (bT HB6.out hb)
          clear hb HL6 HB6
          go_wp2_with fail
          go_roundw
          case rel => exact ⟨i + 1, _, S', by omega, rfl, HL7, HG, hlow, HB7⟩
          case measure => simp [intOf]; omega
        · obtain ⟨n1, n2⟩ := str_some h0
          have h65 : ¬ (65535 : Int) < rec.size := by omega
          have e1 : IntKind.i64.wrap ((rec.size : Int) + 2) = (rec.size : Int) + 2 := by rw [IntKind.wrap_i64]; omega
          have b2 : R < (rec.size : Int) + 2 := by omega
          replace h0 := Lib.hid h0
          go_wp2_with fail
          refine (HR.out).mono ?_
          rintro e w3 ⟨rfl, hb⟩
          have HL3 := Lib.hid (HL.out.later hb)
          have HB3 := Lib.hid (bT HB.out hb)
          clear hb HR HL HB
          go_wp2_with fail
          refine (HSp.out _ HL3.out).mono ?_
          rintro e w4 ⟨rfl, hb⟩
          have HL4 := Lib.hid (HL3.out.later hb)
          have HB4 := Lib.hid (bT HB3.out hb)
          clear hb HL3 HB3
          go_wp2_with fail
          refine (HAp.out _ HL4.out).mono ?_
          rintro e w5 ⟨rfl, hb⟩
          have HL5 := Lib.hid (HL4.out.later hb)
          have HB5 := Lib.hid (bT HB4.out hb)
          clear hb HAp HL4 HB4
          go_wp2_with fail
          refine (HSp.out _ HL5.out).mono ?_
          rintro e w6 ⟨rfl, hb⟩
          have HL6 := Lib.hid (HL5.out.later hb)
          have HB6 := Lib.hid (bT HB5.out hb)
          clear hb HL5 HB5
          go_wp2_with fail
          refine (HRm.out _ HL6.out).mono ?_
          rintro e w7 ⟨rfl, hb⟩
          have HL7 := Lib.hid (HL6.out.later hb)
          have HB7 := Lib.hid (bT HB6.out hb)
          clear hb HL6 HB6
          go_wp2_with fail
          go_roundw
          case rel => exact ⟨i + 1, _, S', by omega, rfl, HL7, HG, hlow, HB7⟩
          case measure => simp [intOf]; omega
      | none =>
        have HAp := Lib.hid (wal_append_ok p dp G S' rec hrs hrf (by omega))
        obtain ⟨h0, h1, h2⟩ := refuse_none hrf
        replace hrf := Lib.hid hrf
        have HSp := Lib.hid (fun w1 (h1 : LogAt w1 p dp G S') => wal_span p dp G S' w1 h1)
        have HSp2 := Lib.hid (fun w1 S' (h1 : LogAt w1 p dp (G.push rec) S') => wal_span p dp (G.push rec) S' w1 h1)
        have HRm2 := Lib.hid (fun w1 S' (h1 : LogAt w1 p dp (G.push rec) S') => wal_room p dp (G.push rec) S' w1 h1)
        rw [hpush] at HRm2
        rw [hpf] at HSp2
        obtain ⟨n1, n2⟩ := str_some h0
        have h65 : ¬ (65535 : Int) < rec.size := by omega
        replace h0 := Lib.hid h0
        generalize G.room = R at *
        generalize G.fin = F at *
        generalize G.start = St at *
        generalize G.firm = Fm at *
        generalize (G.push rec).start = St2 at *
        generalize (G.push rec).firm = Fm2 at *
        have e1 : IntKind.i64.wrap ((rec.size : Int) + 2) = (rec.size : Int) + 2 := by rw [IntKind.wrap_i64]; omega
        have e2 : IntKind.i64.wrap (R - (rec.size : Int)) = R - (rec.size : Int) := by rw [IntKind.wrap_i64]; omega
        have e3 : IntKind.i64.wrap (R - (rec.size : Int) - 2) = R - (rec.size : Int) - 2 := by rw [IntKind.wrap_i64]; omega
        have e4 : IntKind.i64.wrap (F + (rec.size : Int)) = F + (rec.size : Int) := by rw [IntKind.wrap_i64]; omega
        have e5 : IntKind.i64.wrap (F + (rec.size : Int) + 2) = F + (rec.size : Int) + 2 := by rw [IntKind.wrap_i64]; omega
        have b1 : (F == F) = true := by simp
        have b2 : ¬ (R < (rec.size : Int) + 2) := by omega
        have b3 : (R - (2 + (rec.size : Int)) != R - (rec.size : Int) - 2) = false := by simp; omega
        have b4 : (F + (2 + (rec.size : Int)) != F + (rec.size : Int) + 2) = false := by simp; omega
        clear hpush hpf
        go_wp2_with fail
        refine (HR.out).mono ?_
        rintro e w3 ⟨rfl, hb⟩
        have HL3 := Lib.hid (HL.out.later hb)
        have HB3 := Lib.hid (bT HB.out hb)
        clear hb HR HL HB
        go_wp2_with fail
        refine (HSp.out _ HL3.out).mono ?_
        rintro e w4 ⟨rfl, hb⟩
        have HL4 := Lib.hid (HL3.out.later hb)
        have HB4 := Lib.hid (bT HB3.out hb)
        clear hb HL3 HB3
        go_wp2_with fail
        refine (HAp.out _ HL4.out).mono ?_
        rintro e w5 ⟨rfl, S5, hl5, hk5, hs5⟩
        have HB5 : Hid (Below w.heap.size w w5) := HB4.out.trans (hk5.belowB HB4.out.size hlow.out)
        have hlow5 : Hid (∀ k ∈ S5, w.heap.size ≤ k) := fun k hk => (hs5 k hk).elim (hlow.out k) (fun h => Nat.le_trans HB4.out.size h)
        have HL5 := Lib.hid hl5
        clear hl5 hk5 hs5 HAp HL4 HB4
        go_wp2_with fail
        refine (HSp2.out _ _ HL5.out).mono ?_
        rintro e w6 ⟨rfl, hb⟩
        have HL6 := Lib.hid (HL5.out.later hb)
        have HB6 := Lib.hid (bT HB5.out hb)
        clear hb HL5 HB5
        go_wp2_with fail
        refine (HRm2.out _ _ HL6.out).mono ?_
        rintro e w7 ⟨rfl, hb⟩
        have HL7 := Lib.hid (HL6.out.later hb)
        have HB7 := Lib.hid (bT HB6.out hb)
        clear hb HL6 HB6
        go_wp2_with fail
        go_roundw
        case rel => exact ⟨i + 1, _, S5, by omega, rfl, HL7, hpb, hlow5, HB7⟩
        case measure => simp [intOf]; omega
end Go.Proofs.Ytafiojmbaickpaa
