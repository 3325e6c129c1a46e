import Derived.Test.YtafiojmbaickpaaWalE
set_option linter.unusedSimpArgs false
set_option linter.unusedVariables false
namespace Go.Proofs.Ytafiojmbaickpaa
open Go.RowKit

def abS : ByteArray := ⟨#[97, 98]⟩
def logAb : Lg := (Lg.new 0 128).push abS
theorem wal_create0 (dp N : Nat) (Sd : List Nat) (hN : N ≤ 16384) (h3 : 128 ≤ N) (w : World) (h : DiskAt w dp (Dev.new N) Sd) :
    Calls Try.prog 10 #[.pointer (some ⟨dp, 0, none⟩), .int .i64 0, .int .i64 128] w fun e w' => ∃ p S Sd', e = .returned (.tuple #[.pointer (some ⟨p, 0, none⟩), .int .i64 0]) ∧ LogAt w' p dp (Lg.new 0 128) S ∧ DiskAt w' dp (Dev.new N) Sd' ∧ Keeps (· ∈ Sd) w w' ∧ (∀ k ∈ S, w.heap.size ≤ k ∧ k ∉ Sd') ∧ ∀ k ∈ Sd', k ∈ Sd ∨ w.heap.size ≤ k :=
  wal_create dp N Sd 0 128 hN (by omega) (by omega) (by omega) w h
theorem secAb : (logAb.secAt 1).extract 0 14 = ⟨#[2, 0, 0, 0, 0, 0, 0, 0, 4, 0, 2, 0, 97, 98]⟩ := by kernel_rfl
theorem secAb_size : (logAb.secAt 1).size = 64 := secS_size _ _ (by decide)
theorem flushAb : (logAb.flushed (Dev.new 128) 1 1).2.2 = 0 ∧ ((logAb.flushed (Dev.new 128) 1 1).2.1).read 1 = (logAb.secAt 1, 0) := by
  have h0 : logAb.fl (Dev.new 128) 1 1 = (Dev.new 128).write 1 (logAb.secAt 1) := by
    show (if (Lg.fl logAb (Dev.new 128) 1 0).2 ≠ 0 then _ else (Lg.fl logAb (Dev.new 128) 1 0).1.write _ _) = _
    rw [if_neg (by show ¬ ((0 : Int) ≠ 0); decide)]
    rfl
  have hl : (Dev.new 128).firm.length = 128 := List.length_replicate
  have h1 := up_write (up_new 128) 1 (logAb.secAt 1)
  rw [if_pos ⟨by decide, by rw [hl]; decide, secAb_size⟩] at h1
  unfold Lg.flushed
  rw [h0, h1]
  have hb := up_barrier (D := { Dev.new 128 with seen := (Dev.new 128).seen.set (1 : Int).toNat (logAb.secAt 1), soft := (Dev.new 128).soft ++ [(1, logAb.secAt 1)] }) ⟨rfl, rfl⟩
  simp only [ne_eq, not_true_eq_false, if_false]
  rw [hb]
  simp only [ne_eq, not_true_eq_false, if_false]
  refine ⟨by simp, ?_⟩
  rw [up_read rfl 1 (by decide) (by show (1 : Int) < ((Dev.new 128).seen.set (1 : Int).toNat (logAb.secAt 1)).length; rw [List.length_set]; show (1 : Int) < ((List.replicate 128 (zeros 64)).length : Int); rw [List.length_replicate]; decide)]
  show (((List.replicate 128 (zeros 64)).set 1 (logAb.secAt 1)).getD 1 ⟨#[]⟩, (0 : Int)) = _
  rw [List.getD_eq_getElem?_getD, List.getElem?_set]
  simp
set_option maxRecDepth 100000 in
set_option maxHeartbeats 1600000 in
theorem awake07 (w : World) : Calls Try.prog 8 #[] w fun e w' => e = .returned (.bool true) ∧ Below w.heap.size w w' := by
  have HN := Lib.hid (dsk_new 128 (by omega) (by omega) w)
  rw [show ((128 : Nat) : Int) = 128 from rfl] at HN
  go_enter Try.func8, Try.ntmps8
  go_wp2_with fail
  refine (HN.out).mono ?_
  rintro e w1 ⟨dp, Sd, rfl, hd, hb, hS⟩
  have HC := Lib.hid (wal_create0 dp 128 Sd (by omega) (by omega) w1 hd)
  have HB1 := Lib.hid hb
  have hS := Lib.hid hS
  have hdl := Lib.hid (hd.lt)
  clear hb hd HN
  go_wp2_with fail
  refine (HC.out).mono ?_
  rintro e w2 ⟨p, S, Sd2, rfl, hl, hd, hk, hS2, hSd2⟩
  have HA := Lib.hid (wal_append_ok p dp (Lg.new 0 128) S abS (by decide) (by decide) (by decide) w2 hl)
  have HB2 : Hid (Below w.heap.size w w2) := HB1.out.trans (hk.belowB HB1.out.size hS.out)
  have HD2 := Lib.hid hd
  have hlow : Hid (∀ k ∈ S, w.heap.size ≤ k ∧ k ∉ Sd2) := fun k hk => ⟨Nat.le_trans HB1.out.size (hS2 k hk).1, (hS2 k hk).2⟩
  have hlow2 : Hid (∀ k ∈ Sd2, w.heap.size ≤ k) := fun k hk => (hSd2 k hk).elim (hS.out k) (fun h => Nat.le_trans HB1.out.size h)
  have hlt2 := Lib.hid hd.lt
  clear hl hd hk hS2 hSd2 HC HB1 hS hdl
  go_wp2_with fail
  refine (HA.out).mono ?_
  rintro e w3 ⟨rfl, S3, hl, hk, hs3⟩
  have HL3 := Lib.hid hl
  have HD3 := Lib.hid (HD2.out.keep hk (fun k h1 h2 => (hlow.out k h2).2 h1))
  have HB3 : Hid (Below w.heap.size w w3) := HB2.out.trans (hk.belowB HB2.out.size (fun k h => (hlow.out k h).1))
  have hdis : ∀ k ∈ S3, k ∉ Sd2 := fun k h1 h2 => by
    rcases hs3 k h1 with h | h
    · exact (hlow.out k h).2 h2
    · have := hlt2.out k h2; omega
  have hlow3 : Hid (∀ k ∈ S3, w.heap.size ≤ k) := fun k h1 => (hs3 k h1).elim (fun h => (hlow.out k h).1) (fun h => Nat.le_trans HB2.out.size h)
  have HF := Lib.hid (wal_flush p dp logAb S3 Sd2 (Dev.new 128) 54 1 1 (by decide) (by decide) (by decide) 1 (by decide) (by decide) (fun k => by
    have e : logAb.fin = 58 := by decide
    rw [e]
    omega) (by decide) w3 hl HD3.out hdis)
  clear hl hk hs3 hdis HA HB2 HD2
  rw [show (Lg.new 0 128).fin = 54 from rfl]
  go_wp2_with fail
  refine (HF.out).mono ?_
  rintro e w4 ⟨rfl, Sd4, hl4, hd4, hk4, hs4⟩
  obtain ⟨f1, f2⟩ := flushAb
  rw [f1]
  have HR := Lib.hid (dsk_read dp 1 _ Sd4 w4 hd4)
  rw [f2] at HR
  have HB4 : Hid (Below w.heap.size w w4) := HB3.out.trans (hk4.belowB HB3.out.size (fun k h => h.elim (hlow3.out k) (hlow2.out k)))
  have hsz := secAb_size
  have hex := secAb
  generalize logAb.secAt 1 = X at *
  have hszI : (X.size : Int) = 64 := by omega
  clear hl4 hd4 hk4 hs4 f1 f2 HF
  go_wp2_with fail
  refine (HR.out).mono ?_
  rintro e w5 ⟨rfl, rfl⟩
  go_wp2_with fail
  go_ret
  exact ⟨rfl, HB4.out⟩
end Go.Proofs.Ytafiojmbaickpaa
