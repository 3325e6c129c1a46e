import Derived.Test.YtafiojmbaickpaaWalC
set_option linter.unusedSimpArgs false
set_option linter.unusedVariables false
namespace Go.Proofs.Ytafiojmbaickpaa
open Go.RowKit

def Lg.new (first n : Int) : Lg := { first := first, n := n, start := 54, fin := 54, firm := 54, base := 54, buf := ⟨#[]⟩, list := [] }
theorem Lg.new_ok (first n : Int) (h1 : 128 ≤ n) (h2 : n ≤ 4096) (h3 : 0 ≤ first) (h4 : first ≤ 16384) : LgOk (Lg.new first n) := by
  refine ⟨h1, h2, h3, h4, ?_, ?_, ?_, ?_, rfl, ?_, ?_, ?_, ?_, ?_⟩ <;> simp [Lg.new] <;> omega
theorem replicate_set_same {α : Type} (a : α) (n i : Nat) : (List.replicate n a).set i a = List.replicate n a := by
  apply List.ext_getElem?
  intro j
  rw [List.getElem?_set, List.getElem?_replicate]
  by_cases h : i = j
  · subst h; simp
  · simp [h]
/-- a device of blank sectors, some of them written blank anew -/
def Blank (D : Dev) (N i : Nat) : Prop := D.up ∧ D.firm = List.replicate N (zeros 64) ∧ D.seen = List.replicate N (zeros 64) ∧ D.soft.length = i
theorem Blank.write {D : Dev} {N i : Nat} (h : Blank D N i) (s : Int) (h0 : 0 ≤ s) (h1 : s < N) : ∃ D2, D.write s (zeros 64) = (D2, 0) ∧ Blank D2 N (i + 1) := by
  obtain ⟨hu, hf, hs, hl⟩ := h
  have hz := zeros_size 64
  rw [up_write hu, if_pos ⟨h0, by rw [hf, List.length_replicate]; exact h1, hz⟩]
  refine ⟨_, rfl, hu, hf, ?_, by simp [hl]⟩
  show D.seen.set _ _ = _
  rw [hs, replicate_set_same]
theorem Blank.barrier {D : Dev} {N i : Nat} (h : Blank D N i) : D.barrier = (Dev.new N, 0) := by
  obtain ⟨hu, hf, hs, hl⟩ := h
  rw [up_barrier hu]
  obtain ⟨f, so, se, fu, dn⟩ := D
  obtain ⟨h1, h2⟩ := hu
  simp only at hf hs hl h1 h2
  subst hf hs h1 h2
  rfl
set_option maxRecDepth 100000 in
set_option maxHeartbeats 1600000 in
theorem wal_create (dp N : Nat) (Sd : List Nat) (first n : Nat) (hNN : N ≤ 16384) (h1 : 128 ≤ n) (h2 : n ≤ 4096) (h3 : first + n ≤ N) (w : World) (h : DiskAt w dp (Dev.new N) Sd) :
    Calls Try.prog 10 #[.pointer (some ⟨dp, 0, none⟩), .int .i64 first, .int .i64 n] w fun e w' => ∃ p S Sd', e = .returned (.tuple #[.pointer (some ⟨p, 0, none⟩), .int .i64 0]) ∧ LogAt w' p dp (Lg.new first n) S ∧ DiskAt w' dp (Dev.new N) Sd' ∧ Keeps (· ∈ Sd) w w' ∧ (∀ k ∈ S, w.heap.size ≤ k ∧ k ∉ Sd') ∧ ∀ k ∈ Sd', k ∈ Sd ∨ w.heap.size ≤ k := by
  have HG := Lib.hid (wal_ring_yes dp (Dev.new N) Sd first n (by omega) (by omega) (by omega) (by show (first : Int) ≤ ((List.replicate N (zeros 64)).length : Int) - n; rw [List.length_replicate]; omega) w h)
  have HZ := Lib.hid (fun w2 => str_repeat ⟨#[0]⟩ rfl 64 (by omega) w2)
  have hlg := Lib.hid (Lg.new_ok first n (by omega) (by omega) (by omega) (by omega))
  have hz64 := zeros_size 64
  have HD := Lib.hid h
  generalize hZ : zeros 64 = Z at *
  clear h
  go_enter Try.func10, Try.ntmps10
  go_wp2_with fail
  refine (HG.out).mono ?_
  rintro e w1 ⟨rfl, rfl⟩
  go_wp2_with fail
  refine (HZ.out _).mono ?_
  rintro e w2 ⟨rfl, hb⟩
  have HD2 := Lib.hid (HD.out.later hb)
  have HK2 : Hid (Keeps (· ∈ Sd) w1 w2) := Keeps.of_below _ hb
  clear hb HZ HG HD
  go_wp2_with fail
  go_loopw [19] (fun s wr => ∃ (i : Nat) (D' : Dev) (S' : List Nat), i ≤ n ∧ s = .int .i64 i ∧ Hid (DiskAt wr dp D' S') ∧ Hid (Blank D' N i) ∧ Hid (Keeps (· ∈ Sd) w1 wr) ∧ Hid (∀ k ∈ S', k ∈ Sd ∨ w1.heap.size ≤ k)) (fun s _ => n - (intOf s).toNat)
  case atStart => exact ⟨0, _, _, by omega, rfl, HD2, ⟨up_new N, rfl, rfl, rfl⟩, HK2, fun k hk => .inl hk⟩
  case round =>
    clear HD2 HK2
    obtain ⟨i, D', S', hi, rfl, HD, HBl, HK, HS⟩ := hrel
    by_cases hin : i < n
    · have hi' : (i : Int) < n := by omega
      have wri : IntKind.i64.wrap ((i : Int) + 1) = (i : Int) + 1 := by rw [IntKind.wrap_i64]; omega
      have wrf : IntKind.i64.wrap ((first : Int) + i) = (first : Int) + i := by rw [IntKind.wrap_i64]; omega
      obtain ⟨D2, hw, hbl2⟩ := HBl.out.write ((first : Int) + i) (by omega) (by omega)
      rw [hZ] at hw
      have HW := Lib.hid (dsk_write dp ((first : Int) + i) Z (by rw [hz64]; unfold maxLen; omega) D' S' (by have := HBl.out.2.2.2; omega) wr HD.out)
      rw [hw] at HW
      replace hbl2 := Lib.hid hbl2
      replace hw := Lib.hid hw
      go_wp2_with fail
      refine (HW.out).mono ?_
      rintro e w3 ⟨rfl, S2, hd2, hk2, hs2⟩
      have HD3 := Lib.hid hd2
      have HK3 : Hid (Keeps (· ∈ Sd) w1 w3) := HK.out.trans hk2 (fun k hk h => (HS.out k h).resolve_right (by omega))
      have HS3 : Hid (∀ k ∈ S2, k ∈ Sd ∨ w1.heap.size ≤ k) := fun k hk => by
        rcases hs2 k hk with h | h
        · exact HS.out k h
        · have := HK.out.size; exact .inr (by omega)
      clear hd2 hk2 hs2 HW
      go_wp2_with fail
      go_roundw
      case rel => exact ⟨i + 1, D2, S2, by omega, rfl, HD3, hbl2, HK3, HS3⟩
      case measure => simp [intOf]; omega
    · obtain rfl : i = n := by omega
      have HW := Lib.hid (dsk_barrier dp D' S' wr HD.out)
      rw [HBl.out.barrier] at HW
      go_wp2_with fail
      refine (HW.out).mono ?_
      rintro e w3 ⟨rfl, S2, hd2, hk2, hs2⟩
      have HD3 := Lib.hid hd2
      have HK3 : Hid (Keeps (· ∈ Sd) w1 w3) := HK.out.trans hk2 (fun k hk h => (HS.out k h).resolve_right (by omega))
      have HS3 : Hid (∀ k ∈ S2, k ∈ Sd ∨ w1.heap.size ≤ k) := fun k hk => by
        rcases hs2 k hk with h | h
        · exact HS.out k h
        · have := HK.out.size; exact .inr (by omega)
      clear hd2 hk2 hs2 HW
      go_wp2_with fail
      go_ret2
      refine ⟨w3.heap.size, [w3.heap.size], S2, rfl, ⟨hlg.out, .slice none 0 0, .slice none 0 0, hN rfl, OwnS.nil _ _ _, OwnS.nil _ _ _, rfl, by simp⟩, HD3.out.later (bA bR), HK3.out.trans ((Keeps.refl (fun _ => False) w3).alloc _) (fun _ _ h => h.elim), fun k hk => ?_, HS3.out⟩
      have hk : k = w3.heap.size := by simpa using hk
      subst hk
      exact ⟨HK3.out.size, fun h => by have := HD3.out.lt _ h; omega⟩
end Go.Proofs.Ytafiojmbaickpaa
