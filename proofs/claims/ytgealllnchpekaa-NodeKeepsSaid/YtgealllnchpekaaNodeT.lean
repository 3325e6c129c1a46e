import Derived.Test.YtgealllnchpekaaNodeS
import Derived.Test.YtgealllnchpekaaNodeH
import Derived.Test.YtgealllnchpekaaLibF
set_option linter.unusedSimpArgs false
set_option linter.unusedVariables false
namespace Go.Proofs.Ytgealllnchpekaa
open Go.RowKit

/-! ### a page that is handed in -/
theorem fb1 {H : Type} {enc : TypeId × Value → H} {P : Program} {W : World} {sp : Nat → Bool} {held : Bool} {k : Kd} {ks : List Kd} {cs : List Value} (h : Fa enc P W sp held (k :: ks) cs) : ∃ c r, cs = c :: r ∧ KdOk enc P W sp held k c ∧ Fa enc P W sp held ks r := by
  match cs, h with
  | c :: r, h => exact ⟨c, r, rfl, h.1, h.2⟩
theorem fb0 {H : Type} {enc : TypeId × Value → H} {P : Program} {W : World} {sp : Nat → Bool} {held : Bool} {cs : List Value} (h : Fa enc P W sp held [] cs) : cs = [] := by
  match cs, h with
  | [], _ => rfl
def PgIs (v : Value) (P : Pg) : Prop := v = pgV P ∧ ∀ i, (P.dt i).size ≤ maxLen
theorem flatPg : flat Try.prog 6 26 = some [.i .i64, .i .i64, .i .i64, .i .i64, .i .i64, .s, .i .i64, .s, .i .i64, .s, .i .i64, .s, .i .i64, .s, .i .i64, .s] := by kernel_rfl
theorem page_of {H : Type} {enc : TypeId × Value → H} {W : World} {base : Nat} {v : Value} {d : DataW H} {p : List MemPlace} (hok : Value.okWide Try.prog W .any base 26 v)
    (h : DataW.Trod enc Try.prog W 0 (fun _ => true) true 26 v d p) : ∃ P, PgIs v P := by
  obtain ⟨cs, rfl, hf⟩ := agg_of 6 flatPg (by rw [Try.underlying26]) hok h
  obtain ⟨_, r0, e0, ⟨n0, rfl, z0⟩, f0⟩ := fb1 hf
  obtain ⟨_, r1, rfl, ⟨n1, rfl, z1⟩, f1⟩ := fb1 f0
  obtain ⟨_, r2, rfl, ⟨n2, rfl, z2⟩, f2⟩ := fb1 f1
  obtain ⟨_, r3, rfl, ⟨n3, rfl, z3⟩, f3⟩ := fb1 f2
  obtain ⟨_, r4, rfl, ⟨n4, rfl, z4⟩, f4⟩ := fb1 f3
  obtain ⟨_, r5, rfl, ⟨n5, rfl, z5⟩, f5⟩ := fb1 f4
  obtain ⟨_, r6, rfl, ⟨n6, rfl, z6⟩, f6⟩ := fb1 f5
  obtain ⟨_, r7, rfl, ⟨n7, rfl, z7⟩, f7⟩ := fb1 f6
  obtain ⟨_, r8, rfl, ⟨n8, rfl, z8⟩, f8⟩ := fb1 f7
  obtain ⟨_, r9, rfl, ⟨n9, rfl, z9⟩, f9⟩ := fb1 f8
  obtain ⟨_, r10, rfl, ⟨n10, rfl, z10⟩, f10⟩ := fb1 f9
  obtain ⟨_, r11, rfl, ⟨n11, rfl, z11⟩, f11⟩ := fb1 f10
  obtain ⟨_, r12, rfl, ⟨n12, rfl, z12⟩, f12⟩ := fb1 f11
  obtain ⟨_, r13, rfl, ⟨n13, rfl, z13⟩, f13⟩ := fb1 f12
  obtain ⟨_, r14, rfl, ⟨n14, rfl, z14⟩, f14⟩ := fb1 f13
  obtain ⟨_, r15, rfl, ⟨n15, rfl, z15⟩, f15⟩ := fb1 f14
  obtain rfl := fb0 f15
  refine ⟨⟨n0, n1, n2, n3, fun i => match i with | 0 => n4 | 1 => n6 | 2 => n8 | 3 => n10 | 4 => n12 | _ => n14, fun i => match i with | 0 => n5 | 1 => n7 | 2 => n9 | 3 => n11 | 4 => n13 | _ => n15⟩, ?_, ?_⟩
  · unfold pgV pgC
    congr 1
    rw [← Array.toList_inj, e0]
    rfl
  · intro i
    dsimp only
    split <;> assumption

/-! ### where a key stands, once for all -/
theorem count_is (P : Pg) : ∃ n, IsCount P n := by
  have : ∀ k, k ≤ 6 → (∃ n, IsCount P n) ∨ ∀ j, j < k → P.st j ≠ 0 := by
    intro k
    induction k with
    | zero => intro _; exact .inr (fun j h => by omega)
    | succ k ih =>
      intro h
      rcases ih (by omega) with h1 | h1
      · exact .inl h1
      · by_cases e : P.st k = 0
        · exact .inl ⟨k, by omega, h1, fun _ => e⟩
        · exact .inr (fun j hj => by
            by_cases ej : j = k
            · rw [ej]; exact e
            · exact h1 j (by omega))
  rcases this 6 (by omega) with h | h
  · exact h
  · exact ⟨6, by omega, h, fun h => by omega⟩
theorem find_is (P : Pg) (key : ByteArray) (n : Nat) : ∃ i t, FindAt P key n i t := by
  have : ∀ k, k ≤ n → (∃ i t, FindAt P key n i t) ∨ ∀ j, j < k → Op.bytesLess (keyAt P j).toList key.toList = true := by
    intro k
    induction k with
    | zero => intro _; exact .inr (fun j h => by omega)
    | succ k ih =>
      intro h
      rcases ih (by omega) with h1 | h1
      · exact .inl h1
      · by_cases e : Op.bytesLess (keyAt P k).toList key.toList = true
        · exact .inr (fun j hj => by
            by_cases ej : j = k
            · rw [ej]; exact e
            · exact h1 j (by omega))
        · exact .inl ⟨k, _, by omega, h1, fun _ => by simpa using e, rfl⟩
  rcases this n (Nat.le_refl _) with h | h
  · exact h
  · exact ⟨n, _, Nat.le_refl _, h, fun h => by omega, rfl⟩
theorem FindAt.eq {P : Pg} {key : ByteArray} {n i i' : Nat} {t t' : Bool} (h : FindAt P key n i t) (k : FindAt P key n i' t') : i = i' ∧ t = t' := by
  obtain ⟨a1, a2, a3, a4⟩ := h
  obtain ⟨b1, b2, b3, b4⟩ := k
  have e : i = i' := by
    rcases Nat.lt_trichotomy i i' with h1 | h1 | h1
    · have := b2 i h1; rw [a3 (by omega)] at this; simp at this
    · exact h1
    · have := a2 i' h1; rw [b3 (by omega)] at this; simp at this
  subst e
  exact ⟨rfl, a4.trans b4.symm⟩
theorem nd_count' {P : Pg} {n : Nat} (hn : IsCount P n) (w : World) : Calls Try.prog 14 #[pgV P] w fun e w' => e = .returned (.int .i64 n) ∧ Below w.heap.size w w' :=
  (nd_count P w).mono fun e w' ⟨m, hm, he, hb⟩ => by obtain rfl := hn.eq hm; exact ⟨he, hb⟩
theorem nd_find' {P : Pg} {key : ByteArray} {n i : Nat} {t : Bool} (hn : IsCount P n) (hf : FindAt P key n i t) (hd : ∀ i, (P.dt i).size ≤ maxLen) (hk : key.size ≤ maxLen) (w : World) :
    Calls Try.prog 10 #[pgV P, .string key] w fun e w' => e = .returned (.tuple #[.int .i64 i, .bool t]) ∧ Below w.heap.size w w' :=
  (nd_find P key hd hk w).mono fun e w' ⟨m, i', t', hm, hf', he, hb⟩ => by
    obtain rfl := hn.eq hm
    obtain ⟨rfl, rfl⟩ := hf.eq hf'
    exact ⟨he, hb⟩
theorem nd_check_ok {P : Pg} (h : NodeOk P) (hd : ∀ i, (P.dt i).size ≤ maxLen) (w : World) : Calls Try.prog 12 #[pgV P] w fun e w' => e = .returned (.int .i64 0) ∧ Below w.heap.size w w' :=
  (nd_check P hd w).mono fun e w' ⟨r, hr, he, hb⟩ => by
    rcases hr with ⟨rfl, _⟩ | ⟨_, h'⟩
    · exact ⟨he, hb⟩
    · exact absurd h h'
theorem nd_check_no {P : Pg} (h : ¬ NodeOk P) (hd : ∀ i, (P.dt i).size ≤ maxLen) (w : World) : Calls Try.prog 12 #[pgV P] w fun e w' => e = .returned (.int .i64 40) ∧ Below w.heap.size w w' :=
  (nd_check P hd w).mono fun e w' ⟨r, hr, he, hb⟩ => by
    rcases hr with ⟨_, h'⟩ | ⟨rfl, _⟩
    · exact absurd h' h
    · exact ⟨he, hb⟩
def downP (i : Nat) (t : Bool) : Int := if t = true ∨ i = 0 then i else i - 1
set_option maxHeartbeats 1600000 in
theorem nd_down {P : Pg} {key : ByteArray} {n i : Nat} {t : Bool} (hn : IsCount P n) (hf : FindAt P key n i t) (hd : ∀ i, (P.dt i).size ≤ maxLen) (hk : key.size ≤ maxLen) (w : World) :
    Calls Try.prog 16 #[pgV P, .string key] w fun e w' => e = .returned (.int .i64 (downP i t)) ∧ Below w.heap.size w w' := by
  have HF := Lib.hid (fun w => nd_find' hn hf hd hk w)
  have hi6 : i ≤ 6 := Nat.le_trans hf.1 hn.1
  clear hn hf
  unfold pgV at *
  have hpc : pgC P = #[.int .i64 P.kind, .int .i64 P.level, .int .i64 P.store, .int .i64 P.next, .int .i64 (P.st 0), .string (P.dt 0), .int .i64 (P.st 1), .string (P.dt 1), .int .i64 (P.st 2), .string (P.dt 2),
  .int .i64 (P.st 3), .string (P.dt 3), .int .i64 (P.st 4), .string (P.dt 4), .int .i64 (P.st 5), .string (P.dt 5)] := rfl
  rw [hpc] at HF ⊢
  clear hpc
  unfold downP
  cases t with
  | true =>
    rw [if_pos (.inl rfl)]
    go_enter Try.func16, Try.ntmps16
    go_wp2_with fail
    refine (HF.out _).mono ?_
    rintro e w1 ⟨rfl, hb⟩
    have HB1 := Lib.hid (bT (bA bR) hb)
    clear hb
    go_wp2_with fail
    go_ret
    exact ⟨rfl, HB1.out⟩
  | false =>
    by_cases hi : i = 0
    · subst hi
      rw [if_pos (.inr rfl)]
      go_enter Try.func16, Try.ntmps16
      go_wp2_with fail
      refine (HF.out _).mono ?_
      rintro e w1 ⟨rfl, hb⟩
      have HB1 := Lib.hid (bT (bA bR) hb)
      clear hb
      go_wp2_with fail
      go_ret
      exact ⟨rfl, HB1.out⟩
    · rw [if_neg (by simpa using hi)]
      have hi' : ((i : Int) == 0) = false := by simpa using hi
      clear hi
      go_enter Try.func16, Try.ntmps16
      go_wp2_with fail
      refine (HF.out _).mono ?_
      rintro e w1 ⟨rfl, hb⟩
      have HB1 := Lib.hid (bT (bA bR) hb)
      clear hb
      go_wp2_with fail
      go_ret
      exact ⟨rfl, HB1.out⟩
end Go.Proofs.Ytgealllnchpekaa
