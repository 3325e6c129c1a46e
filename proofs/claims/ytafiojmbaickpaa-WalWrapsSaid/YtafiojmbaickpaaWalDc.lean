import Derived.Test.YtafiojmbaickpaaWalDb
import Derived.Test.YtafiojmbaickpaaWalArg
set_option linter.unusedSimpArgs false
set_option linter.unusedVariables false
namespace Go.Proofs.Ytafiojmbaickpaa
open Go.RowKit

theorem StrSl.later' {w w' : World} {v : Value} {ss : List ByteArray} (h : StrSl w v ss) (hb : Below w.heap.size w w') : StrSl w' v ss := ⟨h.1.later hb, h.2⟩
theorem BoolsAt.later' {w w' : World} {v : Value} {ks : List Bool} (h : BoolsAt w w.heap.size v ks) (hb : Below w.heap.size w w') : BoolsAt w' w'.heap.size v ks := (h.keep (Keeps.of_below (fun _ => False) hb) (Nat.le_refl _) (fun _ h => h.elim)).mono hb.size
set_option maxRecDepth 100000 in
theorem wraps_keep {W : World} {base : Nat} {H : Type} {enc : TypeId × Value → H} {v : Value} {d : DataW H} {p : List MemPlace} (hok : Value.okWide Try.prog W .any base 38 v) (h : DataW.Trod enc Try.prog W 0 (fun _ => true) true 38 v d p) : ∃ ks, BoolsAt W W.heap.size v ks := bools_of_trod (Go.WideShapes.okWide_slice Try.underlying38 hok) h
set_option maxRecDepth 100000 in
set_option maxHeartbeats 800000 in
theorem walWraps_walk (v0 : Value) (ss : List ByteArray) (rd : Int) (v2 : Value) (keep : List Bool) (hrd : -9223372036854775808 ≤ rd ∧ rd ≤ 9223372036854775807) (w : World) (h : StrSl w v0 ss) (hk : BoolsAt w w.heap.size v2 keep) :
    Calls Try.prog 6 #[v0, .int .i64 rd, v2] w fun e w' => e = .returned (.bool true) ∧ Below w.heap.size w w' := by
  obtain ⟨ad, cc, rfl, hml⟩ := h.form
  have HX := Lib.hid h
  have HK := Lib.hid hk
  have HA := Lib.hid (awake07 w)
  obtain ⟨m, hm⟩ : ∃ m, ss.length = m := ⟨_, rfl⟩
  rw [hm] at hml HX ⊢
  replace hm := Lib.hid hm
  unfold maxLen at hml
  clear h hk
  by_cases h0 : m = 0
  · subst h0
    go_enter Try.func6, Try.ntmps6
    go_wp2_with fail
    refine (HA.out).mono ?_
    rintro e w0 ⟨rfl, hb⟩
    go_wp2_with fail
    go_ret
    exact ⟨rfl, hb⟩
  · have h0' : ((m : Int) == 0) = false := by simpa using h0
    replace h0 := Lib.hid h0
    by_cases h20 : 20 < m
    · have h20' : (20 : Int) < m := by omega
      replace h20 := Lib.hid h20
      go_enter Try.func6, Try.ntmps6
      go_wp2_with fail
      refine (HA.out).mono ?_
      rintro e w0 ⟨rfl, hb⟩
      go_wp2_with fail
      go_ret
      exact ⟨rfl, hb⟩
    · have h20' : ¬ (20 : Int) < m := by omega
      replace h20 := Lib.hid h20
      by_cases h60 : 60 < rd
      · go_enter Try.func6, Try.ntmps6
        go_wp2_with fail
        refine (HA.out).mono ?_
        rintro e w0 ⟨rfl, hb⟩
        go_wp2_with fail
        go_ret
        exact ⟨rfl, hb⟩
      · obtain ⟨r, hr⟩ : ∃ r : Nat, max rd 0 = (r : Int) := ⟨(max rd 0).toNat, by omega⟩
        have hr60 : Hid (r ≤ 60) := by show _ ≤ _; omega
        have h60' : ¬ (60 : Int) < rd := h60
        replace hr := Lib.hid hr
        go_enter Try.func6, Try.ntmps6
        go_wp2_with fail
        refine (HA.out).mono ?_
        rintro e w0 ⟨rfl, hb⟩
        have HR := Lib.hid (round_walk (.slice ad m cc) ss r hr60.out v2 keep w0 (HX.out.later' hb) (HK.out.later' hb))
        have HB := Lib.hid hb
        clear hb HA
        go_wp2_with fail
        try rw [hr.out]
        refine (HR.out).mono ?_
        rintro e w1 ⟨rfl, hb⟩
        have HB1 := Lib.hid (bT HB.out hb)
        clear hb HR
        go_wp2_with fail
        go_ret
        exact ⟨rfl, HB1.out⟩
end Go.Proofs.Ytafiojmbaickpaa
