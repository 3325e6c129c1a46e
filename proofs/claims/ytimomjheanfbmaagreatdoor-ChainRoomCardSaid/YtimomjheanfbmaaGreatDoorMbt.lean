import Derived.Test.YtimomjheanfbmaaGreatDoorMbs
import Derived.Test.YtimomjheanfbmaaGreatDoorMas
import Derived.Test.YtimomjheanfbmaaGreatDoorMbj
import Derived.Test.YtimomjheanfbmaaGreatDoorMbk
set_option linter.unusedSimpArgs false
set_option linter.unusedVariables false
namespace Go.Proofs.YtimomjheanfbmaaGreatDoor
open Go.RowKit

theorem lvV_one (l : List Lv) : ∀ u ∈ lvV l, u.oneCell' = true := fun u hu => by
  obtain ⟨s, _, hs⟩ := List.mem_flatMap.1 hu
  exact lvL_cells s u hs
set_option maxRecDepth 100000 in
set_option maxHeartbeats 800000 in
theorem alv_clone (v : Value) (l : List Lv) (hL : l.length ≤ 8) (w : World) (h : OwnS w 61 3 v l.length (lvV l)) :
    Calls Tryz.prog 60 #[v] w fun e w' => ∃ v', OwnS w' 61 3 v' l.length (lvV l) ∧ (∀ k ∈ blk v', w.heap.size ≤ k) ∧ e = .returned v' ∧ Below w.heap.size w w' := by
  obtain ⟨i0, hj, hj0, hj1, hj2⟩ := Tryz.info_alvp
  obtain ⟨a, c, rfl⟩ := h.form
  cases a with
  | none =>
    have hl : l = [] := by
      cases l with
      | nil => rfl
      | cons x l => obtain ⟨g, he⟩ := h.spot (by simp); cases he
    subst hl
    have hnil : (binOp .eql 58 (.slice none 0 c) (.slice none 0 0)).run Tryz.prog w = .ok (.bool true) w := run_eql_nil_slice (P := Tryz.prog) w 58 61 none 0 c 0 0 Tryz.underlying58
    clear h
    go_enter Tryz.func60, Tryz.ntmps60
    go_wp2_with fail
    go_ret
    exact ⟨.slice none 0 0, OwnS.nil _ _ _, by simp [blk, Value.ownBlock], rfl, bR⟩
  | some a =>
    have hO : OwnS (w.alloc (.cells #[] 61)) 61 3 (.slice (some ⟨w.heap.size, 0, none⟩) 0 0) 0 [] := ⟨rfl, .inr ⟨w.heap.size, 0, #[], rfl, Nat.zero_le _, hN rfl, Nat.le_refl _, by unfold maxLen; omega, rfl, rfl⟩⟩
    have hW : ∀ a', some a = some a' → ∀ j u, (lvV l)[j]? = some u → (w.alloc (.cells #[] 61)).cell? (a'.add j) = some u := fun a' ha j u hj => by
      have hpos : 0 < l.length := by
        cases l with
        | nil => simp [lvV] at hj
        | cons x l => simp
      obtain ⟨g, he⟩ := h.spot hpos
      obtain rfl := Option.some.inj ha
      obtain rfl := Option.some.inj he
      rw [Addr.add_mid]
      have := World.ownsRow.cells h (g := g) rfl j u hj
      rw [Addr.add_mid] at this
      exact (cell_below (bA bR) (h.lt (by simp [blk, Value.ownBlock]))).trans this
    have hlen := lvV_length l
    have hnil : (binOp .eql 58 (.slice (some a) l.length c) (.slice none 0 0)).run Tryz.prog w = .ok (.bool false) w := run_eql_nil_slice (P := Tryz.prog) w 58 61 (some a) l.length c 0 0 Tryz.underlying58
    clear h
    go_enter Tryz.func60, Tryz.ntmps60
    go_wp2_with (at_builtin; (refine wpList_append_seg rfl _ _ 58 rfl 61 i0 (.agg #[.int .i64 0, .int .i64 0, .int .i64 0]) 3 24 Tryz.underlying58 hj hj0 hj1 hj2 rfl (by decide) _ _ _ rfl hO _ l.length _ (lvV l) rfl hlen hW (fun _ => rfl) (lvV_one l) (by unfold maxLen; omega) (by omega) ?_); intro v5 w5 ho5 hk5 hb5)
    go_ret
    refine ⟨v5, by simpa using ho5, fun k hk => ?_, rfl, ?_⟩
    · rcases hb5 k hk with h' | h'
      · have : k = w.heap.size := by simpa [blk, Value.ownBlock, Act.eval] using h'
        omega
      · simp at h'; omega
    · exact bK (bA bR) hk5 (fun k hk => by
        have : k = w.heap.size := by simpa [blk, Value.ownBlock, Act.eval] using hk
        omega)
def CS.init (fresh : Int) : CS := { recs := [], M := M0, lives := [], fresh := fresh, B := fun _ => (0, 0), T := (0, 0), cnt := 0 }
section
variable {w0 w w' : World} {L : List Nat} {c lp p dp pg lb mb n : Nat} {lv : Value} {σ : CS}
set_option maxRecDepth 100000 in
theorem cx_lives (h : Cx w0 w L c lp p dp pg lb mb n lv σ) :
    Calls Tryz.prog 16 #[.pointer (some ⟨c, 0, none⟩)] w fun e w' => ∃ v', OwnS w' 61 3 v' σ.lives.length (lvV σ.lives) ∧ (∀ k ∈ blk v', w.heap.size ≤ k) ∧ e = .returned v' ∧ Below w.heap.size w w' := by
  have HC := Lib.hid (alv_clone lv σ.lives h.ch.len w h.ch.own)
  have C3 : w.cell? ⟨c, 3, none⟩ = some lv := cell_at h.ch.cell 3
  clear h
  go_enter Tryz.func16, Tryz.ntmps16
  go_wp2_with fail
  refine (HC.out).mono ?_
  rintro e w1 ⟨v', ho, hb, rfl, hbl⟩
  have HF := Lib.hid (And.intro ho (And.intro hb hbl))
  clear ho hb hbl HC C3
  go_wp2_with fail
  go_ret
  exact ⟨v', HF.out.1, HF.out.2.1, rfl, HF.out.2.2⟩
set_option maxRecDepth 100000 in
theorem cx_new (h : Kx w0 w L p lp dp [] M0 0 (DirtyIn pg 4 tk)) (fresh : Int) (hf : 1 ≤ fresh) :
    Calls Tryz.prog 52 #[.pointer (some ⟨lp, 0, none⟩), .pointer (some ⟨p, 0, none⟩), .int .i64 fresh] w fun e w' => ∃ c lb mb, e = .returned (.tuple #[.pointer (some ⟨c, 0, none⟩), .int .i64 0]) ∧ Cx w0 w' L c lp p dp pg lb mb 0 (.slice none 0 0) (CS.init fresh) ∧ Below w.heap.size w w' := by
  have HL := Lib.hid (lg_new w)
  have hd : decide (fresh < 1) = false := decide_eq_false (by omega)
  have H := Lib.hid h
  clear h hf
  go_enter Tryz.func52, Tryz.ntmps52
  go_wp2_with fail
  refine (HL.out).mono ?_
  rintro e w1 ⟨lb, mb, rfl, hl, hb, h1, h2⟩
  have HLg := Lib.hid hl
  have HB := Lib.hid hb
  have hlm := Lib.hid (And.intro h1 h2)
  clear hl hb h1 h2 HL
  go_wp2_with fail
  go_ret2
  have hlt := HLg.out.lt
  have hb2 : Below w.heap.size w (w1.alloc (.cells (chC lp p lb (.slice none 0 0) fresh) 124)) := bA HB.out
  have hsz := HB.out.size
  refine ⟨w1.heap.size, lb, mb, rfl, ⟨⟨hN rfl, OwnS.nil _ _ _, HLg.out.keep ((Keeps.refl (fun _ => False) w1).alloc _) (fun h => h) (fun h => h), Nat.zero_le _, ?_⟩, ?_, fun q hq => ?_, ⟨Nat.zero_le _, Nat.zero_le _⟩, (fun R hR => by cases hR), Nat.le_refl _⟩, hb2⟩
  · have := HLg.out.2.2
    simp [blk, Value.ownBlock]
    omega
  · refine H.out.more hb2 _ (fun k hk => ?_) (fun k hk => ?_)
    · simp only [chL, List.cons_append, List.mem_cons, List.mem_append] at hk
      have hs2 : (w1.alloc (.cells (chC lp p lb (.slice none 0 0) fresh) 124)).heap.size = w1.heap.size + 1 := by simp
      rcases hk with rfl | rfl | rfl | hk | hk
      · omega
      · omega
      · omega
      · simp [blk, Value.ownBlock] at hk
      · have := H.out.loc k hk; omega
    · simp only [chL, List.cons_append, List.mem_cons, List.mem_append] at hk
      rcases hk with rfl | rfl | rfl | hk | hk
      · exact .inr hsz
      · exact .inr hlm.out.1
      · exact .inr hlm.out.2
      · simp [blk, Value.ownBlock] at hk
      · exact .inl hk
  · simp only [chL, List.mem_cons] at hq
    have hb0 := H.out.bel.size
    have hfr : w.heap.size ≤ q → w0.heap.size ≤ q ∧ q ∉ L := fun h => ⟨by omega, fun h' => by have := H.out.loc q h'; omega⟩
    rcases hq with rfl | rfl | rfl | hq
    · exact hfr hsz
    · exact hfr hlm.out.1
    · exact hfr hlm.out.2
    · simp [blk, Value.ownBlock] at hq
end
theorem results_tmp4 {fn : Func} {t u v x : Tmp} (h : fn.results = #[.tmp t, .tmp u, .tmp v, .tmp x]) (tmps : Array Value) (P : Program) (w : World) :
    (results fn tmps).run P w = .ok (.tuple #[tmps.getD t undef, tmps.getD u undef, tmps.getD v undef, tmps.getD x undef]) w := by
  simp [results, h]
set_option maxRecDepth 100000 in
theorem cx_made (w0 w : World) (L : List Nat) (hL : ∀ k ∈ L, k < w.heap.size) (hb0 : Below w0.heap.size w0 w) (fresh : Int) (hf : 1 ≤ fresh) :
    Calls Tryz.prog 10 #[.int .i64 fresh] w fun e w' => ∃ c lp p dp lb mb, e = .returned (.tuple #[.pointer (some ⟨lp, 0, none⟩), .pointer (some ⟨p, 0, none⟩), .pointer (some ⟨c, 0, none⟩), .int .i64 0]) ∧ Cx w0 w' L c lp p dp 6 lb mb 0 (.slice none 0 0) (CS.init fresh) ∧ Keeps (Own w0 L) w w' := by
  have HN := Lib.hid (dsk_new 152 (by omega) (by omega) w)
  rw [show ((152 : Nat) : Int) = 152 from rfl] at HN
  have hLN := Lib.hid hL
  have HB0 := Lib.hid hb0
  have hfN := Lib.hid hf
  clear hL hb0 hf
  go_enter Tryz.func10, Tryz.ntmps10
  go_wp2_with fail
  refine (HN.out).mono ?_
  rintro e w2 ⟨dp, Sd, rfl, hd, hb, hS⟩
  have HC := Lib.hid (lk_create (w0 := w0) (L := L) (by omega) (by omega) hd (fun k hk => ⟨Nat.le_trans HB0.out.size (hS k hk), fun h' => by have := hLN.out k h'; have := hS k hk; omega⟩) (fun k hk => Nat.lt_of_lt_of_le (hLN.out k hk) hb.size) (bT HB0.out hb))
  have HK2 : Hid (Keeps (Own w0 L) w w2) := Keeps.of_below _ hb
  clear HN hd hb hS
  go_wp2_with fail
  refine (HC.out).mono ?_
  rintro e w3 ⟨lp, Sl, Sd2, rfl, hlk, hk3⟩
  have HP := Lib.hid (kx_pool hlk 6 4 (by omega) (by omega) (by omega) (by omega) (by omega))
  rw [show ((6 : Nat) : Int) = 6 from rfl, show ((4 : Nat) : Int) = 4 from rfl] at HP
  have HK3 := Lib.hid (HK2.out.trans hk3 (fun _ _ h => h))
  clear HC hlk hk3
  go_wp2_with fail
  refine (HP.out).mono ?_
  rintro e w4 ⟨p, rfl, hq, hk4⟩
  have hq2 : Kx w0 w4 L p lp dp [] M0 0 (DirtyIn 6 4 tk) := hq.imp (fun X hX => ⟨hX.1, hX.2.1, fun j s hs => by rw [hX.2.2] at hs; simp at hs⟩)
  have HCn := Lib.hid (cx_new hq2 fresh hfN.out)
  have HK4 := Lib.hid (HK3.out.trans hk4 (fun _ _ h => h))
  clear HP hq hq2 hk4
  go_wp2_with fail
  refine (HCn.out).mono ?_
  rintro e w5 ⟨c, lb, mb, rfl, hx, hb5⟩
  have HX := Lib.hid hx
  have HK5 : Hid (Keeps (Own w0 L) w w5) := HK4.out.trans (Keeps.of_below (fun _ => False) hb5) (fun _ _ h => h.elim)
  clear hx hb5 HCn
  go_wp2_with fail
  refine bodyPost_ret (results_tmp4 Tryz.results10 _ _ _) rfl ?_
  exact ⟨c, lp, p, dp, lb, mb, rfl, HX.out, HK5.out⟩
end Go.Proofs.YtimomjheanfbmaaGreatDoor

namespace Go.Proofs.YtimomjheanfbmaaGreatDoor
open Go.RowKit

def opn (D : Dev) (b : Nat) : ByteArray × Int × Int := frOpen (D.at b) (D.at (b + 1)) (D.at (b + 2)) (D.at (b + 3))
set_option maxRecDepth 100000 in
set_option maxHeartbeats 400000 in
theorem law_read {w : World} {dp : Nat} {Sd : List Nat} {D : Dev} (hd : DiskAt w dp D Sd) (hdn : D.down = false) (id : Nat) (hid : id ≤ 1024) (hfit : 128 + 4 * id + 4 ≤ D.firm.length) :
    Calls Tryz.prog 84 #[.pointer (some ⟨dp, 0, none⟩), .int .i64 id] w fun e w' => e = .returned (.tuple #[.string (opn D (128 + 4 * id)).1, .int .u64 (opn D (128 + 4 * id)).2.1, .int .i64 (opn D (128 + 4 * id)).2.2]) ∧ Below w.heap.size w w' := by
  have hlen : D.seen.length = D.firm.length := hd.1.2.2.1
  obtain ⟨⟨ob, os, oc⟩, ho⟩ : ∃ o, opn D (128 + 4 * id) = o := ⟨_, rfl⟩
  rw [ho]
  dsimp only
  replace ho := Lib.hid ho
  have hsz64 : ∀ j, j < 4 → (D.at (128 + 4 * id + j)).size = 64 := fun j hj => by
    unfold Dev.at
    rw [List.getD_eq_getElem?_getD, List.getElem?_eq_getElem (by omega)]
    exact hd.1.2.2.2.2.2.2.1 _ (List.getElem_mem _)
  have HD := Lib.hid hd
  replace hlen := Lib.hid hlen
  clear hd
  have hw4 : IntKind.i64.wrap (4 * (id : Int)) = 4 * (id : Int) := by rw [IntKind.wrap_i64]; omega
  have hw5 : IntKind.i64.wrap (128 + 4 * (id : Int)) = 128 + 4 * (id : Int) := by rw [IntKind.wrap_i64]; omega
  have HB0 : Hid (Below w.heap.size w (w.alloc (.cells (arr4 (fun j => D.at (128 + 4 * id + j)) 0) 221))) := bA bR
  have HA0 : Hid ((w.alloc (.cells (arr4 (fun j => D.at (128 + 4 * id + j)) 0) 221)).heap[w.heap.size]? = some (.cells (arr4 (fun j => D.at (128 + 4 * id + j)) 0) 221 (0, 0))) := hN (by simp)
  go_enter Tryz.func84, Tryz.ntmps84
  go_wp2_with fail
  go_loopw [11] (fun x wr => ∃ k : Nat, k ≤ 4 ∧ x = .int .i64 k ∧ Hid (wr.heap[w.heap.size]? = some (.cells (arr4 (fun j => D.at (128 + 4 * id + j)) k) 221 (0, 0))) ∧ Hid (Below w.heap.size w wr)) (fun x _ => 4 - (intOf x).toNat)
  case atStart => exact ⟨0, by omega, rfl, HA0, HB0⟩
  case round =>
    obtain ⟨k, hk4, rfl, HA, HB⟩ := hrel
    clear HB0 HA0
    by_cases hk : k < 4
    · have hkI : (k : Int) < 4 := by omega
      have hw6 : IntKind.i64.wrap (128 + 4 * (id : Int) + (k : Int)) = 128 + 4 * (id : Int) + (k : Int) := by rw [IntKind.wrap_i64]; omega
      have hr : D.read (128 + 4 * (id : Int) + (k : Int)) = (D.at (128 + 4 * id + k), 0) := by
        rw [up_read hdn _ (by omega) (by have := hlen.out; omega)]
        unfold Dev.at
        rw [show (128 + 4 * (id : Int) + (k : Int)).toNat = 128 + 4 * id + k by omega]
      have HR := Lib.hid ((dsk_read dp (128 + 4 * (id : Int) + (k : Int)) D Sd wr (HD.out.later HB.out)))
      rw [hr] at HR
      replace hr := Lib.hid hr
      obtain ⟨v, hv⟩ := arr4_cell (fun j => D.at (128 + 4 * id + j)) k hk
      have A1 := (cell_at HA.out k).trans hv
      have A2 := free_at HA.out k
      have hnx := Lib.hid (arr4_next (fun j => D.at (128 + 4 * id + j)) k hk)
      replace hk4 := Lib.hid hk4
      clear hv
      go_wp2_with fail
      refine (HR.out).mono ?_
      rintro e w1 ⟨rfl, rfl⟩
      clear HR
      go_wp2_with fail
      go_roundw
      case rel => exact ⟨k + 1, by omega, rfl, heap_set_eq HA.out hnx.out, bS HB.out (by simp)⟩
      case measure => simp [intOf]; omega
    · obtain rfl : k = 4 := by omega
      have hA4 : arr4 (fun j => D.at (128 + 4 * id + j)) 4 = #[.string (D.at (128 + 4 * id)), .string (D.at (128 + 4 * id + 1)), .string (D.at (128 + 4 * id + 2)), .string (D.at (128 + 4 * id + 3))] := rfl
      rw [hA4] at HA
      clear hA4
      have z0 := hsz64 0 (by omega)
      have z1 := hsz64 1 (by omega)
      have z2 := hsz64 2 (by omega)
      have z3 := hsz64 3 (by omega)
      rw [Nat.add_zero] at z0
      have HO := Lib.hid (fun w => rfm_open (D.at (128 + 4 * id)) (D.at (128 + 4 * id + 1)) (D.at (128 + 4 * id + 2)) (D.at (128 + 4 * id + 3)) (by unfold maxLen; omega) (by unfold maxLen; omega) (by unfold maxLen; omega) (by unfold maxLen; omega) w)
      change Hid (∀ w, Calls Tryz.prog _ _ w fun e w' => e = .returned (.tuple #[.string (opn D (128 + 4 * id)).1, .int .u64 (opn D (128 + 4 * id)).2.1, .int .i64 (opn D (128 + 4 * id)).2.2]) ∧ Below w.heap.size w w') at HO
      obtain ⟨s0, e0⟩ : ∃ s, D.at (128 + 4 * id) = s := ⟨_, rfl⟩
      obtain ⟨s1, e1⟩ : ∃ s, D.at (128 + 4 * id + 1) = s := ⟨_, rfl⟩
      obtain ⟨s2, e2⟩ : ∃ s, D.at (128 + 4 * id + 2) = s := ⟨_, rfl⟩
      obtain ⟨s3, e3⟩ : ∃ s, D.at (128 + 4 * id + 3) = s := ⟨_, rfl⟩
      rw [e0, e1, e2, e3] at HO HA
      clear e0 e1 e2 e3 z0 z1 z2 z3 hsz64 hk
      rw [ho.out] at HO
      dsimp only at HO
      go_wp2_with (refine wpList_load_row rfl 221 _ rfl _ rfl 221 _ _ _ HA.out Tryz.underlying221 rfl (by kernel_rfl) ?_)
      refine (HO.out _).mono ?_
      rintro e w5 ⟨rfl, hb5⟩
      have HB5 := Lib.hid (bT HB.out hb5)
      clear hb5 HO HB HA
      go_wp2_with fail
      go_ret3
      exact ⟨rfl, HB5.out⟩
end Go.Proofs.YtimomjheanfbmaaGreatDoor
