import Derived.Test.YtimomjheanfbmaaGreatDoorMbo
import Derived.WalkSpells
set_option linter.unusedSimpArgs false
set_option linter.unusedVariables false
namespace Go.Proofs.YtimomjheanfbmaaGreatDoor
open Go.RowKit

/-- entries by their places -/
def Sorted (L : List (Int × ByteArray)) : Prop := (∀ x ∈ L, 0 ≤ x.1 ∧ x.1 ≤ 1152921504606846976) ∧ ∀ i j, i < j → j < L.length → (L.getD i (0, ⟨#[]⟩)).1 < (L.getD j (0, ⟨#[]⟩)).1
def Found (L : List (Int × ByteArray)) (t : Int) (i : Nat) : Prop := i ≤ L.length ∧ (∀ k, k < i → (L.getD k (0, ⟨#[]⟩)).1 < t) ∧ (∀ k, i ≤ k → k < L.length → t ≤ (L.getD k (0, ⟨#[]⟩)).1)
theorem Found.uniq {L : List (Int × ByteArray)} {t : Int} {i j : Nat} (h : Found L t i) (h' : Found L t j) : i = j := by
  obtain ⟨a1, a2, a3⟩ := h
  obtain ⟨b1, b2, b3⟩ := h'
  rcases Nat.lt_trichotomy i j with hlt | heq | hgt
  · have := b2 i hlt; have := a3 i (Nat.le_refl _) (by omega); omega
  · exact heq
  · have := a2 j hgt; have := b3 j (Nat.le_refl _) (by omega); omega
set_option maxRecDepth 100000 in
theorem wal_find (p dp : Nat) (G : Lg) (S : List Nat) (t : Int) (hs : Sorted G.list) (ht : 0 ≤ t ∧ t ≤ 1152921504606846976) (w : World) (h : LogAt w p dp G S) :
    Calls Tryz.prog 61 #[.pointer (some ⟨p, 0, none⟩), .int .i64 t] w fun e w' => ∃ i, Found G.list t i ∧ e = .returned (.tuple #[.int .i64 (i : Int), .bool (decide (i < G.list.length) && decide ((G.list.getD i (0, ⟨#[]⟩)).1 = t))]) ∧ Below w.heap.size w w' := by
  obtain ⟨hok, bv, lv, h1, h2, h3, hS, h6⟩ := h
  have c8 : w.cell? ⟨p, 8, none⟩ = some lv := cell_at h1 8
  obtain ⟨a1, a2, a3, a4, a5, a6, a7, a8, a9, a10, -⟩ := hok
  have HB := Lib.hid (ent_search lv G.list t (by omega) hs.1 hs.2 ht (.slice none 0 0) w h3.ent)
  clear h1 h2 h3 hS h6
  go_enter Tryz.func61, Tryz.ntmps61
  go_wp2_with fail
  refine (HB.out).mono ?_
  rintro e w1 ⟨i, q1, q2, q3, rfl, hb⟩
  go_wp2_with fail
  go_ret2
  exact ⟨i, ⟨q1, q2, q3⟩, rfl, hb⟩
set_option maxRecDepth 100000 in
set_option maxHeartbeats 800000 in
theorem wal_read (p dp : Nat) (G : Lg) (S : List Nat) (t : Int) (hs : Sorted G.list) (ht : 0 ≤ t ∧ t ≤ 1152921504606846976) (w : World) (h : LogAt w p dp G S) :
    Calls Tryz.prog 17 #[.pointer (some ⟨p, 0, none⟩), .int .i64 t] w fun e w' => ∃ i, Found G.list t i ∧ Below w.heap.size w w' ∧
      ((i < G.list.length ∧ (G.list.getD i (0, ⟨#[]⟩)).1 = t ∧ e = .returned (.tuple #[.string (G.list.getD i (0, ⟨#[]⟩)).2, .int .i64 0])) ∨ (¬ (i < G.list.length ∧ (G.list.getD i (0, ⟨#[]⟩)).1 = t) ∧ e = .returned (.tuple #[.string ⟨#[]⟩, .int .i64 150]))) := by
  have HF := Lib.hid (wal_find p dp G S t hs ht w h)
  have HL := Lib.hid h
  clear h
  go_enter Tryz.func17, Tryz.ntmps17
  go_wp2_with fail
  refine (HF.out).mono ?_
  rintro e w1 ⟨i, q1, rfl, hb⟩
  by_cases hf : i < G.list.length ∧ (G.list.getD i (0, ⟨#[]⟩)).1 = t
  · rw [show (decide (i < G.list.length) && decide ((G.list.getD i (0, ⟨#[]⟩)).1 = t)) = true by rw [decide_eq_true hf.1, decide_eq_true hf.2]; rfl]
    obtain ⟨hok, bv, lv, h1, h2, h3, hS, h6⟩ := HL.out.later hb
    obtain ⟨la, lc, rfl⟩ := h3.form
    have c8 : w1.cell? ⟨p, 8, none⟩ = some (.slice la G.list.length lc) := cell_at h1 8
    obtain ⟨g, o, rfl, c1, c2⟩ := h3.ent.at i hf.1
    have hiI : (i : Int) < G.list.length := by omega
    have hi0 : (0 : Int) ≤ i := by omega
    have q1 := Lib.hid q1
    have hf := Lib.hid hf
    have hb := Lib.hid hb
    clear h1 h2 h3 hS h6 hok HL HF
    obtain ⟨z, hz⟩ : ∃ z, (G.list.getD i (0, ⟨#[]⟩)).2 = z := ⟨_, rfl⟩
    rw [hz] at c2
    replace hz := Lib.hid hz
    obtain ⟨N, hN⟩ : ∃ N, G.list.length = N := ⟨_, rfl⟩
    rw [hN] at c8 hiI
    replace hN := Lib.hid hN
    go_wp2_with fail
    go_ret2
    exact ⟨i, q1.out, hb.out, .inl ⟨hf.out.1, hf.out.2, by rw [hz.out]; rfl⟩⟩
  · rw [show (decide (i < G.list.length) && decide ((G.list.getD i (0, ⟨#[]⟩)).1 = t)) = false by
      rw [Bool.and_eq_false_iff]
      by_cases h1 : i < G.list.length
      · exact .inr (decide_eq_false (fun h2 => hf ⟨h1, h2⟩))
      · exact .inl (decide_eq_false h1)]
    have hf := Lib.hid hf
    have q1 := Lib.hid q1
    have hb := Lib.hid hb
    clear HF HL
    go_wp2_with fail
    go_ret2
    exact ⟨i, q1.out, hb.out, .inr ⟨hf.out, rfl⟩⟩
/-- bytes, as a slice reads them -/
def BySl (w : World) (v : Value) (s : ByteArray) : Prop := ∃ a c, v = .slice a s.size c ∧ (0 < s.size → ∃ g o, a = some ⟨g, o, none⟩ ∧ g < w.heap.size ∧ Lib.Bytes w g o s)
theorem strCells_len (s : ByteArray) : (Lib.strCells s).length = s.size := by simp [Lib.strCells]
theorem strCells_at (s : ByteArray) (i : Nat) (h : i < s.size) : (Lib.strCells s)[i]? = some (.int .u8 s[i].toNat) := by
  rw [Lib.strCells, List.getElem?_map]
  have : s.data.toList[i]? = some s[i] := by
    rw [List.getElem?_eq_getElem (by simpa using h)]
    rfl
  rw [this]; rfl
theorem strCells_one (s : ByteArray) : ∀ u ∈ Lib.strCells s, u.oneCell' = true := by
  intro u hu
  rw [Lib.strCells, List.mem_map] at hu
  obtain ⟨b, _, rfl⟩ := hu
  rfl
set_option maxRecDepth 100000 in
set_option maxHeartbeats 800000 in
theorem by_clone (v : Value) (s : ByteArray) (hL : s.size ≤ 221184) (w : World) (h : BySl w v s) :
    Calls Tryz.prog 167 #[v] w fun e w' => ∃ v', OwnS w' 5 1 v' s.size (Lib.strCells s) ∧ (∀ k ∈ blk v', w.heap.size ≤ k) ∧ e = .returned v' ∧ Below w.heap.size w w' := by
  obtain ⟨i0, hj, hj0, hj1, hj2⟩ := info_parts Tryz.info_u8
  obtain ⟨a, c, rfl, hc⟩ := h
  cases a with
  | none =>
    have hl : s.size = 0 := Nat.eq_zero_of_not_pos (fun hp => by obtain ⟨g, o, he, _⟩ := hc hp; cases he)
    obtain rfl := str_none hl
    have hnil : (binOp .eql 141 (.slice none 0 c) (.slice none 0 0)).run Tryz.prog w = .ok (.bool true) w := run_eql_nil_slice (P := Tryz.prog) w 141 5 none 0 c 0 0 Tryz.underlying141
    clear hc
    go_enter Tryz.func167, Tryz.ntmps167
    go_wp2_with fail
    go_ret
    exact ⟨.slice none 0 0, OwnS.nil _ _ _, by simp [blk, Value.ownBlock], rfl, bR⟩
  | some a =>
    have hO : OwnS (w.alloc (.cells #[] 5)) 5 1 (.slice (some ⟨w.heap.size, 0, none⟩) 0 0) 0 [] := ⟨rfl, .inr ⟨w.heap.size, 0, #[], rfl, Nat.zero_le _, hN rfl, Nat.le_refl _, by unfold maxLen; omega, rfl, rfl⟩⟩
    have hW : ∀ a', some a = some a' → ∀ j u, (Lib.strCells s)[j]? = some u → (w.alloc (.cells #[] 5)).cell? (a'.add j) = some u := fun a' ha j u hj => by
      have hjl : j < s.size := by
        have := (List.getElem?_eq_some_iff.1 hj).1
        rwa [strCells_len] at this
      obtain ⟨g, o, he, hg, hcell⟩ := hc (by omega)
      obtain rfl := Option.some.inj ha
      obtain rfl := Option.some.inj he
      rw [strCells_at s j hjl] at hj
      rw [Addr.add_mid, cell_below (bA bR) hg, hcell j hjl]
      exact hj
    have hlen := strCells_len s
    have hnil : (binOp .eql 141 (.slice (some a) s.size c) (.slice none 0 0)).run Tryz.prog w = .ok (.bool false) w := run_eql_nil_slice (P := Tryz.prog) w 141 5 (some a) s.size c 0 0 Tryz.underlying141
    clear hc
    go_enter Tryz.func167, Tryz.ntmps167
    go_wp2_with (at_builtin; (refine wpList_append_seg rfl _ _ 141 rfl 5 i0 (.int .u8 0) 1 1 Tryz.underlying141 hj hj0 hj1 hj2 rfl (by decide) _ _ _ rfl hO _ s.size _ (Lib.strCells s) rfl (by omega) hW (fun _ => rfl) (strCells_one s) (by unfold maxLen; omega) (by omega) ?_); intro v5 w5 ho5 hk5 hb5)
    go_ret
    refine ⟨v5, by simpa using ho5, fun k hk => ?_, rfl, ?_⟩
    · rcases hb5 k hk with h' | h'
      · have : k = w.heap.size := by simpa [blk, Value.ownBlock, Act.eval] using h'
        omega
      · simp at h'; omega
    · exact bK (bA bR) hk5 (fun k hk => by
        have : k = w.heap.size := by simpa [blk, Value.ownBlock, Act.eval] using hk
        omega)
theorem EntSl.drop {w : World} {a : Option Addr} {n c : Nat} {L : List (Int × ByteArray)} (h : EntSl w (.slice a n c) L) (j : Nat) (hj : j < L.length) (c' : Nat) : EntSl w (.slice (a.map fun x => x.add (j * 2)) (n - j) c') (L.drop j) := by
  obtain ⟨a', c'', he, hc⟩ := h
  obtain ⟨rfl, rfl, rfl⟩ : a = a' ∧ n = L.length ∧ c = c'' := by simpa using he
  obtain ⟨g, o, rfl, hg, hcell⟩ := hc (by omega)
  refine ⟨some ⟨g, o + j * 2, none⟩, c', by rw [List.length_drop]; show Value.slice (some (Addr.add ⟨g, o, none⟩ (j * 2))) _ _ = _; rw [Addr.add_mid], fun _ => ⟨g, o + j * 2, rfl, hg, fun k u hk => ?_⟩⟩
  have : ∀ (L : List (Int × ByteArray)) (j k : Nat), (recV (L.drop j))[k]? = (recV L)[j * 2 + k]? := by
    intro L
    induction L with
    | nil => intro j k; simp [recV]
    | cons x L ih =>
      intro j k
      obtain ⟨x1, x2⟩ := x
      cases j with
      | zero => simp
      | succ j =>
        rw [List.drop_succ_cons, ih j k, show (j + 1) * 2 + k = (j * 2 + k) + 2 by omega]
        rfl
  rw [this] at hk
  have := hcell _ _ hk
  rw [show o + j * 2 + k = o + (j * 2 + k) by omega]
  exact this
theorem EntSl.none {w : World} (a : Option Addr) (c : Nat) : EntSl w (.slice a 0 c) [] := ⟨a, c, rfl, fun h => absurd h (by simp)⟩
/-- what Cut makes of a log -/
def Lg.cut (G : Lg) (t : Int) (i : Nat) : Lg := { G with start := t, base := t / 54 * 54, buf := G.buf.extract (t / 54 * 54 - G.base).toNat G.buf.size, list := G.list.drop i }
set_option maxRecDepth 100000 in
set_option maxHeartbeats 3200000 in
theorem wal_cut_rec (p dp : Nat) (G : Lg) (S : List Nat) (t : Int) (hs : Sorted G.list) (ht : 0 ≤ t ∧ t ≤ 1152921504606846976) (i : Nat) (hi : Found G.list t i) (hc : i < G.list.length ∧ (G.list.getD i (0, ⟨#[]⟩)).1 = t ∧ t < G.fin) (hfm : t ≤ G.firm) (bb : Nat) (hbb : G.base = 54 * bb) (hbt : G.base ≤ t) (hl3 : ((G.list.length - i : Nat) : Int) * 3 ≤ G.fin - t / 54 * 54) (w : World) (h : LogAt w p dp G S) :
    Calls Tryz.prog 134 #[.pointer (some ⟨p, 0, none⟩), .int .i64 t] w fun e w' => e = .returned (.int .i64 0) ∧ ∃ S', LogAt w' p dp (Lg.cut G t i) S' ∧ Keeps (· ∈ S) w w' ∧ ∀ k ∈ S', k ∈ S ∨ w.heap.size ≤ k := by
  have HF := Lib.hid (wal_find p dp G S t hs ht w h)
  have hok := h.1
  obtain ⟨a1, a2, a3, a4, a5, a6, a7, a8, a9, a10, a11, a12, a13, a14⟩ := h.1
  obtain ⟨bv, lv, hmid, hSe⟩ := h.mid
  have HM := Lib.hid hmid
  clear h hmid
  have hs := Lib.hid hs
  obtain ⟨N, hN⟩ : ∃ N, G.list.length = N := ⟨_, rfl⟩
  obtain ⟨Z, hZ⟩ : ∃ Z, G.buf.size = Z := ⟨_, rfl⟩
  rw [hN] at HM hc hl3
  rw [hZ] at HM a9
  have hN3 : (N : Int) * 3 ≤ G.fin - G.base := by rw [← hN]; exact a10
  have htf : t ≤ G.fin := by omega
  obtain ⟨lo, hlo⟩ : ∃ lo : Nat, lo = (t / 54 * 54 - G.base).toNat := ⟨_, rfl⟩
  have hloZ : lo ≤ Z := by omega
  have hloI : min (t / 54 * 54 - G.base) (Z : Int) = lo := by omega
  have hsub : t / 54 * 54 - G.base = lo := by omega
  have hwr1 : IntKind.i64.wrap (t / 54 * 54 - G.base) = t / 54 * 54 - G.base := by rw [IntKind.wrap_i64]; omega
  obtain ⟨EX, hEX⟩ : ∃ EX, G.buf.extract lo Z = EX := ⟨_, rfl⟩
  have hex : EX.size = Z - lo := by rw [← hEX, ByteArray.size_extract]; omega
  have hok' : Hid (LgOk (Lg.cut G t i)) := by
    refine ⟨a1, a2, a3, a4, ?_, ?_, ?_, ?_, ?_, ?_, ?_, ?_, ?_, ?_⟩ <;> dsimp only [Lg.cut]
    · omega
    · omega
    · omega
    · omega
    · rw [← hlo, hZ, hEX, hex]; omega
    · rw [List.length_drop, hN]; exact hl3
    · omega
    · omega
    · omega
    · omega
  obtain ⟨ba, bc, he7, hZc⟩ := HM.out.ob.cap
  subst he7
  obtain ⟨la, lc, he8, hNc⟩ := HM.out.ol.cap
  subst he8
  obtain ⟨hiN, hit, hne⟩ := hc
  · go_enter Tryz.func134, Tryz.ntmps134
    go_wp2_with fail
    refine (HF.out).mono ?_
    rintro e w1 ⟨j, q1, rfl, hb⟩
    obtain rfl := q1.uniq hi
    rw [show (decide (j < G.list.length) && decide ((G.list.getD j (0, ⟨#[]⟩)).1 = t)) = true by rw [decide_eq_true (show j < G.list.length by omega), decide_eq_true hit]; rfl]
    replace HM := Lib.hid (HM.out.later hb)
    have C4 : w1.cell? ⟨p, 4, none⟩ = some (.int .i64 G.fin) := cell_at HM.out.hp 4
    have C5 : w1.cell? ⟨p, 5, none⟩ = some (.int .i64 G.firm) := cell_at HM.out.hp 5
    have C8 : w1.cell? ⟨p, 8, none⟩ = some (.slice la N lc) := cell_at HM.out.hp 8
    have b1 : ¬ G.firm < t := by omega
    have b2 : (t == G.fin) = false := by rw [beq_eq_false_iff_ne]; omega
    have hcj : ¬ lc = j := by omega
    obtain ⟨DL, hDL⟩ : ∃ DL, G.list.drop j = DL := ⟨_, rfl⟩
    have HCl := Lib.hid (ent_clone _ DL (by rw [← hDL, List.length_drop]; omega) w1 (hDL ▸ (by have := HM.out.ol; rw [← hN] at this; rw [← hN]; exact this.ent : EntSl w1 (.slice la N lc) G.list).drop j (by omega) (lc - j)))
    have hlt : lo < Z := by omega
    replace hDL := Lib.hid hDL
    have hBI : (0 : Int) ≤ lo ∧ (lo : Int) ≤ Z ∧ (lo : Int) ≤ bc := by omega
    replace hbb := Lib.hid hbb
    replace a9 := Lib.hid a9
    replace a10 := Lib.hid a10
    replace hlo := Lib.hid hlo
    replace hZ := Lib.hid hZ
    replace hN := Lib.hid hN
    replace hEX := Lib.hid hEX
    replace hex := Lib.hid hex
    replace hl3 := Lib.hid hl3
    replace hN3 := Lib.hid hN3
    replace a7 := Lib.hid a7
    replace a8 := Lib.hid a8
    replace hit := Lib.hid hit
    clear q1 hi HF
    go_wp2_with fail
    refine (HCl.out).mono ?_
    rintro e w2 ⟨v2, ho2, hb2, rfl, hbw⟩
    replace HM := Lib.hid (HM.out.list ho2 (Keeps.of_below _ hbw) (fun k hk => .inr (hb2 k hk)))
    obtain ⟨l2, m2, rfl⟩ := ho2.form
    have C8 : w2.cell? ⟨p, 8, none⟩ = some (.slice la N lc) := cell_at HM.out.hp 8
    have F8 := free_at HM.out.hp 8
    clear C4 C5 HCl hbw hb2 ho2
    go_upto_region 9 with fail
    replace HM := Lib.hid (HM.out.cell 8 (.slice l2 DL.length m2))
    refine name_world (fun W => Mid w W p S _ _ _ _ _ _ _) HM.out ?_
    clear HM C8 F8
    intro W1 HM
    replace HM := Lib.hid HM
    have C3 : W1.cell? ⟨p, 3, none⟩ = some (.int .i64 G.start) := cell_at HM.out.hp 3
    have F3 := free_at HM.out.hp 3
    go_upto_region 11 with fail
    replace HM := Lib.hid (HM.out.cell 3 (.int .i64 t))
    refine name_world (fun W => Mid w W p S _ _ _ _ _ _ _) HM.out ?_
    clear HM C3 F3
    intro W2 HM
    replace HM := Lib.hid HM
    obtain ⟨g, hg⟩ : ∃ g, ba = some ⟨g, 0, none⟩ := by
      obtain ⟨g, c, e⟩ := HM.out.ob.has (by omega)
      simp only [Value.slice.injEq] at e
      exact ⟨g, e.1⟩
    subst hg
    have HBy : Hid (∀ w', OwnS w' 5 1 (.slice (some ⟨g, 0, none⟩) Z bc) Z (Lib.strCells G.buf) → Calls Tryz.prog 167 #[.slice (some ⟨g, lo, none⟩) (Z - lo) (bc - lo)] w' fun e w'' => ∃ v', OwnS w'' 5 1 v' EX.size (Lib.strCells EX) ∧ (∀ k ∈ blk v', w'.heap.size ≤ k) ∧ e = .returned v' ∧ Below w'.heap.size w' w'') := fun w' ho => by
      refine by_clone _ EX (by have := hex.out; have := a8.out; have := a9.out; omega) w' ⟨some ⟨g, lo, none⟩, bc - lo, by rw [hex.out], fun _ => ⟨g, lo, rfl, ho.lt (by simp [blk, Value.ownBlock]), ?_⟩⟩
      rw [← hZ.out] at ho
      have := Bytes.sub (OwnS.bytes ho) lo Z (by omega) (by rw [hZ.out]; omega)
      rwa [Nat.zero_add, hEX.out] at this
    have hwl : IntKind.i64.wrap (lo : Int) = lo := by rw [IntKind.wrap_i64]; have := a8.out; have := a9.out; omega
    have hml : min (lo : Int) (Z : Int) = lo := by omega
    have hbcl : ¬ bc = lo := by omega
    have hlo0 : (0 : Int) ≤ lo := by omega
    have hlob : (lo : Int) ≤ Z := by omega
    have hlobc : (lo : Int) ≤ bc := by omega
    have hS0 : W2.drew.cell? ⟨p, 6, none⟩ = some (.int .i64 G.base) := cell_at HM.out.hp 6
    refine wp_region_held_drew (S := fun w' => w'.cell? ⟨p, 6, none⟩ = some (.int .i64 G.base)) (by kernel_rfl) hS0 (fun hHeld => ?_)
    clear hS0
    replace HM : Hid (Mid w W2.drew p S _ _ _ _ _ _ _) := HM.out.later (bD bR)
    refine wpAnyH_take (i := 0) (oi := ⟨some 62, _, _, _, _, _⟩) (v := ?_) rfl (by kernel_rfl) (by kernel_rfl) (by kernel_rfl) (fun _ _ _ h => h) (Or.inl ⟨by rfl, ?_⟩) hHeld ?_
    rotate_left
    · intro w' hSw
      go_simp
      try with_reducible rfl
      try omega
    simp only [Act.put, List.setIfInBounds_toArray, List.set_cons_zero, List.set_cons_succ]
    refine wpAnyH_take (i := 1) (oi := ⟨some 63, _, _, _, _, _⟩) (v := ?_) rfl (by kernel_rfl) (by kernel_rfl) (by kernel_rfl) (fun _ _ _ h => h) (Or.inl ⟨by rfl, ?_⟩) hHeld ?_
    rotate_left
    · intro w' hSw
      go_simp
      try with_reducible rfl
      try omega
    simp only [Act.put, List.setIfInBounds_toArray, List.set_cons_zero, List.set_cons_succ]
    refine wpAnyH_take (i := 2) (oi := ⟨some 64, _, _, _, _, _⟩) (v := ?_) rfl (by kernel_rfl) (by kernel_rfl) (by kernel_rfl) (fun _ _ _ h => h) (Or.inl ⟨by rfl, ?_⟩) hHeld ?_
    rotate_left
    · intro w' hSw
      go_simp
      try with_reducible rfl
      try omega
    simp only [Act.put, List.setIfInBounds_toArray, List.set_cons_zero, List.set_cons_succ]
    refine wpAnyH_take (i := 3) (oi := ⟨some 65, _, _, _, _, _⟩) (v := ?_) rfl (by kernel_rfl) (by kernel_rfl) (by kernel_rfl) (fun _ _ _ h => h) (Or.inl ⟨by rfl, ?_⟩) hHeld ?_
    rotate_left
    · intro w' hSw
      go_simp
      try with_reducible rfl
      try omega
    simp only [Act.put, List.setIfInBounds_toArray, List.set_cons_zero, List.set_cons_succ]
    refine wpAnyH_take (i := 5) (oi := ⟨some 67, _, _, _, _, _⟩) (v := ?_) rfl (by kernel_rfl) (by kernel_rfl) (by kernel_rfl) (fun _ _ _ h => h) (Or.inl ⟨by rfl, ?_⟩) hHeld ?_
    rotate_left
    · intro w' hSw
      go_simp
      try with_reducible rfl
      try omega
    simp only [Act.put, List.setIfInBounds_toArray, List.set_cons_zero, List.set_cons_succ]
    refine wpAnyH_take (i := 6) (oi := ⟨some 68, _, _, _, _, _⟩) (v := ?_) rfl (by kernel_rfl) (by kernel_rfl) (by kernel_rfl) (fun _ _ _ h => h) (Or.inl ⟨by rfl, ?_⟩) hHeld ?_
    rotate_left
    · intro w' hSw
      go_simp
      try with_reducible rfl
      try omega
    simp only [Act.put, List.setIfInBounds_toArray, List.set_cons_zero, List.set_cons_succ]
    refine wpAnyH_take (i := 7) (oi := ⟨some 69, _, _, _, _, _⟩) (v := ?_) rfl (by kernel_rfl) (by kernel_rfl) (by kernel_rfl) (fun _ _ _ h => h) (Or.inl ⟨by rfl, ?_⟩) hHeld ?_
    rotate_left
    · intro w' hSw
      go_simp
      try with_reducible rfl
      try omega
    simp only [Act.put, List.setIfInBounds_toArray, List.set_cons_zero, List.set_cons_succ]
    refine wpAnyH_take (i := 8) (oi := ⟨some 70, _, _, _, _, _⟩) (v := ?_) rfl (by kernel_rfl) (by kernel_rfl) (by kernel_rfl) (fun _ _ _ h => h) (Or.inl ⟨by rfl, ?_⟩) hHeld ?_
    rotate_left
    · intro w' hSw
      go_simp
      try with_reducible rfl
      try omega
    simp only [Act.put, List.setIfInBounds_toArray, List.set_cons_zero, List.set_cons_succ]
    refine wpAnyH_take (i := 9) (oi := ⟨some 71, _, _, _, _, _⟩) (v := ?_) rfl (by kernel_rfl) (by kernel_rfl) (by kernel_rfl) (fun _ _ _ h => h) (Or.inl ⟨by rfl, ?_⟩) hHeld ?_
    rotate_left
    · intro w' hSw
      go_simp
      try with_reducible rfl
      try omega
    simp only [Act.put, List.setIfInBounds_toArray, List.set_cons_zero, List.set_cons_succ]
    refine wpAnyH_take (i := 10) (oi := ⟨some 72, _, _, _, _, _⟩) (v := ?_) rfl (by kernel_rfl) (by kernel_rfl) (by kernel_rfl) (fun _ _ _ h => h) (Or.inl ⟨by rfl, ?_⟩) hHeld ?_
    rotate_left
    · intro w' hSw
      go_simp
      try with_reducible rfl
      try omega
    simp only [Act.put, List.setIfInBounds_toArray, List.set_cons_zero, List.set_cons_succ]
    refine wpAnyH_take (i := 11) (oi := ⟨some 73, _, _, _, _, _⟩) (v := ?_) rfl (by kernel_rfl) (by kernel_rfl) (by kernel_rfl) (fun _ _ _ h => h) (Or.inl ⟨by rfl, ?_⟩) hHeld ?_
    rotate_left
    · intro w' hSw
      go_simp
      try with_reducible rfl
      try omega
    simp only [Act.put, List.setIfInBounds_toArray, List.set_cons_zero, List.set_cons_succ]
    refine wpAnyH_take (i := 12) (oi := ⟨some 74, _, _, _, _, _⟩) (v := ?_) rfl (by kernel_rfl) (by kernel_rfl) (by kernel_rfl) (fun _ _ _ h => h) (Or.inl ⟨by rfl, ?_⟩) hHeld ?_
    rotate_left
    · intro w' hSw
      go_simp
      try with_reducible rfl
      try omega
    simp only [Act.put, List.setIfInBounds_toArray, List.set_cons_zero, List.set_cons_succ]
    refine wpAnyH_take (i := 13) (oi := ⟨some 75, _, _, _, _, _⟩) (v := ?_) rfl (by kernel_rfl) (by kernel_rfl) (by kernel_rfl) (fun _ _ _ h => h) (Or.inl ⟨by rfl, ?_⟩) hHeld ?_
    rotate_left
    · intro w' hSw
      go_simp
      try with_reducible rfl
      try omega
    simp only [Act.put, List.setIfInBounds_toArray, List.set_cons_zero, List.set_cons_succ]
    refine wpAnyH_ready (rs := [4, 14]) (by kernel_rfl) (by simp) ?_
    refine AllReadyH.cons (o := ⟨some 66, _, _, _, _, _⟩) rfl (fun K hK => ?_) (AllReadyH.cons (o := ⟨some 76, _, _, _, _, _⟩) rfl (fun K hK => ?_) AllReadyH.nil)
    · have c7 : (W2.drew).cell? ⟨p, 7, none⟩ = some (.slice (some ⟨g, 0, none⟩) Z bc) := cell_at HM.out.hp 7
      go_simp
      clear c7
      refine hK.out _ _ (cell_at HM.out.hp 6) (fun hHeld => ?_)
      clear hK K
      try simp only [Act.put, List.setIfInBounds_toArray, List.set_cons_zero, List.set_cons_succ]
      refine wpAnyH_ready (rs := [14]) (by kernel_rfl) (by simp) ?_
      refine AllReadyH.cons (o := ⟨some 76, _, _, _, _, _⟩) rfl (fun K hK => ?_) AllReadyH.nil
      have c7 : (W2.drew).cell? ⟨p, 7, none⟩ = some (.slice (some ⟨g, 0, none⟩) Z bc) := cell_at HM.out.hp 7
      go_simp
      clear c7
      refine hK.out _ _ (cell_at HM.out.hp 6) (fun hHeld => ?_)
      clear hK K
      try simp only [Act.put, List.setIfInBounds_toArray, List.set_cons_zero, List.set_cons_succ]
      refine wpAnyH_take (i := 15) (oi := ⟨some 77, _, _, _, _, _⟩) (v := ?_) rfl (by kernel_rfl) (by kernel_rfl) (by kernel_rfl) (fun _ _ _ h => h) (Or.inl ⟨by rfl, ?_⟩) hHeld ?_
      rotate_left
      · intro w' hSw
        go_simp
        try with_reducible rfl
        try omega
      simp only [Act.put, List.setIfInBounds_toArray, List.set_cons_zero, List.set_cons_succ]
      refine wpAnyH_take (i := 16) (oi := ⟨some 78, _, _, _, _, _⟩) (v := .int .i64 (lo : Int)) rfl (by kernel_rfl) (by kernel_rfl) (by kernel_rfl) (fun _ _ _ h => h) (Or.inl ⟨by rfl, ?_⟩) hHeld ?_
      · intro w' hSw
        go_simp
        try with_reducible rfl
        try omega
      simp only [Act.put, List.setIfInBounds_toArray, List.set_cons_zero, List.set_cons_succ]
      refine wpAnyH_take (i := 17) (oi := ⟨some 79, _, _, _, _, _⟩) (v := .slice (some ⟨g, lo, none⟩) (Z - lo) (bc - lo)) rfl (by kernel_rfl) (by kernel_rfl) (by kernel_rfl) (fun _ _ _ h => h) (Or.inl ⟨by rfl, ?_⟩) hHeld ?_
      · intro w' hSw
        go_simp
        try with_reducible rfl
        try omega
      simp only [Act.put, List.setIfInBounds_toArray, List.set_cons_zero, List.set_cons_succ]
      refine wpAnyH_ready (rs := [18]) (by kernel_rfl) (by simp) ?_
      refine AllReadyH.cons (o := ⟨some 80, _, _, _, _, _⟩) rfl (fun K hK => ?_) AllReadyH.nil
      go_simp
      go_at_call 167
      refine (HBy.out _ HM.out.ob).mono ?_
      rintro e w5 ⟨v5, ho5, hb5, rfl, hbw⟩
      replace HM := Lib.hid (HM.out.buf ho5 (Keeps.of_below _ hbw) (fun k hk => .inr (hb5 k hk)))
      obtain ⟨a5, c5, rfl⟩ := ho5.form
      clear ho5 hb5 hbw HBy
      go_wp2_with fail
      refine hK.out _ _ (cell_at HM.out.hp 6) (fun hHeld => ?_)
      clear hK K
      try simp only [Act.put, List.setIfInBounds_toArray, List.set_cons_zero, List.set_cons_succ]
      refine wpAnyH_take (i := 19) (oi := ⟨some 81, _, _, _, _, _⟩) (v := ?_) rfl (by kernel_rfl) (by kernel_rfl) (by kernel_rfl) (fun _ _ _ h => h) (Or.inl ⟨by rfl, ?_⟩) hHeld ?_
      rotate_left
      · intro w' hSw
        go_simp
        try with_reducible rfl
        try omega
      simp only [Act.put, List.setIfInBounds_toArray, List.set_cons_zero, List.set_cons_succ]
      refine wpAnyH_take (i := 20) (oi := ⟨some 82, _, _, _, _, _⟩) (v := ?_) rfl (by kernel_rfl) (by kernel_rfl) (by kernel_rfl) (fun _ _ _ h => h) (Or.inl ⟨by rfl, ?_⟩) hHeld ?_
      rotate_left
      · intro w' hSw
        go_simp
        try with_reducible rfl
        try omega
      simp only [Act.put, List.setIfInBounds_toArray, List.set_cons_zero, List.set_cons_succ]
      refine wpAnyH_ready (rs := [21]) (by kernel_rfl) (by simp) ?_
      refine AllReadyH.cons (o := ⟨none, _, _, _, _, _⟩) rfl (fun K hK => ?_) AllReadyH.nil
      have F7 := free_at HM.out.hp 7
      have C7 : w5.cell? ⟨p, 7, none⟩ = some (.slice (some ⟨g, 0, none⟩) Z bc) := cell_at HM.out.hp 7
      go_simp
      clear F7 C7
      replace HM := Lib.hid (HM.out.cell 7 (.slice a5 EX.size c5))
      refine hK.out _ _ (cell_at HM.out.hp 6) (fun hHeld => ?_)
      clear hK K
      try simp only [Act.put, List.setIfInBounds_toArray, List.set_cons_zero, List.set_cons_succ]
      clear hHeld
      refine wpAnyH_done (by kernel_rfl) ?_ _
      have C6 : (w5.setCell ⟨p, 7, none⟩ (.slice a5 EX.size c5)).cell? ⟨p, 6, none⟩ = some (.int .i64 G.base) := cell_at HM.out.hp 6
      have F6 := free_at HM.out.hp 6
      have HM6 := Lib.hid (HM.out.cell 6 (.int .i64 (t / 54 * 54)))
      clear HM
      go_wp2_with fail
      go_ret
      exact ⟨rfl, HM6.out.log (G' := Lg.cut G t j) hok'.out (by show _ = (G.buf.extract _ _).size; rw [← hlo.out, hZ.out, hEX.out]) (by show _ = Lib.strCells (G.buf.extract _ _); rw [← hlo.out, hZ.out, hEX.out]) (by show _ = (G.list.drop j).length; rw [hDL.out]) (by show _ = recV (G.list.drop j); rw [hDL.out])⟩
    · have c7 : (W2.drew).cell? ⟨p, 7, none⟩ = some (.slice (some ⟨g, 0, none⟩) Z bc) := cell_at HM.out.hp 7
      go_simp
      clear c7
      refine hK.out _ _ (cell_at HM.out.hp 6) (fun hHeld => ?_)
      clear hK K
      try simp only [Act.put, List.setIfInBounds_toArray, List.set_cons_zero, List.set_cons_succ]
      refine wpAnyH_take (i := 15) (oi := ⟨some 77, _, _, _, _, _⟩) (v := ?_) rfl (by kernel_rfl) (by kernel_rfl) (by kernel_rfl) (fun _ _ _ h => h) (Or.inl ⟨by rfl, ?_⟩) hHeld ?_
      rotate_left
      · intro w' hSw
        go_simp
        try with_reducible rfl
        try omega
      simp only [Act.put, List.setIfInBounds_toArray, List.set_cons_zero, List.set_cons_succ]
      refine wpAnyH_take (i := 16) (oi := ⟨some 78, _, _, _, _, _⟩) (v := .int .i64 (lo : Int)) rfl (by kernel_rfl) (by kernel_rfl) (by kernel_rfl) (fun _ _ _ h => h) (Or.inl ⟨by rfl, ?_⟩) hHeld ?_
      · intro w' hSw
        go_simp
        try with_reducible rfl
        try omega
      simp only [Act.put, List.setIfInBounds_toArray, List.set_cons_zero, List.set_cons_succ]
      refine wpAnyH_ready (rs := [4]) (by kernel_rfl) (by simp) ?_
      refine AllReadyH.cons (o := ⟨some 66, _, _, _, _, _⟩) rfl (fun K hK => ?_) AllReadyH.nil
      have c7 : (W2.drew).cell? ⟨p, 7, none⟩ = some (.slice (some ⟨g, 0, none⟩) Z bc) := cell_at HM.out.hp 7
      go_simp
      clear c7
      refine hK.out _ _ (cell_at HM.out.hp 6) (fun hHeld => ?_)
      clear hK K
      try simp only [Act.put, List.setIfInBounds_toArray, List.set_cons_zero, List.set_cons_succ]
      refine wpAnyH_take (i := 17) (oi := ⟨some 79, _, _, _, _, _⟩) (v := .slice (some ⟨g, lo, none⟩) (Z - lo) (bc - lo)) rfl (by kernel_rfl) (by kernel_rfl) (by kernel_rfl) (fun _ _ _ h => h) (Or.inl ⟨by rfl, ?_⟩) hHeld ?_
      · intro w' hSw
        go_simp
        try with_reducible rfl
        try omega
      simp only [Act.put, List.setIfInBounds_toArray, List.set_cons_zero, List.set_cons_succ]
      refine wpAnyH_ready (rs := [18]) (by kernel_rfl) (by simp) ?_
      refine AllReadyH.cons (o := ⟨some 80, _, _, _, _, _⟩) rfl (fun K hK => ?_) AllReadyH.nil
      go_simp
      go_at_call 167
      refine (HBy.out _ HM.out.ob).mono ?_
      rintro e w5 ⟨v5, ho5, hb5, rfl, hbw⟩
      replace HM := Lib.hid (HM.out.buf ho5 (Keeps.of_below _ hbw) (fun k hk => .inr (hb5 k hk)))
      obtain ⟨a5, c5, rfl⟩ := ho5.form
      clear ho5 hb5 hbw HBy
      go_wp2_with fail
      refine hK.out _ _ (cell_at HM.out.hp 6) (fun hHeld => ?_)
      clear hK K
      try simp only [Act.put, List.setIfInBounds_toArray, List.set_cons_zero, List.set_cons_succ]
      refine wpAnyH_take (i := 19) (oi := ⟨some 81, _, _, _, _, _⟩) (v := ?_) rfl (by kernel_rfl) (by kernel_rfl) (by kernel_rfl) (fun _ _ _ h => h) (Or.inl ⟨by rfl, ?_⟩) hHeld ?_
      rotate_left
      · intro w' hSw
        go_simp
        try with_reducible rfl
        try omega
      simp only [Act.put, List.setIfInBounds_toArray, List.set_cons_zero, List.set_cons_succ]
      refine wpAnyH_take (i := 20) (oi := ⟨some 82, _, _, _, _, _⟩) (v := ?_) rfl (by kernel_rfl) (by kernel_rfl) (by kernel_rfl) (fun _ _ _ h => h) (Or.inl ⟨by rfl, ?_⟩) hHeld ?_
      rotate_left
      · intro w' hSw
        go_simp
        try with_reducible rfl
        try omega
      simp only [Act.put, List.setIfInBounds_toArray, List.set_cons_zero, List.set_cons_succ]
      refine wpAnyH_ready (rs := [21]) (by kernel_rfl) (by simp) ?_
      refine AllReadyH.cons (o := ⟨none, _, _, _, _, _⟩) rfl (fun K hK => ?_) AllReadyH.nil
      have F7 := free_at HM.out.hp 7
      have C7 : w5.cell? ⟨p, 7, none⟩ = some (.slice (some ⟨g, 0, none⟩) Z bc) := cell_at HM.out.hp 7
      go_simp
      clear F7 C7
      replace HM := Lib.hid (HM.out.cell 7 (.slice a5 EX.size c5))
      refine hK.out _ _ (cell_at HM.out.hp 6) (fun hHeld => ?_)
      clear hK K
      try simp only [Act.put, List.setIfInBounds_toArray, List.set_cons_zero, List.set_cons_succ]
      clear hHeld
      refine wpAnyH_done (by kernel_rfl) ?_ _
      have C6 : (w5.setCell ⟨p, 7, none⟩ (.slice a5 EX.size c5)).cell? ⟨p, 6, none⟩ = some (.int .i64 G.base) := cell_at HM.out.hp 6
      have F6 := free_at HM.out.hp 6
      have HM6 := Lib.hid (HM.out.cell 6 (.int .i64 (t / 54 * 54)))
      clear HM
      go_wp2_with fail
      go_ret
      exact ⟨rfl, HM6.out.log (G' := Lg.cut G t j) hok'.out (by show _ = (G.buf.extract _ _).size; rw [← hlo.out, hZ.out, hEX.out]) (by show _ = Lib.strCells (G.buf.extract _ _); rw [← hlo.out, hZ.out, hEX.out]) (by show _ = (G.list.drop j).length; rw [hDL.out]) (by show _ = recV (G.list.drop j); rw [hDL.out])⟩
end Go.Proofs.YtimomjheanfbmaaGreatDoor
