import Derived.Test.YtdkilpjebmhkkaaDoorMal
import Derived.Deep.DeepCutAuto
import Derived.Deep.CutBlock
set_option linter.unusedSimpArgs false
set_option linter.unusedVariables false
namespace Go.Proofs.YtdkilpjebmhkkaaDoor
open Go.RowKit

theorem load_size (G : Lg) (D : Dev) (k : Int) : (G.load D k).1.size ≤ 54 := by
  unfold Lg.load
  have hv : ∀ l, 0 ≤ valS l := fun l => valL_nonneg _
  repeat' split
  · exact Nat.zero_le _
  · exact Nat.zero_le _
  · rename_i h1 h2
    have h3 := hv ((D.read (G.first + k % G.n)).1.extract 8 10)
    dsimp only
    rw [ByteArray.size_extract]
    omega
/-- the log that Open begins with -/
def Lg.op0 (first n start : Nat) : Lg := { first := first, n := n, start := start, fin := start, firm := 0, base := (54 * (start / 54) : Nat), buf := ⟨#[]⟩, list := [] }
/-- the first i sectors of the stream from number k0 on: what they hold; is this the end?; an error -/
def Lg.ld (G : Lg) (D : Dev) (k0 : Nat) : Nat → ByteArray × Bool × Int
  | 0 => (⟨#[]⟩, false, 0)
  | i + 1 => if (Lg.ld G D k0 i).2.1 = true then Lg.ld G D k0 i
    else if (G.load D ((k0 + i : Nat) : Int)).2.2 ≠ 0 then ((Lg.ld G D k0 i).1, true, (G.load D ((k0 + i : Nat) : Int)).2.2)
    else if (G.load D ((k0 + i : Nat) : Int)).2.1 = false then ((Lg.ld G D k0 i).1, true, 0)
    else ((Lg.ld G D k0 i).1 ++ (G.load D ((k0 + i : Nat) : Int)).1, decide ((G.load D ((k0 + i : Nat) : Int)).1.size < 54), 0)
theorem ld_stop {G : Lg} {D : Dev} {k0 i : Nat} (h : (G.ld D k0 i).2.1 = true) : ∀ j, i ≤ j → G.ld D k0 j = G.ld D k0 i := by
  intro j hj
  obtain ⟨d, rfl⟩ : ∃ d, j = i + d := ⟨j - i, by omega⟩
  clear hj
  induction d with
  | zero => rfl
  | succ d ih =>
    show (if (Lg.ld G D k0 (i + d)).2.1 = true then Lg.ld G D k0 (i + d) else _) = _
    rw [ih, if_pos h]
theorem ld_size {G : Lg} {D : Dev} {k0 : Nat} : ∀ i, (G.ld D k0 i).1.size ≤ 54 * i
  | 0 => Nat.zero_le _
  | i + 1 => by
    have ih := ld_size (G := G) (D := D) (k0 := k0) i
    have hl := load_size G D ((k0 + i : Nat) : Int)
    rw [Lg.ld]
    repeat' split
    · omega
    · show (Lg.ld G D k0 i).1.size ≤ _; omega
    · show (Lg.ld G D k0 i).1.size ≤ _; omega
    · show ((Lg.ld G D k0 i).1 ++ _).size ≤ _; rw [ByteArray.size_append]; omega
/-- the records of a stream's bytes from place a on: (places count from base), and where they end -/
def prs (B : ByteArray) (base : Int) : Nat → Nat → List (Int × ByteArray) × Nat
  | 0, a => ([], a)
  | f + 1, a => if a + 2 ≤ B.size ∧ 0 < valS (B.extract a (a + 2)) ∧ a + 2 + (valS (B.extract a (a + 2))).toNat ≤ B.size
    then ((base + a, B.extract (a + 2) (a + 2 + (valS (B.extract a (a + 2))).toNat)) :: (prs B base f (a + 2 + (valS (B.extract a (a + 2))).toNat)).1, (prs B base f (a + 2 + (valS (B.extract a (a + 2))).toNat)).2)
    else ([], a)
def lenV : Value → Nat | .slice _ n _ => n | _ => 0
def opB (B : ByteArray) (a : Nat) : ByteArray := if a < B.size then B.extract 0 a else B ++ zeros (a - B.size)
/-- the log that is opened: from the bytes that were read -/
def Lg.opened (first n start : Nat) (B : ByteArray) : Lg :=
  { Lg.op0 first n start with
    fin := ((54 * (start / 54) + (prs B ((54 * (start / 54) : Nat) : Int) (B.size + 1) (start - 54 * (start / 54))).2 : Nat) : Int)
    firm := ((54 * (start / 54) + (prs B ((54 * (start / 54) : Nat) : Int) (B.size + 1) (start - 54 * (start / 54))).2 : Nat) : Int)
    buf := opB B (prs B ((54 * (start / 54) : Nat) : Int) (B.size + 1) (start - 54 * (start / 54))).2
    list := (prs B ((54 * (start / 54) : Nat) : Int) (B.size + 1) (start - 54 * (start / 54))).1 }
theorem opB_size (B : ByteArray) (a : Nat) : (opB B a).size = a := by
  unfold opB
  split
  · rw [ByteArray.size_extract]; omega
  · rw [ByteArray.size_append, zeros_size]; omega
/-- the device behind Open: the ring wiped -/
def Lg.openD (first n start : Nat) (D : Dev) : Dev × Int :=
  let G := Lg.opened first n start ((Lg.op0 first n start).ld D (start / 54) n).1
  G.wiped D (G.keptP (start / 54) ((G.buf.size + 53) / 54))
set_option maxRecDepth 100000 in
set_option maxHeartbeats 3200000 in
theorem wal_open (dp : Nat) (Sd : List Nat) (D : Dev) (first n start : Nat) (h1 : 128 ≤ n) (h2 : n ≤ 4096) (h3 : first + n ≤ D.firm.length) (h4 : 54 ≤ start) (h5 : start ≤ 1099511627776) (hsoft : D.soft.length ≤ 8000000000000) (w : World) (h : DiskAt w dp D Sd) :
    Calls Tryd.prog 20 #[.pointer (some ⟨dp, 0, none⟩), .int .i64 first, .int .i64 n, .int .i64 start] w fun e w' =>
      (((Lg.op0 first n start).ld D (start / 54) n).2.2 ≠ 0 ∧ e = .returned (.tuple #[.pointer none, .slice none 0 0, .int .i64 ((Lg.op0 first n start).ld D (start / 54) n).2.2]) ∧ Below w.heap.size w w') ∨
      (((Lg.op0 first n start).ld D (start / 54) n).2.2 = 0 ∧ ∃ Sd', DiskAt w' dp (Lg.openD first n start D).1 Sd' ∧ Keeps (· ∈ Sd) w w' ∧ (∀ k ∈ Sd', k ∈ Sd ∨ w.heap.size ≤ k) ∧
        (((Lg.openD first n start D).2 ≠ 0 ∧ e = .returned (.tuple #[.pointer none, .slice none 0 0, .int .i64 (Lg.openD first n start D).2])) ∨
         ((Lg.openD first n start D).2 = 0 ∧ ∃ p S lv, e = .returned (.tuple #[.pointer (some ⟨p, 0, none⟩), lv, .int .i64 0]) ∧ LogAt w' p dp (Lg.opened first n start ((Lg.op0 first n start).ld D (start / 54) n).1) S ∧ (∀ k ∈ S, w.heap.size ≤ k ∧ k ∉ Sd')
           ∧ OwnS w' 70 2 lv (Lg.opened first n start ((Lg.op0 first n start).ld D (start / 54) n).1).list.length (recV (Lg.opened first n start ((Lg.op0 first n start).ld D (start / 54) n).1).list) ∧ ∀ k ∈ blk lv, w.heap.size ≤ k ∧ k ∉ S ∧ k ∉ Sd'))) := by

  have hsoft := Lib.hid hsoft
  have hDl := Lib.hid h.1.2.1
  have hDl2 := h.1.2.1
  have HG := Lib.hid (wal_ring_yes dp D Sd first n (by omega) (by omega) (by omega) (by omega) w h)
  have hs1 : ¬ (start : Int) < 54 := by omega
  have hs2 : ¬ (1099511627776 : Int) < start := by omega
  obtain ⟨i0, hi, hi0, hi1, hi2⟩ := info_parts Tryd.info_ent
  obtain ⟨j0, hj, hj0, hj1, hj2⟩ := info_parts Tryd.info_u8
  have HD := Lib.hid h
  obtain ⟨k0, hk0⟩ : ∃ k0 : Nat, start / 54 = k0 := ⟨_, rfl⟩
  obtain ⟨b0, hb0⟩ : ∃ b0 : Nat, 54 * k0 = b0 := ⟨_, rfl⟩
  obtain ⟨p, hp⟩ : ∃ p, w.heap.size = p := ⟨_, rfl⟩
  obtain ⟨G, hG⟩ : ∃ G, Lg.op0 first n start = G := ⟨_, rfl⟩
  have hGf : G.first = first ∧ G.n = n ∧ G.start = start ∧ G.fin = start ∧ G.firm = 0 ∧ G.base = b0 := by subst hG hb0 hk0; exact ⟨rfl, rfl, rfl, rfl, rfl, rfl⟩
  have HM0 : Hid (Mid w (w.alloc (.cells #[.pointer (some ⟨dp, 0, none⟩), .int .i64 first, .int .i64 n, .int .i64 start, .int .i64 start, .int .i64 0, .int .i64 b0, .slice none 0 0, .slice none 0 0] 81)) p [] (lgC dp G (.slice none 0 0) (.slice none 0 0)) (.slice none 0 0) (.slice none 0 0) 0 [] 0 []) := by
    refine ⟨?_, OwnS.nil _ _ _, OwnS.nil _ _ _, (Keeps.refl _ _).alloc _, fun k hk => ?_, by simp [blk, Value.ownBlock]⟩
    · obtain ⟨g1, g2, g3, g4, g5, g6⟩ := hGf
      unfold lgC
      rw [g1, g2, g3, g4, g5, g6]
      exact hN hp.symm
    · have : k = p := by simpa [blk, Value.ownBlock] using hk
      exact .inr (by omega)
  obtain ⟨g1, g2, g3, g4, g5, g6⟩ := hGf
  have hk1 : ((start : Int) / 54) = k0 := by omega
  have hk2 : Hid ((k0 : Int) * 54 = b0) := by show _ = _; omega
  have hGb : Hid (128 ≤ G.n ∧ G.n ≤ 4096 ∧ 0 ≤ G.first ∧ G.first ≤ 16384) := ⟨by omega, by omega, by omega, by omega⟩
  replace hk0 := Lib.hid hk0
  replace hb0 := Lib.hid hb0
  replace hG := Lib.hid hG
  clear h hDl2
  replace g1 := Lib.hid g1
  replace g2 := Lib.hid g2
  replace g3 := Lib.hid g3
  replace g4 := Lib.hid g4
  replace g5 := Lib.hid g5
  replace g6 := Lib.hid g6
  replace hp := Lib.hid hp
  go_enter Tryd.func20, Tryd.ntmps20
  go_wp2_with fail
  refine (HG.out).mono ?_
  rintro e w1 ⟨rfl, rfl⟩
  go_upto_block 0 with fail
  try rw [hk1]
  try rw [hp.out]
  try rw [hk2.out]
  refine name_world (fun W => Mid w1 W p [] (lgC dp G (.slice none 0 0) (.slice none 0 0)) (.slice none 0 0) (.slice none 0 0) 0 [] 0 []) HM0.out ?_
  clear HM0
  intro W0 HM0
  replace HM0 := Lib.hid HM0
  clear hk1 HG
  go_cut [] (fun wx => ∃ (B : ByteArray) (bv : Value), B.size ≤ 54 * n ∧ Hid ((G.ld D k0 n).2.2 = 0 ∧ (G.ld D k0 n).1 = B) ∧ Hid (Mid w1 wx p [] (lgC dp G bv (.slice none 0 0)) bv (.slice none 0 0) B.size (Lib.strCells B) 0 []))
  case first =>
    go_wp2_with fail
    go_loopw [12] (fun s wr => ∃ (i : Nat) (B : ByteArray) (bv : Value), i ≤ n ∧ s = .int .i64 (i : Int) ∧ Hid (G.ld D k0 i = (B, false, 0)) ∧ Hid (Mid w1 wr p [] (lgC dp G bv (.slice none 0 0)) bv (.slice none 0 0) B.size (Lib.strCells B) 0 [])) (fun s _ => n - (intOf s).toNat)
    case atStart => exact ⟨0, ⟨#[]⟩, _, by omega, rfl, rfl, HM0⟩
    case round =>
      clear HM0
      obtain ⟨i, B, bv, hi, rfl, hld, HM⟩ := hrel
      have hBs : B.size ≤ 54 * i := by have := ld_size (G := G) (D := D) (k0 := k0) i; rw [hld.out] at this; exact this
      by_cases hin : i < n
      · have hin' : (i : Int) < n := by omega
        obtain ⟨I, hI⟩ : ∃ I : Nat, I = k0 + i := ⟨_, rfl⟩
        have hIb : (I : Int) ≤ 1152921504606846976 := by have := hk0.out; omega
        have hI0 : Hid (wrap64 (k0 : Int) = k0) := by show _ = _; unfold wrap64; omega
        have hI1 : Hid (wrap64 ((k0 : Int) + i) = (I : Int)) := by show _ = _; unfold wrap64; omega
        have hI2 : IntKind.i64.wrap ((i : Int) + 1) = (i : Int) + 1 := by rw [IntKind.wrap_i64]; omega
        have hq : (b0 : Int).tdiv 54 = (k0 : Int) := by rw [Int.tdiv_eq_ediv_of_nonneg (by omega)]; have := hb0.out; omega
        have c6 : wr.cell? ⟨p, 6, none⟩ = some (.int .i64 (b0 : Int)) := by have := cell_at HM.out.hp 6; rw [this]; show some (Value.int .i64 G.base) = _; rw [g6.out]
        have HLd := Lib.hid (wal_load p dp G Sd D (I : Int) ⟨by omega, hIb⟩ wr bv (.slice none 0 0) HM.out.hp hGb.out (HD.out.keep HM.out.kp (fun k hk h => by simp at h)))
        have hnext : Hid (G.ld D k0 (i + 1) = if (G.load D (I : Int)).2.2 ≠ 0 then (B, true, (G.load D (I : Int)).2.2) else if (G.load D (I : Int)).2.1 = false then (B, true, 0) else (B ++ (G.load D (I : Int)).1, decide ((G.load D (I : Int)).1.size < 54), 0)) := by
          show (if (Lg.ld G D k0 i).2.1 = true then _ else _) = _
          rw [hld.out, if_neg (by simp), ← hI]
        have hls := load_size G D (I : Int)
        generalize hX : G.load D (I : Int) = X at *
        obtain ⟨s, t, e⟩ := X
        dsimp only at hls hnext HLd
        replace hI := Lib.hid hI
        replace hin := Lib.hid hin
        replace hi := Lib.hid hi
        replace hX := Lib.hid hX
        go_wp2_with fail
        rw [hI0.out, hI1.out]
        refine (HLd.out).mono ?_
        rintro e' w2 ⟨rfl, hb⟩
        have HM2 := Lib.hid (HM.out.later hb)
        clear hb HLd HM c6
        by_cases he : e = 0
        · subst he
          rw [if_neg (fun h => h rfl)] at hnext
          cases t with
          | false =>
            rw [if_pos rfl] at hnext
            go_wp2_with fail
            go_meet
            have hst := ld_stop (G := G) (D := D) (k0 := k0) (i := i + 1) (by rw [hnext.out]) n hin.out
            exact ⟨B, bv, by have := hi.out; omega, ⟨by rw [hst, hnext.out], by rw [hst, hnext.out]⟩, HM2.out⟩
          | true =>
            rw [if_neg (by simp)] at hnext
            have C7 : w2.cell? ⟨p, 7, none⟩ = some bv := cell_at HM2.out.hp 7
            go_upto_region 12 with (at_builtin; refine wpList_append_str rfl _ _ 54 9 rfl 5 j0 Tryd.underlying54 Tryd.underlying9 hj hj0 hj1 hj2 _ _ _ rfl HM2.out.ob s rfl (by unfold maxLen; omega) (by omega) ?_; intro v3 w3 ho3 hk3 hb3; (have HM3 := Lib.hid (HM2.out.buf ho3 hk3 hb3)); (obtain ⟨av3, cv3, rfl⟩ := ho3.form); (have C7' : w3.cell? ⟨p, 7, none⟩ = some bv := cell_at HM3.out.hp 7); (have F7 := free_at HM3.out.hp 7); clear ho3 hk3 hb3)
            have HM4 := HM3.out.cell 7 (.slice av3 (B.size + s.size) cv3)
            refine name_world (fun W => Mid w1 W p [] _ _ _ _ _ _ _) HM4 ?_
            clear HM4 HM3 HM2 C7 C7' F7
            intro W1 HM4
            have HM4 : Hid (Mid w1 W1 p [] (lgC dp G (.slice av3 (B.size + s.size) cv3) (.slice none 0 0)) (.slice av3 (B.size + s.size) cv3) (.slice none 0 0) (B ++ s).size (Lib.strCells (B ++ s)) 0 []) := by
              rw [ByteArray.size_append, strCells_append]
              exact HM4
            have hBs2 : Hid ((B ++ s).size ≤ 54 * (i + 1)) := by show (B ++ s).size ≤ _; rw [ByteArray.size_append]; omega
            by_cases h54 : s.size < 54
            · have h54' : (s.size : Int) < 54 := by omega
              rw [show decide (s.size < 54) = true by simpa using h54] at hnext
              go_wp2_with fail
              go_meet
              have hst := ld_stop (G := G) (D := D) (k0 := k0) (i := i + 1) (by rw [hnext.out]) n hin.out
              exact ⟨B ++ s, _, by have := hBs2.out; have := hin.out; omega, ⟨by rw [hst, hnext.out], by rw [hst, hnext.out]⟩, HM4.out⟩
            · have h54' : ¬ (s.size : Int) < 54 := by omega
              rw [show decide (s.size < 54) = false by simpa using h54] at hnext
              go_wp2_with fail
              go_roundw
              case rel => exact ⟨i + 1, B ++ s, _, hin.out, rfl, hnext, HM4⟩
              case measure => have := hin.out; simp [intOf]; omega
        · have he' : (e != 0) = true := by simpa using he
          rw [if_pos he] at hnext
          replace he := Lib.hid he
          go_wp2_with fail
          go_ret3
          have hst := ld_stop (G := G) (D := D) (k0 := k0) (i := i + 1) (by rw [hnext.out]) n hin.out
          rw [hG.out, hk0.out]
          exact .inl ⟨by rw [hst, hnext.out]; exact he.out, by rw [hst, hnext.out]; rfl, Keeps.below (HM2.out.kp.mono (fun k _ hk => by simp at hk))⟩
      · obtain rfl : i = n := by omega
        have hin' : ¬ (i : Int) < i := by omega
        go_wp2_with fail
        go_meet
        exact ⟨B, bv, hBs, ⟨by rw [hld.out], by rw [hld.out]⟩, HM.out⟩
  case rest =>
    obtain ⟨B, bv, hBn, hB, HM⟩ := hcut
    clear HM0
    obtain ⟨a0, ha0⟩ : ∃ a0 : Nat, start - b0 = a0 := ⟨_, rfl⟩
    have ha1 : start = b0 + a0 := by have := hb0.out; have := hk0.out; omega
    have ha2 : a0 < 54 := by have := hb0.out; have := hk0.out; omega
    have hbb : b0 ≤ 1099511627776 := by omega
    obtain ⟨PR, hPR⟩ : ∃ PR, prs B (b0 : Int) (B.size + 1) a0 = PR := ⟨_, rfl⟩
    have hPR := Lib.hid hPR
    replace ha1 := Lib.hid ha1
    replace ha0 := Lib.hid ha0
    go_upto_block 2 with fail
    go_cut [] (fun wx => ∃ (a : Nat) (lv : Value), Hid (PR.2 = a) ∧ Hid (PR.1.length * 3 ≤ a) ∧ Hid (a ≤ B.size ∨ a = a0) ∧ Hid (Mid w1 wx p [] (lgC dp { G with fin := ((b0 + a : Nat) : Int) } bv lv) bv lv B.size (Lib.strCells B) PR.1.length (recV PR.1)))
    case first =>
      go_wp2_with fail
      go_loopw [] (fun wr => ∃ (a F : Nat) (L : List (Int × ByteArray)) (lv : Value), F = b0 + a ∧ Hid (∃ f, PR = (L ++ (prs B (b0 : Int) f a).1, (prs B (b0 : Int) f a).2) ∧ B.size < f + a) ∧ Hid (L.length * 3 ≤ a) ∧ Hid (a ≤ B.size ∨ a = a0) ∧ Hid (Mid w1 wr p [] (lgC dp { G with fin := (F : Int) } bv lv) bv lv B.size (Lib.strCells B) L.length (recV L))) (fun wr => b0 + B.size + 55 - (intOf ((wr.cell? ⟨p, 4, none⟩).getD default)).toNat)
      case atStart =>
        exact ⟨a0, b0 + a0, [], .slice none 0 0, rfl, ⟨B.size + 1, by rw [hPR.out]; simp, by omega⟩, Nat.zero_le _, .inr rfl, by rw [show ((b0 + a0 : Nat) : Int) = G.fin by rw [g4.out, ha1.out]]; exact HM.out⟩
      case round =>
        clear HM
        obtain ⟨a, F, L, lv, hF, hpr, hL3, haB, HM⟩ := hrel
        have C4 : wr.cell? ⟨p, 4, none⟩ = some (.int .i64 (F : Int)) := cell_at HM.out.hp 4
        have hC4 := Lib.hid C4
        have C6 : wr.cell? ⟨p, 6, none⟩ = some (.int .i64 (b0 : Int)) := by have := cell_at HM.out.hp 6; rw [this]; show some (Value.int .i64 G.base) = _; rw [g6.out]
        have hFa : Hid ((F : Int) - b0 = a) := by show _ = _; omega
        have hab : a ≤ 221238 := by rcases haB.out with h | h <;> omega
        have hFb : (F : Int) ≤ 1099511849014 := by omega
        have hsl : IntKind.i64.wrap ((B.size : Int) - 2) = (B.size : Int) - 2 := by rw [IntKind.wrap_i64]; omega
        have C7 : wr.cell? ⟨p, 7, none⟩ = some bv := cell_at HM.out.hp 7
        replace hF := Lib.hid hF
        obtain ⟨f, hpr, hfa⟩ := hpr.out
        have hf0 : f ≠ 0 ∨ B.size < a := by omega
        obtain ⟨av, cv, rfl⟩ := HM.out.ob.form
        by_cases h22 : a + 2 ≤ B.size
        · have h2' : ¬ (B.size : Int) - 2 < a := by omega
          obtain ⟨f, rfl⟩ : ∃ f', f = f' + 1 := ⟨f - 1, by omega⟩
          obtain ⟨g, c, cur, hv, _, _, hnc, _⟩ := HM.out.ob.2.resolve_left (fun h => by omega)
          obtain ⟨rfl, rfl⟩ : av = some ⟨g, 0, none⟩ ∧ cv = c := by simpa using hv
          obtain ⟨X, hX⟩ : ∃ X, B.extract a (a + 2) = X := ⟨_, rfl⟩
          have hXs : X.size = 2 := by rw [← hX, ByteArray.size_extract]; omega
          have HC : Hid (∀ n, (convert 54 9 (.slice (some ⟨g, a, none⟩) 2 (cv - a))).run Tryd.prog (wr.drewN n) = .ok (.string X) (wr.drewN n)) := fun n => by
            have h := Bytes.sub (OwnS.bytes HM.out.ob) a (a + 2) (by omega) h22
            rw [Nat.zero_add, hX] at h
            have := Lib.run_convert_whole (P := Tryd.prog) (wr.drewN n) 54 5 9 Tryd.underlying54 Tryd.underlying5 Tryd.underlying9 g a X (fun i hi => h i hi) (cv - a)
            rw [hXs] at this
            exact this
          have HV := Lib.hid (fun w2 => oct_val_ok X (by omega) (by omega) w2)
          have hstep : Hid (prs B (b0 : Int) (f + 1) a = if a + 2 ≤ B.size ∧ 0 < valS X ∧ a + 2 + (valS X).toNat ≤ B.size
              then (((b0 : Int) + a, B.extract (a + 2) (a + 2 + (valS X).toNat)) :: (prs B b0 f (a + 2 + (valS X).toNat)).1, (prs B b0 f (a + 2 + (valS X).toNat)).2)
              else ([], a)) := by show _ = _; rw [prs, hX]
          have hv0 : 0 ≤ valS X := valL_nonneg _
          have hv1 : valS X < 65536 := by have := valL_lt X.data.toList; unfold valS; rw [show X.data.toList.length = 2 from hXs] at this; omega
          obtain ⟨v, hvx⟩ : ∃ v : Nat, valS X = v := ⟨(valS X).toNat, by omega⟩
          rw [hvx] at hstep HV hv0 hv1
          have hvN : v ≤ 65535 := by omega
          clear hv0 hv1
          obtain ⟨t, ht⟩ : ∃ t : Nat, t = a + 2 := ⟨_, rfl⟩
          have hea : IntKind.i64.wrap ((a : Int) + 2) = (t : Int) := by rw [IntKind.wrap_i64]; omega
          have hza : (a : Int) ≤ t := by omega
          have hcc : (t : Int) ≤ cv := by omega
          have htz : (0 : Int) ≤ t := by omega
          have hta : t - a = 2 := by omega
          replace ht := Lib.hid ht
          replace htz := Lib.hid htz
          replace hta := Lib.hid hta
          have hca : ¬ cv = a := by omega
          rw [hstep.out] at hpr
          clear hstep hv
          replace hvx := Lib.hid hvx
          replace hpr := Lib.hid hpr
          replace hX := Lib.hid hX
          replace hf0 := Lib.hid hf0
          replace hfa := Lib.hid hfa
          replace hXs := Lib.hid hXs
          replace hnc := Lib.hid hnc
          replace hza := Lib.hid hza
          replace hcc := Lib.hid hcc
          replace hca := Lib.hid hca
          replace hea := Lib.hid hea
          replace hvN := Lib.hid hvN
          go_wp2_with fail
          go_quiet (fail)
          rw [hFa.out]
          go_upto_region 15 with fail
          have hcv := HC.out nq
          rw [← hta.out] at hcv
          have htz := htz.out
          have hea := hea.out
          have hza := hza.out
          have hcc := hcc.out
          have hca := hca.out
          go_wp2_with fail
          refine (HV.out _).mono ?_
          rintro e w2 ⟨rfl, rfl⟩
          clear hcv HC HV
          have hvN := hvN.out
          have hfa := hfa.out
          have hXs := hXs.out
          have hnc := hnc.out
          have wrv : IntKind.i64.wrap (v : Int) = v := by rw [IntKind.wrap_i64]; omega
          have ws1 : IntKind.i64.wrap ((B.size : Int) - a) = (B.size : Int) - a := by rw [IntKind.wrap_i64]; omega
          have ws2 : IntKind.i64.wrap ((B.size : Int) - a - 2) = (B.size : Int) - a - 2 := by rw [IntKind.wrap_i64]; omega
          by_cases hv00 : v = 0
          · subst hv00
            have hend : Hid (PR = (L, a)) := by
              show _ = _
              rw [hpr.out, if_neg (by simp)]
              simp
            go_wp2_with fail
            go_meet
            exact ⟨a, lv, (show _ = _ from by rw [hend.out]), by rw [hend.out]; exact hL3.out, haB.out, by rw [hend.out, ← hF.out]; exact HM.out.later (bN bR nq)⟩
          · have hv0b : ((v : Int) == 0) = false := by simpa using hv00
            by_cases hlong : B.size < a + 2 + v
            · have hl' : (B.size : Int) - a - 2 < v := by omega
              have hend : Hid (PR = (L, a)) := by
                show _ = _
                rw [hpr.out, if_neg (by omega)]
                simp
              replace hv00 := Lib.hid hv00
              replace hlong := Lib.hid hlong
              go_wp2_with fail
              go_meet
              exact ⟨a, lv, (show _ = _ from by rw [hend.out]), by rw [hend.out]; exact hL3.out, haB.out, by rw [hend.out, ← hF.out]; exact HM.out.later (bN bR nq)⟩
            · have hl' : ¬ (B.size : Int) - a - 2 < v := by omega
              obtain ⟨R, hR⟩ : ∃ R, B.extract (a + 2) (a + 2 + v) = R := ⟨_, rfl⟩
              have hRs : R.size = v := by rw [← hR, ByteArray.size_extract]; omega
              have hgo : Hid (PR = (L ++ [((F : Int), R)] ++ (prs B b0 f (a + 2 + v)).1, (prs B b0 f (a + 2 + v)).2)) := by
                show _ = _
                rw [hpr.out, if_pos ⟨h22, by omega, by omega⟩, Int.toNat_natCast, hR, hF.out]
                simp
              obtain ⟨q, hq⟩ : ∃ q : Nat, q = a + 2 + v := ⟨_, rfl⟩
              have HC2 : Hid (∀ w', Lib.Bytes w' g 0 B → (convert 54 9 (.slice (some ⟨g, t, none⟩) (q - t) (cv - t))).run Tryd.prog w' = .ok (.string R) w') := fun w' h => by
                have h := Bytes.sub h (a + 2) (a + 2 + v) (by omega) (by omega)
                rw [Nat.zero_add, hR] at h
                have := Lib.run_convert_whole (P := Tryd.prog) w' 54 5 9 Tryd.underlying54 Tryd.underlying5 Tryd.underlying9 g (a + 2) R h (cv - (a + 2))
                rw [hRs] at this
                rw [show q - t = v by have := ht.out; omega, ht.out]
                exact this
              have hq1 : (q : Int) ≤ cv := by omega
              have hq2 : (t : Int) ≤ q := by have := ht.out; omega
              have hq3 : (0 : Int) ≤ q := by omega
              have wa2 : IntKind.i64.wrap ((t : Int) + v) = (q : Int) := by rw [IntKind.wrap_i64]; have := ht.out; omega
              have hcv4 : ¬ cv = t := by have := ht.out; omega
              have htz2 : (0 : Int) ≤ t := by omega
              replace hq := Lib.hid hq
              replace hv00 := Lib.hid hv00
              replace hlong := Lib.hid hlong
              clear hpr
              go_upto_region 17 with fail
              refine name_world (fun W => Mid w1 W p [] (lgC dp { G with fin := (F : Int) } (.slice (some ⟨g, 0, none⟩) B.size cv) lv) (.slice (some ⟨g, 0, none⟩) B.size cv) lv B.size (Lib.strCells B) L.length (recV L)) (HM.out.later (bN bR nq)) ?_
              clear HM C4 C6 C7 ws1 ws2 hsl
              intro W1 HM
              replace HM := Lib.hid HM
              have hS0 : (fun w' : World => w'.cell? ⟨p, 4, none⟩ = some (.int .i64 (F : Int)) ∧ w'.cell? ⟨p, 7, none⟩ = some (.slice (some ⟨g, 0, none⟩) B.size cv) ∧ Lib.Bytes w' g 0 B) W1.drew := ⟨cell_at HM.out.hp 4, cell_at HM.out.hp 7, OwnS.bytes HM.out.ob⟩
              refine wp_region_held_drew (S := fun w' : World => w'.cell? ⟨p, 4, none⟩ = some (.int .i64 (F : Int)) ∧ w'.cell? ⟨p, 7, none⟩ = some (.slice (some ⟨g, 0, none⟩) B.size cv) ∧ Lib.Bytes w' g 0 B) (by kernel_rfl) hS0 (fun hHeld => ?_)
              clear hS0
              refine wpAnyH_take (i := 0) (oi := ⟨some 124, _, _, _, _, _⟩) (v := ?_) rfl (by kernel_rfl) (by kernel_rfl) (by kernel_rfl) (fun _ _ _ h => h) (Or.inl ⟨by rfl, ?_⟩) hHeld ?_
              rotate_left
              · intro w' hSw
                obtain ⟨s4, s7, sB⟩ := hSw
                go_simp
                try with_reducible rfl
                try omega
              simp only [Act.put, List.setIfInBounds_toArray, List.set_cons_zero, List.set_cons_succ]
              refine wpAnyH_take (i := 1) (oi := ⟨some 125, _, _, _, _, _⟩) (v := ?_) rfl (by kernel_rfl) (by kernel_rfl) (by kernel_rfl) (fun _ _ _ h => h) (Or.inl ⟨by rfl, ?_⟩) hHeld ?_
              rotate_left
              · intro w' hSw
                obtain ⟨s4, s7, sB⟩ := hSw
                go_simp
                try with_reducible rfl
                try omega
              simp only [Act.put, List.setIfInBounds_toArray, List.set_cons_zero, List.set_cons_succ]
              refine wpAnyH_take (i := 2) (oi := ⟨some 126, _, _, _, _, _⟩) (v := ?_) rfl (by kernel_rfl) (by kernel_rfl) (by kernel_rfl) (fun _ _ _ h => h) (Or.inl ⟨by rfl, ?_⟩) hHeld ?_
              rotate_left
              · intro w' hSw
                obtain ⟨s4, s7, sB⟩ := hSw
                go_simp
                try with_reducible rfl
                try omega
              simp only [Act.put, List.setIfInBounds_toArray, List.set_cons_zero, List.set_cons_succ]
              refine wpAnyH_take (i := 3) (oi := ⟨some 127, _, _, _, _, _⟩) (v := ?_) rfl (by kernel_rfl) (by kernel_rfl) (by kernel_rfl) (fun _ _ _ h => h) (Or.inl ⟨by rfl, ?_⟩) hHeld ?_
              rotate_left
              · intro w' hSw
                obtain ⟨s4, s7, sB⟩ := hSw
                go_simp
                try with_reducible rfl
                try omega
              simp only [Act.put, List.setIfInBounds_toArray, List.set_cons_zero, List.set_cons_succ]
              refine wpAnyH_take (i := 5) (oi := ⟨some 129, _, _, _, _, _⟩) (v := ?_) rfl (by kernel_rfl) (by kernel_rfl) (by kernel_rfl) (fun _ _ _ h => h) (Or.inl ⟨by rfl, ?_⟩) hHeld ?_
              rotate_left
              · intro w' hSw
                obtain ⟨s4, s7, sB⟩ := hSw
                go_simp
                try with_reducible rfl
                try omega
              simp only [Act.put, List.setIfInBounds_toArray, List.set_cons_zero, List.set_cons_succ]
              refine wpAnyH_take (i := 6) (oi := ⟨some 130, _, _, _, _, _⟩) (v := ?_) rfl (by kernel_rfl) (by kernel_rfl) (by kernel_rfl) (fun _ _ _ h => h) (Or.inl ⟨by rfl, ?_⟩) hHeld ?_
              rotate_left
              · intro w' hSw
                obtain ⟨s4, s7, sB⟩ := hSw
                go_simp
                try with_reducible rfl
                try omega
              simp only [Act.put, List.setIfInBounds_toArray, List.set_cons_zero, List.set_cons_succ]
              refine wpAnyH_take (i := 7) (oi := ⟨some 131, _, _, _, _, _⟩) (v := ?_) rfl (by kernel_rfl) (by kernel_rfl) (by kernel_rfl) (fun _ _ _ h => h) (Or.inl ⟨by rfl, ?_⟩) hHeld ?_
              rotate_left
              · intro w' hSw
                obtain ⟨s4, s7, sB⟩ := hSw
                go_simp
                try with_reducible rfl
                try omega
              simp only [Act.put, List.setIfInBounds_toArray, List.set_cons_zero, List.set_cons_succ]
              refine wpAnyH_take (i := 8) (oi := ⟨some 132, _, _, _, _, _⟩) (v := ?_) rfl (by kernel_rfl) (by kernel_rfl) (by kernel_rfl) (fun _ _ _ h => h) (Or.inl ⟨by rfl, ?_⟩) hHeld ?_
              rotate_left
              · intro w' hSw
                obtain ⟨s4, s7, sB⟩ := hSw
                go_simp
                try with_reducible rfl
                try omega
              simp only [Act.put, List.setIfInBounds_toArray, List.set_cons_zero, List.set_cons_succ]
              refine wpAnyH_take (i := 9) (oi := ⟨some 133, _, _, _, _, _⟩) (v := ?_) rfl (by kernel_rfl) (by kernel_rfl) (by kernel_rfl) (fun _ _ _ h => h) (Or.inl ⟨by rfl, ?_⟩) hHeld ?_
              rotate_left
              · intro w' hSw
                obtain ⟨s4, s7, sB⟩ := hSw
                go_simp
                try with_reducible rfl
                try omega
              simp only [Act.put, List.setIfInBounds_toArray, List.set_cons_zero, List.set_cons_succ]
              refine wpAnyH_take (i := 10) (oi := ⟨some 134, _, _, _, _, _⟩) (v := ?_) rfl (by kernel_rfl) (by kernel_rfl) (by kernel_rfl) (fun _ _ _ h => h) (Or.inl ⟨by rfl, ?_⟩) hHeld ?_
              rotate_left
              · intro w' hSw
                obtain ⟨s4, s7, sB⟩ := hSw
                go_simp
                try with_reducible rfl
                try omega
              simp only [Act.put, List.setIfInBounds_toArray, List.set_cons_zero, List.set_cons_succ]
              refine wpAnyH_take (i := 11) (oi := ⟨some 135, _, _, _, _, _⟩) (v := ?_) rfl (by kernel_rfl) (by kernel_rfl) (by kernel_rfl) (fun _ _ _ h => h) (Or.inl ⟨by rfl, ?_⟩) hHeld ?_
              rotate_left
              · intro w' hSw
                obtain ⟨s4, s7, sB⟩ := hSw
                go_simp
                try with_reducible rfl
                try omega
              simp only [Act.put, List.setIfInBounds_toArray, List.set_cons_zero, List.set_cons_succ]
              refine wpAnyH_take (i := 12) (oi := ⟨some 136, _, _, _, _, _⟩) (v := ?_) rfl (by kernel_rfl) (by kernel_rfl) (by kernel_rfl) (fun _ _ _ h => h) (Or.inl ⟨by rfl, ?_⟩) hHeld ?_
              rotate_left
              · intro w' hSw
                obtain ⟨s4, s7, sB⟩ := hSw
                go_simp
                try with_reducible rfl
                try omega
              simp only [Act.put, List.setIfInBounds_toArray, List.set_cons_zero, List.set_cons_succ]
              refine wpAnyH_take (i := 13) (oi := ⟨some 137, _, _, _, _, _⟩) (v := ?_) rfl (by kernel_rfl) (by kernel_rfl) (by kernel_rfl) (fun _ _ _ h => h) (Or.inl ⟨by rfl, ?_⟩) hHeld ?_
              rotate_left
              · intro w' hSw
                obtain ⟨s4, s7, sB⟩ := hSw
                go_simp
                try with_reducible rfl
                try omega
              simp only [Act.put, List.setIfInBounds_toArray, List.set_cons_zero, List.set_cons_succ]
              refine wpAnyH_take (i := 14) (oi := ⟨some 138, _, _, _, _, _⟩) (v := .int .i64 (t : Int)) rfl (by kernel_rfl) (by kernel_rfl) (by kernel_rfl) (fun _ _ _ h => h) (Or.inl ⟨by rfl, ?_⟩) hHeld ?_
              · intro w' hSw
                obtain ⟨s4, s7, sB⟩ := hSw
                go_simp
                try with_reducible rfl
                try omega
              simp only [Act.put, List.setIfInBounds_toArray, List.set_cons_zero, List.set_cons_succ]
              refine wpAnyH_take (i := 15) (oi := ⟨some 139, _, _, _, _, _⟩) (v := ?_) rfl (by kernel_rfl) (by kernel_rfl) (by kernel_rfl) (fun _ _ _ h => h) (Or.inl ⟨by rfl, ?_⟩) hHeld ?_
              rotate_left
              · intro w' hSw
                obtain ⟨s4, s7, sB⟩ := hSw
                go_simp
                try with_reducible rfl
                try omega
              simp only [Act.put, List.setIfInBounds_toArray, List.set_cons_zero, List.set_cons_succ]
              refine wpAnyH_take (i := 16) (oi := ⟨some 140, _, _, _, _, _⟩) (v := .int .i64 (t : Int)) rfl (by kernel_rfl) (by kernel_rfl) (by kernel_rfl) (fun _ _ _ h => h) (Or.inl ⟨by rfl, ?_⟩) hHeld ?_
              · intro w' hSw
                obtain ⟨s4, s7, sB⟩ := hSw
                go_simp
                try with_reducible rfl
                try omega
              simp only [Act.put, List.setIfInBounds_toArray, List.set_cons_zero, List.set_cons_succ]
              refine wpAnyH_take (i := 17) (oi := ⟨some 141, _, _, _, _, _⟩) (v := ?_) rfl (by kernel_rfl) (by kernel_rfl) (by kernel_rfl) (fun _ _ _ h => h) (Or.inl ⟨by rfl, ?_⟩) hHeld ?_
              rotate_left
              · intro w' hSw
                obtain ⟨s4, s7, sB⟩ := hSw
                go_simp
                try with_reducible rfl
                try omega
              simp only [Act.put, List.setIfInBounds_toArray, List.set_cons_zero, List.set_cons_succ]
              refine wpAnyH_take (i := 18) (oi := ⟨some 142, _, _, _, _, _⟩) (v := .int .i64 (v : Int)) rfl (by kernel_rfl) (by kernel_rfl) (by kernel_rfl) (fun _ _ _ h => h) (Or.inl ⟨by rfl, ?_⟩) hHeld ?_
              · intro w' hSw
                obtain ⟨s4, s7, sB⟩ := hSw
                go_simp
                try with_reducible rfl
                try omega
              simp only [Act.put, List.setIfInBounds_toArray, List.set_cons_zero, List.set_cons_succ]
              refine wpAnyH_take (i := 19) (oi := ⟨some 143, _, _, _, _, _⟩) (v := .int .i64 (q : Int)) rfl (by kernel_rfl) (by kernel_rfl) (by kernel_rfl) (fun _ _ _ h => h) (Or.inl ⟨by rfl, ?_⟩) hHeld ?_
              · intro w' hSw
                obtain ⟨s4, s7, sB⟩ := hSw
                go_simp
                try with_reducible rfl
                try omega
              simp only [Act.put, List.setIfInBounds_toArray, List.set_cons_zero, List.set_cons_succ]
              refine wpAnyH_take (i := 20) (oi := ⟨some 144, _, _, _, _, _⟩) (v := .slice (some ⟨g, t, none⟩) (q - t) (cv - t)) rfl (by kernel_rfl) (by kernel_rfl) (by kernel_rfl) (fun _ _ _ h => h) (Or.inl ⟨by rfl, ?_⟩) hHeld ?_
              · intro w' hSw
                obtain ⟨s4, s7, sB⟩ := hSw
                go_simp
                try with_reducible rfl
                try omega
              simp only [Act.put, List.setIfInBounds_toArray, List.set_cons_zero, List.set_cons_succ]
              refine wpAnyH_take (i := 21) (oi := ⟨some 145, _, _, _, _, _⟩) (v := .string R) rfl (by kernel_rfl) (by kernel_rfl) (by kernel_rfl) (fun _ _ _ h => h) (Or.inl ⟨by rfl, ?_⟩) hHeld ?_
              · intro w' hSw
                obtain ⟨s4, s7, sB⟩ := hSw
                have hcv2 := HC2.out _ sB
                go_simp
                try with_reducible rfl
                try omega
              simp only [Act.put, List.setIfInBounds_toArray, List.set_cons_zero, List.set_cons_succ]
              refine wpAnyH_take (i := 22) (oi := ⟨some 146, _, _, _, _, _⟩) (v := ?_) rfl (by kernel_rfl) (by kernel_rfl) (by kernel_rfl) (fun _ _ _ h => h) (Or.inl ⟨by rfl, ?_⟩) hHeld ?_
              rotate_left
              · intro w' hSw
                obtain ⟨s4, s7, sB⟩ := hSw
                go_simp
                try with_reducible rfl
                try omega
              simp only [Act.put, List.setIfInBounds_toArray, List.set_cons_zero, List.set_cons_succ]
              refine wpAnyH_ready (rs := [4, 23]) (by kernel_rfl) (by simp) ?_
              refine AllReadyH.cons (o := ⟨some 128, _, _, _, _, _⟩) rfl (fun K hK => ?_) (AllReadyH.cons (o := ⟨some 147, _, _, _, _, _⟩) rfl (fun K hK => ?_) AllReadyH.nil)
              · have c8 : (W1.drew).cell? ⟨p, 8, none⟩ = some lv := cell_at HM.out.hp 8
                go_simp
                clear c8
                refine hK.out _ _ ⟨cell_at HM.out.hp 4, cell_at HM.out.hp 7, OwnS.bytes HM.out.ob⟩ (fun hHeld => ?_)
                clear hK K
                try simp only [Act.put, List.setIfInBounds_toArray, List.set_cons_zero, List.set_cons_succ]
                refine wpAnyH_ready (rs := [23]) (by kernel_rfl) (by simp) ?_
                refine AllReadyH.cons (o := ⟨some 147, _, _, _, _, _⟩) rfl (fun K hK => ?_) AllReadyH.nil
                go_simp
                replace HM := Lib.hid (HM.out.later (bD (bA (o := .cells #[.int .i64 (F : Int), .string R] 70) bR)))
                refine hK.out _ _ ⟨cell_at HM.out.hp 4, cell_at HM.out.hp 7, OwnS.bytes HM.out.ob⟩ (fun hHeld => ?_)
                clear hK K
                try simp only [Act.put, List.setIfInBounds_toArray, List.set_cons_zero, List.set_cons_succ]
                refine wpAnyH_ready (rs := [24]) (by kernel_rfl) (by simp) ?_
                refine AllReadyH.cons (o := ⟨some 148, _, _, _, _, _⟩) rfl (fun K hK => ?_) AllReadyH.nil
                refine step_append_frame rfl _ _ 61 rfl 70 i0 (.agg #[.int .i64 0, .string .empty]) 2 24 Tryd.underlying61 hi hi0 hi1 hi2 rfl (by decide) _ _ _ rfl HM.out.ol ⟨W1.heap.size, 0, none⟩ 1 1 [.int .i64 (F : Int), .string R] rfl rfl (fun j u h => cell_two_new W1 (.int .i64 (F : Int)) (.string R) 70 (0, 0) W1.heap.size rfl j u h) (by simp [Value.oneCell']) (by unfold maxLen; have := hL3.out; omega) (by have := hL3.out; omega) (by omega) ?_
                intro g9 c9 w9 ho9 hk9 hb9
                replace HM := Lib.hid (HM.out.list ho9 hk9 hb9)
                clear ho9 hk9 hb9
                refine hK.out _ _ ⟨cell_at HM.out.hp 4, cell_at HM.out.hp 7, OwnS.bytes HM.out.ob⟩ (fun hHeld => ?_)
                clear hK K
                try simp only [Act.put, List.setIfInBounds_toArray, List.set_cons_zero, List.set_cons_succ]
                refine wpAnyH_take (i := 25) (oi := ⟨some 149, _, _, _, _, _⟩) (v := ?_) rfl (by kernel_rfl) (by kernel_rfl) (by kernel_rfl) (fun _ _ _ h => h) (Or.inl ⟨by rfl, ?_⟩) hHeld ?_
                rotate_left
                · intro w' hSw
                  go_simp
                  try with_reducible rfl
                simp only [Act.put, List.setIfInBounds_toArray, List.set_cons_zero, List.set_cons_succ]
                refine wpAnyH_take (i := 26) (oi := ⟨some 150, _, _, _, _, _⟩) (v := ?_) rfl (by kernel_rfl) (by kernel_rfl) (by kernel_rfl) (fun _ _ _ h => h) (Or.inl ⟨by rfl, ?_⟩) hHeld ?_
                rotate_left
                · intro w' hSw
                  go_simp
                  try with_reducible rfl
                simp only [Act.put, List.setIfInBounds_toArray, List.set_cons_zero, List.set_cons_succ]
                refine wpAnyH_ready (rs := [27]) (by kernel_rfl) (by simp) ?_
                refine AllReadyH.cons (o := ⟨none, _, _, _, _, _⟩) rfl (fun K hK => ?_) AllReadyH.nil
                have F8 := free_at HM.out.hp 8
                have C8 : w9.cell? ⟨p, 8, none⟩ = some lv := cell_at HM.out.hp 8
                go_simp
                clear F8 C8
                replace HM := Lib.hid (HM.out.cell 8 (.slice (some ⟨g9, 0, none⟩) (L.length + 1) c9))
                refine hK.out _ _ ⟨cell_at HM.out.hp 4, cell_at HM.out.hp 7, OwnS.bytes HM.out.ob⟩ (fun hHeld => ?_)
                clear hK K
                try simp only [Act.put, List.setIfInBounds_toArray, List.set_cons_zero, List.set_cons_succ]
                clear hHeld
                refine wpAnyH_done (by kernel_rfl) ?_ _
                go_upto_region 18 with fail
                refine name_world (fun W => Mid w1 W p [] (lgC dp { G with fin := (F : Int) } (.slice (some ⟨g, 0, none⟩) B.size cv) (.slice (some ⟨g9, 0, none⟩) (L.length + 1) c9)) (.slice (some ⟨g, 0, none⟩) B.size cv) (.slice (some ⟨g9, 0, none⟩) (L.length + 1) c9) B.size (Lib.strCells B) (L.length + 1) (recV L ++ [Value.int .i64 (F : Int), Value.string R])) HM.out ?_
                clear HM
                intro W2 HM
                replace HM := Lib.hid HM
                have C4 : W2.cell? ⟨p, 4, none⟩ = some (.int .i64 (F : Int)) := cell_at HM.out.hp 4
                have F4 := free_at HM.out.hp 4
                obtain ⟨F', hF'⟩ : ∃ F' : Nat, F' = F + (2 + v) := ⟨_, rfl⟩
                have wF : IntKind.i64.wrap ((F : Int) + (2 + v)) = (F' : Int) := by rw [IntKind.wrap_i64]; omega
                have HM6 := Lib.hid (HM.out.cell 4 (.int .i64 (F' : Int)))
                have m2 : Hid ((W2.setCell ⟨p, 4, none⟩ (.int .i64 (F' : Int))).cell? ⟨p, 4, none⟩ = some (.int .i64 (F' : Int))) := cell_at HM6.out.hp 4
                replace hF' := Lib.hid hF'
                go_wp2_with fail
                go_roundw
                case rel => exact ⟨a + 2 + v, F', L ++ [((F : Int), R)], _, by have := hF'.out; have := hF.out; omega, ⟨f, hgo.out, by omega⟩, (show _ ≤ _ from by have := hL3.out; have := hv00.out; rw [List.length_append]; simp; omega), (show _ from by have := hlong.out; exact .inl (by omega)), (show Mid _ _ _ _ _ _ _ _ _ _ _ from by rw [List.length_append, recV_append]; exact HM6.out)⟩
                case measure => rw [m2.out, hC4.out]; have := hF'.out; have := hF.out; have := hlong.out; simp [intOf]; omega

              · go_simp
                replace HM := Lib.hid (HM.out.later (bD (bA (o := .cells #[.int .i64 (F : Int), .string R] 70) bR)))
                refine hK.out _ _ ⟨cell_at HM.out.hp 4, cell_at HM.out.hp 7, OwnS.bytes HM.out.ob⟩ (fun hHeld => ?_)
                clear hK K
                try simp only [Act.put, List.setIfInBounds_toArray, List.set_cons_zero, List.set_cons_succ]
                refine wpAnyH_ready (rs := [4]) (by kernel_rfl) (by simp) ?_
                refine AllReadyH.cons (o := ⟨some 128, _, _, _, _, _⟩) rfl (fun K hK => ?_) AllReadyH.nil
                have c8 : ((W1.alloc (.cells #[.int .i64 (F : Int), .string R] 70)).drew).cell? ⟨p, 8, none⟩ = some lv := cell_at HM.out.hp 8
                go_simp
                clear c8
                refine hK.out _ _ ⟨cell_at HM.out.hp 4, cell_at HM.out.hp 7, OwnS.bytes HM.out.ob⟩ (fun hHeld => ?_)
                clear hK K
                try simp only [Act.put, List.setIfInBounds_toArray, List.set_cons_zero, List.set_cons_succ]
                refine wpAnyH_ready (rs := [24]) (by kernel_rfl) (by simp) ?_
                refine AllReadyH.cons (o := ⟨some 148, _, _, _, _, _⟩) rfl (fun K hK => ?_) AllReadyH.nil
                refine step_append_frame rfl _ _ 61 rfl 70 i0 (.agg #[.int .i64 0, .string .empty]) 2 24 Tryd.underlying61 hi hi0 hi1 hi2 rfl (by decide) _ _ _ rfl HM.out.ol ⟨W1.heap.size, 0, none⟩ 1 1 [.int .i64 (F : Int), .string R] rfl rfl (fun j u h => cell_two_new W1 (.int .i64 (F : Int)) (.string R) 70 (0, 0) W1.heap.size rfl j u h) (by simp [Value.oneCell']) (by unfold maxLen; have := hL3.out; omega) (by have := hL3.out; omega) (by omega) ?_
                intro g9 c9 w9 ho9 hk9 hb9
                replace HM := Lib.hid (HM.out.list ho9 hk9 hb9)
                clear ho9 hk9 hb9
                refine hK.out _ _ ⟨cell_at HM.out.hp 4, cell_at HM.out.hp 7, OwnS.bytes HM.out.ob⟩ (fun hHeld => ?_)
                clear hK K
                try simp only [Act.put, List.setIfInBounds_toArray, List.set_cons_zero, List.set_cons_succ]
                refine wpAnyH_take (i := 25) (oi := ⟨some 149, _, _, _, _, _⟩) (v := ?_) rfl (by kernel_rfl) (by kernel_rfl) (by kernel_rfl) (fun _ _ _ h => h) (Or.inl ⟨by rfl, ?_⟩) hHeld ?_
                rotate_left
                · intro w' hSw
                  go_simp
                  try with_reducible rfl
                simp only [Act.put, List.setIfInBounds_toArray, List.set_cons_zero, List.set_cons_succ]
                refine wpAnyH_take (i := 26) (oi := ⟨some 150, _, _, _, _, _⟩) (v := ?_) rfl (by kernel_rfl) (by kernel_rfl) (by kernel_rfl) (fun _ _ _ h => h) (Or.inl ⟨by rfl, ?_⟩) hHeld ?_
                rotate_left
                · intro w' hSw
                  go_simp
                  try with_reducible rfl
                simp only [Act.put, List.setIfInBounds_toArray, List.set_cons_zero, List.set_cons_succ]
                refine wpAnyH_ready (rs := [27]) (by kernel_rfl) (by simp) ?_
                refine AllReadyH.cons (o := ⟨none, _, _, _, _, _⟩) rfl (fun K hK => ?_) AllReadyH.nil
                have F8 := free_at HM.out.hp 8
                have C8 : w9.cell? ⟨p, 8, none⟩ = some lv := cell_at HM.out.hp 8
                go_simp
                clear F8 C8
                replace HM := Lib.hid (HM.out.cell 8 (.slice (some ⟨g9, 0, none⟩) (L.length + 1) c9))
                refine hK.out _ _ ⟨cell_at HM.out.hp 4, cell_at HM.out.hp 7, OwnS.bytes HM.out.ob⟩ (fun hHeld => ?_)
                clear hK K
                try simp only [Act.put, List.setIfInBounds_toArray, List.set_cons_zero, List.set_cons_succ]
                clear hHeld
                refine wpAnyH_done (by kernel_rfl) ?_ _
                go_upto_region 18 with fail
                refine name_world (fun W => Mid w1 W p [] (lgC dp { G with fin := (F : Int) } (.slice (some ⟨g, 0, none⟩) B.size cv) (.slice (some ⟨g9, 0, none⟩) (L.length + 1) c9)) (.slice (some ⟨g, 0, none⟩) B.size cv) (.slice (some ⟨g9, 0, none⟩) (L.length + 1) c9) B.size (Lib.strCells B) (L.length + 1) (recV L ++ [Value.int .i64 (F : Int), Value.string R])) HM.out ?_
                clear HM
                intro W2 HM
                replace HM := Lib.hid HM
                have C4 : W2.cell? ⟨p, 4, none⟩ = some (.int .i64 (F : Int)) := cell_at HM.out.hp 4
                have F4 := free_at HM.out.hp 4
                obtain ⟨F', hF'⟩ : ∃ F' : Nat, F' = F + (2 + v) := ⟨_, rfl⟩
                have wF : IntKind.i64.wrap ((F : Int) + (2 + v)) = (F' : Int) := by rw [IntKind.wrap_i64]; omega
                have HM6 := Lib.hid (HM.out.cell 4 (.int .i64 (F' : Int)))
                have m2 : Hid ((W2.setCell ⟨p, 4, none⟩ (.int .i64 (F' : Int))).cell? ⟨p, 4, none⟩ = some (.int .i64 (F' : Int))) := cell_at HM6.out.hp 4
                replace hF' := Lib.hid hF'
                go_wp2_with fail
                go_roundw
                case rel => exact ⟨a + 2 + v, F', L ++ [((F : Int), R)], _, by have := hF'.out; have := hF.out; omega, ⟨f, hgo.out, by omega⟩, (show _ ≤ _ from by have := hL3.out; have := hv00.out; rw [List.length_append]; simp; omega), (show _ from by have := hlong.out; exact .inl (by omega)), (show Mid _ _ _ _ _ _ _ _ _ _ _ from by rw [List.length_append, recV_append]; exact HM6.out)⟩
                case measure => rw [m2.out, hC4.out]; have := hF'.out; have := hF.out; have := hlong.out; simp [intOf]; omega

        · have h2' : (B.size : Int) - 2 < a := by omega
          have hend : Hid (PR = (L, a)) := by
            show _ = _
            rw [hpr]
            cases f with
            | zero => simp [prs]
            | succ f => simp [prs, h22]
          clear hpr
          replace h22 := Lib.hid h22
          go_wp2_with fail
          go_quiet (fail)
          rw [hFa.out]
          go_wp2_with fail
          trace_state
          go_meet
          exact ⟨a, lv, (show _ = _ from by rw [hend.out]), by rw [hend.out]; exact hL3.out, haB.out, by rw [hend.out, ← hF.out]; exact HM.out.later (bN bR nq)⟩
    case rest =>
      obtain ⟨a, lv, hPa, hL3, haB, HM⟩ := hcut
      have hab : a ≤ 221238 := by rcases haB.out with h | h <;> omega
      have ha54 : a ≤ 54 * n := by rcases haB.out with h | h <;> omega
      obtain ⟨F, hF⟩ : ∃ F : Nat, b0 + a = F := ⟨_, rfl⟩
      rw [hF] at HM
      have hFb : (F : Int) ≤ 1099511849014 := by omega
      have hFa : Hid ((F : Int) - b0 = a) := by show _ = _; omega
      have C4 : wc.cell? ⟨p, 4, none⟩ = some (.int .i64 (F : Int)) := cell_at HM.out.hp 4
      have C6 : wc.cell? ⟨p, 6, none⟩ = some (.int .i64 (b0 : Int)) := by have := cell_at HM.out.hp 6; rw [this]; show some (Value.int .i64 G.base) = _; rw [g6.out]
      have C7 : wc.cell? ⟨p, 7, none⟩ = some bv := cell_at HM.out.hp 7
      replace hF := Lib.hid hF
      obtain ⟨av, cv, rfl⟩ := HM.out.ob.form
      by_cases hac : a < B.size
      · have hcI : (a : Int) < B.size := by omega
        obtain ⟨av2, cv2, he2, HO2⟩ := HM.out.ob.shrink a (by omega)
        obtain ⟨rfl, rfl⟩ : av = av2 ∧ cv = cv2 := by simpa using he2
        obtain ⟨g, c, cur, hv, _, _, hnc, _⟩ := HM.out.ob.2.resolve_left (fun h => by omega)
        obtain ⟨rfl, rfl⟩ : av = some ⟨g, 0, none⟩ ∧ cv = c := by simpa using hv
        rw [strCells_take] at HO2
        have F7 := free_at HM.out.hp 7
        have hacv : (a : Int) ≤ cv := by omega
        have ha0' : (0 : Int) ≤ a := by omega
        have hB1 : Hid (opB B a = B.extract 0 a ++ zeros (a - (B.extract 0 a).size)) := by
          show _ = _
          unfold opB
          rw [if_pos hac, ByteArray.size_extract, show a - (min a B.size - 0) = 0 by omega]
          exact (bytes_nil_right _).symm
        have hB1s : (B.extract 0 a).size ≤ a := by rw [ByteArray.size_extract]; omega
        have hszE : (B.extract 0 a).size = a := by rw [ByteArray.size_extract]; omega
        generalize hB1e : B.extract 0 a = B1 at *
        replace hB1e := Lib.hid hB1e
        replace hszE := Lib.hid hszE
        replace hac := Lib.hid hac
        have hPL : Hid (blk (.slice (some ⟨g, 0, none⟩) a cv) = blk (.slice (some ⟨g, 0, none⟩) B.size cv)) := rfl
        have HO2 := Lib.hid HO2
        clear he2 hv hnc
        go_wp2_with fail
        go_quiet (fail)
        rw [hFa.out]
        go_upto_block 4 with fail
        have HM2 := (((HM.out.later (bN bR nq)).buf (HO2.out.keep (keepN (fun _ => False) _ nq) (fun _ _ h => h)) (Keeps.refl _ _) (fun k hk => .inl hk)).cell 7 (.slice (some ⟨g, 0, none⟩) a cv))
        refine name_world (fun W => Mid w1 W p [] (lgC dp { G with fin := (F : Int) } (.slice (some ⟨g, 0, none⟩) a cv) lv) (.slice (some ⟨g, 0, none⟩) a cv) lv a (Lib.strCells B1) PR.1.length (recV PR.1)) HM2 ?_
        clear HM HM2 C4 C6 C7 F7 HO2 hcI hacv ha0'
        intro W1 HM
        rw [show Mid w1 W1 p [] (lgC dp { G with fin := (F : Int) } (.slice (some ⟨g, 0, none⟩) a cv) lv) (.slice (some ⟨g, 0, none⟩) a cv) lv a (Lib.strCells B1) PR.1.length (recV PR.1) = Mid w1 W1 p [] (lgC dp { G with fin := (F : Int) } (.slice (some ⟨g, 0, none⟩) a cv) lv) (.slice (some ⟨g, 0, none⟩) a cv) lv B1.size (Lib.strCells B1) PR.1.length (recV PR.1) by rw [hszE.out]] at HM
        replace HM := Lib.hid HM
        go_cut [] (fun wx => ∃ bv2, Hid (Mid w1 wx p [] (lgC dp { G with fin := (F : Int) } bv2 lv) bv2 lv a (Lib.strCells (opB B a)) PR.1.length (recV PR.1)))
        case first =>
          go_wp2_with fail
          go_loopw [] (fun wr => ∃ (m T : Nat) (bv2 : Value), T = B1.size + m ∧ T ≤ a ∧ Hid (Mid w1 wr p [] (lgC dp { G with fin := (F : Int) } bv2 lv) bv2 lv T (Lib.strCells (B1 ++ zeros m)) PR.1.length (recV PR.1))) (fun wr => a - lenV ((wr.cell? ⟨p, 7, none⟩).getD default))
          case atStart => exact ⟨0, B1.size, _, rfl, hB1s, by rw [show zeros 0 = ⟨#[]⟩ from rfl, bytes_nil_right]; exact HM⟩
          case round =>
            clear HM
            obtain ⟨m, T, bv2, hT, hTa, HM⟩ := hrel
            obtain ⟨av3, cv3, rfl⟩ := HM.out.ob.form
            have C4 : wr.cell? ⟨p, 4, none⟩ = some (.int .i64 (F : Int)) := cell_at HM.out.hp 4
            have C6 : wr.cell? ⟨p, 6, none⟩ = some (.int .i64 (b0 : Int)) := by have := cell_at HM.out.hp 6; rw [this]; show some (Value.int .i64 G.base) = _; rw [g6.out]
            have C7 : wr.cell? ⟨p, 7, none⟩ = some (.slice av3 T cv3) := cell_at HM.out.hp 7
            have hC7 := Lib.hid C7
            replace hT := Lib.hid hT
            by_cases hTl : T < a
            · have hlt : (T : Int) < (F : Int) - b0 := by rw [hFa.out]; omega
              go_wp2_with fail
              go_quiet (fail)
              have HM8 := Lib.hid (HM.out.later (W' := ((wr.drewN nq).alloc (.cells #[.int .u8 0] 5))) (bA (bN bR nq)))
              go_wp2_with (at_builtin; (refine wpList_append_frame _ rfl _ _ 54 rfl 5 j0 (.int .u8 0) 1 1 Tryd.underlying54 hj hj0 hj1 hj2 rfl (by decide) _ _ _ rfl HM8.out.ob ⟨(wr.drewN nq).heap.size, 0, none⟩ 1 1 [.int .u8 0] rfl rfl (cell_one_at _ _ _ _ _ rfl) (by simp [Value.oneCell']) (by unfold maxLen; omega) (by omega) ?_); intro v9 w9 ho9 hk9 hb9 hn9; (have HM9 := Lib.hid (HM8.out.buf ho9 hk9 hb9)); (obtain ⟨av9, cv9, rfl⟩ := ho9.form); (have C7' : w9.cell? ⟨p, 7, none⟩ = some (.slice av3 T cv3) := cell_at HM9.out.hp 7); (have F7 := free_at HM9.out.hp 7); clear ho9 hk9 hb9 hn9)
              have HM10 := Lib.hid (HM9.out.cell 7 (.slice av9 (T + 1) cv9))
              have m2 : Hid ((w9.setCell ⟨p, 7, none⟩ (.slice av9 (T + 1) cv9)).cell? ⟨p, 7, none⟩ = some (.slice av9 (T + 1) cv9)) := cell_at HM10.out.hp 7
              go_roundw
              case rel => exact ⟨m + 1, T + 1, _, by have := hT.out; omega, hTl, by rw [zeros_succ, ← ByteArray.append_assoc, strCells_append]; exact HM10⟩
              case measure => rw [m2.out, hC7.out]; simp [lenV]; omega
            · obtain rfl : T = a := by omega
              have hlt : ¬ (T : Int) < (F : Int) - b0 := by rw [hFa.out]; omega
              go_wp2_with fail
              go_quiet (fail)
              go_wp2_with fail
              go_meet
              exact ⟨_, by rw [hB1.out, show T - B1.size = m by have := hT.out; omega]; exact HM.out.later (bN bR nq)⟩
        case rest =>
          obtain ⟨bv2, HM⟩ := hcut
          clear hB1 hB1s
          have C4 : wc.cell? ⟨p, 4, none⟩ = some (.int .i64 (F : Int)) := cell_at HM.out.hp 4
          have C5 : wc.cell? ⟨p, 5, none⟩ = some (.int .i64 (0 : Int)) := by have := cell_at HM.out.hp 5; rw [this]; show some (Value.int .i64 G.firm) = _; rw [g5.out]
          have F5 := free_at HM.out.hp 5
          go_wp2_with fail
          have HM5 := HM.out.cell 5 (.int .i64 (F : Int))
          have hGO : Lg.opened first n start B = { G with fin := (F : Int), firm := (F : Int), buf := opB B a, list := PR.1 } := by
            unfold Lg.opened
            rw [hG.out]
            simp only [hk0.out, hb0.out, ha0.out, hPR.out, hPa.out, hF.out]
          obtain ⟨GO, hGOe⟩ : ∃ GO, Lg.opened first n start B = GO := ⟨_, rfl⟩
          rw [hGOe] at hGO
          have hGok : LgOk GO := by
            subst hGO
            have e1 := g1.out
            have e2 := g2.out
            have e3 := g3.out
            have e6 := g6.out
            have := hFa.out
            have := hDl.out
            have hbs := opB_size B a
            have := hL3.out
            refine ⟨?_, ?_, ?_, ?_, ?_, ?_, ?_, ?_, ?_, ?_, ?_, ?_, ?_, ?_⟩ <;> dsimp only <;> omega
          have hGbuf : GO.buf = opB B a := by rw [hGO]
          have hGlist : GO.list = PR.1 := by rw [hGO]
          have hGbase : GO.base = 54 * (k0 : Int) := by rw [hGO]; show G.base = _; rw [g6.out]; have := hb0.out; omega
          have hlgc : (lgC dp { G with fin := (F : Int) } bv2 lv).setIfInBounds 5 (.int .i64 (F : Int)) = lgC dp GO bv2 lv := by rw [hGO]; rfl
          rw [hlgc] at HM5
          obtain ⟨S5, hl5, hk5, hs5⟩ := HM5.log hGok (by rw [hGbuf, opB_size]) (by rw [hGbuf]) (by rw [hGlist]) (by rw [hGlist])
          have hD5 := HD.out.keep hk5 (fun k hk h => by simp at h)
          have hs5' : ∀ k ∈ S5, w1.heap.size ≤ k := fun k hk => (hs5 k hk).resolve_left (by simp)
          have HWp := Lib.hid (wal_wipe p dp GO S5 Sd D k0 ((GO.buf.size + 53) / 54) hGbase (fun k => by omega) hsoft.out _ hl5 hD5 (fun k hk h => by have := hs5' k hk; have := HD.out.lt k h; omega))
          have hWD : Hid (Lg.openD first n start D = GO.wiped D (GO.keptP k0 ((GO.buf.size + 53) / 54))) := by
            show _ = _
            unfold Lg.openD
            rw [hG.out, hk0.out, hB.out.2, hGOe]
          replace hs5' := Lib.hid hs5'
          replace hk5 := Lib.hid hk5
          replace hGOe := Lib.hid hGOe
          have hl5s := Lib.hid (show ∀ k ∈ S5, k < (wc.setCell ⟨p, 5, none⟩ (.int .i64 (F : Int))).heap.size from fun k hk => hl5.lt k hk)
          clear hGO hGok hGbuf hGbase hlgc HM5 hl5 hD5 hs5 C4 C5 F5 HM
          rw [← hWD.out] at HWp
          replace hGlist := Lib.hid hGlist
          have hsz5 : Hid (w1.heap.size ≤ (wc.setCell ⟨p, 5, none⟩ (.int .i64 (F : Int))).heap.size) := hk5.out.size
          refine (HWp.out).mono ?_
          rintro e w6 ⟨rfl, Sd6, hl6, hd6, hk6, hs6⟩
          have HK6 : Hid (Keeps (· ∈ Sd) w1 w6) := (hk5.out.mono (fun _ _ h => by simp at h)).trans hk6 (fun _ _ h => h)
          have HS6 : Hid (∀ k ∈ Sd6, k ∈ Sd ∨ w1.heap.size ≤ k) := fun k hk => (hs6 k hk).imp_right (fun h => Nat.le_trans hsz5.out h)
          have HD6 := Lib.hid hd6
          have HX6 : Hid (∀ k ∈ S5, k ∉ Sd6) := fun k hk h => by
            have h1 := hs5'.out k hk
            rcases hs6 k h with h2 | h2
            · have := HD.out.lt k h2; omega
            · have := hl6.lt k hk; have := hl5s.out k hk; omega
          obtain ⟨hok6, bv6, lv6, hp6, ob6, ol6, hS6, hn6⟩ := id hl6
          have HL6 := Lib.hid hl6
          have HP6 := Lib.hid hp6
          have HO6 := Lib.hid ol6
          clear hl6 hp6 ol6 ob6 hd6 hk6 hs6 HWp hsz5 hok6 hS6 hn6 hk5
          obtain ⟨c, hc⟩ : ∃ c, (Lg.openD first n start D).2 = c := ⟨_, rfl⟩
          rw [hc]
          by_cases hc0 : c = 0
          · subst hc0
            replace hc := Lib.hid hc
            have C8 : w6.cell? ⟨p, 8, none⟩ = some lv6 := cell_at HP6.out 8
            go_wp2_with fail
            have HCl := Lib.hid (ent_clone lv6 GO.list (by rw [hGlist.out]; have := hL3.out; omega) w6 HO6.out.ent)
            refine (HCl.out).mono ?_
            rintro e w7 ⟨v7, ho7, hb7, rfl, hbw⟩
            have HB7 := Lib.hid hbw
            have HO7 := Lib.hid ho7
            have hb7 := Lib.hid hb7
            clear hbw ho7 HCl C8
            go_wp2_with fail
            go_ret3
            rw [hG.out, hk0.out, hB.out.2, hGOe.out]
            have hlt1 := HL6.out.lt
            have hlt2 := HD6.out.lt
            exact .inr ⟨hB.out.1, Sd6, HD6.out.later HB7.out, HK6.out.trans (Keeps.of_below (fun _ => False) HB7.out) (fun _ _ h => h.elim), HS6.out, .inr ⟨hc.out, p, S5, v7, rfl, HL6.out.later HB7.out, fun k hk => ⟨hs5'.out k hk, HX6.out k hk⟩, HO7.out, fun k hk => by
              have h1 := hb7.out k hk
              exact ⟨Nat.le_trans HK6.out.size h1, fun h => by have := hlt1 k h; omega, fun h => by have := hlt2 k h; omega⟩⟩⟩
          · have b4 : (c != 0) = true := by simpa using hc0
            replace hc0 := Lib.hid hc0
            replace hc := Lib.hid hc
            go_wp2_with fail
            go_ret3
            rw [hG.out, hk0.out]
            exact .inr ⟨hB.out.1, Sd6, HD6.out, HK6.out, HS6.out, .inl ⟨by rw [hc.out]; exact hc0.out, by rw [hc.out]; rfl⟩⟩
      · have hcI : ¬ (a : Int) < B.size := by omega
        have hB1 : Hid (opB B a = B ++ zeros (a - B.size)) := by show _ = _; unfold opB; rw [if_neg hac]
        have hB1s : B.size ≤ a := by omega
        replace hac := Lib.hid hac
        go_wp2_with fail
        go_quiet (fail)
        rw [hFa.out]
        go_upto_block 4 with fail
        try rw [show decide (a < B.size) = false from decide_eq_false hac.out]
        refine name_world (fun W => Mid w1 W p [] (lgC dp { G with fin := (F : Int) } (.slice av B.size cv) lv) (.slice av B.size cv) lv B.size (Lib.strCells B) PR.1.length (recV PR.1)) (HM.out.later (bN bR nq)) ?_
        clear HM C4 C6 C7 hcI
        intro W1 HM
        replace HM := Lib.hid HM
        obtain ⟨B1, hBe⟩ : ∃ B1, B = B1 := ⟨_, rfl⟩
        rw [hBe] at HM hB1s
        have hB1 : Hid (opB B a = B1 ++ zeros (a - B1.size)) := by show _ = _; rw [hB1.out, hBe]
        replace hBe := Lib.hid hBe
        go_cut [] (fun wx => ∃ bv2, Hid (Mid w1 wx p [] (lgC dp { G with fin := (F : Int) } bv2 lv) bv2 lv a (Lib.strCells (opB B a)) PR.1.length (recV PR.1)))
        case first =>
          go_wp2_with fail
          go_loopw [] (fun wr => ∃ (m T : Nat) (bv2 : Value), T = B1.size + m ∧ T ≤ a ∧ Hid (Mid w1 wr p [] (lgC dp { G with fin := (F : Int) } bv2 lv) bv2 lv T (Lib.strCells (B1 ++ zeros m)) PR.1.length (recV PR.1))) (fun wr => a - lenV ((wr.cell? ⟨p, 7, none⟩).getD default))
          case atStart => exact ⟨0, B1.size, _, rfl, hB1s, by rw [show zeros 0 = ⟨#[]⟩ from rfl, bytes_nil_right]; exact HM⟩
          case round =>
            clear HM
            obtain ⟨m, T, bv2, hT, hTa, HM⟩ := hrel
            obtain ⟨av3, cv3, rfl⟩ := HM.out.ob.form
            have C4 : wr.cell? ⟨p, 4, none⟩ = some (.int .i64 (F : Int)) := cell_at HM.out.hp 4
            have C6 : wr.cell? ⟨p, 6, none⟩ = some (.int .i64 (b0 : Int)) := by have := cell_at HM.out.hp 6; rw [this]; show some (Value.int .i64 G.base) = _; rw [g6.out]
            have C7 : wr.cell? ⟨p, 7, none⟩ = some (.slice av3 T cv3) := cell_at HM.out.hp 7
            have hC7 := Lib.hid C7
            replace hT := Lib.hid hT
            by_cases hTl : T < a
            · have hlt : (T : Int) < (F : Int) - b0 := by rw [hFa.out]; omega
              go_wp2_with fail
              go_quiet (fail)
              have HM8 := Lib.hid (HM.out.later (W' := ((wr.drewN nq).alloc (.cells #[.int .u8 0] 5))) (bA (bN bR nq)))
              go_wp2_with (at_builtin; (refine wpList_append_frame _ rfl _ _ 54 rfl 5 j0 (.int .u8 0) 1 1 Tryd.underlying54 hj hj0 hj1 hj2 rfl (by decide) _ _ _ rfl HM8.out.ob ⟨(wr.drewN nq).heap.size, 0, none⟩ 1 1 [.int .u8 0] rfl rfl (cell_one_at _ _ _ _ _ rfl) (by simp [Value.oneCell']) (by unfold maxLen; omega) (by omega) ?_); intro v9 w9 ho9 hk9 hb9 hn9; (have HM9 := Lib.hid (HM8.out.buf ho9 hk9 hb9)); (obtain ⟨av9, cv9, rfl⟩ := ho9.form); (have C7' : w9.cell? ⟨p, 7, none⟩ = some (.slice av3 T cv3) := cell_at HM9.out.hp 7); (have F7 := free_at HM9.out.hp 7); clear ho9 hk9 hb9 hn9)
              have HM10 := Lib.hid (HM9.out.cell 7 (.slice av9 (T + 1) cv9))
              have m2 : Hid ((w9.setCell ⟨p, 7, none⟩ (.slice av9 (T + 1) cv9)).cell? ⟨p, 7, none⟩ = some (.slice av9 (T + 1) cv9)) := cell_at HM10.out.hp 7
              go_roundw
              case rel => exact ⟨m + 1, T + 1, _, by have := hT.out; omega, hTl, by rw [zeros_succ, ← ByteArray.append_assoc, strCells_append]; exact HM10⟩
              case measure => rw [m2.out, hC7.out]; simp [lenV]; omega
            · obtain rfl : T = a := by omega
              have hlt : ¬ (T : Int) < (F : Int) - b0 := by rw [hFa.out]; omega
              go_wp2_with fail
              go_quiet (fail)
              go_wp2_with fail
              go_meet
              exact ⟨_, by rw [hB1.out, show T - B1.size = m by have := hT.out; omega]; exact HM.out.later (bN bR nq)⟩
        case rest =>
          obtain ⟨bv2, HM⟩ := hcut
          clear hB1 hB1s
          have C4 : wc.cell? ⟨p, 4, none⟩ = some (.int .i64 (F : Int)) := cell_at HM.out.hp 4
          have C5 : wc.cell? ⟨p, 5, none⟩ = some (.int .i64 (0 : Int)) := by have := cell_at HM.out.hp 5; rw [this]; show some (Value.int .i64 G.firm) = _; rw [g5.out]
          have F5 := free_at HM.out.hp 5
          go_wp2_with fail
          have HM5 := HM.out.cell 5 (.int .i64 (F : Int))
          have hGO : Lg.opened first n start B = { G with fin := (F : Int), firm := (F : Int), buf := opB B a, list := PR.1 } := by
            unfold Lg.opened
            rw [hG.out]
            simp only [hk0.out, hb0.out, ha0.out, hPR.out, hPa.out, hF.out]
          obtain ⟨GO, hGOe⟩ : ∃ GO, Lg.opened first n start B = GO := ⟨_, rfl⟩
          rw [hGOe] at hGO
          have hGok : LgOk GO := by
            subst hGO
            have e1 := g1.out
            have e2 := g2.out
            have e3 := g3.out
            have e6 := g6.out
            have := hFa.out
            have := hDl.out
            have hbs := opB_size B a
            have := hL3.out
            refine ⟨?_, ?_, ?_, ?_, ?_, ?_, ?_, ?_, ?_, ?_, ?_, ?_, ?_, ?_⟩ <;> dsimp only <;> omega
          have hGbuf : GO.buf = opB B a := by rw [hGO]
          have hGlist : GO.list = PR.1 := by rw [hGO]
          have hGbase : GO.base = 54 * (k0 : Int) := by rw [hGO]; show G.base = _; rw [g6.out]; have := hb0.out; omega
          have hlgc : (lgC dp { G with fin := (F : Int) } bv2 lv).setIfInBounds 5 (.int .i64 (F : Int)) = lgC dp GO bv2 lv := by rw [hGO]; rfl
          rw [hlgc] at HM5
          obtain ⟨S5, hl5, hk5, hs5⟩ := HM5.log hGok (by rw [hGbuf, opB_size]) (by rw [hGbuf]) (by rw [hGlist]) (by rw [hGlist])
          have hD5 := HD.out.keep hk5 (fun k hk h => by simp at h)
          have hs5' : ∀ k ∈ S5, w1.heap.size ≤ k := fun k hk => (hs5 k hk).resolve_left (by simp)
          have HWp := Lib.hid (wal_wipe p dp GO S5 Sd D k0 ((GO.buf.size + 53) / 54) hGbase (fun k => by omega) hsoft.out _ hl5 hD5 (fun k hk h => by have := hs5' k hk; have := HD.out.lt k h; omega))
          have hWD : Hid (Lg.openD first n start D = GO.wiped D (GO.keptP k0 ((GO.buf.size + 53) / 54))) := by
            show _ = _
            unfold Lg.openD
            rw [hG.out, hk0.out, hB.out.2, hGOe]
          replace hs5' := Lib.hid hs5'
          replace hk5 := Lib.hid hk5
          replace hGOe := Lib.hid hGOe
          have hl5s := Lib.hid (show ∀ k ∈ S5, k < (wc.setCell ⟨p, 5, none⟩ (.int .i64 (F : Int))).heap.size from fun k hk => hl5.lt k hk)
          clear hGO hGok hGbuf hGbase hlgc HM5 hl5 hD5 hs5 C4 C5 F5 HM
          rw [← hWD.out] at HWp
          replace hGlist := Lib.hid hGlist
          have hsz5 : Hid (w1.heap.size ≤ (wc.setCell ⟨p, 5, none⟩ (.int .i64 (F : Int))).heap.size) := hk5.out.size
          refine (HWp.out).mono ?_
          rintro e w6 ⟨rfl, Sd6, hl6, hd6, hk6, hs6⟩
          have HK6 : Hid (Keeps (· ∈ Sd) w1 w6) := (hk5.out.mono (fun _ _ h => by simp at h)).trans hk6 (fun _ _ h => h)
          have HS6 : Hid (∀ k ∈ Sd6, k ∈ Sd ∨ w1.heap.size ≤ k) := fun k hk => (hs6 k hk).imp_right (fun h => Nat.le_trans hsz5.out h)
          have HD6 := Lib.hid hd6
          have HX6 : Hid (∀ k ∈ S5, k ∉ Sd6) := fun k hk h => by
            have h1 := hs5'.out k hk
            rcases hs6 k h with h2 | h2
            · have := HD.out.lt k h2; omega
            · have := hl6.lt k hk; have := hl5s.out k hk; omega
          obtain ⟨hok6, bv6, lv6, hp6, ob6, ol6, hS6, hn6⟩ := id hl6
          have HL6 := Lib.hid hl6
          have HP6 := Lib.hid hp6
          have HO6 := Lib.hid ol6
          clear hl6 hp6 ol6 ob6 hd6 hk6 hs6 HWp hsz5 hok6 hS6 hn6 hk5
          obtain ⟨c, hc⟩ : ∃ c, (Lg.openD first n start D).2 = c := ⟨_, rfl⟩
          rw [hc]
          by_cases hc0 : c = 0
          · subst hc0
            replace hc := Lib.hid hc
            have C8 : w6.cell? ⟨p, 8, none⟩ = some lv6 := cell_at HP6.out 8
            go_wp2_with fail
            have HCl := Lib.hid (ent_clone lv6 GO.list (by rw [hGlist.out]; have := hL3.out; omega) w6 HO6.out.ent)
            refine (HCl.out).mono ?_
            rintro e w7 ⟨v7, ho7, hb7, rfl, hbw⟩
            have HB7 := Lib.hid hbw
            have HO7 := Lib.hid ho7
            have hb7 := Lib.hid hb7
            clear hbw ho7 HCl C8
            go_wp2_with fail
            go_ret3
            rw [hG.out, hk0.out, hB.out.2, hGOe.out]
            have hlt1 := HL6.out.lt
            have hlt2 := HD6.out.lt
            exact .inr ⟨hB.out.1, Sd6, HD6.out.later HB7.out, HK6.out.trans (Keeps.of_below (fun _ => False) HB7.out) (fun _ _ h => h.elim), HS6.out, .inr ⟨hc.out, p, S5, v7, rfl, HL6.out.later HB7.out, fun k hk => ⟨hs5'.out k hk, HX6.out k hk⟩, HO7.out, fun k hk => by
              have h1 := hb7.out k hk
              exact ⟨Nat.le_trans HK6.out.size h1, fun h => by have := hlt1 k h; omega, fun h => by have := hlt2 k h; omega⟩⟩⟩
          · have b4 : (c != 0) = true := by simpa using hc0
            replace hc0 := Lib.hid hc0
            replace hc := Lib.hid hc
            go_wp2_with fail
            go_ret3
            rw [hG.out, hk0.out]
            exact .inr ⟨hB.out.1, Sd6, HD6.out, HK6.out, HS6.out, .inl ⟨by rw [hc.out]; exact hc0.out, by rw [hc.out]; rfl⟩⟩
end Go.Proofs.YtdkilpjebmhkkaaDoor
