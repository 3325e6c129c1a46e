import Derived.Test.YtiollfjhfcaogaaWaitsH
import Derived.Deep.RegionHeld3
set_option linter.unusedSimpArgs false
set_option linter.unusedVariables false
namespace Go.Proofs.Ytiollfjhfcaogaa
open Go.RowKit

def zeroB : Nat → BitVec 64 := fun _ => 0
def lenV : Value → Nat
  | .slice _ n _ => n
  | _ => 0
def Hits (T : Nat → BitVec 64) (x : Nat) (l : List Nat) : Prop := (T (lastN l)).getLsbD x = true
/-- none of the lists of the rounds ahead of r closes a circle -/
def NoneHits (T : Nat → BitVec 64) (x n r : Nat) : Prop := ∀ r', r' < r → ∀ l ∈ (bfs T x n r').2, ¬ Hits T x l
/-- what Circle answers: v is its list -/
def CircleAt (w : World) (T : Nat → BitVec 64) (x n : Nat) (v : Value) : Prop := ∃ r, NoneHits T x n r ∧
  (((bfs T x n r).2 = [] ∧ v = .slice none 0 0) ∨
   ∃ i l, (bfs T x n r).2[i]? = some l ∧ Hits T x l ∧ (∀ (i' : Nat) (l' : List Nat), i' < i → (bfs T x n r).2[i']? = some l' → ¬ Hits T x l') ∧ LAt w (fun _ => False) v l)
theorem and_bit (T : BitVec 64) (x : Nat) : bits .and .u64 ((T.toNat : Int) / 2 ^ x) 1 = if T.getLsbD x = true then 1 else 0 := by
  have e : ((T.toNat : Int) / 2 ^ x) = ((T >>> x).toNat : Int) := by
    rw [BitVec.toNat_ushiftRight, Nat.shiftRight_eq_div_pow]
    simp
  show IntKind.u64.wrap (((BitVec.ofInt 64 ((T.toNat : Int) / 2 ^ x)) &&& (BitVec.ofInt 64 1)).toNat : Int) = _
  rw [e, ofInt_bv]
  have h1 : ((T >>> x) &&& (BitVec.ofInt 64 1)).toNat = if T.getLsbD x = true then 1 else 0 := by
    rw [BitVec.toNat_and, show (BitVec.ofInt 64 1).toNat = 1 from rfl, Nat.and_one_is_mod, BitVec.toNat_ushiftRight, BitVec.getLsbD, Nat.testBit]
    rcases Nat.mod_two_eq_zero_or_one (T.toNat >>> x) with h | h
    · simp [h, Nat.and_comm, Nat.and_one_is_mod]
    · simp [h, Nat.and_comm, Nat.and_one_is_mod]
  rw [h1]
  split <;> rfl
theorem OwnS.has' {w : World} {e : TypeId} {size : Nat} {v : Value} {n : Nat} {xs : List Value} (h : OwnS w e size v n xs) (h0 : 0 < n) : ∃ g c, v = .slice (some ⟨g, 0, none⟩) n c ∧ n ≤ c ∧ g < w.heap.size := by
  obtain ⟨g, cap, cur, hv, _, hg, hc, _⟩ := h.2.resolve_left (fun h => by omega)
  exact ⟨g, cap, hv, hc, block_lt hg⟩
theorem OwnS.cellAt' {w : World} {e : TypeId} {g c n j : Nat} {xs : List Value} (h : OwnS w e 1 (.slice (some ⟨g, 0, none⟩) n c) n xs) (hj : j < n) : w.cell? ⟨g, j, none⟩ = xs[j]? := World.ownsRow.cellAt h j (by omega)
theorem lists_more {w w3 w6 w8 : World} {B : Nat} {v v5 v6 v8 : Value} {lo : List (List Nat)} {l : List Nat} {y : Nat} {us : List Value} {o1 o2 : Obj}
    (hus : OwnS w 30 1 v lo.length us) (husB : ∀ k ∈ blk v, B ≤ k) (hB : B ≤ w.heap.size) (husl : ∀ (j : Nat) (l : List Nat), lo[j]? = some l → ∃ u, us[j]? = some u ∧ LAt w (· ∈ blk v) u l)
    (hb : Below w.heap.size w w3) (hb5 : ∀ k ∈ blk v5, w.heap.size ≤ k) (hk6 : Keeps (· ∈ blk v5) (w3.alloc o1) w6) (ho6 : OwnS w6 3 1 v6 (l.length + 1) (natL l ++ [.int .i64 (y : Int)])) (hb6 : ∀ k ∈ blk v6, k ∈ blk v5 ∨ (w3.alloc o1).heap.size ≤ k)
    (hk8 : Keeps (· ∈ blk v) (w6.alloc o2) w8) (ho8 : OwnS w8 30 1 v8 (lo.length + 1) (us ++ [v6])) (hb8 : ∀ k ∈ blk v8, k ∈ blk v ∨ (w6.alloc o2).heap.size ≤ k) :
    LoAt w8 B v8 (lo ++ [l ++ [y]]) ∧ Keeps (· ∈ blk v) w w8 ∧ (∀ k, k < w.heap.size → k ∈ blk v8 → k ∈ blk v) := by
  have s3 : w.heap.size ≤ w3.heap.size := hb.size
  have s6 : w3.heap.size + 1 ≤ w6.heap.size := by have := hk6.size; simpa using this
  have s8 : w6.heap.size + 1 ≤ w8.heap.size := by have := hk8.size; simpa using this
  have K3 : Keeps (fun _ => False) w w6 := ((Keeps.of_below (fun _ => False) hb).alloc o1).trans hk6 (fun i hi h => by have := hb5 i h; omega)
  have K8 : Keeps (· ∈ blk v) w w8 := ((K3.alloc o2).mono (fun _ _ h => h.elim)).trans hk8 (fun i hi h => h)
  have hold : ∀ k, k < w.heap.size → k ∈ blk v8 → k ∈ blk v := fun k hk h => (hb8 k h).resolve_right (by simp; omega)
  refine ⟨⟨us ++ [v6], by simpa using ho8, fun k hk => ?_, fun j l' hj => ?_⟩, K8, hold⟩
  · rcases hb8 k hk with h | h
    · exact husB k h
    · simp at h; omega
  · by_cases e : j < lo.length
    · rw [List.getElem?_append_left e] at hj
      obtain ⟨u, hu, hla⟩ := husl j l' hj
      exact ⟨u, by rw [List.getElem?_append_left (by exact (List.getElem?_eq_some_iff.1 hu).1)]; exact hu, hla.keep K8 (fun _ _ h => h) hold⟩
    · have e2 : j = lo.length := by
        have := (List.getElem?_eq_some_iff.1 hj).1
        simp at this
        omega
      subst e2
      have hl' : l' = l ++ [y] := by simpa using hj.symm
      subst hl'
      have hlus : us.length = lo.length := by have := hus.1; omega
      refine ⟨v6, by rw [← hlus]; simp, ?_⟩
      obtain ⟨g6, c6, rfl, hc6, hg6⟩ := ho6.has' (by omega)
      have hg6w : w.heap.size ≤ g6 := by
        rcases hb6 g6 (by simp [blk, Value.ownBlock]) with h | h
        · exact hb5 g6 h
        · simp at h; omega
      have hnv : ¬ g6 ∈ blk v := fun h => by have := hus.lt h; omega
      refine ⟨g6, c6, by simp, by omega, fun h => ?_, fun i z hz => ?_⟩
      · rcases hb8 g6 h with h | h
        · exact hnv h
        · simp at h; omega
      · have hi : i < l.length + 1 := by simpa using (List.getElem?_eq_some_iff.1 hz).1
        rw [hk8.cell (by simp; omega) hnv, World.cell?_alloc_past _ _ _ hg6, ho6.cellAt' hi]
        rw [show natL l ++ [.int .i64 (y : Int)] = natL (l ++ [y]) by simp [natL], natL, List.getElem?_map, hz]
        rfl
set_option maxRecDepth 100000 in
set_option maxHeartbeats 4000000 in
theorem wt_circle (n x : Nat) (ad : Option Addr) (m c : Nat) (L : Nat → Int × Int) (hn : n ≤ 64) (hx : x < n) (hm : m ≤ maxLen) (hok : ¬ WrongP n m L) (w : World) (hA : Arcs w ad m L) :
    Calls Try.prog 12 #[.int .i64 n, .slice ad m c, .int .i64 x] w fun e w' => ∃ v, CircleAt w' (spreadP zeroB L m) x n v ∧ e = .returned (.tuple #[v, .int .i64 0]) ∧ Below w.heap.size w w' := by
  have HW := Lib.hid (wt_wrong n ad m c L hm false ⟨fun h => by simp at h, fun h => absurd h hok⟩ w hA)
  have hgood : Hid (∀ j, j < m → 0 ≤ (L j).1 ∧ (L j).1 < n ∧ 0 ≤ (L j).2 ∧ (L j).2 < n) := fun j hj => by
    have hb : ¬ BadArc n (L j) := fun hb => hok (.inr (.inr ⟨j, hj, hb⟩))
    unfold BadArc at hb
    omega
  have hA := Lib.hid hA
  obtain ⟨i0, hi, hz0, hz1, hz2⟩ := info_parts Try.info_u64
  obtain ⟨i1, hj1, hj2, hj3, hj4⟩ := info_parts Try.info_i64
  obtain ⟨i2, hm1, hm2, hm3, hm4⟩ := info_parts Try.info_ints
  have hx0 : ¬ ((x : Int) < 0) := by omega
  have hxn : ¬ ((n : Int) ≤ x) := by omega
  clear hok
  unfold maxLen at hm
  go_enter Try.func12, Try.ntmps12
  go_wp2_with fail
  refine (HW.out).mono ?_
  rintro e w1 ⟨rfl, hb⟩
  have HB1 := Lib.hid hb
  have hs1 := Lib.hid hb.size
  clear hb HW
  go_wp2_with (at_make; refine wpList_make_full _ rfl _ _ 24 rfl w1.heap.size 41 i0 (.int .u64 0) 1 Try.underlying24 hi hz0 hz1 _ _ _ _ n rfl rfl rfl rfl (by rw [hz2]; omega) (by unfold maxLen; omega) (Nat.le_refl _) ?_; rintro w2 hown hg; (have HO : Hid (OwnS w2 41 1 (.slice (some ⟨w1.heap.size, 0, none⟩) n n) n (wordsB (spreadP zeroB L 0) n)) := (by rw [zeros_words] at hown; exact OwnS.of hown)); (have HB2 := Lib.hid (HB1.out.grown hg hs1.out (by simp))); clear hown hg HB1)
  generalize hg1 : w1.heap.size = g at *
  have hgw : w.heap.size ≤ g := hs1.out
  clear hg1 hs1
  go_loopw [34] (fun s wr => ∃ (k : Nat), k ≤ m ∧ s = .int .i64 k ∧ Hid (OwnS wr 41 1 (.slice (some ⟨g, 0, none⟩) n n) n (wordsB (spreadP zeroB L k) n)) ∧ Hid (Below w.heap.size w wr)) (fun s _ => m - (intOf s).toNat)
  case atStart => exact ⟨0, by omega, rfl, HO, HB2⟩
  case round =>
    clear HO HB2
    obtain ⟨k, hk, rfl, HO, HB⟩ := hrel
    by_cases hkm : k < m
    rotate_left
    · obtain rfl : k = m := by omega
      have HT : Hid (ToAt wr (fun _ => False) g n (spreadP zeroB L k)) := by
        obtain ⟨g2, cap, cur, hv, _, hg, _, _, _, ht⟩ := HO.out.2.resolve_left (fun h => by omega)
        have : g = g2 := by simp at hv; exact hv.1
        subst this
        refine ⟨block_lt hg, fun h => h, fun j hj => ?_⟩
        exact (World.ownsRow.cellAt HO.out j (by omega)).trans (wordsL_get _ n j hj)
      have HB3 := HB
      clear HB HO hA hgood
      obtain ⟨T, hT⟩ : ∃ T, spreadP zeroB L k = T := ⟨_, rfl⟩
      rw [hT] at HT
      replace hT := Lib.hid hT
      go_wp2_with fail
      have HT1 : Hid (ToAt ((wr.alloc (.cells #[.int .i64 (x : Int)] 3)).alloc (.cells #[.slice (some ⟨wr.heap.size, 0, none⟩) 1 1] 30)) (fun _ => False) g n T) := HT.out.keep (((Keeps.refl (fun _ => False) wr).alloc _).alloc _) (fun _ _ h => h) (fun _ _ h => h)
      have HL1 : Hid (LsAt ((wr.alloc (.cells #[.int .i64 (x : Int)] 3)).alloc (.cells #[.slice (some ⟨wr.heap.size, 0, none⟩) 1 1] 30)) (fun _ => False) (some ⟨wr.heap.size + 1, 0, none⟩) (bfs T x n 0).2) := fun j l hj => by
        obtain ⟨rfl, rfl⟩ : j = 0 ∧ l = [x] := by
          have h1 := (List.getElem?_eq_some_iff.1 hj).1
          have h2 : j = 0 := by simpa [bfs] using h1
          subst h2
          exact ⟨rfl, by simpa [bfs] using hj.symm⟩
        refine ⟨wr.heap.size + 1, _, rfl, by simp, fun h => h, cell_at (hN (by simp)) 0, wr.heap.size, 1, rfl, by simp; omega, fun h => h, fun j y hy => ?_⟩
        obtain ⟨rfl, rfl⟩ : j = 0 ∧ y = x := by
          have h1 := (List.getElem?_eq_some_iff.1 hy).1
          have h2 : j = 0 := by simpa using h1
          subst h2
          exact ⟨rfl, by simpa using hy.symm⟩
        exact cell_at (hO (hN rfl)) 0
      have HB4 : Hid (Below w.heap.size w ((wr.alloc (.cells #[.int .i64 (x : Int)] 3)).alloc (.cells #[.slice (some ⟨wr.heap.size, 0, none⟩) 1 1] 30))) := bA (bA HB3.out)
      go_loopw [11, 12] (fun v s wr => ∃ (r : Nat) (la : Option Addr) (lc : Nat), v = .slice la (bfs T x n r).2.length lc ∧ s = .int .u64 ((bfs T x n r).1.toNat : Int) ∧ Hid (ToAt wr (fun _ => False) g n T) ∧ Hid (LsAt wr (fun _ => False) la (bfs T x n r).2) ∧ Hid (NoneHits T x n r) ∧ Hid (Below w.heap.size w wr)) (fun v s _ => 2 * (64 - cnt (BitVec.ofInt 64 (intOf s))) + min 1 (lenV v))
      case atStart => exact ⟨0, _, _, rfl, by simp [bfs], HT1, HL1, fun r hr => by omega, HB4⟩
      case round =>
        clear HT1 HL1 HB4 HT HB3
        obtain ⟨r, la, lc, rfl, rfl, HT, HL, HN, HB⟩ := hrel
        have HG := Lib.hid (bfs_good hn hx (T := T) r)
        by_cases hne : (bfs T x n r).2 = []
        · have h0 : (bfs T x n r).2.length = 0 := by rw [hne]; rfl
          rw [h0]
          replace hne := Lib.hid hne
          go_wp2_with fail
          go_ret2
          rw [hT.out]
          exact ⟨_, ⟨r, HN.out, .inl ⟨hne.out, rfl⟩⟩, rfl, HB.out⟩
        · have h0 : 0 < (bfs T x n r).2.length := List.length_pos_iff.2 hne
          replace hne := Lib.hid hne
          obtain ⟨Z, hZ⟩ : ∃ Z, bfs T x n r = Z := ⟨_, rfl⟩
          rw [hZ] at h0 HL ⊢
          obtain ⟨S, ls⟩ := Z
          replace hZ := Lib.hid hZ
          have h0' : (0 : Int) < ls.length := by simpa using h0
          go_wp2_with fail
          go_loopw [57, 12, 13] (fun i s v wr => ∃ k : Nat, k ≤ ls.length ∧ i = .int .i64 k ∧ s = .int .u64 ((lLoop T x n ls (S, []) k).1.toNat : Int) ∧ Hid (LoAt wr w.heap.size v (lLoop T x n ls (S, []) k).2) ∧ Hid (ToAt wr (· ∈ blk v) g n T) ∧ Hid (LsAt wr (· ∈ blk v) la ls) ∧ Hid (∀ (k' : Nat) (l' : List Nat), k' < k → ls[k']? = some l' → ¬ Hits T x l') ∧ Hid (Below w.heap.size w wr)) (fun i _ _ _ => ls.length - (intOf i).toNat)
          case atStart => exact ⟨0, by omega, rfl, rfl, ⟨[], OwnS.nil _ _ _, by simp [blk, Value.ownBlock], fun j l h => by simp [lLoop] at h⟩, HT.out.keep (Keeps.refl (fun _ => False) _) (fun _ _ h => h.elim) (fun _ _ h => by simp [blk, Value.ownBlock] at h), HL.out.keep (Keeps.refl (fun _ => False) _) (fun _ _ h => h.elim) (fun _ _ h => by simp [blk, Value.ownBlock] at h), fun k' l' h => by omega, HB⟩
          case round =>
            clear HT HL HB
            obtain ⟨k, hk, rfl, rfl, HO, HT, HL, HNo, HB⟩ := hrel
            by_cases hkl : k < ls.length
            rotate_left
            · obtain rfl : k = ls.length := by omega
              have hfin : Hid (bfs T x n (r + 1) = lLoop T x n ls (S, []) ls.length) := by rw [Hid, bfs, hZ.out]
              have hGf : Hid (Grown n (cnt S) (r + 2) (lLoop T x n ls (S, []) ls.length)) := by
                have h1 := HG.out.1
                rw [hZ.out] at h1
                exact lLoop_grown hn (fun l hl => ⟨by rw [(h1 l hl).1], (h1 l hl).2⟩) ⟨by simp, fun l hl => by cases hl⟩ _ (Nat.le_refl _)
              rw [← hfin.out] at HO hGf ⊢
              obtain ⟨ad', c', rfl, hL'⟩ := HO.out.read
              have HL' := Lib.hid hL'
              have HT' : Hid (ToAt wr (fun _ => False) g n T) := HT.out.keep (Keeps.refl (fun _ => False) _) (fun _ _ h => h.elim) (fun _ _ h => h.elim)
              clear hL'
              go_wp2_with fail
              go_roundw
              case rel =>
                refine ⟨r + 1, ad', c', rfl, rfl, HT', HL', fun r' hr' l hl => ?_, HB⟩
                by_cases e : r' = r
                · subst e
                  rw [hZ.out] at hl
                  obtain ⟨k', hk', e⟩ := List.getElem_of_mem hl
                  exact HNo.out k' l hk' (by rw [List.getElem?_eq_getElem hk', e])
                · exact HN.out r' (by omega) l hl
              case measure =>
                have h1 := hGf.out.1
                have h2 := cnt_le (bfs T x n (r + 1)).1
                simp only [intOf, lenV, ofInt_bv]
                show 2 * (64 - cnt (bfs T x n (r + 1)).1) + min 1 (bfs T x n (r + 1)).2.length < 2 * (64 - cnt S) + min 1 ls.length
                omega
            · have hk' : (k : Int) < ls.length := by omega
              have hk0 : (0 : Int) ≤ k := by omega
              have wrk : IntKind.i64.wrap ((k : Int) + 1) = (k : Int) + 1 := by rw [IntKind.wrap_i64]; have h1 := HG.out.2.1; rw [hZ.out] at h1; have h1 : ls.length ≤ cnt S + 1 := h1; have := cnt_le S; omega
              obtain ⟨l, hl⟩ : ∃ l, ls[k]? = some l := ⟨_, List.getElem?_eq_getElem hkl⟩
              obtain ⟨gl, u, rfl, hgl, hgl2, cu, hLA⟩ := HL.out k l hl
              obtain ⟨gu, cu2, rfl, hgu, hgu2, hcu⟩ := hLA
              replace hl := Lib.hid hl
              have hll : Hid (l.length = r + 1 ∧ ∀ z ∈ l, z < n) := by
                have h1 := HG.out.1
                rw [hZ.out] at h1
                exact h1 l (List.mem_of_getElem? hl.out)
              rw [hll.out.1] at cu
              obtain ⟨q, hq⟩ : ∃ q, lastN l = q := ⟨_, rfl⟩
              have cq : wr.cell? ⟨gu, r, none⟩ = some (.int .i64 (q : Int)) := hcu r q (by
                unfold lastN at hq
                have hlt : r < l.length := by rw [hll.out.1]; omega
                rw [hll.out.1, Nat.add_sub_cancel, List.getD_eq_getElem?_getD, List.getElem?_eq_getElem hlt] at hq
                rw [List.getElem?_eq_getElem hlt, ← hq]; rfl)
              have hqn : q < n := by
                have hlt : r < l.length := by rw [hll.out.1]; omega
                have h1 : q ∈ l := by
                  rw [← hq, lastN, hll.out.1, Nat.add_sub_cancel, List.getD_eq_getElem?_getD, List.getElem?_eq_getElem hlt]
                  exact List.getElem_mem _
                exact hll.out.2 q h1
              have hr64 : Hid (r ≤ 64) := by
                have h1 := HG.out.2.2
                rw [hZ.out] at h1
                have h2 : r ≤ cnt S := h1 (fun e => hne.out (by rw [hZ.out]; exact e))
                have := cnt_le S
                exact Nat.le_trans h2 this
              have wrr : IntKind.i64.wrap ((r : Int)) = (r : Int) := by rw [IntKind.wrap_i64]; have := hr64.out; omega
              have hrr : (r : Int) < ((r + 1 : Nat) : Int) := by omega
              obtain ⟨tg1, tg2, ct⟩ := HT.out
              have ctq := ct q hqn
              have hqI : (q : Int) < n := by omega
              clear ct
              by_cases hH : (T q).getLsbD x = true
              · have hb : (bits .and .u64 (((T q).toNat : Int) / 2 ^ x) 1 == 1) = true := by rw [and_bit, if_pos hH]; rfl
                have hHi : Hid (Hits T x l) := by show Hid ((T (lastN l)).getLsbD x = true); rw [hq]; exact hH
                replace hH := Lib.hid hH
                replace hq := Lib.hid hq
                go_wp2_with fail
                go_ret2
                rw [hT.out]
                refine ⟨_, ⟨r, HN.out, .inr ⟨k, l, ?_, hHi.out, ?_, ?_⟩⟩, rfl, HB.out⟩
                · rw [hZ.out]; exact hl.out
                · rw [hZ.out]; exact HNo.out
                · exact ⟨gu, cu2, by rw [hll.out.1]; rfl, hgu, fun h => h, hcu⟩
              · have hb : (bits .and .u64 (((T q).toNat : Int) / 2 ^ x) 1 == 1) = false := by rw [and_bit, if_neg hH]; rfl
                have hHi : Hid (¬ Hits T x l) := by show Hid (¬ (T (lastN l)).getLsbD x = true); rw [hq]; exact hH
                replace hH := Lib.hid hH
                have HLA : Hid (LAt wr (· ∈ blk u13) (.slice (some ⟨gu, 0, none⟩) (r + 1) cu2) l) := ⟨gu, cu2, by rw [hll.out.1], hgu, hgu2, hcu⟩
                have HGr : Hid (Grown n (cnt S) (r + 2) (lLoop T x n ls (S, []) k)) := by
                  have h1 := HG.out.1
                  rw [hZ.out] at h1
                  exact lLoop_grown hn (fun l hl => ⟨by rw [(h1 l hl).1], (h1 l hl).2⟩) ⟨by simp, fun l hl => by cases hl⟩ k hk
                obtain ⟨st, hst⟩ : ∃ st, lLoop T x n ls (S, []) k = st := ⟨_, rfl⟩
                have hnext : Hid (lLoop T x n ls (S, []) (k + 1) = yLoop T x l q st n) := by
                  have : ls.getD k [] = l := by rw [List.getD_eq_getElem?_getD, hl.out]; rfl
                  rw [Hid, lLoop, this, hq, hst]
                rw [hst] at HGr HO ⊢
                replace hst := Lib.hid hst
                replace hq := Lib.hid hq
                clear hcu hgu hgu2 hgl2 tg2
                go_wp2_with fail
                clear cu cq hgl tg1
                go_loopw [77, 12, 13] (fun i s v wr => ∃ j : Nat, j ≤ n ∧ i = .int .i64 j ∧ s = .int .u64 ((yLoop T x l q st j).1.toNat : Int) ∧ Hid (LoAt wr w.heap.size v (yLoop T x l q st j).2) ∧ Hid (ToAt wr (· ∈ blk v) g n T) ∧ Hid (LsAt wr (· ∈ blk v) (some ⟨gl, 0, none⟩) ls) ∧ Hid (LAt wr (· ∈ blk v) (.slice (some ⟨gu, 0, none⟩) (r + 1) cu2) l) ∧ Hid (Below w.heap.size w wr)) (fun i _ _ _ => n - (intOf i).toNat)
                case atStart => exact ⟨0, by omega, rfl, rfl, HO, HT, HL, HLA, HB⟩
                case round =>
                  clear HO HT HL HLA HB ctq
                  obtain ⟨j, hj, rfl, rfl, HO, HT, HL, HLA, HB⟩ := hrel
                  by_cases hjn : j < n
                  rotate_left
                  · obtain rfl : j = n := by omega
                    rw [← hnext.out] at HO ⊢
                    go_wp2_with fail
                    go_roundw
                    case rel => exact ⟨k + 1, by omega, rfl, rfl, HO, HT, HL, fun k' l' hk' hl' => by
                        by_cases e : k' = k
                        · subst e
                          obtain rfl := Option.some.inj (hl.out.symm.trans hl')
                          exact hHi.out
                        · exact HNo.out k' l' (by omega) hl', HB⟩
                    case measure => simp [intOf]; omega
                  · have hjI : (j : Int) < n := by omega
                    have hj0 : (0 : Int) ≤ j := by omega
                    have wrj : IntKind.i64.wrap ((j : Int) + 1) = (j : Int) + 1 := by rw [IntKind.wrap_i64]; omega
                    obtain ⟨tg1, tg2, ct⟩ := HT.out
                    have ctq := ct q hqn
                    clear ct
                    have hG2 : Hid (Grown n (cnt S) (r + 2) (yLoop T x l q st j)) := yLoop_grown hn (by rw [hll.out.1]) hll.out.2 HGr.out j hj
                    have hstep : Hid (yLoop T x l q st (j + 1) = yStep T x l q (yLoop T x l q st j) j) := rfl
                    obtain ⟨p, hp⟩ : ∃ p, yLoop T x l q st j = p := ⟨_, rfl⟩
                    rw [hp] at hstep hG2 HO ⊢
                    obtain ⟨S2, lo⟩ := p
                    replace hp := Lib.hid hp
                    by_cases hc : (T q).getLsbD j = true ∧ S2.getLsbD j = false ∧ j ≠ x
                    · have b1 : (bits .and .u64 (((T q).toNat : Int) / 2 ^ j) 1 == 1) = true := by rw [and_bit, if_pos hc.1]; rfl
                      have b2 : (bits .and .u64 ((S2.toNat : Int) / 2 ^ j) 1 == 0) = true := by rw [and_bit, if_neg (by rw [hc.2.1]; decide)]; rfl
                      have b3 : ((j : Int) != x) = true := by have := hc.2.2; simp; omega
                      have hs2 : Hid (yLoop T x l q st (j + 1) = (S2 ||| BitVec.twoPow 64 j, lo ++ [l ++ [j]])) := by rw [Hid, hstep.out, yStep, if_pos hc]
                      have hsh : IntKind.u64.wrap (1 * 2 ^ j) = ((BitVec.twoPow 64 j).toNat : Int) := shl_bv j (by omega)
                      rw [Int.one_mul] at hsh
                      have hlo : lo.length ≤ 64 := by
                        have h1 := hG2.out.1
                        have h2 := cnt_le S2
                        have h3 : lo.length + cnt S ≤ cnt S2 := h1
                        omega
                      replace hc := Lib.hid hc
                      have HC := Lib.hid (sl_cloneI _ _ l (by rw [hll.out.1]; have := hr64.out; omega) wr HLA.out)
                      go_wp2_with fail
                      have hor : bits .or .u64 (S2.toNat : Int) ((2 : Int) ^ j % 18446744073709551616) = ((S2 ||| BitVec.twoPow 64 j).toNat : Int) := by
                        rw [IntKind.wrap_u64] at hsh
                        rw [hsh, bits_or_bv]
                      rw [hor]
                      clear ctq
                      refine (HC.out).mono ?_
                      rintro e w3 ⟨v5, ho5, hbl5, rfl, hb⟩
                      obtain ⟨us, hus, husB, husl⟩ := HO.out
                      have hO5 : OwnS (w3.alloc (.cells #[.int .i64 (j : Int)] 3)) 3 1 v5 l.length (natL l) := ho5.keep ((Keeps.refl (fun _ => False) _).alloc _) (fun _ _ h => h)
                      have hus3 : OwnS w3 30 1 u13 lo.length us := hus.keep (Keeps.of_below (fun _ => False) hb) (fun _ _ h => h)
                      have hrl := hr64.out
                      have hll1 := hll.out.1
                      have hrl' : l.length ≤ 65 := by omega
                      have HB5 := Lib.hid hb
                      have hbl5 := Lib.hid hbl5
                      have hlus := Lib.hid (show ∀ k ∈ blk u13, k < w3.heap.size from fun k hk => hus3.lt hk)
                      replace hll1 := Lib.hid hll1
                      clear hb ho5 HC
                      go_wp2_with (first
                        | (at_builtin; refine wpList_append_frame _ rfl _ _ 30 rfl 3 i1 (.int .i64 0) 1 8 Try.underlying30 hj1 hj2 hj3 hj4 rfl (by decide) _ _ _ rfl hO5 ⟨w3.heap.size, 0, none⟩ 1 1 [.int .i64 (j : Int)] rfl rfl (cell_one_new _ _ _) (by simp [Value.oneCell']) (by unfold maxLen; omega) (by omega) ?_; rintro v6 w6 ho6 hk6 hb6 hn6; (have HO6 := Lib.hid ho6); (have HK6 := Lib.hid hk6); (have HL6 := Lib.hid hb6); (obtain ⟨g6, c6, rfl, -⟩ := ho6.has' (by omega)); (have hus6 : OwnS (w6.alloc (.cells #[.slice (some ⟨g6, 0, none⟩) (l.length + 1) c6] 30)) 30 1 u13 lo.length us := (((hus3.keep ((Keeps.refl (fun _ => False) _).alloc _) (fun _ _ h => h)).keep hk6 (fun k hk h => by (have := hus.lt hk); (have := hbl5.out k h); omega)).keep ((Keeps.refl (fun _ => False) _).alloc _) (fun _ _ h => h))); clear ho6 hk6 hb6 hn6)
                        | (at_builtin; refine wpList_append_frame _ rfl _ _ 48 rfl 30 i2 (.slice none 0 0) 1 24 Try.underlying48 hm1 hm2 hm3 hm4 rfl (by decide) _ _ _ rfl hus6 ⟨w6.heap.size, 0, none⟩ 1 1 [.slice (some ⟨g6, 0, none⟩) (l.length + 1) c6] rfl rfl (cell_one_new _ _ _) (by simp [Value.oneCell']) (by unfold maxLen; omega) (by omega) ?_; rintro v8 w8 ho8 hk8 hb8 hn8; (have HO8 := Lib.hid ho8); (have HK8 := Lib.hid hk8); (have HL8 := Lib.hid hb8); clear ho8 hk8 hb8 hn8))
                      obtain ⟨hLO, hK, hold⟩ := lists_more (y := j) hus husB HB.out.size husl HB5.out hbl5.out HK6.out HO6.out HL6.out HK8.out HO8.out HL8.out
                      have HLO := Lib.hid hLO
                      have HT8 := Lib.hid (HT.out.keep hK (fun _ _ h => h) hold)
                      have HL9 := Lib.hid (HL.out.keep hK (fun _ _ h => h) hold)
                      have HLA8 := Lib.hid (HLA.out.keep hK (fun _ _ h => h) hold)
                      have HB8 := Lib.hid (bK HB.out hK husB)
                      go_roundw
                      case rel => exact ⟨j + 1, by omega, rfl, by rw [hs2.out]; simp [BitVec.toNat_or, BitVec.toNat_twoPow], by rw [hs2.out]; exact HLO, HT8, HL9, HLA8, HB8⟩
                      case measure => simp [intOf]; omega
                    · have hs2 : Hid (yLoop T x l q st (j + 1) = (S2, lo)) := by rw [Hid, hstep.out, yStep, if_neg hc]
                      have hrelN : Hid (∃ j', j' ≤ n ∧ Value.int .i64 ((j : Int) + 1) = Value.int .i64 (j' : Int) ∧ j' = j + 1) := ⟨j + 1, by omega, by simp, rfl⟩
                      by_cases c1 : (T q).getLsbD j = true
                      · have b1 : (bits .and .u64 (((T q).toNat : Int) / 2 ^ j) 1 == 1) = true := by rw [and_bit, if_pos c1]; rfl
                        by_cases c2 : S2.getLsbD j = false
                        · have b2 : (bits .and .u64 ((S2.toNat : Int) / 2 ^ j) 1 == 0) = true := by rw [and_bit, if_neg (by rw [c2]; decide)]; rfl
                          have c3 : j = x := Classical.byContradiction fun e => hc ⟨c1, c2, e⟩
                          have b3 : ((j : Int) != x) = false := by rw [c3]; simp
                          replace c1 := Lib.hid c1
                          replace c2 := Lib.hid c2
                          replace c3 := Lib.hid c3
                          replace hc := Lib.hid hc
                          go_wp2_with fail
                          go_roundw
                          case rel => exact ⟨j + 1, by omega, rfl, by rw [hs2.out], by rw [hs2.out]; exact HO, HT, HL, HLA, HB⟩
                          case measure => simp [intOf]; omega
                        · have b2 : (bits .and .u64 ((S2.toNat : Int) / 2 ^ j) 1 == 0) = false := by rw [and_bit, if_pos (by simpa using c2)]; rfl
                          replace c1 := Lib.hid c1
                          replace c2 := Lib.hid c2
                          replace hc := Lib.hid hc
                          go_wp2_with fail
                          go_roundw
                          case rel => exact ⟨j + 1, by omega, rfl, by rw [hs2.out], by rw [hs2.out]; exact HO, HT, HL, HLA, HB⟩
                          case measure => simp [intOf]; omega
                      · have b1 : (bits .and .u64 (((T q).toNat : Int) / 2 ^ j) 1 == 1) = false := by rw [and_bit, if_neg c1]; rfl
                        replace c1 := Lib.hid c1
                        replace hc := Lib.hid hc
                        go_wp2_with fail
                        go_roundw
                        case rel => exact ⟨j + 1, by omega, rfl, by rw [hs2.out], by rw [hs2.out]; exact HO, HT, HL, HLA, HB⟩
                        case measure => simp [intOf]; omega
    · have hk' : (k : Int) < m := by omega
      have hk0 : (0 : Int) ≤ k := by omega
      have wrk : IntKind.i64.wrap ((k : Int) + 1) = (k : Int) + 1 := by rw [IntKind.wrap_i64]; omega
      obtain ⟨ga, oa, rfl, hga, c0, c1⟩ := (hA.out.keep HB.out) k hkm
      obtain ⟨g1, g2, g3, g4⟩ := hgood.out k hkm
      obtain ⟨x1, ex⟩ : ∃ x : Nat, (L k).1 = x := ⟨(L k).1.toNat, by omega⟩
      obtain ⟨y, ey⟩ : ∃ y : Nat, (L k).2 = y := ⟨(L k).2.toNat, by omega⟩
      rw [ex] at c0 g1 g2
      rw [ey] at c1 g3 g4
      have hx1n : x1 < n := by omega
      have hyn : y < n := by omega
      replace ex := Lib.hid ex
      replace ey := Lib.hid ey
      obtain ⟨g', cap, cur, hv, _, hg, hnc, hcm, hcs, ht⟩ := HO.out.2.resolve_left (fun h => by omega)
      have hgg : g = g' := by simp at hv; exact hv.1
      subst hgg
      have s3 : wr.cell? ⟨g, x1, none⟩ = some (.int .u64 ((spreadP zeroB L k x1).toNat : Int)) := (World.ownsRow.cellAt HO.out x1 (by omega)).trans (wordsL_get _ n x1 hx1n)
      have s5 := free_at hg x1
      have hgl := block_lt hg
      have hsh : IntKind.u64.wrap (1 * 2 ^ y) = ((BitVec.twoPow 64 y).toNat : Int) := shl_bv y (by omega)
      have hx1I : (x1 : Int) < n := by omega
      clear hnc hcm hcs ht hv
      replace hg := Lib.hid hg
      generalize hNe : spreadP zeroB L k x1 = N at *
      replace hNe := Lib.hid hNe
      go_wp2_with fail
      have t3 := (cell_below (bA (o := .cells #[.int .i64 (x1 : Int), .int .i64 (y : Int)] 42) (bR (w := wr))) hgl).trans s3
      have t5 : (wr.alloc (.cells #[.int .i64 (x1 : Int), .int .i64 (y : Int)] 42)).frozen? ⟨g, x1, none⟩ = false := by rw [World.frozen?_alloc_past _ _ _ hgl]; exact s5
      have t1 : (wr.alloc (.cells #[.int .i64 (x1 : Int), .int .i64 (y : Int)] 42)).cell? ⟨wr.heap.size, 0, none⟩ = some (.int .i64 x1) := cell_at (hN rfl) 0
      have t2 : (wr.alloc (.cells #[.int .i64 (x1 : Int), .int .i64 (y : Int)] 42)).cell? ⟨wr.heap.size, 1, none⟩ = some (.int .i64 y) := cell_at (hN rfl) 1
      clear s3 s5 c0 c1
      refine wp_region_held_drew (S := fun w' => w'.cell? ⟨wr.heap.size, 0, none⟩ = some (.int .i64 x1) ∧ w'.cell? ⟨wr.heap.size, 1, none⟩ = some (.int .i64 y) ∧ w'.frozen? ⟨g, x1, none⟩ = false) (by kernel_rfl) ⟨t1, t2, t5⟩ (fun hHeld => ?_)
      refine wpAnyH_take (i := 0) (oi := ⟨some 38, _, _, _, _, _⟩) (v := ?_) rfl (by kernel_rfl) (by kernel_rfl) (by kernel_rfl) (fun _ _ _ h => h) (Or.inl ⟨by rfl, ?_⟩) hHeld ?_
      rotate_left
      · intro w' hSw
        obtain ⟨s1, s2, s5⟩ := hSw
        go_simp
        try with_reducible rfl
      simp only [Act.put, List.setIfInBounds_toArray, List.set_cons_zero, List.set_cons_succ]
      refine wpAnyH_take (i := 1) (oi := ⟨some 39, _, _, _, _, _⟩) (v := ?_) rfl (by kernel_rfl) (by kernel_rfl) (by kernel_rfl) (fun _ _ _ h => h) (Or.inl ⟨by rfl, ?_⟩) hHeld ?_
      rotate_left
      · intro w' hSw
        obtain ⟨s1, s2, s5⟩ := hSw
        go_simp
        try with_reducible rfl
      simp only [Act.put, List.setIfInBounds_toArray, List.set_cons_zero, List.set_cons_succ]
      refine wpAnyH_take (i := 2) (oi := ⟨some 40, _, _, _, _, _⟩) (v := ?_) rfl (by kernel_rfl) (by kernel_rfl) (by kernel_rfl) (fun _ _ _ h => h) (Or.inl ⟨by rfl, ?_⟩) hHeld ?_
      rotate_left
      · intro w' hSw
        obtain ⟨s1, s2, s5⟩ := hSw
        go_simp
        try with_reducible rfl
      simp only [Act.put, List.setIfInBounds_toArray, List.set_cons_zero, List.set_cons_succ]
      refine wpAnyH_take (i := 3) (oi := ⟨some 41, _, _, _, _, _⟩) (v := ?_) rfl (by kernel_rfl) (by kernel_rfl) (by kernel_rfl) (fun _ _ _ h => h) (Or.inl ⟨by rfl, ?_⟩) hHeld ?_
      rotate_left
      · intro w' hSw
        obtain ⟨s1, s2, s5⟩ := hSw
        go_simp
        try with_reducible rfl
      simp only [Act.put, List.setIfInBounds_toArray, List.set_cons_zero, List.set_cons_succ]
      refine wpAnyH_take (i := 5) (oi := ⟨some 43, _, _, _, _, _⟩) (v := ?_) rfl (by kernel_rfl) (by kernel_rfl) (by kernel_rfl) (fun _ _ _ h => h) (Or.inl ⟨by rfl, ?_⟩) hHeld ?_
      rotate_left
      · intro w' hSw
        obtain ⟨s1, s2, s5⟩ := hSw
        go_simp
        try with_reducible rfl
      simp only [Act.put, List.setIfInBounds_toArray, List.set_cons_zero, List.set_cons_succ]
      refine wpAnyH_take (i := 6) (oi := ⟨some 44, _, _, _, _, _⟩) (v := ?_) rfl (by kernel_rfl) (by kernel_rfl) (by kernel_rfl) (fun _ _ _ h => h) (Or.inl ⟨by rfl, ?_⟩) hHeld ?_
      rotate_left
      · intro w' hSw
        obtain ⟨s1, s2, s5⟩ := hSw
        go_simp
        try with_reducible rfl
      simp only [Act.put, List.setIfInBounds_toArray, List.set_cons_zero, List.set_cons_succ]
      refine wpAnyH_take (i := 7) (oi := ⟨some 45, _, _, _, _, _⟩) (v := ?_) rfl (by kernel_rfl) (by kernel_rfl) (by kernel_rfl) (fun _ _ _ h => h) (Or.inl ⟨by rfl, ?_⟩) hHeld ?_
      rotate_left
      · intro w' hSw
        obtain ⟨s1, s2, s5⟩ := hSw
        go_simp
        try with_reducible rfl
      simp only [Act.put, List.setIfInBounds_toArray, List.set_cons_zero, List.set_cons_succ]
      refine wpAnyH_ready (rs := [4]) (by kernel_rfl) (by simp) ?_
      refine AllReadyH.cons (o := ⟨some 42, _, _, _, _, _⟩) rfl (fun K hK => ?_) AllReadyH.nil
      go_simp
      refine hK.out _ _ hHeld (fun hHeld => ?_)
      clear hK K
      try simp only [Act.put, List.setIfInBounds_toArray, List.set_cons_zero, List.set_cons_succ]
      refine wpAnyH_take (i := 8) (oi := ⟨some 46, _, _, _, _, _⟩) (v := ?_) rfl (by kernel_rfl) (by kernel_rfl) (by kernel_rfl) (fun _ _ _ h => h) (Or.inl ⟨by rfl, ?_⟩) hHeld ?_
      rotate_left
      · intro w' hSw
        obtain ⟨s1, s2, s5⟩ := hSw
        go_simp
        try with_reducible rfl
      simp only [Act.put, List.setIfInBounds_toArray, List.set_cons_zero, List.set_cons_succ]
      refine wpAnyH_take (i := 9) (oi := ⟨some 47, _, _, _, _, _⟩) (v := ?_) rfl (by kernel_rfl) (by kernel_rfl) (by kernel_rfl) (fun _ _ _ h => h) (Or.inl ⟨by rfl, ?_⟩) hHeld ?_
      rotate_left
      · intro w' hSw
        obtain ⟨s1, s2, s5⟩ := hSw
        go_simp
        try with_reducible rfl
      simp only [Act.put, List.setIfInBounds_toArray, List.set_cons_zero, List.set_cons_succ]
      refine wpAnyH_ready (rs := [10]) (by kernel_rfl) (by simp) ?_
      refine AllReadyH.cons (o := ⟨none, _, _, _, _, _⟩) rfl (fun K hK => ?_) AllReadyH.nil
      go_simp
      have hsz : ∀ (u : Value), (wr.setCell ⟨g, x1, none⟩ u).heap.size = wr.heap.size := fun u => by simp [World.setCell]
      refine hK.out _ _ ⟨cell_at (hDr (hN (hsz _).symm)) 0, cell_at (hDr (hN (hsz _).symm)) 1, free_at (hDr (hO (heap_set hg.out x1 _))) x1⟩ (fun _ => ?_)
      clear hK K hHeld t1 t2 t3 t5 hsz
      refine wpAnyH_done (by kernel_rfl) ?_ _
      have hval : bits .or .u64 (N.toNat : Int) (IntKind.u64.wrap (2 ^ y)) = ((N ||| (0 ||| BitVec.twoPow 64 y)).toNat : Int) := by
        rw [Int.one_mul] at hsh
        rw [hsh, bits_or_bv]
        simp
      have HO1 : OwnS (wr.setCell ⟨g, x1, none⟩ (.int .u64 (bits .or .u64 (N.toNat : Int) (IntKind.u64.wrap (2 ^ y))))) 41 1 (.slice (some ⟨g, 0, none⟩) n n) n (wordsB (spreadP zeroB L (k + 1)) n) := by
        have h1 := OwnS.set (i := x1) (u := .int .u64 ((N ||| (0 ||| BitVec.twoPow 64 y)).toNat : Int)) HO.out
        rw [wordsB_set (spreadP zeroB L k) (spreadP zeroB L (k + 1)) x1 (N ||| (0 ||| BitVec.twoPow 64 y)) (fun j => by
          show (if (j : Int) = (L k).1 then spreadP zeroB L k j ||| (zeroB (L k).2.toNat ||| BitVec.twoPow 64 (L k).2.toNat) else spreadP zeroB L k j) = _
          rw [ex.out, ey.out]
          by_cases e : j = x1
          · subst e; rw [if_pos rfl, if_pos rfl, hNe.out, Int.toNat_natCast]; rfl
          · rw [if_neg (by omega), if_neg e]) n] at h1
        rw [hval]
        exact h1
      have HO2 := Lib.hid (HO1.keep (((Keeps.refl (fun _ => False) _).alloc (.cells #[.int .i64 (x1 : Int), .int .i64 (y : Int)] 42)).drew) (fun _ _ h => h))
      have HB2 := Lib.hid (bD (bA (o := .cells #[.int .i64 (x1 : Int), .int .i64 (y : Int)] 42) (bS (p := ⟨g, x1, none⟩) (u := .int .u64 (bits .or .u64 (N.toNat : Int) (IntKind.u64.wrap (2 ^ y)))) HB.out hgw)))
      clear HO1 hval HO hsh
      go_wp2_with fail
      go_roundw
      case rel => exact ⟨k + 1, by omega, rfl, HO2, HB2⟩
      case measure => simp [intOf]; omega
end Go.Proofs.Ytiollfjhfcaogaa
