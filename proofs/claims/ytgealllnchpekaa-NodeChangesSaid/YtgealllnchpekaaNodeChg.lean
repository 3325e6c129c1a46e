import Derived.Test.YtgealllnchpekaaNodeChgA
import Derived.Test.YtgealllnchpekaaNodeH
set_option linter.unusedSimpArgs false
set_option linter.unusedVariables false
namespace Go.Proofs.Ytgealllnchpekaa
open Go.RowKit

set_option maxRecDepth 100000 in
set_option maxHeartbeats 16000000 in
theorem nodeChanges_run (P : Pg) (st : Int) (dt : ByteArray) (i : Int) (hd : ∀ i, (P.dt i).size ≤ maxLen) (hz : dt.size ≤ maxLen) (w : World) :
    Calls Try.prog 7 #[pgV P, cellV (st, dt), .int .i64 i] w fun e w' => e = .returned (.bool true) ∧ Below w.heap.size w w' := by
  have HA := Lib.hid (fun w => awake05 w)
  obtain ⟨n, hn⟩ := count_is P
  obtain ⟨fi, ft, hf⟩ := find_is P (keyP st dt).1 n
  have HP := Lib.hid (fun w => nd_put hn hf hd hz w)
  have HR := Lib.hid (fun w => rf_putp hn hf hd hz w)
  have HT := Lib.hid (fun w => nd_take i hn w)
  have HU := Lib.hid (fun w => rf_take i hn w)
  have HS := Lib.hid (fun w => nd_split hn hd w)
  have HV := Lib.hid (fun w => rf_split hn hd w)
  clear hn hf
  generalize putR P st dt n fi ft = A at *
  generalize takeR P n i = T at *
  generalize splitR P n = S at *
  obtain ⟨A1, A2⟩ := A
  obtain ⟨T1, T2⟩ := T
  obtain ⟨S1, S2, S3, S4⟩ := S
  unfold cellV at *
  unfold pgV at *
  dsimp only at *
  have HQ0 : Hid (((w.alloc (.cells (pgC P) 26)).alloc (.cells #[.int .i64 st, .string dt] 23)).heap[w.heap.size]? = some (.cells (pgC P) 26 (0, 0))) := hO (hN rfl)
  have HC0 : Hid (((w.alloc (.cells (pgC P) 26)).alloc (.cells #[.int .i64 st, .string dt] 23)).heap[w.heap.size + 1]? = some (.cells #[.int .i64 st, .string dt] 23 (0, 0))) := hN (by simp)
  go_enter Try.func7, Try.ntmps7
  go_wp2_with fail
  refine (HA.out _).mono ?_
  rintro e w1 ⟨rfl, hb⟩
  have HBv0 := Lib.hid (bT (bA (bA bR)) hb)
  have HQv0 := Lib.hid (hBs hb HQ0.out)
  have HCv0 := Lib.hid (hBs hb HC0.out)
  have c0 := cell_at HCv0.out 0
  have c1 := cell_at HCv0.out 1
  clear hb HA HQ0 HC0
  go_wp2_with (refine wpList_load_row rfl 26 _ rfl _ rfl 26 _ _ _ HQv0.out Try.underlying26 rfl (by kernel_rfl) ?_)
  refine (HP.out _).mono ?_
  rintro e u1 ⟨rfl, hb⟩
  have HBu1 := Lib.hid (bT HBv0.out hb)
  have HQu1 := Lib.hid (hBs hb HQv0.out)
  have HCu1 := Lib.hid (hBs hb HCv0.out)
  clear hb HBv0 HQv0 HCv0
  go_wp2_with (first
    | (refine wpList_store_whole rfl 26 _ _ rfl _ (pgC A1) rfl rfl _ (pgC pageZ) (hN rfl) rfl (by kernel_rfl) (pgC_one _) ?_; intro v1 H1av1 KN; (have TT : Keeps (fun _ => False) u1 v1 := ((Keeps.refl (fun _ => False) u1).alloc _).trans KN.out (fun i hi e => by omega)); (have HQv1 := Lib.hid (TT.keep HQu1.out id)); (have HCv1 := Lib.hid (TT.keep HCu1.out id)); (have HBv1 := Lib.hid (bK HBu1.out TT (fun _ h => h.elim))); (have c0 := cell_at HCv1.out 0); (have c1 := cell_at HCv1.out 1); clear KN TT)
    | (refine wpList_load_row rfl 26 _ rfl _ rfl 26 _ _ _ HQv1.out Try.underlying26 rfl (by kernel_rfl) ?_))
  refine (HR.out _).mono ?_
  rintro e u2 ⟨rfl, hb⟩
  have HBu2 := Lib.hid (bT HBv1.out hb)
  have HQu2 := Lib.hid (hBs hb HQv1.out)
  have HCu2 := Lib.hid (hBs hb HCv1.out)
  have H1au2 := Lib.hid (hBs hb H1av1.out)
  clear hb HBv1 HQv1 HCv1 H1av1
  go_wp2_with (first
    | (refine wpList_store_whole rfl 26 _ _ rfl _ (pgC A1) rfl rfl _ (pgC pageZ) (hN rfl) rfl (by kernel_rfl) (pgC_one _) ?_; intro v2 H2av2 KN; (have TT : Keeps (fun _ => False) u2 v2 := ((Keeps.refl (fun _ => False) u2).alloc _).trans KN.out (fun i hi e => by omega)); (have HQv2 := Lib.hid (TT.keep HQu2.out id)); (have HCv2 := Lib.hid (TT.keep HCu2.out id)); (have H1av2 := Lib.hid (TT.keep H1au2.out id)); (have HBv2 := Lib.hid (bK HBu2.out TT (fun _ h => h.elim))); (have c0 := cell_at HCv2.out 0); (have c1 := cell_at HCv2.out 1); clear KN TT)
    | (refine wpList_load_row rfl 26 _ rfl _ rfl 26 _ _ _ HQv2.out Try.underlying26 rfl (by kernel_rfl) ?_))
  refine (HT.out _).mono ?_
  rintro e u3 ⟨rfl, hb⟩
  have HBu3 := Lib.hid (bT HBv2.out hb)
  have HQu3 := Lib.hid (hBs hb HQv2.out)
  have HCu3 := Lib.hid (hBs hb HCv2.out)
  have H1au3 := Lib.hid (hBs hb H1av2.out)
  have H2au3 := Lib.hid (hBs hb H2av2.out)
  clear hb HBv2 HQv2 HCv2 H1av2 H2av2
  go_wp2_with (first
    | (refine wpList_store_whole rfl 26 _ _ rfl _ (pgC T1) rfl rfl _ (pgC pageZ) (hN rfl) rfl (by kernel_rfl) (pgC_one _) ?_; intro v3 H3av3 KN; (have TT : Keeps (fun _ => False) u3 v3 := ((Keeps.refl (fun _ => False) u3).alloc _).trans KN.out (fun i hi e => by omega)); (have HQv3 := Lib.hid (TT.keep HQu3.out id)); (have HCv3 := Lib.hid (TT.keep HCu3.out id)); (have H1av3 := Lib.hid (TT.keep H1au3.out id)); (have H2av3 := Lib.hid (TT.keep H2au3.out id)); (have HBv3 := Lib.hid (bK HBu3.out TT (fun _ h => h.elim))); (have c0 := cell_at HCv3.out 0); (have c1 := cell_at HCv3.out 1); clear KN TT)
    | (refine wpList_load_row rfl 26 _ rfl _ rfl 26 _ _ _ HQv3.out Try.underlying26 rfl (by kernel_rfl) ?_))
  refine (HU.out _).mono ?_
  rintro e u4 ⟨rfl, hb⟩
  have HBu4 := Lib.hid (bT HBv3.out hb)
  have HQu4 := Lib.hid (hBs hb HQv3.out)
  have HCu4 := Lib.hid (hBs hb HCv3.out)
  have H1au4 := Lib.hid (hBs hb H1av3.out)
  have H2au4 := Lib.hid (hBs hb H2av3.out)
  have H3au4 := Lib.hid (hBs hb H3av3.out)
  clear hb HBv3 HQv3 HCv3 H1av3 H2av3 H3av3
  go_wp2_with (first
    | (refine wpList_store_whole rfl 26 _ _ rfl _ (pgC T1) rfl rfl _ (pgC pageZ) (hN rfl) rfl (by kernel_rfl) (pgC_one _) ?_; intro v4 H4av4 KN; (have TT : Keeps (fun _ => False) u4 v4 := ((Keeps.refl (fun _ => False) u4).alloc _).trans KN.out (fun i hi e => by omega)); (have HQv4 := Lib.hid (TT.keep HQu4.out id)); (have HCv4 := Lib.hid (TT.keep HCu4.out id)); (have H1av4 := Lib.hid (TT.keep H1au4.out id)); (have H2av4 := Lib.hid (TT.keep H2au4.out id)); (have H3av4 := Lib.hid (TT.keep H3au4.out id)); (have HBv4 := Lib.hid (bK HBu4.out TT (fun _ h => h.elim))); (have c0 := cell_at HCv4.out 0); (have c1 := cell_at HCv4.out 1); clear KN TT)
    | (refine wpList_load_row rfl 26 _ rfl _ rfl 26 _ _ _ HQv4.out Try.underlying26 rfl (by kernel_rfl) ?_))
  refine (HS.out _).mono ?_
  rintro e u5 ⟨rfl, hb⟩
  have HBu5 := Lib.hid (bT HBv4.out hb)
  have HQu5 := Lib.hid (hBs hb HQv4.out)
  have HCu5 := Lib.hid (hBs hb HCv4.out)
  have H1au5 := Lib.hid (hBs hb H1av4.out)
  have H2au5 := Lib.hid (hBs hb H2av4.out)
  have H3au5 := Lib.hid (hBs hb H3av4.out)
  have H4au5 := Lib.hid (hBs hb H4av4.out)
  clear hb HBv4 HQv4 HCv4 H1av4 H2av4 H3av4 H4av4
  go_wp2_with (first
    | (refine wpList_store_whole rfl 26 _ _ rfl (u5.heap.size + 1) (pgC S2) rfl rfl _ (pgC pageZ) hz rfl (by kernel_rfl) (pgC_one _) ?_; intro v5 H5bv5 KM; (have TT : Keeps (fun _ => False) u5 v5 := (TS.trans KM.out (fun i hi e => by omega))); (have HQv5 := Lib.hid (TT.keep HQu5.out id)); (have HCv5 := Lib.hid (TT.keep HCu5.out id)); (have H1av5 := Lib.hid (TT.keep H1au5.out id)); (have H2av5 := Lib.hid (TT.keep H2au5.out id)); (have H3av5 := Lib.hid (TT.keep H3au5.out id)); (have H4av5 := Lib.hid (TT.keep H4au5.out id)); (have H5av5 := Lib.hid (KM.out.keep HA.out (by omega))); (have HBv5 := Lib.hid (bK HBu5.out TT (fun _ h => h.elim))); (have c0 := cell_at HCv5.out 0); (have c1 := cell_at HCv5.out 1); clear KM TT TS HA hz)
    | (refine wpList_store_whole rfl 26 _ _ rfl u5.heap.size (pgC S1) rfl rfl _ (pgC pageZ) (hO (hN rfl)) rfl (by kernel_rfl) (pgC_one _) ?_; intro z5 HA KA; (have hz := KA.out.keep (hN (w := u5.alloc (.cells (pgC pageZ) 26)) (n := u5.heap.size + 1) (by simp)) (by omega)); (have TS : Keeps (fun _ => False) u5 z5 := (((Keeps.refl (fun _ => False) u5).alloc _).alloc _).trans KA.out (fun i hi e => by omega)); clear KA)
    | (refine wpList_load_row rfl 26 _ rfl _ rfl 26 _ _ _ HQv5.out Try.underlying26 rfl (by kernel_rfl) ?_))
  refine (HV.out _).mono ?_
  rintro e u6 ⟨rfl, hb⟩
  have HBu6 := Lib.hid (bT HBv5.out hb)
  have HQu6 := Lib.hid (hBs hb HQv5.out)
  have HCu6 := Lib.hid (hBs hb HCv5.out)
  have H1au6 := Lib.hid (hBs hb H1av5.out)
  have H2au6 := Lib.hid (hBs hb H2av5.out)
  have H3au6 := Lib.hid (hBs hb H3av5.out)
  have H4au6 := Lib.hid (hBs hb H4av5.out)
  have H5au6 := Lib.hid (hBs hb H5av5.out)
  have H5bu6 := Lib.hid (hBs hb H5bv5.out)
  clear hb HBv5 HQv5 HCv5 H1av5 H2av5 H3av5 H4av5 H5av5 H5bv5
  go_wp2_with (first
    | (refine wpList_store_whole rfl 26 _ _ rfl (u6.heap.size + 1) (pgC S2) rfl rfl _ (pgC pageZ) hz rfl (by kernel_rfl) (pgC_one _) ?_; intro v6 H6bv6 KM; (have TT : Keeps (fun _ => False) u6 v6 := (TS.trans KM.out (fun i hi e => by omega))); (have HQv6 := Lib.hid (TT.keep HQu6.out id)); (have HCv6 := Lib.hid (TT.keep HCu6.out id)); (have H1av6 := Lib.hid (TT.keep H1au6.out id)); (have H2av6 := Lib.hid (TT.keep H2au6.out id)); (have H3av6 := Lib.hid (TT.keep H3au6.out id)); (have H4av6 := Lib.hid (TT.keep H4au6.out id)); (have H5av6 := Lib.hid (TT.keep H5au6.out id)); (have H5bv6 := Lib.hid (TT.keep H5bu6.out id)); (have H6av6 := Lib.hid (KM.out.keep HA.out (by omega))); (have HBv6 := Lib.hid (bK HBu6.out TT (fun _ h => h.elim))); (have c0 := cell_at HCv6.out 0); (have c1 := cell_at HCv6.out 1); clear KM TT TS HA hz)
    | (refine wpList_store_whole rfl 26 _ _ rfl u6.heap.size (pgC S1) rfl rfl _ (pgC pageZ) (hO (hN rfl)) rfl (by kernel_rfl) (pgC_one _) ?_; intro z6 HA KA; (have hz := KA.out.keep (hN (w := u6.alloc (.cells (pgC pageZ) 26)) (n := u6.heap.size + 1) (by simp)) (by omega)); (have TS : Keeps (fun _ => False) u6 z6 := (((Keeps.refl (fun _ => False) u6).alloc _).alloc _).trans KA.out (fun i hi e => by omega)); clear KA)
    | (refine wpList_load_want (by rfl) 26 _ rfl _ rfl 26 _ _ _ H1av6.out Try.underlying26 rfl (by kernel_rfl) ?_)
    | (refine wpList_load_want (by rfl) 26 _ rfl _ rfl 26 _ _ _ H2av6.out Try.underlying26 rfl (by kernel_rfl) ?_)
    | (refine wpList_load_want (by rfl) 26 _ rfl _ rfl 26 _ _ _ H3av6.out Try.underlying26 rfl (by kernel_rfl) ?_)
    | (refine wpList_load_want (by rfl) 26 _ rfl _ rfl 26 _ _ _ H4av6.out Try.underlying26 rfl (by kernel_rfl) ?_)
    | (refine wpList_load_want (by rfl) 26 _ rfl _ rfl 26 _ _ _ H5av6.out Try.underlying26 rfl (by kernel_rfl) ?_)
    | (refine wpList_load_want (by rfl) 26 _ rfl _ rfl 26 _ _ _ H5bv6.out Try.underlying26 rfl (by kernel_rfl) ?_)
    | (refine wpList_load_want (by rfl) 26 _ rfl _ rfl 26 _ _ _ H6av6.out Try.underlying26 rfl (by kernel_rfl) ?_)
    | (refine wpList_load_want (by rfl) 26 _ rfl _ rfl 26 _ _ _ H6bv6.out Try.underlying26 rfl (by kernel_rfl) ?_)
    | (refine wpList_eq_pg (by rfl) _ _ _ rfl _ rfl rfl ?_))
  go_ret
  exact ⟨rfl, HBv6.out⟩
end Go.Proofs.Ytgealllnchpekaa
