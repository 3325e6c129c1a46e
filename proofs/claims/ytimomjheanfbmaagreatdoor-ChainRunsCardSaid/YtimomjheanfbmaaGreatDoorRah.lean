import Derived.Test.YtimomjheanfbmaaGreatDoorQaa
import Derived.Test.YtimomjheanfbmaaGreatDoorRad
import Derived.Test.YtimomjheanfbmaaGreatDoorQag
import Derived.Test.YtimomjheanfbmaaGreatDoorRaa
import Derived.Test.YtimomjheanfbmaaGreatDoorQai
import Derived.Deep.DeepCutAuto
import Derived.Deep.CutBlock
set_option linter.unusedSimpArgs false
set_option linter.unusedVariables false
namespace Go.Proofs.YtimomjheanfbmaaGreatDoor
open Go.RowKit
def undL (R:Rc):List Value:=[.int .i64 R.uk,.int .i64 R.us,.int .i64 R.up,.int .i64 R.ul,.string R.key,.int .i64 R.bs,.string R.bd]
theorem rc_undo {w:World} {q:Nat} {R:Rc} {iv lv:Value} {T:TypeId} {f:Nat×Nat} (h:w.heap[q]? = some (.cells (rcC R iv lv) T f)):w.rangeAt q 4 (undL R):=World.rangeAt_of_block h 4 7
theorem put_any (x:Int) (wd:Nat) (h1:1≤wd) (h8:wd≤8) (h0:0≤x) (h:x<9223372036854775808):∃P:ByteArray,P.data.toList=nB wd x∧P.size=wd∧Hid (∀w,Calls Tryz.prog 131 #[.int .i64 x,.int .i64 wd] w fun e w'=>e = .returned (.string P)∧Below w.heap.size w w'):=by
 refine⟨leS x wd,rfl,leS_size _ _,fun w=>?_⟩
 have:=ref_put x wd (by omega) (by omega) h0 h w
 rwa[Int.toNat_natCast]at this
theorem rtext_any (s:ByteArray) (hs:s.size≤255):∃P:ByteArray,P.data.toList=tB s∧P.size=s.size+1∧Hid (∀w,Calls Tryz.prog 132 #[.string s] w fun e w'=>e = .returned (.string P)∧Below w.heap.size w w'):=by
 refine⟨textS s,rfl,textS_size _,fun w=>?_⟩
 have HN:=Hd (fun w=>ref_text_ok s (by omega) w)
 go_enter Tryz.func132,Tryz.ntmps132
 go_wp2_with fail
 refine(HN.out _).mono ?_
 rintro e w1 ⟨rfl,hb⟩
 replace hb:=Hd hb
 go_wp2_with fail
 go_ret
 exact⟨rfl,hb.out⟩
theorem range_later {w w':World} {b o:Nat} {cs:List Value} (h:w.rangeAt b o cs) (hb:b<w.heap.size) (k:Below w.heap.size w w'):w'.rangeAt b o cs:=fun j v hv=>(k.cell (p:=⟨b,o+j,none⟩) hb).trans (h j v hv)
theorem list_append' (a b:ByteArray):(a++b).data.toList=a.data.toList++b.data.toList:=by rw[ByteArray.data_append,Array.toList_append]
set_option maxRecDepth 100000 in
set_option maxHeartbeats 16000000 in
theorem rr_encode_ok (R:Rc) (iv lv:Value) (w:World) (h:RcSl w R iv lv) (hok:RcOk R):Calls Tryz.prog 89 #[.agg (rcC R iv lv)] w fun e w'=>e = .returned (.tuple #[.string (rcS R),.int .i64 0])∧Below w.heap.size w w':=by
 have hSa:RcSl (w.alloc (.cells (rcC R iv lv) 65)) R iv lv:=h.later (bA bR)
 have HC:=Hd (rc_right R iv lv _ hSa)
 have HQ:Hid ((w.alloc (.cells (rcC R iv lv) 65)).heap[w.heap.size]? = some (.cells (rcC R iv lv) 65 (0,0))):=hN rfl
 clear hSa
 obtain⟨g1,g2,g3,g4,g5⟩:=h
 obtain⟨a,n,cap,rfl,hn,hnz,hS1⟩:=sl_open g1
 obtain⟨b,m,cap2,rfl,hm,hmz,hS2⟩:=sl_open g2
 rw[List.length_map]at hn hm
 have HS1:=Hd hS1
 have HS2:=Hd hS2
 have HOK:=Hd hok
 clear g1 g2 g3 g4 g5 hS1 hS2
 obtain⟨⟨⟨k1,k2⟩,⟨x1,y1⟩,⟨x2,y2⟩,⟨x3,y3⟩,⟨x4,y4⟩,⟨x5,y5⟩,⟨x6,y6⟩,⟨x7,y7⟩,⟨x8,y8⟩,k3,⟨x9,y9⟩,k4,k5,k6⟩,-⟩:=hok
 obtain⟨P1,l1,z1,H1⟩:=put_any R.kind 1 (by decide) (by decide) (by omega) (by omega)
 obtain⟨P2,l2,z2,H2⟩:=put_any R.xct 4 (by decide) (by decide) (by omega) (by omega)
 obtain⟨P3,l3,z3,H3⟩:=put_any R.prev 8 (by decide) (by decide) (by omega) (by omega)
 obtain⟨P4,l4,z4,H4⟩:=put_any R.next 8 (by decide) (by decide) (by omega) (by omega)
 obtain⟨P5,l5,z5,H5⟩:=put_any R.fresh 4 (by decide) (by decide) (by omega) (by omega)
 obtain⟨P6,l6,z6,H6⟩:=put_any R.uk 1 (by decide) (by decide) (by omega) (by omega)
 obtain⟨P7,l7,z7,H7⟩:=put_any R.us 1 (by decide) (by decide) (by omega) (by omega)
 obtain⟨P8,l8,z8,H8⟩:=put_any R.up 4 (by decide) (by decide) (by omega) (by omega)
 obtain⟨P9,l9,z9,H9⟩:=put_any R.ul 1 (by decide) (by decide) (by omega) (by omega)
 obtain⟨T1,l10,z10,H10⟩:=rtext_any R.key (by omega)
 obtain⟨P10,l11,z11,H11⟩:=put_any R.bs 1 (by decide) (by decide) (by omega) (by omega)
 obtain⟨T2,l12,z12,H12⟩:=rtext_any R.bd (by omega)
 obtain⟨P11,l13,z13,H13⟩:=put_any (n:Int) 1 (by decide) (by decide) (by omega) (by omega)
 obtain⟨P12,l14,z14,H14⟩:=put_any (m:Int) 1 (by decide) (by decide) (by omega) (by omega)
 have hn24:n≤24:=by omega
 have hm8:m≤8:=by omega
 have hhd:Hid ((P1++P2++P3++P4++P5++(P6++P7++P8++P9++T1)++(P10++T2++P11)).data.toList=hdB R):=by
  exact Hd (by simp only[list_append',l1,l2,l3,l4,l5,l6,l7,l8,l9,l10,l11,l12,l13,hdB,List.append_assoc,hn])
 have w1':T1.size≤9:=by omega
 have w2':T2.size≤35:=by omega
 replace hn:=Hd hn
 replace hm:=Hd hm
 replace k5:=Hd k5
 replace k6:=Hd k6
 clear l1 l2 l3 l4 l5 l6 l7 l8 l9 l10 l11 l12 l13 z10 z12 hnz hmz k1 k2 x1 y1 x2 y2 x3 y3 x4 y4 x5 y5 x6 y6 x7 y7 x8 y8 x9 y9 k3 k4
 replace l14:=Hd l14
 go_enter Tryz.func89,Tryz.ntmps89
 go_wp2_with (refine wpList_load_row rfl 65 _ rfl _ rfl 65 _ _ _ HQ.out Tryz.underlying65 rfl (by kernel_rfl) ?_)
 refine(HC.out).mono ?_
 rintro e w1 ⟨h,hb⟩
 obtain rfl:e = .returned (.bool true):=h.elim (fun h=>h.1) (fun h=>absurd HOK.out h.2)
 have HB1:=Hd (bT (bA bR) hb)
 have HQ1:=Hd (hBs hb HQ.out)
 clear hb h HC HQ
 have hw1:=block_lt HQ1.out
 have hru:=Hd (rc_undo HQ1.out)
 go_wp2_with (refine wpList_load_mid rfl 42 _ rfl w.heap.size 4 rfl [.int .i64 R.uk,.int .i64 R.us,.int .i64 R.up,.int .i64 R.ul,.string R.key,.int .i64 R.bs,.string R.bd] _ hru.out Tryz.underlying42 rfl (by kernel_rfl) ?_)
 clear hru
 have HQ:Hid ((w1.alloc (.cells #[.int .i64 R.uk,.int .i64 R.us,.int .i64 R.up,.int .i64 R.ul,.string R.key,.int .i64 R.bs,.string R.bd] 42)).heap[w.heap.size]? = _):=hO HQ1.out
 have HU:Hid ((w1.alloc (.cells #[.int .i64 R.uk,.int .i64 R.us,.int .i64 R.up,.int .i64 R.ul,.string R.key,.int .i64 R.bs,.string R.bd] 42)).heap[w1.heap.size]? = some (.cells #[.int .i64 R.uk,.int .i64 R.us,.int .i64 R.up,.int .i64 R.ul,.string R.key,.int .i64 R.bs,.string R.bd] 42 (0,0))):=hN rfl
 have HB:Hid (Below w.heap.size w (w1.alloc (.cells #[.int .i64 R.uk,.int .i64 R.us,.int .i64 R.up,.int .i64 R.ul,.string R.key,.int .i64 R.bs,.string R.bd] 42))):=bA HB1.out
 go_wp2_with fail
 clear HB1 HQ1
 refine wp_region_held_drew (S:=(fun w'=>w'.heap[w.heap.size]? = some (.cells (rcC R (.slice a n cap) (.slice b m cap2)) 65 (0,0))∧w'.heap[w1.heap.size]? = some (.cells #[.int .i64 R.uk,.int .i64 R.us,.int .i64 R.up,.int .i64 R.ul,.string R.key,.int .i64 R.bs,.string R.bd] 42 (0,0)))) (by kernel_rfl) ⟨HQ.out,HU.out⟩ (fun hHeld=>?_)
 refine tp 0 (v := .pointer (some ⟨w.heap.size,0,none⟩)) hHeld ?_
 go_frame
 refine tk 1 (v := .int .i64 R.kind) rfl (Or.inl ⟨by rfl,?_⟩) hHeld ?_
 ·intro w' hSw
  have c0:=(show w'.cell? ⟨w.heap.size,0,none⟩=some (.int .i64 R.kind) from cell_at hSw.1 0)
  go_simp
  try with_reducible rfl
  try omega
 go_frame
 refine tp 3 (v := .pointer (some ⟨w.heap.size,1,none⟩)) hHeld ?_
 go_frame
 refine tk 4 (v := .int .i64 R.xct) rfl (Or.inl ⟨by rfl,?_⟩) hHeld ?_
 ·intro w' hSw
  have c0:=(show w'.cell? ⟨w.heap.size,1,none⟩=some (.int .i64 R.xct) from cell_at hSw.1 1)
  go_simp
  try with_reducible rfl
  try omega
 go_frame
 refine tp 7 (v := .pointer (some ⟨w.heap.size,2,none⟩)) hHeld ?_
 go_frame
 refine tk 8 (v := .int .i64 R.prev) rfl (Or.inl ⟨by rfl,?_⟩) hHeld ?_
 ·intro w' hSw
  have c0:=(show w'.cell? ⟨w.heap.size,2,none⟩=some (.int .i64 R.prev) from cell_at hSw.1 2)
  go_simp
  try with_reducible rfl
  try omega
 go_frame
 refine tp 11 (v := .pointer (some ⟨w.heap.size,3,none⟩)) hHeld ?_
 go_frame
 refine tk 12 (v := .int .i64 R.next) rfl (Or.inl ⟨by rfl,?_⟩) hHeld ?_
 ·intro w' hSw
  have c0:=(show w'.cell? ⟨w.heap.size,3,none⟩=some (.int .i64 R.next) from cell_at hSw.1 3)
  go_simp
  try with_reducible rfl
  try omega
 go_frame
 refine tp 15 (v := .pointer (some ⟨w.heap.size,13,none⟩)) hHeld ?_
 go_frame
 refine tk 16 (v := .int .i64 R.fresh) rfl (Or.inl ⟨by rfl,?_⟩) hHeld ?_
 ·intro w' hSw
  have c0:=(show w'.cell? ⟨w.heap.size,13,none⟩=some (.int .i64 R.fresh) from cell_at hSw.1 13)
  go_simp
  try with_reducible rfl
  try omega
 go_frame
 refine rd 2 (fun K hK=>?_)
 go_simp
 go_at_call 131
 refine(H1.out _).mono ?_
 rintro e wn ⟨rfl,hb⟩
 replace HQ:=Hd (hBs hb HQ.out)
 replace HU:=Hd (hBs hb HU.out)
 replace HB:=Hd (bT (bD HB.out) hb)
 clear hb
 go_wp2_with fail
 refine hK.out _ _ ⟨HQ.out,HU.out⟩ (fun hHeld=>?_)
 clear hK K
 try go_frame
 refine rd 5 (fun K hK=>?_)
 go_simp
 go_at_call 131
 refine(H2.out _).mono ?_
 rintro e wn ⟨rfl,hb⟩
 replace HQ:=Hd (hBs hb HQ.out)
 replace HU:=Hd (hBs hb HU.out)
 replace HB:=Hd (bT HB.out hb)
 clear hb
 go_wp2_with fail
 refine hK.out _ _ ⟨HQ.out,HU.out⟩ (fun hHeld=>?_)
 clear hK K
 try go_frame
 refine tp 6 (v := .string (P1++P2)) hHeld ?_
 go_frame
 refine rd 9 (fun K hK=>?_)
 go_simp
 go_at_call 131
 refine(H3.out _).mono ?_
 rintro e wn ⟨rfl,hb⟩
 replace HQ:=Hd (hBs hb HQ.out)
 replace HU:=Hd (hBs hb HU.out)
 replace HB:=Hd (bT HB.out hb)
 clear hb
 go_wp2_with fail
 refine hK.out _ _ ⟨HQ.out,HU.out⟩ (fun hHeld=>?_)
 clear hK K
 try go_frame
 refine tp 10 (v := .string (P1++P2++P3)) hHeld ?_
 go_frame
 refine rd 13 (fun K hK=>?_)
 go_simp
 go_at_call 131
 refine(H4.out _).mono ?_
 rintro e wn ⟨rfl,hb⟩
 replace HQ:=Hd (hBs hb HQ.out)
 replace HU:=Hd (hBs hb HU.out)
 replace HB:=Hd (bT HB.out hb)
 clear hb
 go_wp2_with fail
 refine hK.out _ _ ⟨HQ.out,HU.out⟩ (fun hHeld=>?_)
 clear hK K
 try go_frame
 refine tp 14 (v := .string (P1++P2++P3++P4)) hHeld ?_
 go_frame
 refine rd 17 (fun K hK=>?_)
 go_simp
 go_at_call 131
 refine(H5.out _).mono ?_
 rintro e wn ⟨rfl,hb⟩
 replace HQ:=Hd (hBs hb HQ.out)
 replace HU:=Hd (hBs hb HU.out)
 replace HB:=Hd (bT HB.out hb)
 clear hb
 go_wp2_with fail
 refine hK.out _ _ ⟨HQ.out,HU.out⟩ (fun hHeld=>?_)
 clear hK K
 try go_frame
 refine tp 18 (v := .string (P1++P2++P3++P4++P5)) hHeld ?_
 go_frame
 refine tp 19 (v := .string (P1++P2++P3++P4++P5)) hHeld ?_
 go_frame
 refine wpAnyH_done (by kernel_rfl) ?_ _
 obtain⟨Y1,ey1⟩:∃Y,P1++P2++P3++P4++P5=Y:=⟨_,rfl⟩
 have zy1:Y1.size=25:=by rw[←ey1];simp only[bytes_size];omega
 rw[ey1]at hhd ⊢
 replace ey1:=Hd ey1
 clear z1 z2 z3 z4 z5 H1 H2 H3 H4 H5
 go_wp2_with fail
 refine wp_region_held_drew (S:=(fun w'=>w'.heap[w.heap.size]? = some (.cells (rcC R (.slice a n cap) (.slice b m cap2)) 65 (0,0))∧w'.heap[w1.heap.size]? = some (.cells #[.int .i64 R.uk,.int .i64 R.us,.int .i64 R.up,.int .i64 R.ul,.string R.key,.int .i64 R.bs,.string R.bd] 42 (0,0)))) (by kernel_rfl) ⟨HQ.out,HU.out⟩ (fun hHeld=>?_)
 refine tp 0 (v := .string Y1) hHeld ?_
 go_frame
 refine tp 1 (v := .pointer (some ⟨w1.heap.size,0,none⟩)) hHeld ?_
 go_frame
 refine tk 2 (v := .int .i64 R.uk) rfl (Or.inl ⟨by rfl,?_⟩) hHeld ?_
 ·intro w' hSw
  have c0:=(show w'.cell? ⟨w1.heap.size,0,none⟩=some (.int .i64 R.uk) from cell_at hSw.2 0)
  go_simp
  try with_reducible rfl
  try omega
 go_frame
 refine tp 4 (v := .pointer (some ⟨w1.heap.size,1,none⟩)) hHeld ?_
 go_frame
 refine tk 5 (v := .int .i64 R.us) rfl (Or.inl ⟨by rfl,?_⟩) hHeld ?_
 ·intro w' hSw
  have c0:=(show w'.cell? ⟨w1.heap.size,1,none⟩=some (.int .i64 R.us) from cell_at hSw.2 1)
  go_simp
  try with_reducible rfl
  try omega
 go_frame
 refine tp 8 (v := .pointer (some ⟨w1.heap.size,2,none⟩)) hHeld ?_
 go_frame
 refine tk 9 (v := .int .i64 R.up) rfl (Or.inl ⟨by rfl,?_⟩) hHeld ?_
 ·intro w' hSw
  have c0:=(show w'.cell? ⟨w1.heap.size,2,none⟩=some (.int .i64 R.up) from cell_at hSw.2 2)
  go_simp
  try with_reducible rfl
  try omega
 go_frame
 refine tp 12 (v := .pointer (some ⟨w1.heap.size,3,none⟩)) hHeld ?_
 go_frame
 refine tk 13 (v := .int .i64 R.ul) rfl (Or.inl ⟨by rfl,?_⟩) hHeld ?_
 ·intro w' hSw
  have c0:=(show w'.cell? ⟨w1.heap.size,3,none⟩=some (.int .i64 R.ul) from cell_at hSw.2 3)
  go_simp
  try with_reducible rfl
  try omega
 go_frame
 refine tp 16 (v := .pointer (some ⟨w1.heap.size,4,none⟩)) hHeld ?_
 go_frame
 refine tk 17 (v := .string R.key) rfl (Or.inl ⟨by rfl,?_⟩) hHeld ?_
 ·intro w' hSw
  have c0:=(show w'.cell? ⟨w1.heap.size,4,none⟩=some (.string R.key) from cell_at hSw.2 4)
  go_simp
  try with_reducible rfl
  try omega
 go_frame
 refine rd 3 (fun K hK=>?_)
 go_simp
 go_at_call 131
 refine(H6.out _).mono ?_
 rintro e wn ⟨rfl,hb⟩
 replace HQ:=Hd (hBs hb HQ.out)
 replace HU:=Hd (hBs hb HU.out)
 replace HB:=Hd (bT (bD HB.out) hb)
 clear hb
 go_wp2_with fail
 refine hK.out _ _ ⟨HQ.out,HU.out⟩ (fun hHeld=>?_)
 clear hK K
 try go_frame
 refine rd 6 (fun K hK=>?_)
 go_simp
 go_at_call 131
 refine(H7.out _).mono ?_
 rintro e wn ⟨rfl,hb⟩
 replace HQ:=Hd (hBs hb HQ.out)
 replace HU:=Hd (hBs hb HU.out)
 replace HB:=Hd (bT HB.out hb)
 clear hb
 go_wp2_with fail
 refine hK.out _ _ ⟨HQ.out,HU.out⟩ (fun hHeld=>?_)
 clear hK K
 try go_frame
 refine tp 7 (v := .string (P6++P7)) hHeld ?_
 go_frame
 refine rd 10 (fun K hK=>?_)
 go_simp
 go_at_call 131
 refine(H8.out _).mono ?_
 rintro e wn ⟨rfl,hb⟩
 replace HQ:=Hd (hBs hb HQ.out)
 replace HU:=Hd (hBs hb HU.out)
 replace HB:=Hd (bT HB.out hb)
 clear hb
 go_wp2_with fail
 refine hK.out _ _ ⟨HQ.out,HU.out⟩ (fun hHeld=>?_)
 clear hK K
 try go_frame
 refine tp 11 (v := .string (P6++P7++P8)) hHeld ?_
 go_frame
 refine rd 14 (fun K hK=>?_)
 go_simp
 go_at_call 131
 refine(H9.out _).mono ?_
 rintro e wn ⟨rfl,hb⟩
 replace HQ:=Hd (hBs hb HQ.out)
 replace HU:=Hd (hBs hb HU.out)
 replace HB:=Hd (bT HB.out hb)
 clear hb
 go_wp2_with fail
 refine hK.out _ _ ⟨HQ.out,HU.out⟩ (fun hHeld=>?_)
 clear hK K
 try go_frame
 refine tp 15 (v := .string (P6++P7++P8++P9)) hHeld ?_
 go_frame
 refine rd 18 (fun K hK=>?_)
 go_simp
 go_at_call 132
 refine(H10.out _).mono ?_
 rintro e wn ⟨rfl,hb⟩
 replace HQ:=Hd (hBs hb HQ.out)
 replace HU:=Hd (hBs hb HU.out)
 replace HB:=Hd (bT HB.out hb)
 clear hb
 go_wp2_with fail
 refine hK.out _ _ ⟨HQ.out,HU.out⟩ (fun hHeld=>?_)
 clear hK K
 try go_frame
 refine tp 19 (v := .string (P6++P7++P8++P9++T1)) hHeld ?_
 go_frame
 refine tp 20 (v := .string (Y1++(P6++P7++P8++P9++T1))) hHeld ?_
 go_frame
 refine tp 21 (v := .string (Y1++(P6++P7++P8++P9++T1))) hHeld ?_
 go_frame
 refine wpAnyH_done (by kernel_rfl) ?_ _
 obtain⟨Y2,ey2⟩:∃Y,Y1++(P6++P7++P8++P9++T1)=Y:=⟨_,rfl⟩
 have zy2:Y2.size≤41:=by rw[←ey2];simp only[bytes_size];omega
 rw[ey2]at hhd ⊢
 replace ey2:=Hd ey2
 clear z6 z7 z8 z9 w1' zy1 H6 H7 H8 H9 H10
 go_wp2_with fail
 refine wp_region_held_drew (S:=(fun w'=>w'.heap[w.heap.size]? = some (.cells (rcC R (.slice a n cap) (.slice b m cap2)) 65 (0,0))∧w'.heap[w1.heap.size]? = some (.cells #[.int .i64 R.uk,.int .i64 R.us,.int .i64 R.up,.int .i64 R.ul,.string R.key,.int .i64 R.bs,.string R.bd] 42 (0,0)))) (by kernel_rfl) ⟨HQ.out,HU.out⟩ (fun hHeld=>?_)
 refine tp 0 (v := .string Y2) hHeld ?_
 go_frame
 refine tp 1 (v := .pointer (some ⟨w1.heap.size,5,none⟩)) hHeld ?_
 go_frame
 refine tp 2 (v := .pointer (some ⟨w1.heap.size,5,none⟩)) hHeld ?_
 go_frame
 refine tk 3 (v := .int .i64 R.bs) rfl (Or.inl ⟨by rfl,?_⟩) hHeld ?_
 ·intro w' hSw
  have c0:=(show w'.cell? ⟨w1.heap.size,5,none⟩=some (.int .i64 R.bs) from cell_at hSw.2 5)
  go_simp
  try with_reducible rfl
  try omega
 go_frame
 refine tp 5 (v := .pointer (some ⟨w1.heap.size,5,none⟩)) hHeld ?_
 go_frame
 refine tp 6 (v := .pointer (some ⟨w1.heap.size,6,none⟩)) hHeld ?_
 go_frame
 refine tk 7 (v := .string R.bd) rfl (Or.inl ⟨by rfl,?_⟩) hHeld ?_
 ·intro w' hSw
  have c0:=(show w'.cell? ⟨w1.heap.size,6,none⟩=some (.string R.bd) from cell_at hSw.2 6)
  go_simp
  try with_reducible rfl
  try omega
 go_frame
 refine tp 10 (v := .pointer (some ⟨w.heap.size,11,none⟩)) hHeld ?_
 go_frame
 refine tk 11 (v := .slice a n cap) rfl (Or.inl ⟨by rfl,?_⟩) hHeld ?_
 ·intro w' hSw
  have c0:=(show w'.cell? ⟨w.heap.size,11,none⟩=some (.slice a n cap) from cell_at hSw.1 11)
  go_simp
  try with_reducible rfl
  try omega
 go_frame
 refine tp 12 (v := .int .i64 (n:Int)) hHeld ?_
 go_frame
 refine rd 4 (fun K hK=>?_)
 go_simp
 go_at_call 131
 refine(H11.out _).mono ?_
 rintro e wn ⟨rfl,hb⟩
 replace HQ:=Hd (hBs hb HQ.out)
 replace HU:=Hd (hBs hb HU.out)
 replace HB:=Hd (bT (bD HB.out) hb)
 clear hb
 go_wp2_with fail
 refine hK.out _ _ ⟨HQ.out,HU.out⟩ (fun hHeld=>?_)
 clear hK K
 try go_frame
 refine rd 8 (fun K hK=>?_)
 go_simp
 go_at_call 132
 refine(H12.out _).mono ?_
 rintro e wn ⟨rfl,hb⟩
 replace HQ:=Hd (hBs hb HQ.out)
 replace HU:=Hd (hBs hb HU.out)
 replace HB:=Hd (bT HB.out hb)
 clear hb
 go_wp2_with fail
 refine hK.out _ _ ⟨HQ.out,HU.out⟩ (fun hHeld=>?_)
 clear hK K
 try go_frame
 refine tp 9 (v := .string (P10++T2)) hHeld ?_
 go_frame
 refine rd 13 (fun K hK=>?_)
 go_simp
 go_at_call 131
 refine(H13.out _).mono ?_
 rintro e wn ⟨rfl,hb⟩
 replace HQ:=Hd (hBs hb HQ.out)
 replace HU:=Hd (hBs hb HU.out)
 replace HB:=Hd (bT HB.out hb)
 clear hb
 go_wp2_with fail
 refine hK.out _ _ ⟨HQ.out,HU.out⟩ (fun hHeld=>?_)
 clear hK K
 try go_frame
 refine tp 14 (v := .string (P10++T2++P11)) hHeld ?_
 go_frame
 refine tp 15 (v := .string (Y2++(P10++T2++P11))) hHeld ?_
 go_frame
 refine tp 16 (v := .string (Y2++(P10++T2++P11))) hHeld ?_
 go_frame
 refine wpAnyH_done (by kernel_rfl) ?_ _
 obtain⟨Y3,ey3⟩:∃Y,Y2++(P10++T2++P11)=Y:=⟨_,rfl⟩
 rw[ey3]at hhd ⊢
 replace ey3:=Hd ey3
 clear z11 z13 w2' zy2 H11 H12 H13
 have HY:Hid (Y3.data.toList=hdB R++(R.ims.take 0).flatMap imB):=Hd (by rw[hhd.out];simp)
 have c:wn.cell? ⟨w.heap.size,11,none⟩=some (.slice a n cap):=cell_at HQ.out 11
 have hhz:=hdB_length R
 clear hhd HU ey1 ey2 ey3
 go_wp2_with fail
 clear c
 go_loopw [5,6] (fun s i wr=>∃(k:Nat) (Y:ByteArray),k≤n∧i = .int .i64 k∧s = .string Y∧Hid (Y.data.toList=hdB R++(R.ims.take k).flatMap imB)∧Hid (wr.heap[w.heap.size]? = some (.cells (rcC R (.slice a n cap) (.slice b m cap2)) 65 (0,0)))∧Hid (Below w.heap.size w wr)) (fun _ i _=>n-(intOf i).toNat)
 case atStart=>exact⟨0,Y3,by omega,rfl,rfl,HY.out,HQ.out,HB.out⟩
 case round =>
  clear HY HQ HB
  obtain⟨k,Y,hk,rfl,rfl,HY,HQ,HB⟩:=hrel
  have hqr:=block_lt HQ.out
  by_cases hkn:k<n
  ·obtain⟨pb,off,rfl,hpb,hrg⟩:=(HS1.out.later HB.out).elem imL_length (k:=k) (by rw[←hn.out];exact hkn)
   have d11:wr.cell? ⟨w.heap.size,11,none⟩=some (.slice (some ⟨pb,off,none⟩) n cap):=cell_at HQ.out 11
   obtain⟨x,hx⟩:∃x,R.ims[k]'(by rw[←hn.out];exact hkn)=x:=⟨_,rfl⟩
   have hxk:Hid (ImOk x):=HOK.out.2.1 x (hx ▸ List.getElem_mem _)
   have hfl:Hid ((R.ims.take (k+1)).flatMap imB=(R.ims.take k).flatMap imB++imB x):=by
    have:=flat_take imB R.ims k (by rw[←hn.out];exact hkn)
    rw[hx]at this
    exact this
   have hfz:=flat_le imB 228 R.ims k 24 (fun x hx=>imB_length (HOK.out.2.1 x hx)) k5.out
   have hyz:Y.size≤6000:=by
    have:=congrArg List.length HY.out
    rw[list_size,List.length_append]at this
    have:=HOK.out.1.2.2.2.2.2.2.2.2.2.1
    have:=HOK.out.1.2.2.2.2.2.2.2.2.2.2.2.1
    omega
   clear hfz
   rw[hx]at hrg
   replace hx:=Hd hx
   have hrg:=Hd hrg
   have hrg1:Hid (wr.rangeAt pb (off+k*17+1) (pgC x.2).toList):=fun j v hv=>by
    have:=hrg.out (j+1) v hv
    rw[show off+k*17+1+j=off+k*17+(j+1) by omega]
    exact this
   have HC:=Hd (fun w=>rf_encode_ok x.2 hxk.out.2 w)
   unfold pgV at HC
   have hps:=pageS_size hxk.out.2
   have hims:Hid (imB x=nB 4 x.1++(pageS x.2).data.toList):=rfl
   obtain⟨i0,i1⟩:=hxk.out.1
   obtain⟨PX,lx,zx,HX⟩:=put_any x.1 4 (by decide) (by decide) i0 (by omega)
   generalize pageS x.2=BD at *
   replace lx:=Hd lx
   clear i0 i1
   go_wp2_with (refine wpList_load_mid rfl 49 _ rfl pb (off+k*17+1) rfl (pgC x.2).toList _ hrg1.out Tryz.underlying49 rfl (by kernel_rfl) ?_)
   refine(HC.out _).mono ?_
   rintro e w5 ⟨rfl,hb⟩
   have HQ5:=Hd (hBs hb HQ.out)
   have HB5:=Hd (bT HB.out hb)
   have c0:w5.cell? ⟨pb,off+k*17,none⟩=some (.int .i64 x.1):=range_later hrg.out hpb hb 0 _ rfl
   have d12:w5.cell? ⟨w.heap.size,11,none⟩=some (.slice (some ⟨pb,off,none⟩) n cap):=cell_at HQ5.out 11
   clear hb HC HQ HB hrg hrg1 d11
   go_wp2_with fail
   refine(HX.out _).mono ?_
   rintro e w6 ⟨rfl,hb⟩
   have HQ6:=Hd (hBs hb HQ5.out)
   have HB6:=Hd (bT HB5.out hb)
   clear hb HX HQ5 HB5 c0 d12
   go_wp2_with fail
   go_roundw
   case rel =>
    refine⟨k+1,_,by omega,rfl,rfl,?_,HQ6.out,HB6.out⟩
    exact Hd (by rw[list_append',list_append',HY.out,lx.out,hfl.out,hims.out];simp only[List.append_assoc])
   case measure=>simp[intOf];omega
  ·obtain rfl:k=n:=by omega
   have HYi:Hid (Y.data.toList=hdB R++R.ims.flatMap imB):=by
    have h:=HY.out
    rw[hn.out,List.take_length]at h
    exact h
   have hfz:=flat_le imB 228 R.ims k 24 (fun x hx=>imB_length (HOK.out.2.1 x hx)) k5.out
   have hyz:Y.size≤6000:=by
    have:=congrArg List.length HY.out
    rw[list_size,List.length_append]at this
    have:=HOK.out.1.2.2.2.2.2.2.2.2.2.1
    have:=HOK.out.1.2.2.2.2.2.2.2.2.2.2.2.1
    omega
   clear hfz HS1 hkn hk HY
   have d11:wr.cell? ⟨w.heap.size,11,none⟩=some (.slice a k cap):=cell_at HQ.out 11
   have d12:wr.cell? ⟨w.heap.size,12,none⟩=some (.slice b m cap2):=cell_at HQ.out 12
   go_wp2_with fail
   refine(H14.out _).mono ?_
   rintro e w5 ⟨rfl,hb⟩
   have HQ5:=Hd (hBs hb HQ.out)
   have HB5:=Hd (bT HB.out hb)
   have HY5:Hid ((Y++P12).data.toList=hdB R++R.ims.flatMap imB++nB 1 (R.lvs.length:Int)++(R.lvs.take 0).flatMap lvB):=by
    have h:=l14.out
    rw[hm.out]at h
    exact Hd (by rw[list_append',HYi.out,h];simp)
   clear hb HQ HB H14 d11 d12 HYi
   go_wp2_with fail
   go_loopw [5,9] (fun s i wr=>∃(j:Nat) (Y:ByteArray),j≤m∧i = .int .i64 j∧s = .string Y∧Hid (Y.data.toList=hdB R++R.ims.flatMap imB++nB 1 (R.lvs.length:Int)++(R.lvs.take j).flatMap lvB)∧Hid (wr.heap[w.heap.size]? = some (.cells (rcC R (.slice a k cap) (.slice b m cap2)) 65 (0,0)))∧Hid (Below w.heap.size w wr)) (fun _ i _=>m-(intOf i).toNat)
   case atStart=>exact⟨0,_,by omega,rfl,rfl,HY5.out,HQ5.out,HB5.out⟩
   case round =>
    clear HY5 HQ5 HB5 hyz z14 l14 hqr
    obtain⟨j,Y,hj,rfl,rfl,HY,HQ,HB⟩:=hrel
    have hqr:=block_lt HQ.out
    by_cases hjm:j<m
    ·obtain⟨pb,off,rfl,hpb,hrg⟩:=(HS2.out.later HB.out).elem lvL_length (k:=j) (by rw[←hm.out];exact hjm)
     have d12:wr.cell? ⟨w.heap.size,12,none⟩=some (.slice (some ⟨pb,off,none⟩) m cap2):=cell_at HQ.out 12
     obtain⟨x,hx⟩:∃x,R.lvs[j]'(by rw[←hm.out];exact hjm)=x:=⟨_,rfl⟩
     have hxk:Hid (LvOk x):=HOK.out.2.2 x (hx ▸ List.getElem_mem _)
     have hfl:Hid ((R.lvs.take (j+1)).flatMap lvB=(R.lvs.take j).flatMap lvB++lvB x):=by
      have:=flat_take lvB R.lvs j (by rw[←hm.out];exact hjm)
      rw[hx]at this
      exact this
     have hyz:Y.size≤6000:=by
      have h1:=congrArg List.length HY.out
      have h2:=flat_le lvB 20 R.lvs j 8 (fun x hx=>lvB_length x) k6.out
      have h3:=flat_length imB 228 R.ims (fun x hx=>imB_length (HOK.out.2.1 x hx))
      rw[list_size,List.length_append,List.length_append,List.length_append,nB_length]at h1
      have h4:=k5.out
      have:=HOK.out.1.2.2.2.2.2.2.2.2.2.1
      have:=HOK.out.1.2.2.2.2.2.2.2.2.2.2.2.1
      omega
     rw[hx]at hrg
     replace hx:=Hd hx
     have hrg:Hid (wr.rangeAt pb (off+j*3) [.int .i64 x.1,.int .i64 x.2.1,.int .i64 x.2.2]):=hrg
     obtain⟨x1,x2,x3⟩:=x
     dsimp only at hrg
     have hlv:Hid (lvB (x1,x2,x3)=nB 4 x1++nB 8 x2++nB 8 x3):=rfl
     obtain⟨⟨i1,i2⟩,⟨i3,i4⟩,⟨i5,i6⟩⟩:=hxk.out
     dsimp only at i1 i2 i3 i4 i5 i6
     obtain⟨Q1,l1,z1,H1⟩:=put_any x1 4 (by decide) (by decide) i1 (by omega)
     obtain⟨Q2,l2,z2,H2⟩:=put_any x2 8 (by decide) (by decide) i3 (by omega)
     obtain⟨Q3,l3,z3,H3⟩:=put_any x3 8 (by decide) (by decide) i5 (by omega)
     have hql:Hid ((Y++(Q1++Q2++Q3)).data.toList=hdB R++R.ims.flatMap imB++nB 1 (R.lvs.length:Int)++(R.lvs.take (j+1)).flatMap lvB) :=
      Hd (by rw[list_append',list_append',list_append',HY.out,l1,l2,l3,hfl.out,hlv.out];simp only[List.append_assoc])
     clear l1 l2 l3 i1 i2 i3 i4 i5 i6 hlv hfl hxk
     have HX:Hid ((wr.alloc (.cells #[.int .i64 x1,.int .i64 x2,.int .i64 x3] 61)).heap[wr.heap.size]? = some (.cells #[.int .i64 x1,.int .i64 x2,.int .i64 x3] 61 (0,0))):=hN rfl
     have HQ1:Hid ((wr.alloc (.cells #[.int .i64 x1,.int .i64 x2,.int .i64 x3] 61)).heap[w.heap.size]? = _):=hO HQ.out
     have HB1:Hid (Below w.heap.size w (wr.alloc (.cells #[.int .i64 x1,.int .i64 x2,.int .i64 x3] 61))):=bA HB.out
     clear HB HQ HY
     go_wp2_with (refine wpList_load_mid rfl 61 _ rfl pb (off+j*3) rfl [.int .i64 x1,.int .i64 x2,.int .i64 x3] _ hrg.out Tryz.underlying61 rfl (by kernel_rfl) ?_)
     refine wp_region_held_drew (S:=fun w'=>w'.heap[wr.heap.size]? = some (.cells #[.int .i64 x1,.int .i64 x2,.int .i64 x3] 61 (0,0))) (by kernel_rfl) HX.out (fun hHeld=>?_)
     refine tp 0 (v := .string Y) hHeld ?_
     go_frame
     refine tp 1 (v := .pointer (some ⟨wr.heap.size,0,none⟩)) hHeld ?_
     go_frame
     refine tk 2 (v := .int .i64 x1) rfl (Or.inl ⟨by rfl,?_⟩) hHeld ?_
     ·intro w' hSw
      have c0:=(show w'.cell? ⟨wr.heap.size,0,none⟩=some (.int .i64 x1) from cell_at hSw 0)
      go_simp
      try with_reducible rfl
      try omega
     go_frame
     refine tp 4 (v := .pointer (some ⟨wr.heap.size,1,none⟩)) hHeld ?_
     go_frame
     refine tk 5 (v := .int .i64 x2) rfl (Or.inl ⟨by rfl,?_⟩) hHeld ?_
     ·intro w' hSw
      have c0:=(show w'.cell? ⟨wr.heap.size,1,none⟩=some (.int .i64 x2) from cell_at hSw 1)
      go_simp
      try with_reducible rfl
      try omega
     go_frame
     refine tp 8 (v := .pointer (some ⟨wr.heap.size,2,none⟩)) hHeld ?_
     go_frame
     refine tk 9 (v := .int .i64 x3) rfl (Or.inl ⟨by rfl,?_⟩) hHeld ?_
     ·intro w' hSw
      have c0:=(show w'.cell? ⟨wr.heap.size,2,none⟩=some (.int .i64 x3) from cell_at hSw 2)
      go_simp
      try with_reducible rfl
      try omega
     go_frame
     refine rd 3 (fun K hK=>?_)
     go_simp
     go_at_call 131
     refine(H1.out _).mono ?_
     rintro e wn ⟨rfl,hb⟩
     replace HX:=Hd (hBs hb HX.out)
     replace HQ1:=Hd (hBs hb HQ1.out)
     replace HB1:=Hd (bT (bD HB1.out) hb)
     clear hb
     go_wp2_with fail
     refine hK.out _ _ HX.out (fun hHeld=>?_)
     clear hK K
     try go_frame
     refine rd 6 (fun K hK=>?_)
     go_simp
     go_at_call 131
     refine(H2.out _).mono ?_
     rintro e wn ⟨rfl,hb⟩
     replace HX:=Hd (hBs hb HX.out)
     replace HQ1:=Hd (hBs hb HQ1.out)
     replace HB1:=Hd (bT HB1.out hb)
     clear hb
     go_wp2_with fail
     refine hK.out _ _ HX.out (fun hHeld=>?_)
     clear hK K
     try go_frame
     refine tp 7 (v := .string (Q1++Q2)) hHeld ?_
     go_frame
     refine rd 10 (fun K hK=>?_)
     go_simp
     go_at_call 131
     refine(H3.out _).mono ?_
     rintro e wn ⟨rfl,hb⟩
     replace HX:=Hd (hBs hb HX.out)
     replace HQ1:=Hd (hBs hb HQ1.out)
     replace HB1:=Hd (bT HB1.out hb)
     clear hb
     go_wp2_with fail
     refine hK.out _ _ HX.out (fun hHeld=>?_)
     clear hK K
     try go_frame
     refine tp 11 (v := .string (Q1++Q2++Q3)) hHeld ?_
     go_frame
     refine tp 12 (v := .string (Y++(Q1++Q2++Q3))) hHeld ?_
     go_frame
     refine tp 13 (v := .string (Y++(Q1++Q2++Q3))) hHeld ?_
     go_frame
     refine wpAnyH_done (by kernel_rfl) ?_ _
     go_wp2_with fail
     go_roundw
     case rel=>exact⟨j+1,_,by omega,rfl,rfl,hql.out,HQ1.out,HB1.out⟩
     case measure=>simp[intOf];omega
    ·obtain rfl:j=m:=by omega
     have hfin:Hid (Y=rcS R):=by
      have h:=HY.out
      rw[hm.out,List.take_length]at h
      exact Hd (ba_ext (by rw[rcS_list];exact h))
     have d12:wr.cell? ⟨w.heap.size,12,none⟩=some (.slice b j cap2):=cell_at HQ.out 12
     go_wp2_with fail
     go_ret2
     rw[hfin.out]
     exact⟨rfl,HB.out⟩
end Go.Proofs.YtimomjheanfbmaaGreatDoor
namespace Go.Proofs.YtimomjheanfbmaaGreatDoor
open Go.RowKit
theorem eq_cell7 (s:Int) (d:ByteArray) (s':Int) (d':ByteArray) (w:World):(Op.equalIn 9997 33 (.agg #[.int .i64 s,.string d]) (.agg #[.int .i64 s',.string d'])).run Tryz.prog w = .ok (eqCl s d s' d') w:=by
 have u1:=Tryz.underlying33
 unfold eqCl
 cases h1:(s==s') <;> cases h2:(d.toList==d'.toList) <;> (go_simp)
theorem eq_arr6b (X Y:Pg) (w:World):(Op.equalIn 9998 47 (.agg (pgA X)) (.agg (pgA Y))).run Tryz.prog w =
  .ok (eqCl (X.st 0) (X.dt 0) (Y.st 0) (Y.dt 0)&&(eqCl (X.st 1) (X.dt 1) (Y.st 1) (Y.dt 1)&&(eqCl (X.st 2) (X.dt 2) (Y.st 2) (Y.dt 2)&&(eqCl (X.st 3) (X.dt 3) (Y.st 3) (Y.dt 3)&&(eqCl (X.st 4) (X.dt 4) (Y.st 4) (Y.dt 4)&&eqCl (X.st 5) (X.dt 5) (Y.st 5) (Y.dt 5)))))) w:=by
 obtain⟨i0,hi,hz0,hz1,hz2⟩:=info_parts Tryz.info_cell
 have hs:(sizeOf 33).run Tryz.prog w = .ok 2 w:=by simp[sizeOf,typeInfo,hi,hz1]
 unfold pgA
 rw[run_equalIn_array w 9997 47 33 6 i0 _ _ Tryz.underlying47 hi,hz1]
 have hr:List.range 6=[0,1,2,3,4,5]:=rfl
 rw[hr]
 have e0:=eq_cell7 (X.st 0) (X.dt 0) (Y.st 0) (Y.dt 0) w
 have e1:=eq_cell7 (X.st 1) (X.dt 1) (Y.st 1) (Y.dt 1) w
 have e2:=eq_cell7 (X.st 2) (X.dt 2) (Y.st 2) (Y.dt 2) w
 have e3:=eq_cell7 (X.st 3) (X.dt 3) (Y.st 3) (Y.dt 3) w
 have e4:=eq_cell7 (X.st 4) (X.dt 4) (Y.st 4) (Y.dt 4) w
 have e5:=eq_cell7 (X.st 5) (X.dt 5) (Y.st 5) (Y.dt 5) w
 generalize eqCl (X.st 0) _ _ _=b0 at *
 generalize eqCl (X.st 1) _ _ _=b1 at *
 generalize eqCl (X.st 2) _ _ _=b2 at *
 generalize eqCl (X.st 3) _ _ _=b3 at *
 generalize eqCl (X.st 4) _ _ _=b4 at *
 generalize eqCl (X.st 5) _ _ _=b5 at *
 cases b0 with
 | false=>simp[eqElems,part,isAgg,Sem.run_bind,run_underlying Tryz.underlying33,Result.andThen_ok,Sem.run_pure,Sem.run_ite,hs,e0,e1,e2,e3,e4,e5]
 | true =>
  cases b1 with
  | false=>simp[eqElems,part,isAgg,Sem.run_bind,run_underlying Tryz.underlying33,Result.andThen_ok,Sem.run_pure,Sem.run_ite,hs,e0,e1,e2,e3,e4,e5]
  | true =>
   cases b2 with
   | false=>simp[eqElems,part,isAgg,Sem.run_bind,run_underlying Tryz.underlying33,Result.andThen_ok,Sem.run_pure,Sem.run_ite,hs,e0,e1,e2,e3,e4,e5]
   | true =>
    cases b3 with
    | false=>simp[eqElems,part,isAgg,Sem.run_bind,run_underlying Tryz.underlying33,Result.andThen_ok,Sem.run_pure,Sem.run_ite,hs,e0,e1,e2,e3,e4,e5]
    | true =>
     cases b4 with
     | false=>simp[eqElems,part,isAgg,Sem.run_bind,run_underlying Tryz.underlying33,Result.andThen_ok,Sem.run_pure,Sem.run_ite,hs,e0,e1,e2,e3,e4,e5]
     | true =>
      cases b5 with
      | false=>simp[eqElems,part,isAgg,Sem.run_bind,run_underlying Tryz.underlying33,Result.andThen_ok,Sem.run_pure,Sem.run_ite,hs,e0,e1,e2,e3,e4,e5]
      | true =>
       simp[eqElems,part,isAgg,Sem.run_bind,run_underlying Tryz.underlying33,Result.andThen_ok,Sem.run_pure,Sem.run_ite,hs,e0,e1,e2,e3,e4,e5]
def eqIm (x y:Int×Pg):Bool:=x.1==y.1&&eqPg x.2 y.2
set_option maxRecDepth 100000 in
set_option maxHeartbeats 3200000 in
theorem run_ne_im (x y:Int×Pg) (w:World):(binOp .neq 51 (.agg (imA x)) (.agg (imA y))).run Tryz.prog w = .ok (.bool (!eqIm x y)) w:=by
 have u1:=Tryz.underlying51
 have u2:=Tryz.underlying49
 have h6:=eq_arr6b x.2 y.2 w
 unfold eqIm eqPg
 unfold pgA at h6
 unfold imA imL pgC
 generalize (eqCl (x.2.st 0) _ _ _&&_)=b at *
 cases h0:(x.1==y.1) with
 | false=>go_simp
 | true =>
  cases h1:(x.2.kind==y.2.kind) with
  | false=>go_simp
  | true =>
   cases h2:(x.2.level==y.2.level) with
   | false=>go_simp
   | true =>
    cases h3:(x.2.store==y.2.store) with
    | false=>go_simp
    | true =>
     cases h4:(x.2.next==y.2.next) with
     | false=>go_simp
     | true=>cases b <;> go_simp
def eqLv (x y:Int×Int×Int):Bool:=x.1==y.1&&(x.2.1==y.2.1&&x.2.2==y.2.2)
theorem run_ne_lv (x y:Int×Int×Int) (w:World):(binOp .neq 61 (.agg (lvL x).toArray) (.agg (lvL y).toArray)).run Tryz.prog w = .ok (.bool (!eqLv x y)) w:=by
 have u1:=Tryz.underlying61
 unfold eqLv lvL
 cases h1:(x.1==y.1) with
 | false=>go_simp
 | true =>
  cases h2:(x.2.1==y.2.1) with
  | false=>go_simp
  | true=>cases h3:(x.2.2==y.2.2) <;> go_simp
def eqUn (A B:Rc):Bool:=A.uk==B.uk&&(A.us==B.us&&(A.up==B.up&&(A.ul==B.ul&&(A.key.toList==B.key.toList&&eqCl A.bs A.bd B.bs B.bd))))
set_option maxRecDepth 100000 in
set_option maxHeartbeats 3200000 in
theorem run_ne_un (A B:Rc) (w:World):(binOp .neq 42 (.agg (undL A).toArray) (.agg (undL B).toArray)).run Tryz.prog w = .ok (.bool (!eqUn A B)) w:=by
 have u1:=Tryz.underlying42
 have u2:=Tryz.underlying33
 unfold eqUn undL eqCl
 cases h1:(A.uk==B.uk) with
 | false=>go_simp
 | true =>
  cases h2:(A.us==B.us) with
  | false=>go_simp
  | true =>
   cases h3:(A.up==B.up) with
   | false=>go_simp
   | true =>
    cases h4:(A.ul==B.ul) with
    | false=>go_simp
    | true =>
     cases h5:(A.key.toList==B.key.toList) with
     | false=>go_simp
     | true =>
      cases h6:(A.bs==B.bs) with
      | false=>go_simp
      | true=>cases h7:(A.bd.toList==B.bd.toList) <;> go_simp
theorem wp_ne_un {o:Oper} {a:Act} {w:World} {K:Act→World→Prop} {Q:Exit→Act→World→Prop} (x y:Operand) (r:TypeId) (ho:o.op = .binOp .neq 42 x y r)
  (A B:Rc) (b:Bool) (hb:(!eqUn A B)=b) (hx:a.eval x = .agg (undL A).toArray) (hy:a.eval y = .agg (undL B).toArray) (h:K (a.put o.dst (.bool b)) w):o.wp Tryz.prog a w K Q:=by
 subst hb
 unfold Oper.wp execOp
 simp only[ho,hx,hy,Sem.run_bind,Sem.run_pure,Result.andThen_ok,run_eqGuard_agg (P:=Tryz.prog) w .neq 42 x y _ _ (by kernel_rfl),run_ne_un A B w]
 exact h
theorem yieldsIf_ne_im {ops:Array Oper} {Sx:World→Prop} {oi:Oper} {a:Act} (hw:Region.wanted oi (yielded ops a.tmps)=true) (x y:Operand) (r:TypeId) (ho:oi.op = .binOp .neq 51 x y r)
  (X Y:Int×Pg) (b:Bool) (hb:(!eqIm X Y)=b) (hx:a.eval x = .agg (imA X)) (hy:a.eval y = .agg (imA Y)):YieldsIf Tryz.prog ops Sx oi (.bool b) a :=
 .inl ⟨hw,fun w _=>by
  subst hb
  unfold execOp
  simp only[ho,hx,hy,Sem.run_bind,Sem.run_pure,Result.andThen_ok,run_eqGuard_agg (P:=Tryz.prog) w .neq 51 x y _ _ (by kernel_rfl),run_ne_im X Y w]⟩
theorem yieldsIf_ne_lv {ops:Array Oper} {Sx:World→Prop} {oi:Oper} {a:Act} (hw:Region.wanted oi (yielded ops a.tmps)=true) (x y:Operand) (r:TypeId) (ho:oi.op = .binOp .neq 61 x y r)
  (X Y:Int×Int×Int) (b:Bool) (hb:(!eqLv X Y)=b) (hx:a.eval x = .agg (lvL X).toArray) (hy:a.eval y = .agg (lvL Y).toArray):YieldsIf Tryz.prog ops Sx oi (.bool b) a :=
 .inl ⟨hw,fun w _=>by
  subst hb
  unfold execOp
  simp only[ho,hx,hy,Sem.run_bind,Sem.run_pure,Result.andThen_ok,run_eqGuard_agg (P:=Tryz.prog) w .neq 61 x y _ _ (by kernel_rfl),run_ne_lv X Y w]⟩
theorem eqPg_iff (X Y:Pg):eqPg X Y=true↔pgC X=pgC Y:=by
 refine⟨fun h=>?_,eqPg_same⟩
 unfold eqPg at h
 simp only[Bool.and_eq_true,beq_iff_eq,eqCl_iff]at h
 obtain⟨h1,h2,h3,h4,h5,h6,h7,h8,h9,h10⟩:=h
 unfold pgC
 rw[h1,h2,h3,h4,h5.1,h5.2,h6.1,h6.2,h7.1,h7.2,h8.1,h8.2,h9.1,h9.2,h10.1,h10.2]
theorem eqIm_iff (x y:Int×Pg):eqIm x y=true↔imC x=imC y:=by
 unfold eqIm imC
 rw[Bool.and_eq_true,beq_iff_eq,eqPg_iff,Prod.mk.injEq]
theorem eqLv_iff (x y:Int×Int×Int):eqLv x y=true↔x=y:=by
 obtain⟨x1,x2,x3⟩:=x
 obtain⟨y1,y2,y3⟩:=y
 unfold eqLv
 simp
theorem eqUn_iff (A B:Rc):eqUn A B=true↔A.uk=B.uk∧A.us=B.us∧A.up=B.up∧A.ul=B.ul∧A.key=B.key∧A.bs=B.bs∧A.bd=B.bd:=by
 unfold eqUn
 simp only[Bool.and_eq_true,beq_iff_eq,eqCl_iff]
 constructor
 ·rintro⟨h1,h2,h3,h4,h5,h6,h7⟩
  rw[ByteArray.toList_eq,ByteArray.toList_eq]at h5
  exact⟨h1,h2,h3,h4,ba_ext h5,h6,h7⟩
 ·rintro⟨h1,h2,h3,h4,h5,h6,h7⟩
  exact⟨h1,h2,h3,h4,by rw[h5],h6,h7⟩
end Go.Proofs.YtimomjheanfbmaaGreatDoor
