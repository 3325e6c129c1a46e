import Derived.Test.YtimomjheanfbmaaGreatDoorQaa
import Derived.Test.YtimomjheanfbmaaGreatDoorQaf
import Derived.Test.YtimomjheanfbmaaGreatDoorQad
set_option linter.unusedSimpArgs false
set_option linter.unusedVariables false
namespace Go.Proofs.YtimomjheanfbmaaGreatDoor
open Go.RowKit
def Besides (b:Nat) (w w':World):Prop:=∀(k:Nat) (C:Array Value) (T:TypeId) (f:Nat×Nat),k≠b→T≠5→w.heap[k]? = some (.cells C T f)→w'.heap[k]? = some (.cells C T f)
theorem Besides.of_below {b:Nat} {w w':World} (h:Below w.heap.size w w'):Besides b w w':=fun k C T f _ _ hk=>hBs h hk
theorem Besides.trans {b:Nat} {w w' w'':World} (h:Besides b w w') (h':Besides b w' w''):Besides b w w'':=fun k C T f h1 h2 hk=>h' k C T f h1 h2 (h k C T f h1 h2 hk)
theorem Besides.of_kept {b:Nat} {w w':World} (h:Lib.OthersKept 5 (some b) w w'):Besides b w w':=fun k C T f h1 h2 hk=>kept_block h hk h1 h2
theorem num_fits {n:Int} {w:Nat} (hw:w≤8) (h0:0≤n) (h:n<256^w):((w:Int)<8→n/2^(8*((w:Int)).toNat)=0):=fun _=>by
 rw[Int.toNat_natCast,two_pow_8]
 exact Int.ediv_eq_zero_of_lt h0 h
set_option maxHeartbeats 1600000 in
theorem rc_num (n:Int) (wd:Nat) (h1:1≤wd) (h8:wd≤8) (h0:0≤n) (hn:n<256^wd) (h63:n≤9223372036854775807) (b:Nat) (l:List UInt8) (hl:l.length≤100000) (w:World) (hB:BdAt w b l) :
  Calls Tryz.prog 136 #[.int .i64 n,.int .i64 wd,.pointer (some ⟨b,0,none⟩)] w fun e w'=>e = .returned (.tuple #[])∧BdAt w' b (l++nB wd n)∧Below b w w'∧Besides b w w':=by
 have hbw:=hB.lt
 have HB:=Hd hB
 have HN:=Hd (fun w=>oct_num_ok n wd (by omega) (by omega) h0 (num_fits h8 h0 hn) w)
 rw[Int.toNat_natCast]at HN
 have hz:(leS n wd).size=wd:=leS_size _ _
 have hs:Hid ((leS n wd).data.toList=nB wd n):=rfl
 replace hn:=Hd hn
 clear hB
 go_enter Tryz.func136,Tryz.ntmps136
 go_wp2_with fail
 refine(HN.out _).mono ?_
 rintro e w1 ⟨rfl,hb⟩
 have HB1:=Hd (HB.out.later hb)
 have HW1:=Hd hb
 clear hb HB HN
 go_wp2_with fail
 refine(bd_string b l _ _ HB1.out (by omega)).mono ?_
 rintro e w2 ⟨rfl,HB2,hb,hk⟩
 replace HB2:=Hd HB2
 replace hk:=Hd hk
 replace hb:=Hd hb
 go_wp2_with fail
 refine bodyPost_end (results_none Tryz.results136 _ _ _) rfl ⟨rfl,?_,(HW1.out.mono (by omega)).trans hb.out,(Besides.of_below HW1.out).trans (Besides.of_kept hk.out)⟩
 rw[←hs.out]
 exact HB2.out
set_option maxHeartbeats 1600000 in
theorem rc_text (s:ByteArray) (hs:s.size≤255) (b:Nat) (l:List UInt8) (hl:l.length≤100000) (w:World) (hB:BdAt w b l) :
  Calls Tryz.prog 137 #[.string s,.pointer (some ⟨b,0,none⟩)] w fun e w'=>e = .returned (.tuple #[])∧BdAt w' b (l++tB s)∧Below b w w'∧Besides b w w':=by
 have hbw:=hB.lt
 have HB:=Hd hB
 have HN:=Hd (fun w=>oct_text_ok s (by omega) w)
 have hz:(textS s).size=s.size+1:=textS_size _
 have ht:Hid ((textS s).data.toList=tB s):=rfl
 clear hB
 go_enter Tryz.func137,Tryz.ntmps137
 go_wp2_with fail
 refine(HN.out _).mono ?_
 rintro e w1 ⟨rfl,hb⟩
 have HB1:=Hd (HB.out.later hb)
 have HW1:=Hd hb
 clear hb HB HN
 go_wp2_with fail
 refine(bd_string b l _ _ HB1.out (by omega)).mono ?_
 rintro e w2 ⟨rfl,HB2,hb,hk⟩
 replace HB2:=Hd HB2
 replace hk:=Hd hk
 replace hb:=Hd hb
 go_wp2_with fail
 refine bodyPost_end (results_none Tryz.results137 _ _ _) rfl ⟨rfl,?_,(HW1.out.mono (by omega)).trans hb.out,(Besides.of_below HW1.out).trans (Besides.of_kept hk.out)⟩
 rw[←ht.out]
 exact HB2.out
theorem flat_take {α:Type} (f:α→List UInt8) (l:List α) (k:Nat) (hk:k<l.length):(l.take (k+1)).flatMap f=(l.take k).flatMap f++f l[k]:=by
 rw[List.take_succ_eq_append_getElem hk,List.flatMap_append]
 simp
theorem flat_le {α:Type} (f:α→List UInt8) (m:Nat) (l:List α) (k n:Nat) (h:∀x∈l,(f x).length=m) (hn:l.length≤n):((l.take k).flatMap f).length≤m*n:=by
 rw[flat_length f m _ (fun x hx=>h x (List.mem_of_mem_take hx)),List.length_take]
 exact Nat.mul_le_mul_left _ (by omega)
set_option maxRecDepth 100000 in
set_option maxHeartbeats 16000000 in
theorem rc_encode_ok (R:Rc) (iv lv:Value) (w:World) (h:RcSl w R iv lv) (hok:RcOk R):Calls Tryz.prog 104 #[.agg (rcC R iv lv)] w fun e w'=>e = .returned (.tuple #[.string (rcS R),.int .i64 0])∧Below w.heap.size w w':=by
 have hSa:RcSl (w.alloc (.cells (rcC R iv lv) 65)) R iv lv:=h.later (bA bR)
 have HC:=Hd (rc_check R iv lv _ hSa)
 have HQ:Hid ((w.alloc (.cells (rcC R iv lv) 65)).heap[w.heap.size]? = some (.cells (rcC R iv lv) 65 (0,0))):=hN rfl
 clear hSa
 obtain⟨g1,g2,g3,g4,g5⟩:=h
 obtain⟨a,n,cap,rfl,hn,hnz,hS1⟩:=sl_open g1
 obtain⟨b,m,cap2,rfl,hm,hmz,hS2⟩:=sl_open g2
 rw[List.length_map]at hn hm
 have HS1:=Hd hS1
 have HS2:=Hd hS2
 have HOK:=Hd hok
 clear g1 g2 g3 g4 g5 hS1 hS2
 obtain⟨⟨⟨k1,k2⟩,⟨x1,y1⟩,⟨x2,y2⟩,⟨x3,y3⟩,⟨x4,y4⟩,⟨x5,y5⟩,⟨x6,y6⟩,⟨x7,y7⟩,⟨x8,y8⟩,k3,⟨x9,y9⟩,k4,k5,k6⟩,-⟩:=hok
 have hn24:n≤24:=by omega
 have hm8:m≤8:=by omega
 replace hn:=Hd hn
 replace hm:=Hd hm
 replace k5:=Hd k5
 replace k6:=Hd k6
 clear hnz hmz
 go_enter Tryz.func104,Tryz.ntmps104
 go_wp2_with (refine wpList_load_row rfl 65 _ rfl _ rfl 65 _ _ _ HQ.out Tryz.underlying65 rfl (by kernel_rfl) ?_)
 refine(HC.out).mono ?_
 rintro e w1 ⟨h,hb⟩
 obtain rfl:e = .returned (.int .i64 0):=h.elim (fun h=>h.1) (fun h=>absurd HOK.out h.2)
 have HB1:=Hd (bT (bA bR) hb)
 have HQ1:=Hd (hBs hb HQ.out)
 clear hb h HC HQ
 have hw1:=block_lt HQ1.out
 have HQa:Hid ((w1.alloc (.cells #[.pointer none,.slice none 0 0] 212)).heap[w.heap.size]? = _):=hO HQ1.out
 have c:(w1.alloc (.cells #[.pointer none,.slice none 0 0] 212)).cell? ⟨w.heap.size,0,none⟩=some (.int .i64 R.kind):=cell_at HQa.out 0
 have HBd:Hid (BdAt (w1.alloc (.cells #[.pointer none,.slice none 0 0] 212)) w1.heap.size []):=BdAt.new _
 have HBa:Hid (Below w.heap.size w (w1.alloc (.cells #[.pointer none,.slice none 0 0] 212))):=bA HB1.out
 go_wp2_with fail
 refine(rc_num R.kind 1 (by decide) (by decide) (by omega) (by omega) (by omega) _ _ (by simp only[List.length_append,List.length_nil,nB_length,tB_length];omega) _ HBd.out).mono ?_
 rintro e w2 ⟨rfl,hBd,hb,-⟩
 have HQ2:=Hd (hB hb (by omega) HQa.out)
 have HB2:=Hd (bB HBa.out (by omega) hb)
 replace HBd:=Hd hBd
 clear hb hBd c HQa HBa
 have c:w2.cell? ⟨w.heap.size,1,none⟩=some (.int .i64 R.xct):=cell_at HQ2.out 1
 go_wp2_with fail
 refine(rc_num R.xct 4 (by decide) (by decide) (by omega) (by omega) (by omega) _ _ (by simp only[List.length_append,List.length_nil,nB_length,tB_length];omega) _ HBd.out).mono ?_
 rintro e w3 ⟨rfl,hBd,hb,-⟩
 have HQ3:=Hd (hB hb (by omega) HQ2.out)
 have HB3:=Hd (bB HB2.out (by omega) hb)
 replace HBd:=Hd hBd
 clear hb hBd c HQ2 HB2
 have c:w3.cell? ⟨w.heap.size,2,none⟩=some (.int .i64 R.prev):=cell_at HQ3.out 2
 go_wp2_with fail
 refine(rc_num R.prev 8 (by decide) (by decide) (by omega) (by omega) (by omega) _ _ (by simp only[List.length_append,List.length_nil,nB_length,tB_length];omega) _ HBd.out).mono ?_
 rintro e w4 ⟨rfl,hBd,hb,-⟩
 have HQ4:=Hd (hB hb (by omega) HQ3.out)
 have HB4:=Hd (bB HB3.out (by omega) hb)
 replace HBd:=Hd hBd
 clear hb hBd c HQ3 HB3
 have c:w4.cell? ⟨w.heap.size,3,none⟩=some (.int .i64 R.next):=cell_at HQ4.out 3
 go_wp2_with fail
 refine(rc_num R.next 8 (by decide) (by decide) (by omega) (by omega) (by omega) _ _ (by simp only[List.length_append,List.length_nil,nB_length,tB_length];omega) _ HBd.out).mono ?_
 rintro e w5 ⟨rfl,hBd,hb,-⟩
 have HQ5:=Hd (hB hb (by omega) HQ4.out)
 have HB5:=Hd (bB HB4.out (by omega) hb)
 replace HBd:=Hd hBd
 clear hb hBd c HQ4 HB4
 have c:w5.cell? ⟨w.heap.size,13,none⟩=some (.int .i64 R.fresh):=cell_at HQ5.out 13
 go_wp2_with fail
 refine(rc_num R.fresh 4 (by decide) (by decide) (by omega) (by omega) (by omega) _ _ (by simp only[List.length_append,List.length_nil,nB_length,tB_length];omega) _ HBd.out).mono ?_
 rintro e w6 ⟨rfl,hBd,hb,-⟩
 have HQ6:=Hd (hB hb (by omega) HQ5.out)
 have HB6:=Hd (bB HB5.out (by omega) hb)
 replace HBd:=Hd hBd
 clear hb hBd c HQ5 HB5
 have c:w6.cell? ⟨w.heap.size,4,none⟩=some (.int .i64 R.uk):=cell_at HQ6.out 4
 go_wp2_with fail
 refine(rc_num R.uk 1 (by decide) (by decide) (by omega) (by omega) (by omega) _ _ (by simp only[List.length_append,List.length_nil,nB_length,tB_length];omega) _ HBd.out).mono ?_
 rintro e w7 ⟨rfl,hBd,hb,-⟩
 have HQ7:=Hd (hB hb (by omega) HQ6.out)
 have HB7:=Hd (bB HB6.out (by omega) hb)
 replace HBd:=Hd hBd
 clear hb hBd c HQ6 HB6
 have c:w7.cell? ⟨w.heap.size,5,none⟩=some (.int .i64 R.us):=cell_at HQ7.out 5
 go_wp2_with fail
 refine(rc_num R.us 1 (by decide) (by decide) (by omega) (by omega) (by omega) _ _ (by simp only[List.length_append,List.length_nil,nB_length,tB_length];omega) _ HBd.out).mono ?_
 rintro e w8 ⟨rfl,hBd,hb,-⟩
 have HQ8:=Hd (hB hb (by omega) HQ7.out)
 have HB8:=Hd (bB HB7.out (by omega) hb)
 replace HBd:=Hd hBd
 clear hb hBd c HQ7 HB7
 have c:w8.cell? ⟨w.heap.size,6,none⟩=some (.int .i64 R.up):=cell_at HQ8.out 6
 go_wp2_with fail
 refine(rc_num R.up 4 (by decide) (by decide) (by omega) (by omega) (by omega) _ _ (by simp only[List.length_append,List.length_nil,nB_length,tB_length];omega) _ HBd.out).mono ?_
 rintro e w9 ⟨rfl,hBd,hb,-⟩
 have HQ9:=Hd (hB hb (by omega) HQ8.out)
 have HB9:=Hd (bB HB8.out (by omega) hb)
 replace HBd:=Hd hBd
 clear hb hBd c HQ8 HB8
 have c:w9.cell? ⟨w.heap.size,7,none⟩=some (.int .i64 R.ul):=cell_at HQ9.out 7
 go_wp2_with fail
 refine(rc_num R.ul 1 (by decide) (by decide) (by omega) (by omega) (by omega) _ _ (by simp only[List.length_append,List.length_nil,nB_length,tB_length];omega) _ HBd.out).mono ?_
 rintro e w10 ⟨rfl,hBd,hb,-⟩
 have HQ10:=Hd (hB hb (by omega) HQ9.out)
 have HB10:=Hd (bB HB9.out (by omega) hb)
 replace HBd:=Hd hBd
 clear hb hBd c HQ9 HB9
 have c:w10.cell? ⟨w.heap.size,8,none⟩=some (.string R.key):=cell_at HQ10.out 8
 go_wp2_with fail
 refine(rc_text R.key (by omega) _ _ (by simp only[List.length_append,List.length_nil,nB_length,tB_length];omega) _ HBd.out).mono ?_
 rintro e w11 ⟨rfl,hBd,hb,-⟩
 have HQ11:=Hd (hB hb (by omega) HQ10.out)
 have HB11:=Hd (bB HB10.out (by omega) hb)
 replace HBd:=Hd hBd
 clear hb hBd c HQ10 HB10
 have c:w11.cell? ⟨w.heap.size,9,none⟩=some (.int .i64 R.bs):=cell_at HQ11.out 9
 go_wp2_with fail
 refine(rc_num R.bs 1 (by decide) (by decide) (by omega) (by omega) (by omega) _ _ (by simp only[List.length_append,List.length_nil,nB_length,tB_length];omega) _ HBd.out).mono ?_
 rintro e w12 ⟨rfl,hBd,hb,-⟩
 have HQ12:=Hd (hB hb (by omega) HQ11.out)
 have HB12:=Hd (bB HB11.out (by omega) hb)
 replace HBd:=Hd hBd
 clear hb hBd c HQ11 HB11
 have c:w12.cell? ⟨w.heap.size,10,none⟩=some (.string R.bd):=cell_at HQ12.out 10
 go_wp2_with fail
 refine(rc_text R.bd (by omega) _ _ (by simp only[List.length_append,List.length_nil,nB_length,tB_length];omega) _ HBd.out).mono ?_
 rintro e w13 ⟨rfl,hBd,hb,-⟩
 have HQ13:=Hd (hB hb (by omega) HQ12.out)
 have HB13:=Hd (bB HB12.out (by omega) hb)
 replace HBd:=Hd hBd
 clear hb hBd c HQ12 HB12
 have c:w13.cell? ⟨w.heap.size,11,none⟩=some (.slice a n cap):=cell_at HQ13.out 11
 go_wp2_with fail
 refine(rc_num (n:Int) 1 (by decide) (by decide) (by omega) (by omega) (by omega) _ _ (by simp only[List.length_append,List.length_nil,nB_length,tB_length];omega) _ HBd.out).mono ?_
 rintro e w14 ⟨rfl,hBd,hb,-⟩
 have HQ14:=Hd (hB hb (by omega) HQ13.out)
 have HB14:=Hd (bB HB13.out (by omega) hb)
 replace HBd:=Hd hBd
 clear hb hBd c HQ13 HB13
 have hhd:=hdB_length R
 have HBh:Hid (BdAt w14 w1.heap.size (hdB R++(R.ims.take 0).flatMap imB)):=by
  have h:=HBd.out
  rw[hn.out]at h
  exact Hd (by simpa[hdB]using h)
 clear HBd
 have c:w14.cell? ⟨w.heap.size,11,none⟩=some (.slice a n cap):=cell_at HQ14.out 11
 clear k1 k2 x1 y1 x2 y2 x3 y3 x4 y4 x5 y5 x6 y6 x7 y7 x8 y8 x9 y9
 go_wp2_with fail
 clear c
 go_loopw [86] (fun i wr=>∃(k:Nat),k≤n∧i = .int .i64 k∧Hid (BdAt wr w1.heap.size (hdB R++(R.ims.take k).flatMap imB))∧Hid (wr.heap[w.heap.size]? = some (.cells (rcC R (.slice a n cap) (.slice b m cap2)) 65 (0,0)))∧Hid (Below w.heap.size w wr)) (fun i _=>n-(intOf i).toNat)
 case atStart=>exact⟨0,by omega,rfl,HBh.out,HQ14.out,HB14.out⟩
 case round =>
  obtain⟨k,hk,rfl,HBd,HQ,HB⟩:=hrel
  clear HBh HQ14 HB14 HB1 HQ1
  have hbd:=HBd.out.lt
  by_cases hkn:k<n
  ·obtain⟨pb,off,rfl,hpb,hrg⟩:=(HS1.out.later HB.out).elem imL_length (k:=k) (by rw[←hn.out];exact hkn)
   obtain⟨x,hx⟩:∃x,R.ims[k]'(by rw[←hn.out];exact hkn)=x:=⟨_,rfl⟩
   have hxk:Hid (ImOk x):=HOK.out.2.1 x (hx ▸ List.getElem_mem _)
   have hfl:Hid ((R.ims.take (k+1)).flatMap imB=(R.ims.take k).flatMap imB++imB x):=by
    have:=flat_take imB R.ims k (by rw[←hn.out];exact hkn)
    rw[hx]at this
    exact this
   have hfz:=flat_le imB 228 R.ims k 24 (fun x hx=>imB_length (HOK.out.2.1 x hx)) k5.out
   rw[hx]at hrg
   replace hx:=Hd hx
   have hrg:=Hd hrg
   have HC:=Hd (fun w=>pg_encode_ok x.2 hxk.out.2 w)
   unfold pgV at HC
   have hps:=pageS_size hxk.out.2
   obtain⟨i0,i1⟩:=hxk.out.1
   have HZ:Hid ((wr.alloc (.cells (imA (0,pageZ)) 51)).heap[wr.heap.size]? = some (.cells (imA (0,pageZ)) 51 (0,0))):=hN rfl
   have HQb:Hid ((wr.alloc (.cells (imA (0,pageZ)) 51)).heap[w.heap.size]? = _):=hO (o := .cells (imA (0,pageZ)) 51) HQ.out
   have HBb:Hid (Below w.heap.size w (wr.alloc (.cells (imA (0,pageZ)) 51))):=bA HB.out
   have hwr:=HB.out.size
   have hqr:=block_lt HQ.out
   go_wp2_with (first
     | (refine wpList_load_mid rfl 51 _ rfl pb (off+k*17) rfl (imL x) _ hrg.out Tryz.underlying51 rfl (by kernel_rfl) ?_)
     | (refine wpList_store_whole rfl 51 _ _ rfl _ (imA x) rfl rfl _ (imA (0,pageZ)) HZ.out rfl (by kernel_rfl) (imA_one x) ?_;intro wz HRz KZ;(have HBz:=Hd (bK HBb.out KZ.out (fun j hj=>by omega)));(have HQz:=Hd (KZ.out.keep HQb.out (by omega)));(have hzz:=KZ.out.size);(have HDz:=Hd (HBd.out.later (bK (bA bR) KZ.out (fun j hj=>by omega))));clear HBb HZ HQb HBd)
     | (refine wpList_load_mid_want (by rfl) 49 _ rfl wr.heap.size 1 rfl (pgC x.2).toList _ (im_page HRz.out) Tryz.underlying49 rfl (by kernel_rfl) ?_))
   refine(HC.out _).mono ?_
   rintro e w5 ⟨rfl,hb⟩
   have HR5:=Hd (hBs hb HRz.out)
   have HQ5:=Hd (hBs hb HQz.out)
   have HB5:=Hd (bT HBz.out hb)
   have HD5:=Hd (HDz.out.later hb)
   clear hb HRz HQz HBz HDz HC
   have c:w5.cell? ⟨wr.heap.size,0,none⟩=some (.int .i64 x.1):=cell_at HR5.out 0
   go_wp2_with fail
   refine(rc_num x.1 4 (by decide) (by decide) (by omega) (by omega) (by omega) _ _ (by simp only[List.length_append];omega) _ HD5.out).mono ?_
   rintro e w6 ⟨rfl,hBd,hb,-⟩
   have HQ6:=Hd (hB hb (by omega) HQ5.out)
   have HB6:=Hd (bB HB5.out (by omega) hb)
   replace hBd:=Hd hBd
   clear hb HQ5 HB5 HD5 c HR5
   go_wp2_with fail
   refine(bd_string _ _ _ _ hBd.out (by simp only[List.length_append,nB_length];omega)).mono ?_
   rintro e w7 ⟨rfl,HD7,hb,-⟩
   have HQ7:=Hd (hB hb (by omega) HQ6.out)
   have HB7:=Hd (bB HB6.out (by omega) hb)
   replace HD7:=Hd HD7
   clear hb HQ6 HB6 hBd
   go_wp2_with fail
   go_roundw
   case rel =>
    refine⟨k+1,by omega,rfl,?_,HQ7.out,HB7.out⟩
    rw[hfl.out,imB,←List.append_assoc,←List.append_assoc]
    exact HD7.out
   case measure=>simp[intOf];omega
  ·obtain rfl:k=n:=by omega
   have hfz:=flat_le imB 228 R.ims k 24 (fun x hx=>imB_length (HOK.out.2.1 x hx)) k5.out
   have HBi:Hid (BdAt wr w1.heap.size (hdB R++R.ims.flatMap imB)):=by
    have h:=HBd.out
    rw[hn.out,List.take_length]at h
    exact h
   rw[hn.out,List.take_length]at hfz
   have d:wr.cell? ⟨w.heap.size,12,none⟩=some (.slice b m cap2):=cell_at HQ.out 12
   clear HBd HS1 hkn hk
   have hwr:=HB.out.size
   have hwb:=HBi.out.lt
   go_wp2_with fail
   refine(rc_num (m:Int) 1 (by decide) (by decide) (by omega) (by omega) (by omega) _ _ (by simp only[List.length_append];omega) _ HBi.out).mono ?_
   rintro e w5 ⟨rfl,hBd,hb,-⟩
   have HQ5:=Hd (hB hb (by omega) HQ.out)
   have HB5:=Hd (bB HB.out (by omega) hb)
   have HD5:Hid (BdAt w5 w1.heap.size (hdB R++R.ims.flatMap imB++nB 1 (R.lvs.length:Int)++(R.lvs.take 0).flatMap lvB)):=by
    have h:=hBd
    rw[hm.out]at h
    exact Hd (by simpa using h)
   clear hb hBd HBi HQ HB d
   have c:w5.cell? ⟨w.heap.size,12,none⟩=some (.slice b m cap2):=cell_at HQ5.out 12
   go_wp2_with fail
   clear c
   go_loopw [111] (fun i wr=>∃(j:Nat),j≤m∧i = .int .i64 j∧Hid (BdAt wr w1.heap.size (hdB R++R.ims.flatMap imB++nB 1 (R.lvs.length:Int)++(R.lvs.take j).flatMap lvB))∧Hid (Below w.heap.size w wr)) (fun i _=>m-(intOf i).toNat)
   case atStart=>exact⟨0,by omega,rfl,HD5.out,HB5.out⟩
   case round =>
    obtain⟨j,hj,rfl,HBd,HB⟩:=hrel
    clear HD5 HQ5 HB5
    have hbd:=HBd.out.lt
    by_cases hjm:j<m
    ·obtain⟨pb,off,rfl,hpb,hrg⟩:=(HS2.out.later HB.out).elem lvL_length (k:=j) (by rw[←hm.out];exact hjm)
     obtain⟨x,hx⟩:∃x,R.lvs[j]'(by rw[←hm.out];exact hjm)=x:=⟨_,rfl⟩
     have hxk:Hid (LvOk x):=HOK.out.2.2 x (hx ▸ List.getElem_mem _)
     have hfl:Hid ((R.lvs.take (j+1)).flatMap lvB=(R.lvs.take j).flatMap lvB++lvB x):=by
      have:=flat_take lvB R.lvs j (by rw[←hm.out];exact hjm)
      rw[hx]at this
      exact this
     have hfz2:=flat_le lvB 20 R.lvs j 8 (fun x hx=>lvB_length x) k6.out
     rw[hx]at hrg
     replace hx:=Hd hx
     have hrg:Hid (wr.rangeAt pb (off+j*3) [.int .i64 x.1,.int .i64 x.2.1,.int .i64 x.2.2]):=hrg
     obtain⟨x1,x2,x3⟩:=x
     dsimp only at hrg
     have hlv:Hid (lvB (x1,x2,x3)=nB 4 x1++nB 8 x2++nB 8 x3):=rfl
     obtain⟨⟨i1,i2⟩,⟨i3,i4⟩,⟨i5,i6⟩⟩:=hxk.out
     dsimp only at i1 i2 i3 i4 i5 i6
     have HX:Hid ((wr.alloc (.cells #[.int .i64 x1,.int .i64 x2,.int .i64 x3] 61)).heap[wr.heap.size]? = some (.cells #[.int .i64 x1,.int .i64 x2,.int .i64 x3] 61 (0,0))):=hN rfl
     have HBa:Hid (Below w.heap.size w (wr.alloc (.cells #[.int .i64 x1,.int .i64 x2,.int .i64 x3] 61))):=bA HB.out
     have HDa:Hid (BdAt (wr.alloc (.cells #[.int .i64 x1,.int .i64 x2,.int .i64 x3] 61)) w1.heap.size (hdB R++R.ims.flatMap imB++nB 1 (R.lvs.length:Int)++(R.lvs.take j).flatMap lvB)):=HBd.out.alloc _
     have hwr:=HB.out.size
     go_wp2_with (refine wpList_load_mid rfl 61 _ rfl pb (off+j*3) rfl [.int .i64 x1,.int .i64 x2,.int .i64 x3] _ hrg.out Tryz.underlying61 rfl (by kernel_rfl) ?_)
     refine(rc_num x1 4 (by decide) (by decide) (by omega) (by omega) (by omega) _ _ (by simp only[List.length_append,nB_length];omega) _ HDa.out).mono ?_
     rintro e w6 ⟨rfl,hBd,hb,hk⟩
     have HX6:=Hd (hk _ _ _ _ (by omega) (by decide) HX.out)
     have HB6:=Hd (bB HBa.out (by omega) hb)
     replace hBd:=Hd hBd
     clear hb hk HX HBa HDa
     have c:w6.cell? ⟨wr.heap.size,1,none⟩=some (.int .i64 x2):=cell_at HX6.out 1
     go_wp2_with fail
     refine(rc_num x2 8 (by decide) (by decide) (by omega) (by omega) (by omega) _ _ (by simp only[List.length_append,nB_length];omega) _ hBd.out).mono ?_
     rintro e w7 ⟨rfl,hBe,hb,hk⟩
     have HX7:=Hd (hk _ _ _ _ (by omega) (by decide) HX6.out)
     have HB7:=Hd (bB HB6.out (by omega) hb)
     replace hBe:=Hd hBe
     clear hb hk HX6 HB6 hBd c
     have c:w7.cell? ⟨wr.heap.size,2,none⟩=some (.int .i64 x3):=cell_at HX7.out 2
     go_wp2_with fail
     refine(rc_num x3 8 (by decide) (by decide) (by omega) (by omega) (by omega) _ _ (by simp only[List.length_append,nB_length];omega) _ hBe.out).mono ?_
     rintro e w8 ⟨rfl,hBd,hb,-⟩
     have HB8:=Hd (bB HB7.out (by omega) hb)
     replace hBd:=Hd hBd
     clear hb HX7 HB7 hBe c
     go_wp2_with fail
     go_roundw
     case rel =>
      refine⟨j+1,by omega,rfl,?_,HB8.out⟩
      rw[hfl.out,hlv.out,←List.append_assoc,←List.append_assoc,←List.append_assoc]
      exact hBd.out
     case measure=>simp[intOf];omega
    ·obtain rfl:j=m:=by omega
     have HBi:Hid (BdAt wr w1.heap.size (rcL R)):=by
      have h:=HBd.out
      rw[hm.out,List.take_length]at h
      exact h
     have hwr:=HB.out.size
     go_wp2_with fail
     refine(bd_done _ _ _ HBi.out).mono ?_
     rintro e w5 ⟨rfl,hb⟩
     have HB5:=Hd (bB HB.out (by omega) hb)
     clear hb
     go_wp2_with fail
     go_ret2
     exact⟨rfl,HB5.out⟩
end Go.Proofs.YtimomjheanfbmaaGreatDoor
namespace Go.Proofs.YtimomjheanfbmaaGreatDoor
open Go.RowKit
theorem step_store_whole {P:Program} {ops:Array Oper} {o:Oper} {a:Act} {w:World} {K:Act→World→Prop} {Q:Exit→Act→World→Prop} {E:Prop} (hgd:o.guard=none) (ty:TypeId) (x y:Operand) (ho:o.op = .store ty x y)
  (g:Nat) (C:Array Value) (hx:a.eval x = .pointer (some ⟨g,0,none⟩)) (hy:a.eval y = .agg C) (t:TypeId) (cur:Array Value) (hg:w.heap[g]? = some (.cells cur t (0,0))) (hsz:cur.size=C.size)
  (hi:(P.info? ty).map (·.size)=some C.size) (h1:∀v∈C.toList,v.oneCell'=true)
  (h:∀w',Hid (w'.heap[g]? = some (.cells C t (0,0)))→Hid (Keeps (· = g) w w')→K (a.put o.dst undef) w'):if Region.wanted o (yielded ops a.tmps)=true then Oper.wp P o a w K Q else E:=by
 have hw:Region.wanted o (yielded ops a.tmps)=true:=by simp[Region.wanted,hgd]
 rw[if_pos hw]
 unfold Oper.wp execOp
 simp only[ho,hx,hy,Instr.storeAt,Instr.sureAddr,Sem.run_bind,Sem.run_pure,Result.andThen_ok,run_storeVar_whole w g t ty cur C hg hsz hi h1]
 exact h _ (setRow_heap w g _ _ t _ hg) ⟨rfl,rfl,rfl,by simp,fun j _ hj=>setRow_other w g j _ hj⟩
theorem run_storeVar_part {P:Program} (w:World) (g o:Nat) (t ty:TypeId) (cur C:Array Value) (hg:w.heap[g]? = some (.cells cur t (0,0))) (hsz:o+C.size≤cur.size)
  (hi:(P.info? ty).map (·.size)=some C.size) (h1:∀v∈C.toList,v.oneCell'=true):(storeVar ty ⟨g,o,none⟩ (.agg C)).run P w = .ok () (w.setRow g (cur.toList.take o++C.toList++cur.toList.drop (o+C.size)).toArray):=by
 have hst:=run_storeCells_at P g o t C.toList 0 cur w hg (by simpa using hsz) h1
 cases hq:P.info? ty with
 | none=>simp[hq]at hi
 | some i =>
  have hs:C.size=i.size:=by simp[hq]at hi;omega
  simp only[Nat.add_zero,Array.length_toList]at hst
  simp[storeVar,sizeOf,typeInfo,hq,Value.cells,hs,hst]
theorem step_store_part {P:Program} {ops:Array Oper} {o:Oper} {a:Act} {w:World} {K:Act→World→Prop} {Q:Exit→Act→World→Prop} {E:Prop} (hgd:o.guard=none) (ty:TypeId) (x y:Operand) (ho:o.op = .store ty x y)
  (g off:Nat) (C:Array Value) (hx:a.eval x = .pointer (some ⟨g,off,none⟩)) (hy:a.eval y = .agg C) (t:TypeId) (cur:Array Value) (hg:w.heap[g]? = some (.cells cur t (0,0))) (hsz:off+C.size≤cur.size)
  (hi:(P.info? ty).map (·.size)=some C.size) (h1:∀v∈C.toList,v.oneCell'=true)
  (h:∀w',Hid (w'.heap[g]? = some (.cells (cur.toList.take off++C.toList++cur.toList.drop (off+C.size)).toArray t (0,0)))→Hid (Keeps (· = g) w w')→K (a.put o.dst undef) w'):if Region.wanted o (yielded ops a.tmps)=true then Oper.wp P o a w K Q else E:=by
 have hw:Region.wanted o (yielded ops a.tmps)=true:=by simp[Region.wanted,hgd]
 rw[if_pos hw]
 unfold Oper.wp execOp
 simp only[ho,hx,hy,Instr.storeAt,Instr.sureAddr,Sem.run_bind,Sem.run_pure,Result.andThen_ok,run_storeVar_part w g off t ty cur C hg hsz hi h1]
 exact h _ (setRow_heap w g _ _ t _ hg) ⟨rfl,rfl,rfl,by simp,fun j _ hj=>setRow_other w g j _ hj⟩
theorem step_append_one {P:Program} {w:World} {ops:Array Oper} {o:Oper} {a:Act} {K:Act→World→Prop} {Q:Exit→Act→World→Prop} {E:Prop} (hgd:o.guard=none) (s x:Operand) (t:TypeId)
  (ho:o.op = .call {callee := .builtin .append,args := #[s,x],argTypes := #[t,t]})
  (e:TypeId) (i:TypeInfo) (z:Value) (size bytes:Nat) (ht:P.underlying t=some (.slice e)) (hi:P.info? e=some i) (hz:i.zero=some z)
  (hsize:i.size=size) (hby:i.bytes=bytes) (hzs:z.cells.size=size) (hsz:0<size)
  (v:Value) (n:Nat) (xs:List Value) (hs:a.eval s=v) (hown:OwnS w e size v n xs)
  (ad:Addr) (m c:Nat) (news:List Value) (hx:a.eval x = .slice (some ad) m c) (hl:news.length=m*size) (hnews:∀j u,news[j]? = some u→w.cell? (ad.add j)=some u) (h1:∀u∈news,u.oneCell'=true)
  (h63:n+m≤maxLen) (hbytes:((n+m)+(n+m)/4+192)*bytes≤281474976710656)
  (h:∀v' w',OwnS w' e size v' (n+m) (xs++news)→Keeps (· ∈ blk v) w w'→(∀k∈blk v',k∈blk v∨w.heap.size≤k)→K (a.put o.dst v') w') :
  if Region.wanted o (yielded ops a.tmps)=true then Oper.wp P o a w K Q else E:=by
 have hw:Region.wanted o (yielded ops a.tmps)=true:=by simp[Region.wanted,hgd]
 rw[if_pos hw]
 obtain⟨v',w',hr,h2,h3,h4,h5⟩:=run_append_frame (P:=P) w t o.type e i z size bytes ht hi hz hsize hby hzs hsz v n xs hown ad m c news hl hnews h1 h63 hbytes
 unfold Oper.wp execOp
 simp only[ho,resolve,invoke,builtin,Sem.run_bind,Sem.run_pure,Result.andThen_ok,List.map_toArray,List.map_cons,List.map_nil,hs,hx,hr]
 exact h v' w' h2 h3 h4
end Go.Proofs.YtimomjheanfbmaaGreatDoor
