import Derived.Test.YtimomjheanfbmaaGreatDoorQaa
import Derived.Test.YtimomjheanfbmaaGreatDoorQad
import Derived.Test.YtimomjheanfbmaaGreatDoorQag
import Derived.Test.YtimomjheanfbmaaGreatDoorQab
set_option linter.unusedSimpArgs false
set_option linter.unusedVariables false
namespace Go.Proofs.YtimomjheanfbmaaGreatDoor
open Go.RowKit
set_option maxHeartbeats 1600000 in
theorem pg_decode_size (s:ByteArray) (hs:s.size≠224) (hz:s.size≤maxLen) (w:World):Calls Tryz.prog 67 #[.string s] w fun e w'=>e = .returned (.tuple #[pgV pageZ,.int .i64 40])∧Below w.heap.size w w':=by
 have hne:((s.size:Int) != 224)=true:=by simp;omega
 have HZ:Hid ((w.alloc (.cells (pgC pageZ) 49)).heap[w.heap.size]? = some (.cells (pgC pageZ) 49 (0,0))):=hN rfl
 go_enter Tryz.func67,Tryz.ntmps67
 go_wp2_with fail
 refine wp_scope_straight ?_
 go_wp2_with (refine wpList_store_whole rfl 49 _ _ rfl _ (pgC pageZ) rfl rfl _ (pgC pageZ) HZ.out rfl (by kernel_rfl) (pgC_one _) ?_;intro wz HRz KZ)
 try rw[Exit.noGoto_ret]
 refine bodyPost_ret (results_row_tmp Tryz.results67 _ _ _ _ _ _ _ rfl HRz.out Tryz.underlying49 rfl (by kernel_rfl)) rfl ⟨rfl,bK (bA bR) KZ.out (fun j hj=>by omega)⟩
set_option maxRecDepth 100000 in
set_option maxHeartbeats 16000000 in
theorem pg_decode_go (s:ByteArray) (hs:s.size=224) (w:World):Calls Tryz.prog 67 #[.string s] w fun e w'=>(e = .returned (.tuple #[pgV (decP s),.int .i64 0])∧DecOk s∨e = .returned (.tuple #[pgV pageZ,.int .i64 40])∧¬DecOk s)∧Below w.heap.size w w':=by
 have HZ0:Hid ((w.alloc (.cells (pgC pageZ) 49)).heap[w.heap.size]? = some (.cells (pgC pageZ) 49 (0,0))):=hN rfl
 have hne:((s.size:Int) != 224)=false:=by simp;omega
 go_enter Tryz.func67,Tryz.ntmps67
 go_wp2_with fail
 refine wp_scope_loop 0 (fun a' wx=>∃(k p:Nat),FrOk a' s w.heap.size (w.heap.size+1) p k∧k≤6∧w.heap.size+1<p∧Hid (∀j,j<k→ClDec s j)
  ∧ Hid (wx.heap[w.heap.size]? = some (.cells (pgC pageZ) 49 (0,0)))∧Hid (Rd wx (w.heap.size+1) (s.extract (8+36*k) 224) false)∧Hid (wx.heap[p]? = some (.cells (pgC (bld s k)) 49 (0,0)))∧Hid (Below w.heap.size w wx)) (fun a' _=>6-(intOf (a'.tmps.getD 6 undef)).toNat) rfl ?_ (fun hfirst=>?_)
 ·rintro a' wx ⟨k,p,hfr,hk,hp,hall,HZ,HR,HP,HB⟩
  obtain⟨V,rfl⟩:=hfr.lit
  clear hfr
  have hpr:=block_lt HP.out
  by_cases hk6:k<6
  rotate_left
  ·obtain rfl:k=6:=by omega
   have hP6:Hid (wx.heap[p]? = some (.cells (pgC (decP s)) 49 (0,0))):=bld_six s ▸ HP.out
   have HC:=Hd (fun w=>pg_check (decP s) (fun i hi=>by have:=dtD_size s i;unfold maxLen;show (dtD s i).size≤_;omega) w)
   have hokD:Hid (PgOk (decP s)→DecOk s):=fun h=>⟨hs,hall.out,h⟩
   have hnoD:Hid (¬PgOk (decP s)→¬DecOk s):=fun h h'=>h h'.2.2
   obtain⟨D,eD⟩:∃D,decP s=D:=⟨_,rfl⟩
   rw[eD]at hP6 HC hokD hnoD
   replace eD:=Hd eD
   unfold pgV at HC
   clear HP
   go_wp2_with (refine wpList_load_row rfl 49 _ rfl _ rfl 49 _ _ _ hP6.out Tryz.underlying49 rfl (by kernel_rfl) ?_)
   refine(HC.out _).mono ?_
   rintro e w1 ⟨h,hb⟩
   have HB1:=Hd (bT HB.out hb)
   have HZ1:=Hd (hBs hb HZ.out)
   have HP1:=Hd (hBs hb hP6.out)
   clear hb
   rcases h with⟨rfl,hok⟩ | ⟨rfl,hno⟩
   ·have hfin:=Hd (hokD.out hok)
    clear hok hokD hnoD
    go_wp2_with (first | (refine wpList_load_row rfl 49 _ rfl _ rfl 49 _ _ _ HP1.out Tryz.underlying49 rfl (by kernel_rfl) ?_) | (refine wpList_store_whole rfl 49 _ _ rfl _ (pgC D) rfl rfl _ (pgC pageZ) HZ1.out rfl (by kernel_rfl) (pgC_one _) ?_;intro wz HRz KZ))
    simp only[Exit.jump]
    refine bodyPost_ret (results_row_tmp Tryz.results67 _ _ _ _ _ _ _ rfl HRz.out Tryz.underlying49 rfl (by kernel_rfl)) rfl ⟨.inl ⟨by rw[eD.out];rfl,hfin.out⟩,bK HB1.out KZ.out (fun j hj=>by omega)⟩
   ·have hfin:=Hd (hnoD.out hno)
    clear hno hokD hnoD
    go_wp2_with (refine wpList_store_whole rfl 49 _ _ rfl _ (pgC pageZ) rfl rfl _ (pgC pageZ) HZ1.out rfl (by kernel_rfl) (pgC_one _) ?_;intro wz HRz KZ)
    simp only[Exit.jump]
    refine bodyPost_ret (results_row_tmp Tryz.results67 _ _ _ _ _ _ _ rfl HRz.out Tryz.underlying49 rfl (by kernel_rfl)) rfl ⟨.inr ⟨rfl,hfin.out⟩,bK HB1.out KZ.out (fun j hj=>by omega)⟩
  have hk6':(k:Int)<6:=by omega
  have hn1:=Hd (rd_num_at s hs (8+36*k) 1 (by omega) (by omega) (by omega))
  have hn2:=Hd (rd_num_at s hs (8+36*k+1) 1 (by omega) (by omega) (by omega))
  have hn3:=Hd (rd_bytes_at s hs (8+36*k+1+1) 34 (by omega))
  rw[show 8+36*k+1=9+36*k by omega]at hn1 hn2 hn3
  rw[show 9+36*k+1=10+36*k by omega]at hn2 hn3
  rw[show 10+36*k+34=44+36*k by omega]at hn3
  have hlim:∀o,(s.extract o 224).size≤maxLen:=fun o=>by rw[ByteArray.size_extract];unfold maxLen;omega
  replace hlim:=Hd hlim
  obtain⟨t1,t2⟩:=valS_one_lt s (8+36*k) (9+36*k) (by omega)
  obtain⟨t3,t4⟩:=valS_one_lt s (9+36*k) (10+36*k) (by omega)
  obtain⟨st,est⟩:∃x,stD s k=x:=⟨_,rfl⟩
  obtain⟨m,em⟩:∃m:Nat,nD s k=m:=⟨(nD s k).toNat,by unfold nD;omega⟩
  obtain⟨bd,ebd⟩:∃x,bodD s k=x:=⟨_,rfl⟩
  have hbz:bd.size=34:=by rw[←ebd];unfold bodD;rw[ByteArray.size_extract];omega
  have edt:Hid (dtD s k=bd.extract 0 m):=by unfold dtD;rw[ebd,em];exact Hd rfl
  have hcd:Hid (ClDec s k↔(m:Int)≤34∧Lib.trimB (bd.extract m 34).data.toList 0=[]):=by unfold ClDec;rw[ebd,em];exact Hd Iff.rfl
  rw[show valS (s.extract (8+36*k) (9+36*k))=st from est]at hn1 t1 t2
  rw[show valS (s.extract (9+36*k) (10+36*k))=m from em]at hn2 t3 t4
  rw[show s.extract (10+36*k) (44+36*k)=bd from ebd]at hn3
  replace est:=Hd est
  clear em ebd
  go_wp2_with fail
  refine(oct_rnum _ _ false (1:Nat) _ HR.out (hlim.out _)).mono ?_
  rw[hn1.out]
  rintro e w1 ⟨rfl,hr,hkp⟩
  have HR1:=Hd hr
  have HZ1:=Hd (hkp.keep HZ.out (by omega))
  have HP1:=Hd (hkp.keep HP.out (by omega))
  have HB1:=Hd (bK HB.out hkp (fun j hj=>by omega))
  clear hr hkp HR HZ HP HB hn1
  obtain⟨c0,c1⟩:=pg_at HP1.out k hk6
  have f0:=free_at HP1.out (4+k*2)
  have hpr:=block_lt HP1.out
  go_wp2_with fail
  refine(oct_rnum _ _ false (1:Nat) _ (show Rd _ _ _ _ from hSO HR1.out (by show _≠p;omega)) (hlim.out _)).mono ?_
  rw[hn2.out]
  rintro e w2 ⟨rfl,hr,hkp⟩
  have HR2:=Hd hr
  have HZ2:=Hd (hkp.keep (hSO HZ1.out (by show _≠p;omega)) (by omega))
  have HP2:=Hd (hkp.keep (heap_set HP1.out (4+k*2) (.int .i64 st)) (by omega))
  have HB2:=Hd (bK (bS HB1.out (by show _≤p;omega)) hkp (fun j hj=>by omega))
  clear hr hkp HR1 HZ1 HP1 HB1 hn2 c0 c1 f0
  have hpr:=block_lt HP2.out
  go_wp2_with fail
  refine(oct_bytes _ _ false (34:Nat) _ HR2.out (hlim.out _)).mono ?_
  rw[hn3.out]
  rintro e w3 ⟨rfl,hr,hkp⟩
  have HR3:=Hd hr
  have HZ3:=Hd (hkp.keep HZ2.out (by omega))
  have HP3:=Hd (hkp.keep HP2.out (by omega))
  have HB3:=Hd (bK HB2.out hkp (fun j hj=>by omega))
  clear hr hkp HR2 HZ2 HP2 HB2 hn3
  have hpr:=block_lt HP3.out
  by_cases hm:m≤34
  rotate_left
  ·have hm':(34:Int)<m:=by omega
   have hfin:Hid (¬DecOk s):=fun h=>hm (by have:=(hcd.out.1 (h.2.1 k hk6)).1;omega)
   clear hcd
   go_wp2_with (refine wpList_store_whole rfl 49 _ _ rfl _ (pgC pageZ) rfl rfl _ (pgC pageZ) HZ3.out rfl (by kernel_rfl) (pgC_one _) ?_;intro wz HRz KZ)
   simp only[Exit.jump]
   refine bodyPost_ret (results_row_tmp Tryz.results67 _ _ _ _ _ _ _ rfl HRz.out Tryz.underlying49 rfl (by kernel_rfl)) rfl ⟨.inr ⟨rfl,hfin.out⟩,bK HB3.out KZ.out (fun j hj=>by omega)⟩
  have hm':(m:Int)≤34:=by omega
  have htz:(bd.extract m 34).size≤4096:=by rw[ByteArray.size_extract];omega
  go_wp2_with fail
  refine(str_trim _ htz _).mono ?_
  rintro e w4 ⟨rfl,hb⟩
  have HR4:Hid (Rd w4 _ _ _):=Hd (hBs hb HR3.out)
  have HZ4:=Hd (hBs hb HZ3.out)
  have HP4:=Hd (hBs hb HP3.out)
  have HB4:=Hd (bT HB3.out hb)
  clear hb HR3 HZ3 HP3 HB3
  obtain⟨tl,htl⟩:∃l,Lib.trimB (bd.extract m 34).data.toList 0=l:=⟨_,rfl⟩
  rw[htl]at hcd
  rw[htl]
  clear htl htz
  by_cases ht:tl=[]
  rotate_left
  ·have hfin:Hid (¬DecOk s):=fun h=>ht (hcd.out.1 (h.2.1 k hk6)).2
   obtain⟨n1,n2⟩:=str_some (k:=⟨tl.toArray⟩) (by intro h;exact ht (List.eq_nil_of_length_eq_zero (by rw[←List.size_toArray];exact h)))
   clear hcd
   generalize (⟨tl.toArray⟩:ByteArray)=ts at *
   go_wp2_with (refine wpList_store_whole rfl 49 _ _ rfl _ (pgC pageZ) rfl rfl _ (pgC pageZ) HZ4.out rfl (by kernel_rfl) (pgC_one _) ?_;intro wz HRz KZ)
   simp only[Exit.jump]
   refine bodyPost_ret (results_row_tmp Tryz.results67 _ _ _ _ _ _ _ rfl HRz.out Tryz.underlying49 rfl (by kernel_rfl)) rfl ⟨.inr ⟨rfl,hfin.out⟩,bK HB4.out KZ.out (fun j hj=>by omega)⟩
  subst ht
  have hcl:=Hd (cl_dec_more hall.out (hcd.out.2 ⟨hm',rfl⟩))
  clear hcd hall
  have hpr:=block_lt HP4.out
  have c1:=cell_at HP4.out (4+k*2+1)
  have f1:=free_at HP4.out (4+k*2+1)
  rw[Array.getElem?_eq_getElem (by simp[pgC];omega)]at c1
  go_wp2_with fail
  go_step3
  refine⟨rfl,⟨k+1,p,⟨rfl,rfl,rfl,rfl,rfl,rfl,rfl,rfl⟩,by omega,hp,hcl.out,hSO HZ4.out (by show _≠p;omega),?_,?_,bS HB4.out (by show _≤p;omega)⟩,?_⟩
  ·show (w4.setCell _ _).heap[_]? = _
   rw[show 8+36*(k+1)=44+36*k by omega]
   exact hSO HR4.out (by show _≠p;omega)
  · exact heap_set_eq HP4.out (bld_next s k hk6 _ _ est.out edt.out)
  · simp[intOf];omega
 ·go_wp2_with fail
  refine(oct_read s _).mono ?_
  rintro e w1 ⟨rfl,hr,hb⟩
  have HR1:Hid (Rd w1 (w.heap.size+1) (s.extract 0 224) false):=by
   have e:s.extract 0 224=s:=by rw[←hs];exact ByteArray.extract_zero_size
   rw[e]
   have e2:(w.alloc (.cells (pgC pageZ) 49)).heap.size=w.heap.size+1:=by simp
   exact e2 ▸ hr
  have HZ1:=Hd (hBs hb HZ0.out)
  have HB1:=Hd (bT (bA bR) hb)
  clear hb hr
  have hlim:∀o,(s.extract o 224).size≤maxLen:=fun o=>by rw[ByteArray.size_extract];unfold maxLen;omega
  replace hlim:=Hd hlim
  have hn1:=rd_num_at s hs 0 1 (by omega) (by omega) (by omega)
  have hn2:=rd_num_at s hs 1 1 (by omega) (by omega) (by omega)
  have hn3:=rd_num_at s hs 2 2 (by omega) (by omega) (by omega)
  have hn4:=rd_num_at s hs 4 4 (by omega) (by omega) (by omega)
  have hbl:=Hd (bld_none s)
  obtain⟨t1,t2⟩:=valS_one_lt s 0 1 (by omega)
  obtain⟨t3,t4⟩:=valS_one_lt s 1 2 (by omega)
  obtain⟨t5,t6⟩:=valS_two_lt s 2 4 (by omega)
  obtain⟨t7,t8⟩:=valS_four_lt s 4 8 (by omega)
  obtain⟨x1,e1⟩:∃x,valS (s.extract 0 1)=x:=⟨_,rfl⟩
  obtain⟨x2,e2⟩:∃x,valS (s.extract 1 2)=x:=⟨_,rfl⟩
  obtain⟨x3,e3⟩:∃x,valS (s.extract 2 4)=x:=⟨_,rfl⟩
  obtain⟨x4,e4⟩:∃x,valS (s.extract 4 8)=x:=⟨_,rfl⟩
  rw[show 0+1=1 from rfl,e1]at hn1
  rw[show 1+1=2 from rfl,e2]at hn2
  rw[show 2+2=4 from rfl,e3]at hn3
  rw[show 4+4=8 from rfl,e4]at hn4
  rw[e1,e2,e3,e4]at hbl
  rw[e1]at t1 t2
  rw[e2]at t3 t4
  rw[e3]at t5 t6
  rw[e4]at t7 t8
  clear e1 e2 e3 e4
  replace hn1:=Hd hn1
  replace hn2:=Hd hn2
  replace hn3:=Hd hn3
  replace hn4:=Hd hn4
  go_wp2_with fail
  refine(oct_rnum _ _ false (1:Nat) _ HR1.out (hlim.out _)).mono ?_
  rw[hn1.out]
  rintro e w2 ⟨rfl,hr,hkp⟩
  have HR2:=Hd hr
  have HZ2:=Hd (hkp.keep HZ1.out (by omega))
  have HB2:=Hd (bK HB1.out hkp (fun j hj=>by omega))
  clear hr hkp HR1 HZ1 HB1 hn1
  go_wp2_with fail
  refine(oct_rnum _ _ false (1:Nat) _ HR2.out (hlim.out _)).mono ?_
  rw[hn2.out]
  rintro e w3 ⟨rfl,hr,hkp⟩
  have HR3:=Hd hr
  have HZ3:=Hd (hkp.keep HZ2.out (by omega))
  have HB3:=Hd (bK HB2.out hkp (fun j hj=>by omega))
  clear hr hkp HR2 HZ2 HB2 hn2
  go_wp2_with fail
  refine(oct_rnum _ _ false (2:Nat) _ HR3.out (hlim.out _)).mono ?_
  rw[hn3.out]
  rintro e w4 ⟨rfl,hr,hkp⟩
  have HR4:=Hd hr
  have HZ4:=Hd (hkp.keep HZ3.out (by omega))
  have HB4:=Hd (bK HB3.out hkp (fun j hj=>by omega))
  clear hr hkp HR3 HZ3 HB3 hn3
  go_wp2_with fail
  refine(oct_rnum _ _ false (4:Nat) _ HR4.out (hlim.out _)).mono ?_
  rw[hn4.out]
  rintro e w5 ⟨rfl,hr,hkp⟩
  have HR5:=Hd hr
  have HZ5:=Hd (hkp.keep HZ4.out (by omega))
  have HB5:=Hd (bK HB4.out hkp (fun j hj=>by omega))
  clear hr hkp HR4 HZ4 HB4 hn4
  have hr5:=block_lt HR5.out
  obtain⟨D,eD⟩:∃D,bld s 0=D:=⟨_,rfl⟩
  rw[eD]at hbl
  replace eD:=Hd eD
  go_wp2_with fail
  go_step3
  refine ‹∀(a:Act) (w:World),Code.wp Tryz.prog _ _ a w→_› _ _ ?_
  refine hfirst.out _ _ ?_
  refine⟨0,w5.heap.size,⟨rfl,rfl,rfl,rfl,rfl,rfl,rfl,rfl⟩,by omega,by omega,fun j h=>by omega,hO HZ5.out,?_,?_,bA HB5.out⟩
  · exact hO HR5.out
  ·rw[eD.out,hbl.out]
   exact hN rfl
theorem pg_decode (s:ByteArray) (hz:s.size≤maxLen) (w:World):Calls Tryz.prog 67 #[.string s] w fun e w'=>(e = .returned (.tuple #[pgV (decP s),.int .i64 0])∧DecOk s∨e = .returned (.tuple #[pgV pageZ,.int .i64 40])∧¬DecOk s)∧Below w.heap.size w w':=by
 by_cases hs:s.size=224
 · exact pg_decode_go s hs w
 · exact(pg_decode_size s hs hz w).mono fun e w' ⟨he,hb⟩=>⟨.inr ⟨he,fun h=>hs h.1⟩,hb⟩
end Go.Proofs.YtimomjheanfbmaaGreatDoor
namespace Go.Proofs.YtimomjheanfbmaaGreatDoor
open Go.RowKit
theorem clip_big {v:Int} (h:1099511627776<v):clip v = -1:=if_pos h
theorem num_range (w:Nat) (σ:St) (h8:w≤8):0≤(rdNum σ.1 σ.2 w).1∧(rdNum σ.1 σ.2 w).1<18446744073709551616:=by
 obtain⟨h1,h2⟩:=rdNum_range σ.1 σ.2 w
 refine⟨h1,Int.lt_of_lt_of_le h2 ?_⟩
 rw[Int.toNat_natCast,int_pow_256]
 have:256^w≤256^8:=Nat.pow_le_pow_right (by omega) h8
 omega
set_option maxHeartbeats 1600000 in
theorem rc_dnum (wd:Nat) (h8:wd≤8) (rv rb:Nat) (σ:St) (hs:σ.1.size≤maxLen) (w:World) (hne:rv≠rb) (hV:w.heap[rv]? = some (.cells #[.pointer (some ⟨rb,0,none⟩)] 145 (0,0))) (hR:Rd w rb σ.1 σ.2) :
  Calls Tryz.prog 63 #[.int .i64 wd,.pointer (some ⟨rv,0,none⟩)] w fun e w'=>e = .returned (.int .i64 (rN wd σ).1)∧Rd w' rb (rN wd σ).2.1 (rN wd σ).2.2∧Keeps (· = rb) w w':=by
 have HC:=Hd (oct_rnum rb σ.1 σ.2 wd w hR hs)
 have c0:w.cell? ⟨rv,0,none⟩=some (.pointer (some ⟨rb,0,none⟩)):=cell_at hV 0
 obtain⟨h0,h64⟩:=num_range wd σ h8
 have e1:Hid ((rN wd σ).1=clip (rdNum σ.1 σ.2 wd).1):=rfl
 have e2:Hid ((rN wd σ).2=(rdNum σ.1 σ.2 wd).2):=rfl
 clear hV hR hs
 generalize rN wd σ=X at *
 generalize rdNum σ.1 σ.2 wd=Y at *
 obtain⟨v,s',b'⟩:=Y
 obtain⟨n,s2,b2⟩:=X
 dsimp only at *
 obtain⟨rfl,rfl⟩:s2=s'∧b2=b':=Prod.mk.inj e2.out
 have hn:=e1.out
 clear e1 e2
 by_cases hb:1099511627776<v
 ·rw[clip_big hb]at hn
  subst hn
  go_enter Tryz.func63,Tryz.ntmps63
  go_wp2_with fail
  refine(HC.out).mono ?_
  rintro e w1 ⟨rfl,hr,hk⟩
  replace hr:=Hd hr
  replace hk:=Hd hk
  go_wp2_with fail
  go_ret
  exact⟨rfl,hr.out,hk.out⟩
 ·rw[clip_in (by omega)]at hn
  subst hn
  go_enter Tryz.func63,Tryz.ntmps63
  go_wp2_with fail
  refine(HC.out).mono ?_
  rintro e w1 ⟨rfl,hr,hk⟩
  replace hr:=Hd hr
  replace hk:=Hd hk
  go_wp2_with fail
  go_ret
  exact⟨rfl,hr.out,hk.out⟩
end Go.Proofs.YtimomjheanfbmaaGreatDoor
namespace Go.Proofs.YtimomjheanfbmaaGreatDoor
open Go.RowKit
set_option maxHeartbeats 400000 in
theorem oct_bad (b:Nat) (s:ByteArray) (bad:Bool) (w:World) (hR:Rd w b s bad) :
  Calls Tryz.prog 66 #[.pointer (some ⟨b,0,none⟩)] w fun e w'=>e = .returned (.bool bad)∧w=w':=by
 have c0:=hR.c0
 have c1:=hR.c1
 clear hR
 go_enter Tryz.func66,Tryz.ntmps66
 go_wp2
 go_ret
 exact⟨rfl,rfl⟩
end Go.Proofs.YtimomjheanfbmaaGreatDoor
