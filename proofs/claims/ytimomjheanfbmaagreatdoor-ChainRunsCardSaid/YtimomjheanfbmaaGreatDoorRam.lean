import Derived.Test.YtimomjheanfbmaaGreatDoorQaa
import Derived.Test.YtimomjheanfbmaaGreatDoorRah
set_option linter.unusedSimpArgs false
set_option linter.unusedVariables false
namespace Go.Proofs.YtimomjheanfbmaaGreatDoor
open Go.RowKit
set_option maxRecDepth 100000 in
set_option maxHeartbeats 16000000 in
theorem rr_same (R Q:Rc) (iv lv iv' lv':Value) (w:World) (h:RcSl w R iv lv) (h':RcSl w Q iv' lv'):Calls Tryz.prog 96 #[.agg (rcC R iv lv),.agg (rcC Q iv' lv')] w fun e w'=>(e = .returned (.bool true)∧SameRc R Q∨e = .returned (.bool false)∧¬SameRc R Q)∧Below w.heap.size w w':=by
 obtain⟨g1,g2,g3,g4,g5⟩:=h
 obtain⟨g1',g2',g3',g4',g5'⟩:=h'
 obtain⟨a,n,cap,rfl,hn,hnz,hS1⟩:=sl_open g1
 obtain⟨b,m,cap2,rfl,hm,hmz,hS2⟩:=sl_open g2
 obtain⟨a',n',cap',rfl,hn',hnz',hS1'⟩:=sl_open g1'
 obtain⟨b',m',cap2',rfl,hm',hmz',hS2'⟩:=sl_open g2'
 rw[List.length_map]at hn hm hn' hm'
 replace hn:=Hd hn
 replace hm:=Hd hm
 replace hn':=Hd hn'
 replace hm':=Hd hm'
 have HS1:=Hd hS1
 have HS2:=Hd hS2
 have HS1':=Hd hS1'
 have HS2':=Hd hS2'
 clear g1 g2 g3 g4 g5 g1' g2' g3' g4' g5' hS1 hS2 hS1' hS2'
 unfold maxLen at hnz hmz hnz' hmz'
 have HA:Hid (((w.alloc (.cells (rcC R (.slice a n cap) (.slice b m cap2)) 65)).alloc (.cells (rcC Q (.slice a' n' cap') (.slice b' m' cap2')) 65)).heap[w.heap.size]? = some (.cells (rcC R (.slice a n cap) (.slice b m cap2)) 65 (0,0))):=hO (hN rfl)
 have HQ:Hid (((w.alloc (.cells (rcC R (.slice a n cap) (.slice b m cap2)) 65)).alloc (.cells (rcC Q (.slice a' n' cap') (.slice b' m' cap2')) 65)).heap[w.heap.size+1]? = some (.cells (rcC Q (.slice a' n' cap') (.slice b' m' cap2')) 65 (0,0))):=hN (by simp)
 have HB:Hid (Below w.heap.size w ((w.alloc (.cells (rcC R (.slice a n cap) (.slice b m cap2)) 65)).alloc (.cells (rcC Q (.slice a' n' cap') (.slice b' m' cap2')) 65))):=bA (bA bR)
 have HUa:=Hd (rc_undo HA.out)
 have HUb:=Hd (rc_undo HQ.out)
 have hra:Hid (rcC R (.slice a n cap) (.slice b m cap2) = #[.int .i64 R.kind,.int .i64 R.xct,.int .i64 R.prev,.int .i64 R.next,.int .i64 R.uk,.int .i64 R.us,.int .i64 R.up,.int .i64 R.ul,.string R.key,.int .i64 R.bs,.string R.bd,.slice a n cap,.slice b m cap2,.int .i64 R.fresh]):=rfl
 have hrb:Hid (rcC Q (.slice a' n' cap') (.slice b' m' cap2') = #[.int .i64 Q.kind,.int .i64 Q.xct,.int .i64 Q.prev,.int .i64 Q.next,.int .i64 Q.uk,.int .i64 Q.us,.int .i64 Q.up,.int .i64 Q.ul,.string Q.key,.int .i64 Q.bs,.string Q.bd,.slice a' n' cap',.slice b' m' cap2',.int .i64 Q.fresh]):=rfl
 have ca0:((w.alloc (.cells (rcC R (.slice a n cap) (.slice b m cap2)) 65)).alloc (.cells (rcC Q (.slice a' n' cap') (.slice b' m' cap2')) 65)).cell? ⟨w.heap.size,0,none⟩=some (.int .i64 R.kind):=cell_at HA.out 0
 have cb0:((w.alloc (.cells (rcC R (.slice a n cap) (.slice b m cap2)) 65)).alloc (.cells (rcC Q (.slice a' n' cap') (.slice b' m' cap2')) 65)).cell? ⟨w.heap.size+1,0,none⟩=some (.int .i64 Q.kind):=cell_at HQ.out 0
 have ca1:((w.alloc (.cells (rcC R (.slice a n cap) (.slice b m cap2)) 65)).alloc (.cells (rcC Q (.slice a' n' cap') (.slice b' m' cap2')) 65)).cell? ⟨w.heap.size,1,none⟩=some (.int .i64 R.xct):=cell_at HA.out 1
 have cb1:((w.alloc (.cells (rcC R (.slice a n cap) (.slice b m cap2)) 65)).alloc (.cells (rcC Q (.slice a' n' cap') (.slice b' m' cap2')) 65)).cell? ⟨w.heap.size+1,1,none⟩=some (.int .i64 Q.xct):=cell_at HQ.out 1
 have ca2:((w.alloc (.cells (rcC R (.slice a n cap) (.slice b m cap2)) 65)).alloc (.cells (rcC Q (.slice a' n' cap') (.slice b' m' cap2')) 65)).cell? ⟨w.heap.size,2,none⟩=some (.int .i64 R.prev):=cell_at HA.out 2
 have cb2:((w.alloc (.cells (rcC R (.slice a n cap) (.slice b m cap2)) 65)).alloc (.cells (rcC Q (.slice a' n' cap') (.slice b' m' cap2')) 65)).cell? ⟨w.heap.size+1,2,none⟩=some (.int .i64 Q.prev):=cell_at HQ.out 2
 have ca3:((w.alloc (.cells (rcC R (.slice a n cap) (.slice b m cap2)) 65)).alloc (.cells (rcC Q (.slice a' n' cap') (.slice b' m' cap2')) 65)).cell? ⟨w.heap.size,3,none⟩=some (.int .i64 R.next):=cell_at HA.out 3
 have cb3:((w.alloc (.cells (rcC R (.slice a n cap) (.slice b m cap2)) 65)).alloc (.cells (rcC Q (.slice a' n' cap') (.slice b' m' cap2')) 65)).cell? ⟨w.heap.size+1,3,none⟩=some (.int .i64 Q.next):=cell_at HQ.out 3
 have ca13:((w.alloc (.cells (rcC R (.slice a n cap) (.slice b m cap2)) 65)).alloc (.cells (rcC Q (.slice a' n' cap') (.slice b' m' cap2')) 65)).cell? ⟨w.heap.size,13,none⟩=some (.int .i64 R.fresh):=cell_at HA.out 13
 have cb13:((w.alloc (.cells (rcC R (.slice a n cap) (.slice b m cap2)) 65)).alloc (.cells (rcC Q (.slice a' n' cap') (.slice b' m' cap2')) 65)).cell? ⟨w.heap.size+1,13,none⟩=some (.int .i64 Q.fresh):=cell_at HQ.out 13
 have ca11:((w.alloc (.cells (rcC R (.slice a n cap) (.slice b m cap2)) 65)).alloc (.cells (rcC Q (.slice a' n' cap') (.slice b' m' cap2')) 65)).cell? ⟨w.heap.size,11,none⟩=some (.slice a n cap):=cell_at HA.out 11
 have cb11:((w.alloc (.cells (rcC R (.slice a n cap) (.slice b m cap2)) 65)).alloc (.cells (rcC Q (.slice a' n' cap') (.slice b' m' cap2')) 65)).cell? ⟨w.heap.size+1,11,none⟩=some (.slice a' n' cap'):=cell_at HQ.out 11
 have ca12:((w.alloc (.cells (rcC R (.slice a n cap) (.slice b m cap2)) 65)).alloc (.cells (rcC Q (.slice a' n' cap') (.slice b' m' cap2')) 65)).cell? ⟨w.heap.size,12,none⟩=some (.slice b m cap2):=cell_at HA.out 12
 have cb12:((w.alloc (.cells (rcC R (.slice a n cap) (.slice b m cap2)) 65)).alloc (.cells (rcC Q (.slice a' n' cap') (.slice b' m' cap2')) 65)).cell? ⟨w.heap.size+1,12,none⟩=some (.slice b' m' cap2'):=cell_at HQ.out 12
 clear HUa HUb
 cases h0:(R.kind != Q.kind)
 rotate_left
 ·have hbad:Hid (¬SameRc R Q):=fun hh=>by have:=hh.1;simp[this]at h0
  go_enter Tryz.func96,Tryz.ntmps96
  go_wp2_with fail
  go_ret
  exact⟨.inr ⟨rfl,hbad.out⟩,HB.out⟩
 cases h1:(R.xct != Q.xct)
 rotate_left
 ·have hbad:Hid (¬SameRc R Q):=fun hh=>by have:=hh.2.1;simp[this]at h1
  go_enter Tryz.func96,Tryz.ntmps96
  go_wp2_with fail
  go_ret
  exact⟨.inr ⟨rfl,hbad.out⟩,HB.out⟩
 cases h2:(R.prev != Q.prev)
 rotate_left
 ·have hbad:Hid (¬SameRc R Q):=fun hh=>by have:=hh.2.2.1;simp[this]at h2
  go_enter Tryz.func96,Tryz.ntmps96
  go_wp2_with fail
  go_ret
  exact⟨.inr ⟨rfl,hbad.out⟩,HB.out⟩
 cases h3:(R.next != Q.next)
 rotate_left
 ·have hbad:Hid (¬SameRc R Q):=fun hh=>by have:=hh.2.2.2.1;simp[this]at h3
  go_enter Tryz.func96,Tryz.ntmps96
  go_wp2_with fail
  go_ret
  exact⟨.inr ⟨rfl,hbad.out⟩,HB.out⟩
 cases h4:(R.fresh != Q.fresh)
 rotate_left
 ·have hbad:Hid (¬SameRc R Q):=fun hh=>by have:=hh.2.2.2.2.1;simp[this]at h4
  go_enter Tryz.func96,Tryz.ntmps96
  go_wp2_with fail
  go_ret
  exact⟨.inr ⟨rfl,hbad.out⟩,HB.out⟩
 cases hu:(!eqUn R Q)
 rotate_left
 ·have hbad:Hid (¬SameRc R Q):=fun hh=>by obtain⟨a1,a2,a3,a4,a5,a6,a7,a8,a9,a10,a11,a12,a13,a14⟩:=hh;rw[(eqUn_iff R Q).2 ⟨a6,a7,a8,a9,a10,a11,a12⟩]at hu;cases hu
  go_enter Tryz.func96,Tryz.ntmps96
  go_wp2_with (first | ((with_reducible refine wpList_want (o:=(⟨some 42,_,_,_,_,_⟩:Oper)) ?_ ?_);rfl;(intro K hK);refine wp_load_mid 42 _ rfl w.heap.size 4 rfl (undL R) _ (rc_undo HA.out) Tryz.underlying42 rfl (by kernel_rfl) (hK _ _ ?_);clear hK K) | ((with_reducible refine wpList_want (o:=(⟨some 44,_,_,_,_,_⟩:Oper)) ?_ ?_);rfl;(intro K hK);refine wp_load_mid 42 _ rfl (w.heap.size+1) 4 rfl (undL Q) _ (rc_undo HQ.out) Tryz.underlying42 rfl (by kernel_rfl) (hK _ _ ?_);clear hK K) | ((with_reducible refine wpList_want (o:=(⟨some 45,_,_,_,_,_⟩:Oper)) ?_ ?_);rfl;(intro K hK);refine wp_ne_un _ _ _ rfl R Q _ hu rfl rfl (hK _ _ ?_);clear hK K))
  go_ret
  exact⟨.inr ⟨rfl,hbad.out⟩,HB.out⟩
 by_cases hl1:n'=n
 rotate_left
 ·have hbad:Hid (¬SameRc R Q):=fun hh=>by have e:=congrArg List.length hh.2.2.2.2.2.2.2.2.2.2.2.2.1;rw[List.length_map,List.length_map,←hn.out,←hn'.out]at e;exact hl1 e.symm
  have hx1:((n:Int) != (n':Int))=true:=by simp;omega
  have hx2:(n != n')=true:=by simp;omega
  go_enter Tryz.func96,Tryz.ntmps96
  go_wp2_with (first | ((with_reducible refine wpList_want (o:=(⟨some 42,_,_,_,_,_⟩:Oper)) ?_ ?_);rfl;(intro K hK);refine wp_load_mid 42 _ rfl w.heap.size 4 rfl (undL R) _ (rc_undo HA.out) Tryz.underlying42 rfl (by kernel_rfl) (hK _ _ ?_);clear hK K) | ((with_reducible refine wpList_want (o:=(⟨some 44,_,_,_,_,_⟩:Oper)) ?_ ?_);rfl;(intro K hK);refine wp_load_mid 42 _ rfl (w.heap.size+1) 4 rfl (undL Q) _ (rc_undo HQ.out) Tryz.underlying42 rfl (by kernel_rfl) (hK _ _ ?_);clear hK K) | ((with_reducible refine wpList_want (o:=(⟨some 45,_,_,_,_,_⟩:Oper)) ?_ ?_);rfl;(intro K hK);refine wp_ne_un _ _ _ rfl R Q _ hu rfl rfl (hK _ _ ?_);clear hK K))
  go_ret
  exact⟨.inr ⟨rfl,hbad.out⟩,HB.out⟩
 subst hl1
 by_cases hl2:m'=m
 rotate_left
 ·have hbad:Hid (¬SameRc R Q):=fun hh=>by have e:=congrArg List.length hh.2.2.2.2.2.2.2.2.2.2.2.2.2;rw[←hm.out,←hm'.out]at e;exact hl2 e.symm
  have hx1:((m:Int) != (m':Int))=true:=by simp;omega
  have hx2:(m != m')=true:=by simp;omega
  go_enter Tryz.func96,Tryz.ntmps96
  go_wp2_with (first | ((with_reducible refine wpList_want (o:=(⟨some 42,_,_,_,_,_⟩:Oper)) ?_ ?_);rfl;(intro K hK);refine wp_load_mid 42 _ rfl w.heap.size 4 rfl (undL R) _ (rc_undo HA.out) Tryz.underlying42 rfl (by kernel_rfl) (hK _ _ ?_);clear hK K) | ((with_reducible refine wpList_want (o:=(⟨some 44,_,_,_,_,_⟩:Oper)) ?_ ?_);rfl;(intro K hK);refine wp_load_mid 42 _ rfl (w.heap.size+1) 4 rfl (undL Q) _ (rc_undo HQ.out) Tryz.underlying42 rfl (by kernel_rfl) (hK _ _ ?_);clear hK K) | ((with_reducible refine wpList_want (o:=(⟨some 45,_,_,_,_,_⟩:Oper)) ?_ ?_);rfl;(intro K hK);refine wp_ne_un _ _ _ rfl R Q _ hu rfl rfl (hK _ _ ?_);clear hK K))
  go_ret
  exact⟨.inr ⟨rfl,hbad.out⟩,HB.out⟩
 subst hl2
 have hscal:Hid (R.kind=Q.kind∧R.xct=Q.xct∧R.prev=Q.prev∧R.next=Q.next∧R.fresh=Q.fresh∧R.uk=Q.uk∧R.us=Q.us∧R.up=Q.up∧R.ul=Q.ul∧R.key=Q.key∧R.bs=Q.bs∧R.bd=Q.bd):=by
  have e:=(eqUn_iff R Q).1 (by simpa using hu)
  exact⟨by simpa using h0,by simpa using h1,by simpa using h2,by simpa using h3,by simpa using h4,e⟩
 have hll:R.ims.length=Q.ims.length:=by rw[←hn.out,←hn'.out]
 have hll2:R.lvs.length=Q.lvs.length:=by rw[←hm.out,←hm'.out]
 replace hll:=Hd hll
 replace hll2:=Hd hll2
 go_enter Tryz.func96,Tryz.ntmps96
 go_wp2_with (first | ((with_reducible refine wpList_want (o:=(⟨some 42,_,_,_,_,_⟩:Oper)) ?_ ?_);rfl;(intro K hK);refine wp_load_mid 42 _ rfl w.heap.size 4 rfl (undL R) _ (rc_undo HA.out) Tryz.underlying42 rfl (by kernel_rfl) (hK _ _ ?_);clear hK K) | ((with_reducible refine wpList_want (o:=(⟨some 44,_,_,_,_,_⟩:Oper)) ?_ ?_);rfl;(intro K hK);refine wp_load_mid 42 _ rfl (w.heap.size+1) 4 rfl (undL Q) _ (rc_undo HQ.out) Tryz.underlying42 rfl (by kernel_rfl) (hK _ _ ?_);clear hK K) | ((with_reducible refine wpList_want (o:=(⟨some 45,_,_,_,_,_⟩:Oper)) ?_ ?_);rfl;(intro K hK);refine wp_ne_un _ _ _ rfl R Q _ hu rfl rfl (hK _ _ ?_);clear hK K))
 clear ca0 cb0 ca1 cb1 ca2 cb2 ca3 cb3 ca13 cb13 ca11 cb11 ca12 cb12 h0 h1 h2 h3 h4 hu hra hrb
 go_loopw [5] (fun t wr=>∃(k:Nat),k≤n'∧t = .int .i64 k∧Hid ((R.ims.take k).map imC=(Q.ims.take k).map imC)∧Hid (wr.heap[w.heap.size]? = some (.cells (rcC R (.slice a n' cap) (.slice b m' cap2)) 65 (0,0)))∧Hid (wr.heap[w.heap.size+1]? = some (.cells (rcC Q (.slice a' n' cap') (.slice b' m' cap2')) 65 (0,0)))∧Hid (Below w.heap.size w wr)) (fun t _=>n'-(intOf t).toNat)
 case atStart=>exact⟨0,Nat.zero_le _,rfl,Hd rfl,HA.out,HQ.out,HB.out⟩
 case round =>
  clear HA HQ HB
  obtain⟨k,hk,rfl,hsame,HA,HQ,HB⟩:=hrel
  have hqa:=block_lt HA.out
  have hqb:=block_lt HQ.out
  by_cases hkn:k<n'
  ·obtain⟨pb,off,rfl,hpb,hrg⟩:=(HS1.out.later HB.out).elem imL_length (k:=k) (by rw[←hn.out];exact hkn)
   obtain⟨pc,off',rfl,hpc,hrg'⟩:=(HS1'.out.later HB.out).elem imL_length (k:=k) (by rw[←hn'.out];exact hkn)
   obtain⟨x,hx⟩:∃x,R.ims[k]'(by rw[←hn.out];exact hkn)=x:=⟨_,rfl⟩
   obtain⟨y,hy⟩:∃y,Q.ims[k]'(by rw[←hn'.out];exact hkn)=y:=⟨_,rfl⟩
   have hmore:Hid (imC x=imC y→(R.ims.take (k+1)).map imC=(Q.ims.take (k+1)).map imC):=fun h=>by
    rw[List.take_succ_eq_append_getElem (by rw[←hn.out];exact hkn),List.take_succ_eq_append_getElem (by rw[←hn'.out];exact hkn),List.map_append,List.map_append,hsame.out,hx,hy]
    simp[h]
   have hno:Hid (imC x≠imC y→¬SameRc R Q):=fun h hh=>h (by
    have e:=hh.2.2.2.2.2.2.2.2.2.2.2.2.1
    have e2:(R.ims.map imC)[k]? = (Q.ims.map imC)[k]? := by rw[e]
    rw[List.getElem?_map,List.getElem?_map,List.getElem?_eq_getElem (by rw[←hn.out];exact hkn),List.getElem?_eq_getElem (by rw[←hn'.out];exact hkn),hx,hy]at e2
    simpa using e2)
   rw[hx]at hrg
   rw[hy]at hrg'
   replace hx:=Hd hx
   replace hy:=Hd hy
   replace hrg:=Hd hrg
   replace hrg':=Hd hrg'
   have hdis:Hid (eqIm x y=true↔imC x=imC y):=eqIm_iff x y
   obtain⟨bb,hbb⟩:∃bb,(!eqIm x y)=bb:=⟨_,rfl⟩
   replace hbb:=Hd hbb
   have d11:wr.cell? ⟨w.heap.size,11,none⟩=some (.slice (some ⟨pb,off,none⟩) n' cap):=cell_at HA.out 11
   go_wp2_with fail
   clear d11
   refine wp_region_held_drew (S:=fun w'=>(w'.heap[w.heap.size]? = some (.cells (rcC R (.slice (some ⟨pb,off,none⟩) n' cap) (.slice b m' cap2)) 65 (0,0))∧w'.heap[w.heap.size+1]? = some (.cells (rcC Q (.slice (some ⟨pc,off',none⟩) n' cap') (.slice b' m' cap2')) 65 (0,0)))∧w'.rangeAt pb (off+k*17) (imL x)∧w'.rangeAt pc (off'+k*17) (imL y)) (by kernel_rfl) ⟨⟨HA.out,HQ.out⟩,hrg.out,hrg'.out⟩ (fun hHeld=>?_)
   refine tp 0 (v := .pointer (some ⟨w.heap.size,11,none⟩)) hHeld ?_
   go_frame
   refine tk 1 (v := .slice (some ⟨pb,off,none⟩) n' cap) rfl (Or.inl ⟨by rfl,?_⟩) hHeld ?_
   ·intro w' hSw
    have c0:=(show w'.cell? ⟨w.heap.size,11,none⟩=some (.slice (some ⟨pb,off,none⟩) n' cap) from cell_at hSw.1.1 11)
    go_simp
    try with_reducible rfl
    try omega
   go_frame
   refine tp 2 (v := .int .i64 (k:Int)) hHeld ?_
   go_frame
   refine tp 3 (v := .pointer (some ⟨pb,off+k*17,none⟩)) hHeld ?_
   go_frame
   refine tk 4 (v := .agg (imA x)) rfl (yieldsIf_load_mid (by rfl) 51 _ rfl pb (off+k*17) rfl (imL x) _ (fun _ h=>h.2.1) Tryz.underlying51 rfl (by kernel_rfl)) hHeld ?_
   go_frame
   refine tp 5 (v := .pointer (some ⟨w.heap.size+1,11,none⟩)) hHeld ?_
   go_frame
   refine tk 6 (v := .slice (some ⟨pc,off',none⟩) n' cap') rfl (Or.inl ⟨by rfl,?_⟩) hHeld ?_
   ·intro w' hSw
    have c0:=(show w'.cell? ⟨w.heap.size+1,11,none⟩=some (.slice (some ⟨pc,off',none⟩) n' cap') from cell_at hSw.1.2 11)
    go_simp
    try with_reducible rfl
    try omega
   go_frame
   refine tp 7 (v := .int .i64 (k:Int)) hHeld ?_
   go_frame
   refine tp 8 (v := .pointer (some ⟨pc,off'+k*17,none⟩)) hHeld ?_
   go_frame
   refine tk 9 (v := .agg (imA y)) rfl (yieldsIf_load_mid (by rfl) 51 _ rfl pc (off'+k*17) rfl (imL y) _ (fun _ h=>h.2.2) Tryz.underlying51 rfl (by kernel_rfl)) hHeld ?_
   go_frame
   refine tk 10 (v := .bool bb) rfl (yieldsIf_ne_im (by rfl) _ _ _ rfl x y bb hbb.out rfl rfl) hHeld ?_
   go_frame
   refine wpAnyH_done (by kernel_rfl) ?_ _
   cases bb
   ·have hfin:=Hd (hmore.out (hdis.out.1 (by have:=hbb.out;simpa using this)))
    clear hmore hno hbb hdis hHeld
    go_wp2_with fail
    go_roundw
    case rel=>exact⟨k+1,by omega,rfl,hfin.out,hDr HA.out,hDr HQ.out,bD HB.out⟩
    case measure=>simp[intOf] <;> omega
   ·have hfin:=Hd (hno.out (fun h=>by have:=hbb.out;rw[hdis.out.2 h]at this;cases this))
    clear hmore hno hbb hdis hHeld
    go_wp2_with fail
    go_ret
    exact⟨.inr ⟨rfl,hfin.out⟩,bD HB.out⟩
  ·obtain rfl:k=n':=by omega
   have himsame:Hid (R.ims.map imC=Q.ims.map imC):=by
    have h:=hsame.out
    rw[hn.out,List.take_length,hll.out,List.take_length]at h
    exact h
   have d11:wr.cell? ⟨w.heap.size,11,none⟩=some (.slice a k cap):=cell_at HA.out 11
   have d12:wr.cell? ⟨w.heap.size,12,none⟩=some (.slice b m' cap2):=cell_at HA.out 12
   clear hsame HS1 HS1' hkn hk
   go_wp2_with fail
   clear d11 d12
   go_loopw [6] (fun t wr=>∃(j:Nat),j≤m'∧t = .int .i64 j∧Hid (R.lvs.take j=Q.lvs.take j)∧Hid (wr.heap[w.heap.size]? = some (.cells (rcC R (.slice a k cap) (.slice b m' cap2)) 65 (0,0)))∧Hid (wr.heap[w.heap.size+1]? = some (.cells (rcC Q (.slice a' k cap') (.slice b' m' cap2')) 65 (0,0)))∧Hid (Below w.heap.size w wr)) (fun t _=>m'-(intOf t).toNat)
   case atStart=>exact⟨0,Nat.zero_le _,rfl,Hd rfl,HA.out,HQ.out,HB.out⟩
   case round =>
    clear HA HQ HB hqa hqb
    obtain⟨j,hj,rfl,hsame,HA,HQ,HB⟩:=hrel
    have hqa:=block_lt HA.out
    have hqb:=block_lt HQ.out
    by_cases hjm:j<m'
    ·obtain⟨pb,off,rfl,hpb,hrg⟩:=(HS2.out.later HB.out).elem lvL_length (k:=j) (by rw[←hm.out];exact hjm)
     obtain⟨pc,off',rfl,hpc,hrg'⟩:=(HS2'.out.later HB.out).elem lvL_length (k:=j) (by rw[←hm'.out];exact hjm)
     obtain⟨x,hx⟩:∃x,R.lvs[j]'(by rw[←hm.out];exact hjm)=x:=⟨_,rfl⟩
     obtain⟨y,hy⟩:∃y,Q.lvs[j]'(by rw[←hm'.out];exact hjm)=y:=⟨_,rfl⟩
     have hmore:Hid (x=y→R.lvs.take (j+1)=Q.lvs.take (j+1)):=fun h=>by
      rw[List.take_succ_eq_append_getElem (by rw[←hm.out];exact hjm),List.take_succ_eq_append_getElem (by rw[←hm'.out];exact hjm),hsame.out,hx,hy,h]
     have hno:Hid (x≠y→¬SameRc R Q):=fun h hh=>h (by
      have e:=hh.2.2.2.2.2.2.2.2.2.2.2.2.2
      have e2:R.lvs[j]? = Q.lvs[j]? := by rw[e]
      rw[List.getElem?_eq_getElem (by rw[←hm.out];exact hjm),List.getElem?_eq_getElem (by rw[←hm'.out];exact hjm),hx,hy]at e2
      simpa using e2)
     rw[hx]at hrg
     rw[hy]at hrg'
     replace hx:=Hd hx
     replace hy:=Hd hy
     replace hrg:=Hd hrg
     replace hrg':=Hd hrg'
     have hdis:Hid (eqLv x y=true↔x=y):=eqLv_iff x y
     obtain⟨bb,hbb⟩:∃bb,(!eqLv x y)=bb:=⟨_,rfl⟩
     replace hbb:=Hd hbb
     have d12:wr.cell? ⟨w.heap.size,12,none⟩=some (.slice (some ⟨pb,off,none⟩) m' cap2):=cell_at HA.out 12
     go_wp2_with fail
     clear d12
     refine wp_region_held_drew (S:=fun w'=>(w'.heap[w.heap.size]? = some (.cells (rcC R (.slice a k cap) (.slice (some ⟨pb,off,none⟩) m' cap2)) 65 (0,0))∧w'.heap[w.heap.size+1]? = some (.cells (rcC Q (.slice a' k cap') (.slice (some ⟨pc,off',none⟩) m' cap2')) 65 (0,0)))∧w'.rangeAt pb (off+j*3) (lvL x)∧w'.rangeAt pc (off'+j*3) (lvL y)) (by kernel_rfl) ⟨⟨HA.out,HQ.out⟩,hrg.out,hrg'.out⟩ (fun hHeld=>?_)
     refine tp 0 (v := .pointer (some ⟨w.heap.size,12,none⟩)) hHeld ?_
     go_frame
     refine tk 1 (v := .slice (some ⟨pb,off,none⟩) m' cap2) rfl (Or.inl ⟨by rfl,?_⟩) hHeld ?_
     ·intro w' hSw
      have c0:=(show w'.cell? ⟨w.heap.size,12,none⟩=some (.slice (some ⟨pb,off,none⟩) m' cap2) from cell_at hSw.1.1 12)
      go_simp
      try with_reducible rfl
      try omega
     go_frame
     refine tp 2 (v := .int .i64 (j:Int)) hHeld ?_
     go_frame
     refine tp 3 (v := .pointer (some ⟨pb,off+j*3,none⟩)) hHeld ?_
     go_frame
     refine tk 4 (v := .agg ((lvL x).toArray)) rfl (yieldsIf_load_mid (by rfl) 61 _ rfl pb (off+j*3) rfl (lvL x) _ (fun _ h=>h.2.1) Tryz.underlying61 rfl (by kernel_rfl)) hHeld ?_
     go_frame
     refine tp 5 (v := .pointer (some ⟨w.heap.size+1,12,none⟩)) hHeld ?_
     go_frame
     refine tk 6 (v := .slice (some ⟨pc,off',none⟩) m' cap2') rfl (Or.inl ⟨by rfl,?_⟩) hHeld ?_
     ·intro w' hSw
      have c0:=(show w'.cell? ⟨w.heap.size+1,12,none⟩=some (.slice (some ⟨pc,off',none⟩) m' cap2') from cell_at hSw.1.2 12)
      go_simp
      try with_reducible rfl
      try omega
     go_frame
     refine tp 7 (v := .int .i64 (j:Int)) hHeld ?_
     go_frame
     refine tp 8 (v := .pointer (some ⟨pc,off'+j*3,none⟩)) hHeld ?_
     go_frame
     refine tk 9 (v := .agg ((lvL y).toArray)) rfl (yieldsIf_load_mid (by rfl) 61 _ rfl pc (off'+j*3) rfl (lvL y) _ (fun _ h=>h.2.2) Tryz.underlying61 rfl (by kernel_rfl)) hHeld ?_
     go_frame
     refine tk 10 (v := .bool bb) rfl (yieldsIf_ne_lv (by rfl) _ _ _ rfl x y bb hbb.out rfl rfl) hHeld ?_
     go_frame
     refine wpAnyH_done (by kernel_rfl) ?_ _
     cases bb
     ·have hfin:=Hd (hmore.out (hdis.out.1 (by have:=hbb.out;simpa using this)))
      clear hmore hno hbb hdis hHeld
      go_wp2_with fail
      go_roundw
      case rel=>exact⟨j+1,by omega,rfl,hfin.out,hDr HA.out,hDr HQ.out,bD HB.out⟩
      case measure=>simp[intOf] <;> omega
     ·have hfin:=Hd (hno.out (fun h=>by have:=hbb.out;rw[hdis.out.2 h]at this;cases this))
      clear hmore hno hbb hdis hHeld
      go_wp2_with fail
      go_ret
      exact⟨.inr ⟨rfl,hfin.out⟩,bD HB.out⟩
    ·obtain rfl:j=m':=by omega
     have hfin:Hid (SameRc R Q):=by
      have h:=hsame.out
      rw[hm.out,List.take_length,hll2.out,List.take_length]at h
      obtain⟨a1,a2,a3,a4,a5,a6,a7,a8,a9,a10,a11,a12⟩:=hscal.out
      exact⟨a1,a2,a3,a4,a5,a6,a7,a8,a9,a10,a11,a12,himsame.out,h⟩
     have d12:wr.cell? ⟨w.heap.size,12,none⟩=some (.slice b j cap2):=cell_at HA.out 12
     go_wp2_with fail
     go_ret
     exact⟨.inl ⟨rfl,hfin.out⟩,HB.out⟩
end Go.Proofs.YtimomjheanfbmaaGreatDoor
