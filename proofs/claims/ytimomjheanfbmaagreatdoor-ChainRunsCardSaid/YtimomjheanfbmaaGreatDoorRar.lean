import Derived.Test.YtimomjheanfbmaaGreatDoorQaa
import Derived.Test.YtimomjheanfbmaaGreatDoorRaq
set_option linter.unusedSimpArgs false
set_option linter.unusedVariables false
namespace Go.Proofs.YtimomjheanfbmaaGreatDoor.G
open Go.RowKit
structure Un where
 uk:Int
 us:Int
 up:Int
 ul:Int
 key:ByteArray
 bs:Int
 bd:ByteArray
def unL (u:Un):List Value:=[.int .i64 u.uk,.int .i64 u.us,.int .i64 u.up,.int .i64 u.ul,.string u.key,.int .i64 u.bs,.string u.bd]
def chgR (x last:Int) (u:Un) (ims:List (Int×Pg)):Rc:={kind:=1,xct:=x,prev:=last,next:=0,uk:=u.uk,us:=u.us,up:=u.up,ul:=u.ul,key:=u.key,bs:=u.bs,bd:=u.bd,fresh:=0,ims:=ims,lvs:=[]}
theorem nil_sl (w:World):Sl w nilS 3 (([]:List Lv).map lvL):=⟨none,0,rfl,Nat.zero_le _,fun h=>absurd rfl h⟩
theorem own_free {w:World} {e:TypeId} {size g n c:Nat} {xs:List Value} (h:OwnS w e size (.slice (some ⟨g,0,none⟩) n c) n xs) (j:Nat):w.frozen? ⟨g,j,none⟩=false:=by
 rcases h.2 with⟨he,_⟩ | ⟨g1,cap,cur,he,hb,hg,hnc,hcm,hcs,htake⟩
 · simp at he
 ·simp only[Value.slice.injEq,Option.some.injEq,Addr.mk.injEq,and_true,true_and]at he
  obtain⟨rfl,rfl⟩:=he
  exact free_at hg _
theorem lvV_set:∀(l:List Lv) (i j:Nat) (s s':Lv) (u:Value),l[i]? = some s→j<3→(lvL s).set j u=lvL s'→(lvV l).set (i*3+j) u=lvV (l.set i s')
 | [],i,j,s,s',u,h,_,_=>by simp at h
 | x::l,0,j,s,s',u,h,hj,he=>by
  simp only[List.getElem?_cons_zero,Option.some.injEq]at h
  subst h
  show ((lvL x)++lvV l).set (0*3+j) u=lvL s'++lvV l
  rw[List.set_append_left _ _ (by show 0*3+j<3;omega),show 0*3+j=j by omega,he]
 | x::l,i+1,j,s,s',u,h,hj,he=>by
  show ((lvL x)++lvV l).set ((i+1)*3+j) u=lvL x++lvV (l.set i s')
  rw[List.set_append_right _ _ (by show 3≤(i+1)*3+j;omega),show (i+1)*3+j-(lvL x).length=i*3+j by show (i+1)*3+j-3=_;omega,lvV_set l i j s s' u (by simpa using h) hj he]
def setLast (s:Lv) (fin:Int):Lv:=(s.1,if s.2.1=0 then fin else s.2.1,fin)
def CS.changed (σ:CS) (x:Int) (i:Nat) (s:Lv) (u:Un) (ims:List (Int×Pg)) (q:Nat):CS :=
 {σ with recs:=σ.recs++[chgR x s.2.2 u ims],M:=putIms σ.M ims (σ.fin:Int),lives:=σ.lives.set i (setLast s (σ.fin:Int)),B:=addB σ.B x q 1,T:=(σ.T.1+q,σ.T.2+1),cnt:=σ.cnt+1}
section
variable {w0 w w':World} {L:List Nat} {c lp p dp pg lb mb n:Nat} {lv:Value} {σ:CS}
theorem Cx.setIn (h:Cx w0 w L c lp p dp pg lb mb n lv σ) {l:List Lv} (ho:OwnS w' 61 3 lv l.length (lvV l)) (hk:Keeps (· ∈ blk lv) w w') (hl:l.length=σ.lives.length):Cx w0 w' L c lp p dp pg lb mb n lv {σ with lives:=l}:=by
 have hnd:=h.ch.nd
 simp only[List.nodup_cons,List.mem_cons,not_or]at hnd
 obtain⟨⟨d1,d2,d3⟩,⟨d4,d5⟩,d6,d7⟩:=hnd
 exact⟨⟨hk.keep h.ch.cell d3,ho,h.ch.lg.keep hk d5 d6,by show l.length≤8;rw[hl];exact h.ch.len,h.ch.nd⟩,h.kx.keep3 hk (fun q hq=>⟨by simp[chL,hq],(h.hi q (by simp[chL,hq])).1⟩),h.hi,h.most,h.ok,h.cn⟩
theorem CS.free_full {σ:CS} {R:Rc} {k:Nat} (hk:0<k) (h:Fits k 1 σ.T (σ.free ((rcS R).size+2)) 1073741824):¬Full σ.used (rcS R):=fun hf=>by
 have:=h.1
 unfold CS.free at this
 unfold Full at hf
 omega
def ChU (g ub i:Nat) (last:Int) (u:Un) (w:World):Prop:=w.cell? ⟨g,i*3+2,none⟩=some (.int .i64 last)∧w.heap[ub]? = some (.cells (unL u).toArray 42 (0,0))
set_option maxRecDepth 100000 in
set_option maxHeartbeats 1600000 in
theorem cx_change (h:Cx w0 w L c lp p dp pg lb mb n lv σ) (hcnt:σ.cnt<100000000000) (x:Int) (hx:RngK x) (u:Un) (huk:u.uk≠0) (hkey:u.key.size≤maxLen) (hbd:u.bd.size≤maxLen) (ims:List (Int×Pg)) (hi1:ims.length≤1) (hpg:∀y∈ims,y.1<6) (hdt:∀y∈ims,∀i,i<6→(y.2.dt i).size≤maxLen) (iv:Value)
  (hiv:∀w',Keeps (Own w0 L) w w'→Sl w' iv 17 (ims.map imL)) (mi:Int) :
  Calls Tryz.prog 15 #[.pointer (some ⟨c,0,none⟩),.int .i64 x,.agg (unL u).toArray,iv,.int .i64 mi] w fun e w'=>Keeps (Own w0 L) w w' ∧
   (
    ((∀s∈σ.lives,s.1≠x)∧e = .returned (.int .i64 191)∧Cx w0 w' L c lp p dp pg lb mb n lv σ) ∨
    ∃(i:Nat) (s:Lv),σ.lives[i]? = some s∧s.1=x∧(∀j s',j<i→σ.lives[j]? = some s'→s'.1≠x) ∧
     (
      (¬(RcOk (chgR x s.2.2 u ims)∧0≤mi∧mi≤1048576)∧e = .returned (.int .i64 1)∧Cx w0 w' L c lp p dp pg lb mb n lv σ) ∨
      ((RcOk (chgR x s.2.2 u ims)∧0≤mi∧mi≤1048576)∧¬Fits (320+mi.toNat) 1 σ.T (σ.free ((rcS (chgR x s.2.2 u ims)).size+2)) 1073741824∧e = .returned (.int .i64 70)∧Cx w0 w' L c lp p dp pg lb mb n lv σ) ∨
      ((RcOk (chgR x s.2.2 u ims)∧0≤mi∧mi≤1048576)∧Fits (320+mi.toNat) 1 σ.T (σ.free ((rcS (chgR x s.2.2 u ims)).size+2)) 1073741824∧e = .returned (.int .i64 0)∧∃n',Cx w0 w' L c lp p dp pg lb mb n' lv (σ.changed x i s u ims (320+mi.toNat))))):=by
 obtain⟨ia,im,ic,rfl,-,-,-⟩:=sl_open (hiv w (Keeps.refl _ _))
 have H:=Hd h
 have HU:Hid ((w.alloc (.cells (unL u).toArray 42)).heap[w.heap.size]? = some (.cells (unL u).toArray 42 (0,0))):=hN rfl
 have HFi:=Hd (ch_find (h.ch.later (bA (o := .cells (unL u).toArray 42) bR)) x)
 have HIV:=Hd (fun (last:Int) (w':World) (hk:Keeps (Own w0 L) w w')=>(show RcSl w' (chgR x last u ims) (.slice ia im ic) nilS from⟨hiv w' hk,nil_sl w',hkey,hbd,hdt⟩))
 obtain⟨q,hq⟩:∃q:Nat,320+mi.toNat=q:=⟨_,rfl⟩
 rw[hq]
 replace hq:=Hd hq
 have hmT:=Hd h.most
 have hcn:=Hd (show n<1000000000000 by have:=h.cn;omega)
 have hcn2:=Hd h.cn
 have hx':=Hd hx
 have hpg':=Hd hpg
 have hi1':=Hd hi1
 have hukd:(u.uk==0)=false:=by simpa using huk
 clear h hiv hkey hbd hdt hcnt hx hpg hi1 huk
 go_enter Tryz.func15,Tryz.ntmps15
 go_wp2_with fail
 refine(HFi.out).mono ?_
 rintro e w1 ⟨hr,hb1⟩
 have hbb:Below w.heap.size w w1:=bT (bA bR) hb1
 have HU1:=Hd (hBs hb1 HU.out)
 have HKL1:Hid (Keeps (Own w0 L) w w1):=Keeps.of_below _ hbb
 have HX1:=Hd (H.out.push hbb w.heap.size (Nat.le_refl _) (block_lt HU1.out))
 clear hb1 hbb HFi HU
 rcases hr with⟨i,s,e1,e2,e3,rfl⟩ | ⟨e1,rfl⟩
 rotate_left
 ·have hfin:=Hd e1
  clear e1
  go_wp2_with fail
  go_ret
  exact⟨HKL1.out,.inl ⟨hfin.out,rfl,HX1.out.pop⟩⟩
 have hfin:=Hd (And.intro e1 (And.intro e2 e3))
 have hil:i<σ.lives.length:=(List.getElem?_eq_some_iff.1 e1).1
 obtain⟨sa,sc,hlv⟩:=H.out.ch.own.form
 subst hlv
 obtain⟨g,rfl⟩:=H.out.ch.own.spot (by omega)
 obtain⟨m,hm⟩:∃m,σ.lives.length=m:=⟨_,rfl⟩
 have C3:w1.cell? ⟨c,3,none⟩=some (.slice (some ⟨g,0,none⟩) σ.lives.length sc):=cell_at HX1.out.ch.cell 3
 have hlast:=lv_range HX1.out.ch.own i s e1 2 _ rfl
 have hi0:¬(i:Int)<0:=by omega
 have hd0:decide ((i:Int)<0)=false:=decide_eq_false hi0
 have hi1:(i:Int)<σ.lives.length:=by omega
 have hilN:=Hd hil
 clear e1 e2 e3 hil
 go_upto_region 5 with fail
 have hS0:ChU g w.heap.size i s.2.2 u w1.drew:=⟨hlast,hDr HU1.out⟩
 refine wp_region_held_drew (S:=ChU g w.heap.size i s.2.2 u) (by kernel_rfl) hS0 (fun hHeld=>?_)
 refine tx2 0 hHeld ?_
 go_frame
 refine tx2 1 hHeld ?_
 go_frame
 refine tx2 2 hHeld ?_
 go_frame
 refine tx2 3 hHeld ?_
 go_frame
 refine tx2 4 hHeld ?_
 go_frame
 refine tk 5 (v := .agg (unL u).toArray) rfl (yieldsIf_load_mid (by rfl) _ _ rfl w.heap.size 0 rfl (unL u) _ (fun _ h=>range_of h.2) Tryz.underlying42 rfl (by kernel_rfl)) hHeld ?_
 go_frame
 refine tx2 6 hHeld ?_
 go_frame
 refine tk 7 (v := .agg (rcC (chgR x s.2.2 u ims) (.slice ia im ic) nilS)) rfl (Or.inl ⟨by rfl,?_⟩) hHeld ?_
 ·intro w' hSw
  simp only[unL]
  go_simp
  try rfl
  try omega
 go_frame
 refine rd 8 (fun K hK=>?_)
 go_simp
 have hS1:ChU g w.heap.size i s.2.2 u (w1.drew.alloc (.cells (rcC rcZ nilS nilS) 65)):=⟨by rw[←hS0.1];unfold World.cell?;rw[Below.heap_alloc _ _ _ (by show g<w1.heap.size;exact HX1.out.ch.lt g (by simp[chL,blk,Value.ownBlock]))],hO hS0.2⟩
 refine hK.out _ _ hS1 (fun hHeld=>?_)
 clear hK K
 try go_frame
 refine rd 9 (fun K hK=>?_)
 have hones:Hid (∀v∈(rcC (chgR x s.2.2 u ims) (.slice ia im ic) nilS).toList,v.oneCell'=true):=rcC_one rfl rfl
 have HZ:Hid ((w1.alloc (.cells (rcC rcZ nilS nilS) 65)).drew.heap[w1.heap.size]? = some (.cells (rcC rcZ nilS nilS) 65 (0,0))):=hDr (hN rfl)
 refine step_store_whole rfl 65 _ _ rfl w1.heap.size (rcC (chgR x s.2.2 u ims) (.slice ia im ic) nilS) rfl rfl _ _ HZ.out rfl (by kernel_rfl) hones.out ?_
 intro w3 HR3 K3
 have hk3:Keeps (fun _=>False) w1 w3:=(((Keeps.refl (fun _=>False) w1).alloc _).drew).trans K3.out (fun q hq e=>by omega)
 have hS3:ChU g w.heap.size i s.2.2 u w3:=⟨by rw[←hlast];unfold World.cell?;rw[hk3.block g (HX1.out.ch.lt g (by simp[chL,blk,Value.ownBlock])) (fun h=>h)],hk3.keep HU1.out (fun h=>h)⟩
 have HX3:=Hd (HX1.out.push hk3.below w1.heap.size (Nat.le_refl _) (block_lt HR3.out))
 have HU3:=Hd (hk3.keep HU1.out (fun h=>h))
 have HKL3:Hid (Keeps (Own w0 L) w w3):=HKL1.out.trans hk3 (fun _ _ h=>h.elim)
 refine hK.out _ _ hS3 (fun hHeld=>?_)
 clear hK K hHeld hS3 hS0 HZ K3 hk3 HX1 HKL1 HU1 C3 hlast hones
 try go_frame
 refine wpAnyH_done (by kernel_rfl) ?_ _
 have HCk:=Hd (rc_check _ _ _ _ (HIV.out s.2.2 w3 HKL3.out))
 go_wp2_with (refine wpList_load_row rfl 65 _ rfl _ rfl 65 _ _ _ HR3.out Tryz.underlying65 rfl (by kernel_rfl) ?_)
 refine(HCk.out).mono ?_
 rintro e w4 ⟨hc,hb4⟩
 have HR4:=Hd (hBs hb4 HR3.out)
 have HU4:=Hd (hBs hb4 HU3.out)
 have HX4:=Hd (HX3.out.later hb4)
 have HKL4:Hid (Keeps (Own w0 L) w w4):=HKL3.out.trans (Keeps.of_below (fun _=>False) hb4) (fun _ _ h=>h.elim)
 have U0:w4.cell? ⟨w.heap.size,0,none⟩=some (.int .i64 u.uk):=cell_at HU4.out 0
 clear hb4 HCk HX3 HKL3 HU3 HR3
 rcases hc with⟨rfl,hok⟩ | ⟨rfl,hno⟩
 rotate_left
 ·have hno2:=Hd hno
  clear hno
  go_wp2_with fail
  go_ret
  exact⟨HKL4.out,.inr ⟨i,s,hfin.out.1,hfin.out.2.1,hfin.out.2.2,.inl ⟨fun h=>hno2.out h.1,rfl,HX4.out.pop.pop⟩⟩⟩
 have hok2:=Hd hok
 clear hok
 by_cases hm1:mi<0
 ·have hd1:decide (mi<0)=true:=decide_eq_true hm1
  go_wp2_with fail
  go_ret
  exact⟨HKL4.out,.inr ⟨i,s,hfin.out.1,hfin.out.2.1,hfin.out.2.2,.inl ⟨fun h=>by omega,rfl,HX4.out.pop.pop⟩⟩⟩
 have hd1:decide (mi<0)=false:=decide_eq_false hm1
 by_cases hm2:1048576<mi
 ·have hd2:decide (1048576<mi)=true:=decide_eq_true hm2
  go_wp2_with fail
  go_ret
  exact⟨HKL4.out,.inr ⟨i,s,hfin.out.1,hfin.out.2.1,hfin.out.2.2,.inl ⟨fun h=>by omega,rfl,HX4.out.pop.pop⟩⟩⟩
 have hd2:decide (1048576<mi)=false:=decide_eq_false hm2
 have hmi:Hid (0≤mi∧mi≤1048576):=by show _∧_;omega
 obtain⟨A,hA⟩:∃A:Int,320+mi=A:=⟨_,rfl⟩
 replace hq:=hq.out
 have hAq:A=(q:Int):=by omega
 have hqb:q≤1048896∧320≤q:=by omega
 have hw320:IntKind.i64.wrap (320+mi)=A:=by rw[IntKind.wrap_i64];omega
 have hfo:floatOfInt .f64 A=flB q:=by rw[hAq];exact fl_of_int q (by omega)
 have hfo2:FloatKind.f64.nearest A=flB q:=hfo
 have hqN:=Hd hqb
 clear hA hAq hq hqb hm1 hm2
 go_upto_region 9 with fail
 have hS0:ChB c lp p lb (.slice (some ⟨g,0,none⟩) σ.lives.length sc) σ.fresh w4.drew∧w4.drew.heap[w1.heap.size]? = some (.cells (rcC (chgR x s.2.2 u ims) (.slice ia im ic) nilS) 65 (0,0)):=⟨HX4.out.ch.cell,hDr HR4.out⟩
 have HX5:=Hd (HX4.out.later (bD bR))
 have HR5:=Hd (hDr HR4.out)
 have HKL5:Hid (Keeps (Own w0 L) w w4.drew):=HKL4.out.drew
 clear HX4 HR4 HKL4 U0 HU4
 refine wp_region_held_drew (S:=fun W=>ChB c lp p lb (.slice (some ⟨g,0,none⟩) σ.lives.length sc) σ.fresh W∧W.heap[w1.heap.size]? = some (.cells (rcC (chgR x s.2.2 u ims) (.slice ia im ic) nilS) 65 (0,0))) (by kernel_rfl) hS0 (fun hHeld=>?_)
 refine tk 0 (v:=?_) rfl (Or.inl ⟨by rfl,?_⟩) hHeld ?_
 rotate_left
 ·intro w' hSw
  obtain⟨s1,s2,s3,s4⟩:=chb_cells hSw.1
  go_simp
  try with_reducible rfl
  try omega
 go_frame
 refine tk 1 (v:=?_) rfl (Or.inl ⟨by rfl,?_⟩) hHeld ?_
 rotate_left
 ·intro w' hSw
  obtain⟨s1,s2,s3,s4⟩:=chb_cells hSw.1
  go_simp
  try with_reducible rfl
  try omega
 go_frame
 refine tk 2 (v:=?_) rfl (Or.inl ⟨by rfl,?_⟩) hHeld ?_
 rotate_left
 ·intro w' hSw
  obtain⟨s1,s2,s3,s4⟩:=chb_cells hSw.1
  go_simp
  try with_reducible rfl
  try omega
 go_frame
 refine tk 3 (v:=?_) rfl (Or.inl ⟨by rfl,?_⟩) hHeld ?_
 rotate_left
 ·intro w' hSw
  obtain⟨s1,s2,s3,s4⟩:=chb_cells hSw.1
  go_simp
  try with_reducible rfl
  try omega
 go_frame
 refine tk 4 (v:=?_) rfl (Or.inl ⟨by rfl,?_⟩) hHeld ?_
 rotate_left
 ·intro w' hSw
  obtain⟨s1,s2,s3,s4⟩:=chb_cells hSw.1
  go_simp
  try with_reducible rfl
  try omega
 go_frame
 refine tk 5 (v:=?_) rfl (Or.inl ⟨by rfl,?_⟩) hHeld ?_
 rotate_left
 ·intro w' hSw
  obtain⟨s1,s2,s3,s4⟩:=chb_cells hSw.1
  go_simp
  try with_reducible rfl
  try omega
 go_frame
 refine tk 6 (v := .int .i64 A) rfl (Or.inl ⟨by rfl,?_⟩) hHeld ?_
 ·intro w' hSw
  obtain⟨s1,s2,s3,s4⟩:=chb_cells hSw.1
  go_simp
  try with_reducible rfl
  try omega
 go_frame
 refine tk 7 (v := .float .f64 (flB q)) rfl (Or.inl ⟨by rfl,?_⟩) hHeld ?_
 ·intro w' hSw
  obtain⟨s1,s2,s3,s4⟩:=chb_cells hSw.1
  go_simp
  try with_reducible rfl
  try omega
 go_frame
 refine tk 8 (v := .complex .f64 (flB q) 4607182418800017408) rfl (Or.inl ⟨by rfl,?_⟩) hHeld ?_
 ·intro w' hSw
  obtain⟨s1,s2,s3,s4⟩:=chb_cells hSw.1
  go_simp
  try with_reducible rfl
  try omega
 go_frame
 refine tk 9 (v:=?_) rfl (Or.inl ⟨by rfl,?_⟩) hHeld ?_
 rotate_left
 ·intro w' hSw
  obtain⟨s1,s2,s3,s4⟩:=chb_cells hSw.1
  go_simp
  try with_reducible rfl
  try omega
 go_frame
 refine tk 10 (v := .agg (rcC (chgR x s.2.2 u ims) (.slice ia im ic) nilS)) rfl (yieldsIf_load_mid (by rfl) _ _ rfl w1.heap.size 0 rfl (rcC (chgR x s.2.2 u ims) (.slice ia im ic) nilS).toList _ (fun _ h=>range_of h.2) Tryz.underlying65 rfl (by kernel_rfl)) hHeld ?_
 go_frame
 refine rd 11 (fun K hK=>?_)
 go_simp
 go_at_call 59
 refine(ch_size _ _ _ w4.drew (fun w' hb=>HIV.out s.2.2 w' (HKL5.out.trans (Keeps.of_below (fun _=>False) hb) (fun _ _ h=>h.elim))) hok2.out).mono ?_
 rintro e w6 ⟨rfl,hb6⟩
 have HX6:=Hd (HX5.out.later hb6)
 have HR6:=Hd (hBs hb6 HR5.out)
 have HKL6:Hid (Keeps (Own w0 L) w w6):=HKL5.out.trans (Keeps.of_below (fun _=>False) hb6) (fun _ _ h=>h.elim)
 clear hb6 HX5 HR5 HKL5 hS0
 go_wp2_with fail
 refine hK.out _ _ ⟨HX6.out.ch.cell,HR6.out⟩ (fun hHeld=>?_)
 clear hK K
 try go_frame
 refine rd 12 (fun K hK=>?_)
 go_simp
 go_at_call 54
 refine(cx_free HX6.out ((rcS (chgR x s.2.2 u ims)).size+2) (by have:=(rc_sizes hok2.out).2;omega)).mono ?_
 rintro e w7 ⟨rfl,hb7⟩
 have HX7:=Hd (HX6.out.later hb7)
 have HR7:=Hd (hBs hb7 HR6.out)
 have HKL7:Hid (Keeps (Own w0 L) w w7):=HKL6.out.trans (Keeps.of_below (fun _=>False) hb7) (fun _ _ h=>h.elim)
 clear hb7 HX6 HR6 HKL6
 go_wp2_with fail
 refine hK.out _ _ ⟨HX7.out.ch.cell,HR7.out⟩ (fun hHeld=>?_)
 clear hK K
 try go_frame
 refine rd 13 (fun K hK=>?_)
 go_simp
 go_at_call 53
 obtain⟨fr,hfr⟩:∃f,σ.free ((rcS (chgR x s.2.2 u ims)).size+2)=f:=⟨_,rfl⟩
 rw[hfr]
 have hfl:fr≤6912:=by rw[←hfr];unfold CS.free;omega
 have HT:=Hd (lg_take HX7.out.ch.lg hmT.out hcn.out x hx'.out q 1 fr 1073741824 ⟨by have:=hqN.out;show q≤_;omega,by show 1≤_;decide⟩ ⟨by show fr≤_;omega,by show 1073741824≤1099511627776;decide⟩)
 rw[flB_one]at HT
 have hfl2:=Hd hfl
 replace hfr:=Hd hfr
 clear hfl
 refine(HT.out).mono ?_
 rintro e w8 hres
 clear HT
 rcases hres with⟨hno,rfl,hl,hb8⟩ | ⟨hyes,rfl,hl,hk8⟩
 ·have HX8:=Hd (HX7.out.later hb8)
  have HR8:=Hd (hBs hb8 HR7.out)
  have HKL8:Hid (Keeps (Own w0 L) w w8):=HKL7.out.trans (Keeps.of_below (fun _=>False) hb8) (fun _ _ h=>h.elim)
  have hno2:Hid (¬Fits q 1 σ.T fr 1073741824):=hno
  clear hb8 hl hno HX7 HR7 HKL7
  go_wp2_with fail
  refine hK.out _ _ ⟨HX8.out.ch.cell,HR8.out⟩ (fun hHeld=>?_)
  clear hK K
  try go_frame
  refine tc 14 hHeld ?_
  go_frame
  refine tc 15 hHeld ?_
  go_frame
  refine tc 16 hHeld ?_
  go_frame
  refine tc 17 hHeld ?_
  go_frame
  refine tc 18 hHeld ?_
  go_frame
  clear hHeld
  refine wpAnyH_done (by kernel_rfl) ?_ _
  go_wp2_with fail
  go_ret
  exact⟨HKL8.out,.inr ⟨i,s,hfin.out.1,hfin.out.2.1,hfin.out.2.2,.inr (.inl ⟨⟨hok2.out,hmi.out⟩,by rw[hfr.out];exact hno2.out,rfl,HX8.out.pop.pop⟩)⟩⟩
 ·have hyes2:Hid (Fits q 1 σ.T fr 1073741824):=hyes
  have HX8:=Hd (HX7.out.book (q:=σ.cnt+1) hl hk8 ⟨by have:=hyes.1;have:=hfl2.out;show _+_≤_;omega,by have:=hyes.2;show _+_≤_;omega⟩ (by have:=hcn2.out;omega))
  have HR8:=Hd (hk8.keep HR7.out (fun e=>(HX7.out.hi mb (by simp[chL])).2 (by simp[e])))
  have hkk:Keeps (Own w0 (w1.heap.size::w.heap.size::L)) w7 w8:=hk8.mono (fun k _ e=>by subst e;exact HX7.out.owns (by simp[chL]))
  have HKL8:Hid (Keeps (Own w0 L) w w8):=HKL7.out.trans hkk (fun k _ h=>⟨h.1,fun h'=>h.2 (by simp[h'])⟩)
  have hnf:Hid (¬Full σ.used (rcS (chgR x s.2.2 u ims))):=CS.free_full (k:=q) (by have:=hqN.out;omega) (by rw[hfr.out];exact hyes)
  clear hl hk8 hkk hyes HX7 HR7 HKL7
  go_wp2_with fail
  refine hK.out _ _ ⟨HX8.out.ch.cell,HR8.out⟩ (fun hHeld=>?_)
  clear hK K
  try go_frame
  refine tc 14 hHeld ?_
  go_frame
  refine tc 15 hHeld ?_
  go_frame
  refine tc 16 hHeld ?_
  go_frame
  refine tc 17 hHeld ?_
  go_frame
  refine tc 18 hHeld ?_
  go_frame
  clear hHeld
  refine wpAnyH_done (by kernel_rfl) ?_ _
  have HW:=Hd (cx_write HX8.out (chgR x s.2.2 u ims) hok2.out hi1'.out hpg'.out (.slice ia im ic) nilS (fun w' hk=>HIV.out s.2.2 w' (HKL8.out.trans hk (fun k _ h=>⟨h.1,fun h'=>h.2 (by simp[h'])⟩))))
  go_wp2_with (refine wpList_load_row rfl 65 _ rfl _ rfl 65 _ _ _ HR8.out Tryz.underlying65 rfl (by kernel_rfl) ?_)
  refine(HW.out).mono ?_
  rintro e w9 ⟨hres,hk9⟩
  have HKL9:Hid (Keeps (Own w0 L) w w9):=HKL8.out.trans hk9 (fun k _ h=>⟨h.1,fun h'=>h.2 (by simp[h'])⟩)
  clear hk9 HW HX8 HR8 HKL8
  rcases hres with⟨hf,-,-⟩ | ⟨-,he,hx9⟩
  · exact absurd hf hnf.out
  obtain⟨fin,hfn⟩:∃f:Int,(σ.fin:Int)=f:=⟨_,rfl⟩
  have hx9':Cx w0 w9 (w1.heap.size::w.heap.size::L) c lp p dp pg lb mb (n+1) (.slice (some ⟨g,0,none⟩) σ.lives.length sc) {σ with recs:=σ.recs++[chgR x s.2.2 u ims],M:=putIms σ.M ims (σ.fin:Int),B:=addB σ.B x q 1,T:=(σ.T.1+q,σ.T.2+1),cnt:=σ.cnt+1}:=hx9
  have he':e = .returned (.tuple #[.int .i64 fin,.int .i64 0]):=by rw[he,←hfn];rfl
  subst he'
  clear he hx9
  have HX9:=Hd hx9'.pop.pop
  have hown:OwnS w9 61 3 (.slice (some ⟨g,0,none⟩) σ.lives.length sc) σ.lives.length (lvV σ.lives):=hx9'.ch.own
  have hl1:=lv_range hown i s hfin.out.1 1 _ rfl
  have hl2:=lv_range hown i s hfin.out.1 2 _ rfl
  have hF1:=own_free hown (i*3+1)
  have hF2:=own_free hown (i*3+2)
  have HO:=Hd hown
  have hgb:g∈blk (.slice (some ⟨g,0,none⟩) σ.lives.length sc):=by simp[blk,Value.ownBlock]
  have hog:Hid (Own w0 L g):=HX9.out.owns (by simp[chL,hgb])
  have HFN:=Hd hfn
  clear hx9' hown hfn
  by_cases hfst:s.2.1=0
  ·have hdf:(s.2.1==0)=true:=by simpa using hfst
   replace hfst:=Hd hfst
   go_upto_region 17 with fail
   refine name_world (fun W=>OwnS W 61 3 (.slice (some ⟨g,0,none⟩) σ.lives.length sc) σ.lives.length (lvV (σ.lives.set i (s.1,fin,s.2.2)))∧Keeps (· ∈ blk (.slice (some ⟨g,0,none⟩) σ.lives.length sc)) w9 W) ⟨by rw[←lvV_set σ.lives i 1 s (s.1,fin,s.2.2) (.int .i64 fin) hfin.out.1 (by decide) rfl];exact HO.out.set _ _,(Keeps.refl _ _).setCell _ _ (.inl hgb)⟩ ?_
   rintro WA ⟨hoA,hkA⟩
   have hFA:=own_free hoA (i*3+2)
   have hCA:WA.cell? ⟨g,i*3+2,none⟩=some (.int .i64 s.2.2):=lv_range (l:=σ.lives.set i (s.1,fin,s.2.2)) hoA i (s.1,fin,s.2.2) (List.getElem?_set_self hilN.out) 2 _ rfl
   have HOA:=Hd hoA
   have HKA:=Hd hkA
   clear hoA hkA hl1 hl2 hF1 hF2 HO
   go_wp2_with fail
   go_ret
   refine⟨((HKL9.out.trans HKA.out (fun k _ h=>by simp[blk,Value.ownBlock]at h;subst h;exact hog.out)).setCell _ _ (.inl hog.out)),.inr ⟨i,s,hfin.out.1,hfin.out.2.1,hfin.out.2.2,.inr (.inr ⟨⟨hok2.out,hmi.out⟩,by rw[hfr.out];exact hyes2.out,rfl,n+1,?_⟩)⟩⟩
   have e1:σ.changed x i s u ims q={{σ with recs:=σ.recs++[chgR x s.2.2 u ims],M:=putIms σ.M ims (σ.fin:Int),B:=addB σ.B x q 1,T:=(σ.T.1+q,σ.T.2+1),cnt:=σ.cnt+1} with lives:=σ.lives.set i (s.1,fin,fin)}:=by
     unfold CS.changed setLast
     rw[if_pos hfst.out,HFN.out]
   rw[e1]
   refine HX9.out.setIn (l:=σ.lives.set i (s.1,fin,fin)) ?_ (HKA.out.setCell _ _ (.inl hgb)) (by rw[List.length_set])
   have h2:=HOA.out.set (i*3+2) (.int .i64 fin)
   rw[lvV_set (σ.lives.set i (s.1,fin,s.2.2)) i 2 (s.1,fin,s.2.2) (s.1,fin,fin) (.int .i64 fin) (List.getElem?_set_self hilN.out) (by decide) rfl,List.set_set]at h2
   rw[List.length_set]
   exact h2
  ·have hdf:(s.2.1==0)=false:=by simpa using hfst
   replace hfst:=Hd hfst
   go_wp2_with fail
   go_ret
   refine⟨HKL9.out.setCell _ _ (.inl hog.out),.inr ⟨i,s,hfin.out.1,hfin.out.2.1,hfin.out.2.2,.inr (.inr ⟨⟨hok2.out,hmi.out⟩,by rw[hfr.out];exact hyes2.out,rfl,n+1,?_⟩)⟩⟩
   have e1:σ.changed x i s u ims q={{σ with recs:=σ.recs++[chgR x s.2.2 u ims],M:=putIms σ.M ims (σ.fin:Int),B:=addB σ.B x q 1,T:=(σ.T.1+q,σ.T.2+1),cnt:=σ.cnt+1} with lives:=σ.lives.set i (s.1,s.2.1,fin)}:=by
     unfold CS.changed setLast
     rw[if_neg hfst.out,HFN.out]
   rw[e1]
   refine HX9.out.setIn (l:=σ.lives.set i (s.1,s.2.1,fin)) ?_ ((Keeps.refl _ _).setCell _ _ (.inl hgb)) (by rw[List.length_set])
   have h2:=HO.out.set (i*3+2) (.int .i64 fin)
   rw[lvV_set σ.lives i 2 s (s.1,s.2.1,fin) (.int .i64 fin) hfin.out.1 (by decide) rfl]at h2
   rw[List.length_set]
   exact h2
end
end Go.Proofs.YtimomjheanfbmaaGreatDoor.G
namespace Go.Proofs.YtimomjheanfbmaaGreatDoor.G
open Go.RowKit
def setCl (P:Pg) (k:Nat) (bs:Int) (bd:ByteArray):Pg:={P with st:=fun i=>if i=k then bs else P.st i,dt:=fun i=>if i=k then bd else P.dt i}
theorem setCl_cells (P:Pg) (k:Nat) (hk:k<6) (bs:Int) (bd:ByteArray):((pgC P).setIfInBounds (4+k*2) (.int .i64 bs)).setIfInBounds (4+k*2+1) (.string bd)=pgC (setCl P k bs bd):=by
 match k,hk with
 | 0,_=>rfl
 | 1,_=>rfl
 | 2,_=>rfl
 | 3,_=>rfl
 | 4,_=>rfl
 | 5,_=>rfl
theorem setCl_congr {P Q:Pg} (h:pgC P=pgC Q) (k:Nat) (hk:k<6) (bs:Int) (bd:ByteArray):pgC (setCl P k bs bd)=pgC (setCl Q k bs bd):=by rw[←setCl_cells P k hk,←setCl_cells Q k hk,h]
theorem wpList_store_cl {ops:Array Oper} {rest:List Oper} {op:Oper} {a:Act} {w:World} {Q:Exit→Act→World→Prop} (hgd:op.guard=none) (x y:Operand) (ho:op.op = .store 33 x y)
  (b k:Nat) (P:Pg) (bs:Int) (bd:ByteArray) (T:TypeId) (hx:a.eval x = .pointer (some ⟨b,4+k*2,none⟩)) (hy:a.eval y = .agg #[.int .i64 bs,.string bd]) (H:w.heap[b]? = some (.cells (pgC P) T (0,0))) (hk:k<6)
  (h:∀w',Hid (w'.heap[b]? = some (.cells (pgC (setCl P k bs bd)) T (0,0)))→Hid (Keeps (· = b) w w')→wpList Tryz.prog ops Q rest (a.put op.dst undef) w'):wpList Tryz.prog ops Q (op::rest) a w:=by
 refine wpList_store_mid hgd 33 x y ho b (4+k*2) #[.int .i64 bs,.string bd] hx hy (fun j hj=>⟨?_,free_at H _⟩) (by show _=some 2;kernel_rfl) (by simp[Value.oneCell']) ?_
 ·have hj2:j<2:=hj
  rw[cell_at H]
  have hz:(4+k*2+j)<(pgC P).size:=by show _<16;omega
  rw[Array.getElem?_eq_getElem hz];rfl
 ·have h1:=heap_set H (4+k*2) (.int .i64 bs)
  have h2:=heap_set h1 (4+k*2+1) (.string bd)
  rw[setCl_cells P k hk]at h2
  exact h _ h2 (Keeps.setCells (S:=fun x=>x=b) (a:=w) (b:=b) (.inl rfl) _ _ (Keeps.refl _ _))
section
variable {w0 w w':World} {L:List Nat} {c lp p dp pg lb mb n:Nat} {lv:Value} {σ:CS}
set_option maxRecDepth 100000 in
set_option maxHeartbeats 800000 in
theorem cx_restore (h:Cx w0 w L c lp p dp pg lb mb n lv σ) (u:Un) (hk1:u.uk=1) (up k:Nat) (hup:u.up=up) (hul:u.ul=k) (h6:up<6) (hk:k<6) (hbd:u.bd.size≤maxLen) :
  Calls Tryz.prog 213 #[.agg #[.pointer (some ⟨p,0,none⟩)],.agg (unL u).toArray] w fun e w'=>∃(ib:Nat) (Q:Pg),pgC Q=pgC (σ.M up).1∧e = .returned (.tuple #[.slice (some ⟨ib,0,none⟩) 1 1,.int .i64 0]) ∧
   w'.heap[ib]? = some (.cells (imA ((up:Int),setCl Q k u.bs u.bd)) 51 (0,0))∧Cx w0 w' (ib::L) c lp p dp pg lb mb n lv σ∧Keeps (Own w0 (chL c lb mb lv++L)) w w':=by
 obtain⟨uk,us,uq,ul,key,bs,bd⟩:=u
 dsimp only at hk1 hup hul hbd ⊢
 subst hk1 hup hul
 have hU:(unL {uk:=1,us:=us,up:=(up:Int),ul:=(k:Int),key:=key,bs:=bs,bd:=bd}).toArray = #[.int .i64 1,.int .i64 us,.int .i64 up,.int .i64 k,.string key,.int .i64 bs,.string bd]:=rfl
 rw[hU]
 clear hU
 have HU0:Hid (((w.alloc (.cells #[.pointer (some ⟨p,0,none⟩)] 40)).alloc (.cells #[.int .i64 1,.int .i64 us,.int .i64 up,.int .i64 k,.string key,.int .i64 bs,.string bd] 42)).heap[w.heap.size+1]? = some (.cells #[.int .i64 1,.int .i64 us,.int .i64 up,.int .i64 k,.string key,.int .i64 bs,.string bd] 42 (0,0))):=hN (by simp)
 have HX0:Hid (Cx w0 ((w.alloc (.cells #[.pointer (some ⟨p,0,none⟩)] 40)).alloc (.cells #[.int .i64 1,.int .i64 us,.int .i64 up,.int .i64 k,.string key,.int .i64 bs,.string bd] 42)) ((w.heap.size+1)::L) c lp p dp pg lb mb n lv σ):=h.push (bA (bA bR)) (w.heap.size+1) (by omega) (by simp)
 have HG:=Hd (gx_get HX0.out.kx (up:Int))
 unfold pgV at HG
 have HK0:Hid (Keeps (Own w0 (chL c lb mb lv++L)) w ((w.alloc (.cells #[.pointer (some ⟨p,0,none⟩)] 40)).alloc (.cells #[.int .i64 1,.int .i64 us,.int .i64 up,.int .i64 k,.string key,.int .i64 bs,.string bd] 42))):=((Keeps.refl _ _).alloc _).alloc _
 have hk2:=Hd hk
 have hki:(k:Int)<6:=by omega
 have hk0:(0:Int)≤k:=by omega
 clear h
 go_enter Tryz.func213,Tryz.ntmps213
 go_wp2_with fail
 refine(HG.out).mono ?_
 rintro e w1 ⟨Q,cd,rfl,hq1,hk1,hr1⟩
 obtain⟨rfl,hQ⟩:cd=0∧pgC Q=pgC (σ.M up).1:=by
  rcases hr1 with⟨_,_,q3,q4⟩ | ⟨q1,_⟩
  · exact⟨q3,by rw[q4,Int.toNat_natCast]⟩
  · omega
 have HU1:=Hd (hk1.keep HU0.out (own_loc (by simp)))
 have HX1:Hid (Cx w0 w1 ((w.heap.size+1)::L) c lp p dp pg lb mb n lv σ):=⟨HX0.out.ch.keep hk1 (fun q hq=>own_ch hq),hq1,HX0.out.hi,HX0.out.most,HX0.out.ok,HX0.out.cn⟩
 have HK1:Hid (Keeps (Own w0 (chL c lb mb lv++L)) w w1):=HK0.out.trans (own_cons hk1) (fun _ _ h=>h)
 have HN1:Hid ((w1.alloc (.cells (pgC pageZ) 49)).heap[w1.heap.size]? = some (.cells (pgC pageZ) 49 (0,0))):=hN rfl
 have hlt1:Hid (w.heap.size+1<w1.heap.size):=block_lt HU1.out
 have hQ2:=Hd hQ
 clear hq1 hk1 hr1 HU0 HX0 HK0 HG hQ hk h6
 go_upto_region 2 with(refine wpList_store_whole rfl 49 _ _ rfl _ (pgC Q) rfl rfl _ (pgC pageZ) HN1.out rfl (by kernel_rfl) (pgC_one _) ?_;intro w2 HP2 K2;(have hk2':Keeps (fun _=>False) w1 w2:=((Keeps.refl (fun _=>False) w1).alloc _).trans K2.out (fun q hq e=>by omega));(have HU2:=Hd (hk2'.keep HU1.out (fun h=>h)));(have HKe:=Hd hk2');(have HK2:Hid (Keeps (Own w0 (chL c lb mb lv++L)) w w2):=HK1.out.trans hk2' (fun _ _ h=>h.elim));clear K2 hk2' HN1)
 have U0:w2.cell? ⟨w.heap.size+1,0,none⟩=some (.int .i64 1):=cell_at HU2.out 0
 have U3:w2.cell? ⟨w.heap.size+1,3,none⟩=some (.int .i64 k):=cell_at HU2.out 3
 have U5:Hid (w2.rangeAt (w.heap.size+1) 5 [.int .i64 bs,.string bd]):=World.rangeAt_of_block HU2.out 5 2
 clear HU1
 go_upto_region 5 with(first
  | (refine wpList_load_mid rfl 33 _ rfl (w.heap.size+1) 5 rfl [.int .i64 bs,.string bd] _ U5.out Tryz.underlying33 rfl (by kernel_rfl) ?_)
  | (refine wpList_store_cl rfl _ _ rfl w1.heap.size k Q bs bd _ rfl rfl HP2.out hk2.out ?_;intro w3 HP3 K3;(have hk3':=K3.out);(have HU3:=Hd (hk3'.keep HU2.out (fun e=>by have:=hlt1.out;omega)));clear K3 HP2))
 obtain⟨P',hP'⟩:∃P,setCl Q k bs bd=P:=⟨_,rfl⟩
 rw[hP']at HP3
 have U2:w3.cell? ⟨w.heap.size+1,2,none⟩=some (.int .i64 up):=cell_at HU3.out 2
 have hk13:Keeps (fun _=>False) w1 w3:=HKe.out.trans hk3' (fun q hq e=>by omega)
 have HX3:Hid (Cx w0 w3 L c lp p dp pg lb mb n lv σ):=HX1.out.pop.later hk13.below
 have HK3:Hid (Keeps (Own w0 (chL c lb mb lv++L)) w w3):=HK1.out.trans hk13 (fun _ _ h=>h.elim)
 have hpc:pgC P' = #[.int .i64 P'.kind,.int .i64 P'.level,.int .i64 P'.store,.int .i64 P'.next,.int .i64 (P'.st 0),.string (P'.dt 0),.int .i64 (P'.st 1),.string (P'.dt 1),.int .i64 (P'.st 2),.string (P'.dt 2),.int .i64 (P'.st 3),.string (P'.dt 3),.int .i64 (P'.st 4),.string (P'.dt 4),.int .i64 (P'.st 5),.string (P'.dt 5)]:=rfl
 replace hpc:=Hd hpc
 clear hk3' hk13 HX1 HK1 HK2 HKe U0 U3 HU2 HU3
 go_wp2_with (refine wpList_load_row rfl 49 _ rfl _ rfl 49 _ _ _ HP3.out Tryz.underlying49 rfl (by kernel_rfl) ?_;(have hpc':=hpc.out);clear HP3)
 go_ret2
 refine⟨w3.heap.size,Q,hQ2.out,rfl,?_,HX3.out.push (bA bR) _ (Nat.le_refl _) (by simp),HK3.out.alloc _⟩
 rw[hP']
 exact hN rfl
end
end Go.Proofs.YtimomjheanfbmaaGreatDoor.G
