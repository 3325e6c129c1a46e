import Derived.Test.YtimomjheanfbmaaGreatDoorQaa
import Derived.Test.YtimomjheanfbmaaGreatDoorRbg
import Derived.Test.YtimomjheanfbmaaGreatDoorRam
set_option linter.unusedSimpArgs false
set_option linter.unusedVariables false
namespace Go.Proofs.YtimomjheanfbmaaGreatDoor.G
open Go.RowKit
set_option maxRecDepth 100000 in
set_option maxHeartbeats 3200000 in
theorem run_ne_pg (x y:Pg) (w:World):(binOp .neq 49 (.agg (pgC x)) (.agg (pgC y))).run Tryz.prog w = .ok (.bool (!eqPg x y)) w:=by
 have u2:=Tryz.underlying49
 have h6:=eq_arr6 x y w
 unfold eqPg
 unfold pgA at h6
 unfold pgC
 generalize (eqCl (x.st 0) _ _ _&&_)=b at *
 cases h1:(x.kind==y.kind) with
 | false=>go_simp
 | true =>
  cases h2:(x.level==y.level) with
  | false=>go_simp
  | true =>
   cases h3:(x.store==y.store) with
   | false=>go_simp
   | true =>
    cases h4:(x.next==y.next) with
    | false=>go_simp
    | true=>cases b <;> go_simp
theorem yieldsIf_ne_pg {ops:Array Oper} {Sx:World→Prop} {oi:Oper} {a:Act} (hw:Region.wanted oi (yielded ops a.tmps)=true) (x y:Operand) (r:TypeId) (ho:oi.op = .binOp .neq 49 x y r)
  (X Y:Pg) (b:Bool) (hb:(!eqPg X Y)=b) (hx:a.eval x = .agg (pgC X)) (hy:a.eval y = .agg (pgC Y)):YieldsIf Tryz.prog ops Sx oi (.bool b) a :=
 .inl ⟨hw,fun w _=>by
  subst hb
  unfold execOp
  simp only[ho,hx,hy,Sem.run_bind,Sem.run_pure,Result.andThen_ok,run_eqGuard_agg (P:=Tryz.prog) w .neq 49 x y _ _ (by kernel_rfl),run_ne_pg X Y w]⟩
def AgS (m rb gr j n c:Nat) (Q R:Array Value) (ro:Option Addr) (w:World):Prop:=w.heap[rb]? = some (.cells Q 65 (0,0))∧w.cell? ⟨m,2,none⟩=some (.slice ro n c)∧w.rangeAt rb 0 Q.toList∧w.rangeAt gr j R.toList
def AgP (m qb g i:Nat) (Q P:Pg) (w:World):Prop:=w.rangeAt qb 0 (pgC Q).toList∧w.cell? ⟨m,6,none⟩=some (.slice (some ⟨g,0,none⟩) 6 6)∧w.rangeAt g (i*16) (pgC P).toList
theorem range_keep {a b:World} {S:Nat→Prop} {q o:Nat} {l:List Value} (hk:Keeps S a b) (hq:¬S q) (h:a.rangeAt q o l):b.rangeAt q o l:=fun j v hj=>cell_keepS hk hq (h j v hj)
section
variable {w0 w w':World} {L0:List Nat} {c lp p dp m g:Nat}
set_option maxRecDepth 100000 in
set_option maxHeartbeats 2000000 in
theorem law_agree {k:Nat} (h:StP (Ok k) w0 w L0 c lp p dp m g):Calls Tryz.prog 51 #[.pointer (some ⟨lp,0,none⟩),.pointer (some ⟨p,0,none⟩),.pointer (some ⟨m,0,none⟩)] w fun e w'=>e = .returned (.bool true)∧Keeps (Own w0 L0) w w':=by
 obtain⟨lb,mb,n,lv,σ,B,ρ,hbo,hok⟩:=h
 have HBO:=Hd hbo
 have HOK:=Hd hok
 have hrn:=Hd (recs_cnt hbo hok.1)
 obtain⟨aa,ac,hav⟩:=hbo.rr.ats.form
 obtain⟨na,hna⟩:∃q,ρ.ats.length=q:=⟨_,rfl⟩
 have hall:ρ.ats.length=ρ.recs.length:=by rw[hok.2.1.pl.ats,placeL_length]
 have hnr:Hid (na=ρ.recs.length):=by show _=_;rw[←hna,hall]
 rw[hna]at hav
 have C3:w.cell? ⟨m,3,none⟩=some (.slice aa na ac):=by rw[←hav];exact cell_at hbo.rr.cell 3
 have hoa:OwnO w 3 1 (.slice aa na ac) na (intV ρ.ats):=by have:=hbo.rr.ats;rw[hav,hna]at this;exact this
 have HOA:=Hd hoa
 have hna1:Hid (na≤2304):=by show _≤_;rw[hnr.out];exact hrn.out
 clear hbo hok hav hall hoa hna
 go_enter Tryz.func51,Tryz.ntmps51
 go_wp2_with fail
 clear C3
 go_loopw [24] (fun x wr=>∃i:Nat,i≤na∧x = .int .i64 i∧Hid (Below w.heap.size w wr)) (fun x _=>na-(intOf x).toNat)
 case atStart=>exact⟨0,Nat.zero_le _,rfl,bR⟩
 case round =>
  obtain⟨i,hi,rfl,HB⟩:=hrel
  by_cases hin:i<na
  ·have hir:i<ρ.recs.length:=by rw[←hnr.out];exact hin
   obtain⟨R,hR⟩:∃R,ρ.recs[i]? = some R:=⟨_,List.getElem?_eq_getElem hir⟩
   obtain⟨t,ht⟩:∃t:Int,((σ.org+lenL ((ρ.recs.map rcS).take i):Nat):Int)=t:=⟨_,rfl⟩
   have hat:AtR σ.org σ.recs t R:=⟨i,by rw[HOK.out.1];exact hR,by rw[HOK.out.1];exact ht.symm⟩
   have hai:ρ.ats[i]? = some t:=by rw[HOK.out.2.1.pl.ats,placeL_get _ _ hir,ht]
   obtain⟨ga,fa,rfl⟩:=HOA.out.spot (by omega)
   have HOr:OwnO wr 3 1 (.slice (some ⟨ga,fa,none⟩) na ac) na (intV ρ.ats):=HOA.out.keep (Keeps.of_below (fun _=>False) HB.out) (fun _ _ h=>h)
   have CA:wr.cell? ⟨ga,fa+i,none⟩=some (.int .i64 t):=HOr.cells i _ (intV_get hai)
   have hiI:(i:Int)<na:=by omega
   have hi0:(0:Int)≤i:=by omega
   have hiw:IntKind.i64.wrap ((i:Int)+1)=(i:Int)+1:=by have:=hna1.out;rw[IntKind.wrap_i64];omega
   have HBr:=Hd (HBO.out.later HB.out)
   have HRd:=Hd (cx_read HBr.out.cx hat)
   have hokR:=HOK.out.2.1.ok R (List.mem_of_getElem? hR)
   obtain⟨Q0,hdec0,hsame⟩:=dec_same hokR
   have hRsz:=rc_sizes hokR
   have hinN:=Hd hin
   have hRN:=Hd hR
   obtain⟨S,hS⟩:∃S,rcS R=S:=⟨_,rfl⟩
   rw[hS]at hdec0 HRd hRsz
   have HDc:=Hd (fun w=>rc_decode S (by unfold maxLen;omega) w)
   have hdecN:=Hd hdec0
   have hsameN:=Hd hsame
   clear hat hai HOr hokR hdec0 hsame hRsz hS hR ht hir hi hin
   go_wp2_with fail
   refine(HRd.out).mono ?_
   rintro e wx ⟨rfl,hbx⟩
   have HBx:=Hd (bT HB.out hbx)
   clear hbx HRd HBr HB CA
   go_wp2_with fail
   refine(HDc.out _).mono ?_
   rintro e wy ⟨hdi,hby⟩
   obtain⟨Q,iv,lw,rfl,hsl,hsQ⟩:∃(Q:Rc) (iv lw:Value),e = .returned (.tuple #[.agg (rcC Q iv lw),.int .i64 0])∧RcSl wy Q iv lw∧SameRc Q R:=by
    rcases hdi with⟨Q,iv,lw,hd,he,hsl⟩ | ⟨hd,_⟩
    ·have hq:Q=Q0:=by have:=hd.symm.trans hdecN.out;injection this
     exact⟨Q,iv,lw,he,hsl,hq ▸ hsameN.out⟩
    · rw[hdecN.out]at hd;cases hd
   have HBy:=Hd (bT HBx.out hby)
   have hones:Hid (∀v∈(rcC Q iv lw).toList,v.oneCell'=true):=rcC_one (by obtain⟨a',m',c',rfl,_⟩:=sl_open hsl.1;rfl) (by obtain⟨a',m',c',rfl,_⟩:=sl_open hsl.2.1;rfl)
   have HN3:Hid ((wy.alloc (.cells (rcC rcZ nilS nilS) 65)).heap[wy.heap.size]? = some (.cells (rcC rcZ nilS nilS) 65 (0,0))):=hN rfl
   have hsQN:=Hd hsQ
   have hslN:=Hd hsl
   clear hby hdi hsl HDc hsQ HBx
   go_upto_region 6 with(refine wpList_store_whole rfl 65 _ _ rfl _ (rcC Q iv lw) rfl rfl _ (rcC rcZ nilS nilS) HN3.out rfl (by kernel_rfl) hones.out ?_;intro wz HR4 K4;(have hk4:Keeps (fun _=>False) wy wz:=((Keeps.refl (fun _=>False) wy).alloc _).trans K4.out (fun q hq e=>by omega));(have HBz:=Hd (bT HBy.out hk4.below));(have hslz:=Hd (hslN.out.later hk4.below));clear K4 hk4 HN3 HBy hslN)
   obtain⟨rb,hrb⟩:∃q,wy.heap.size=q:=⟨_,rfl⟩
   rw[hrb]at HR4 ⊢
   clear hrb hdecN hsameN
   have HBo2:=Hd (HBO.out.later HBz.out)
   obtain⟨iv',lw',hq⟩:=HBo2.out.rr.qat hRN.out
   obtain⟨ro,rc,hrv⟩:=HBo2.out.rr.rs.form
   have hql:B.Q.length=na:=by have:=HBo2.out.rr.qlen;rw[this];exact hnr.out.symm
   rw[hql]at hrv
   have hor:OwnO wz 65 14 (.slice ro na rc) na (B.Q.flatMap rrL):=by have:=HBo2.out.rr.rs;rw[hrv,hql]at this;exact this
   obtain⟨gr,fr,rfl⟩:=hor.spot (by have:=hinN.out;omega)
   have hsl2:=Hd (HBo2.out.rr.sl _ (List.mem_of_getElem? hq))
   have HSa:=Hd (fun (W:World) (hb:Below wz.heap.size wz W)=>rr_same Q R iv lw iv' lw' W (hslz.out.later hb) (hsl2.out.later hb))
   have hS0:AgS m rb gr (fr+i*14) na rc (rcC Q iv lw) (rcC R iv' lw') (some ⟨gr,fr,none⟩) wz.drew:=⟨hDr HR4.out,by rw[←hrv];exact cell_at HBo2.out.rr.cell 2,fun j v hj=>by
    show wz.cell? _=_
    rw[cell_at HR4.out,Nat.zero_add,←Array.getElem?_toList];exact hj,flat_rangeO rrL 14 rrL_length hor i _ hq⟩
   have hkeep:Hid (∀W,Below wz.drew.heap.size wz.drew W→AgS m rb gr (fr+i*14) na rc (rcC Q iv lw) (rcC R iv' lw') (some ⟨gr,fr,none⟩) W):=fun W hb=>⟨(Keeps.of_below (fun _=>False) hb).keep hS0.1 (fun h=>h),cell_keepS (Keeps.of_below (fun _=>False) hb) (fun h=>h) hS0.2.1,range_keep (Keeps.of_below (fun _=>False) hb) (fun h=>h) hS0.2.2.1,range_keep (Keeps.of_below (fun _=>False) hb) (fun h=>h) hS0.2.2.2⟩
   have hinI:(i:Int)<na:=hiI
   clear hq hrv hor hql HBo2
   refine wp_region_held_drew (S:=AgS m rb gr (fr+i*14) na rc (rcC Q iv lw) (rcC R iv' lw') (some ⟨gr,fr,none⟩)) (by kernel_rfl) hS0 (fun hHeld=>?_)
   refine tx4 0 hHeld ?_
   go_frame
   refine tx4 1 hHeld ?_
   go_frame
   refine tx4 2 hHeld ?_
   go_frame
   refine tx4 3 hHeld ?_
   go_frame
   refine tx4 4 hHeld ?_
   go_frame
   refine tx4 5 hHeld ?_
   go_frame
   refine tx4 6 hHeld ?_
   go_frame
   refine tk 7 (v := .agg (rcC Q iv lw)) rfl (yieldsIf_load_mid (by rfl) 65 _ rfl rb 0 rfl (rcC Q iv lw).toList _ (fun _ h=>h.2.2.1) Tryz.underlying65 rfl (by kernel_rfl)) hHeld ?_
   go_frame
   refine tx4 8 hHeld ?_
   go_frame
   refine tx4 9 hHeld ?_
   go_frame
   refine tx4 10 hHeld ?_
   go_frame
   refine tx4 11 hHeld ?_
   go_frame
   refine tx4 12 hHeld ?_
   go_frame
   refine tx4 13 (v := .pointer (some ⟨gr,fr+i*14,none⟩)) hHeld ?_
   go_frame
   refine tk 14 (v := .agg (rcC R iv' lw')) rfl (yieldsIf_load_mid (by rfl) 65 _ rfl gr (fr+i*14) rfl (rcC R iv' lw').toList _ (fun _ h=>h.2.2.2) Tryz.underlying65 rfl (by kernel_rfl)) hHeld ?_
   go_frame
   refine rd 15 (fun K hK=>?_)
   go_simp
   go_at_call 96
   refine(HSa.out _ (bD bR)).mono ?_
   rintro e W5 ⟨hsr,hb5⟩
   obtain rfl:e = .returned (.bool true):=by
    rcases hsr with⟨he,_⟩ | ⟨_,hno⟩
    · exact he
    · exact absurd hsQN.out hno
   have hS5:=hkeep.out W5 hb5
   have HB5:Hid (Below w.heap.size w W5):=bT (bD HBz.out) hb5
   clear hsr hb5 HSa hkeep hslz hsl2
   dsimp only
   refine hK.out _ _ hS5 (fun hHeld=>?_)
   clear hK K
   try go_frame
   refine tc 16 hHeld ?_
   go_frame
   refine tc 17 hHeld ?_
   go_frame
   clear hHeld
   refine wpAnyH_done (by kernel_rfl) ?_ _
   clear hS0 hS5 HBz HR4 hsQN
   go_wp2_with fail
   go_roundw
   case rel=>exact⟨i+1,hinN.out,rfl,HB5⟩
   case measure=>have:=hinN.out;simp[intOf];omega
  obtain rfl:i=na:=by omega
  have hiI:¬(i:Int)<i:=by omega
  have HB1:=Hd (HBO.out.later HB.out)
  have HSp:=Hd (cx_span HB1.out.cx)
  have HBw:Hid (Below w.heap.size w wr):=HB
  clear HB hi hin HOA HBO
  go_wp2_with fail
  refine(HSp.out).mono ?_
  rintro e w2 ⟨⟨sp1,sp2,rfl⟩,hb2⟩
  have HB2:=Hd (HB1.out.later hb2)
  have HBw2:=Hd (bT HBw.out hb2)
  have hfe:Hid (ρ.fin=(σ.fin:Int)):=HOK.out.2.1.fin
  obtain⟨fi,hfi⟩:∃f:Int,(σ.fin:Int)=f:=⟨_,rfl⟩
  rw[hfi]at hfe ⊢
  have C4:w2.cell? ⟨m,4,none⟩=some (.int .i64 fi):=by rw[←hfe.out];exact cell_at HB2.out.rr.cell 4
  have C6:w2.cell? ⟨m,6,none⟩=some (.slice (some ⟨g,0,none⟩) 6 6):=cell_at HB2.out.rr.cell 6
  have hff:(fi != fi)=false:=by simp
  clear hb2 HSp HB1 HBw hfi
  go_wp2_with fail
  clear C4 C6 hff
  have HK2:Hid (Keeps (Own w0 L0) w w2):=Keeps.of_below _ HBw2.out
  clear HBw2
  go_loopw [76] (fun x wr=>∃i:Nat,i≤6∧x = .int .i64 i∧Hid (Bo w0 wr L0 c lp p dp lb mb n lv σ m g B ρ)∧Hid (Keeps (Own w0 L0) w wr)) (fun x _=>6-(intOf x).toNat)
  case atStart=>exact⟨0,Nat.zero_le _,rfl,HB2,HK2⟩
  case round =>
   clear HB2 HK2
   obtain⟨j,hj,rfl,HB2,HK2⟩:=hrel
   by_cases hj6:j<6
   rotate_left
   ·obtain rfl:j=6:=by omega
    go_wp2_with fail
    go_ret
    exact⟨rfl,HK2.out⟩
   have hjI:(j:Int)<6:=by omega
   have hj0:(0:Int)≤j:=by omega
   have hjw:IntKind.i64.wrap ((j:Int)+1)=(j:Int)+1:=by rw[IntKind.wrap_i64];omega
   have HG:=Hd (gx_get HB2.out.cx.kx (j:Int))
   unfold pgV at HG
   have hj6N:=Hd hj6
   clear hj hj6
   go_wp2_with fail
   refine(HG.out).mono ?_
   rintro e w3 ⟨Q,cd,rfl,hq3,hk3,hr3⟩
   obtain⟨rfl,hQ⟩:cd=0∧pgC Q=pgC (ρ.f j):=by
    rcases hr3 with⟨_,_,q3,q4⟩ | ⟨q1,_⟩
    · exact⟨q3,q4.trans (HOK.out.2.1.pgs j hj6N.out)⟩
    · omega
   have hk3':Keeps (Own w0 (rOwn m g B++(rIm B++L0))) wr w3:=hk3.mono (fun q _ h=>⟨h.1,fun h'=>h.2 (List.mem_append_right _ h')⟩)
   obtain⟨b3,k3⟩:=HB2.out.conc hk3' (⟨HB2.out.cx.ch.keep hk3 (fun q hq=>own_ch hq),hq3,HB2.out.cx.hi,HB2.out.cx.most,HB2.out.cx.ok,HB2.out.cx.cn⟩:Cx w0 w3 (rOwn m g B++(rIm B++L0)) c lp p dp 6 lb mb n lv σ)
   have HB3:=Hd b3
   have HK3:Hid (Keeps (Own w0 L0) w w3):=HK2.out.trans k3 (fun _ _ h=>h)
   rw[hQ]
   obtain⟨P,hP⟩:∃P,ρ.f j=P:=⟨_,rfl⟩
   rw[hP]
   replace hP:=Hd hP
   have HN3:Hid ((w3.alloc (.cells (pgC pageZ) 49)).heap[w3.heap.size]? = some (.cells (pgC pageZ) 49 (0,0))):=hN rfl
   clear b3 k3 hk3' hk3 hq3 hr3 HG hQ HB2 HK2
   go_upto_region 16 with(refine wpList_store_whole rfl 49 _ _ rfl _ (pgC P) rfl rfl _ (pgC pageZ) HN3.out rfl (by kernel_rfl) (pgC_one _) ?_;intro w4 HA4 K4;(have hk4:Keeps (fun _=>False) w3 w4:=((Keeps.refl (fun _=>False) w3).alloc _).trans K4.out (fun q hq e=>by omega));(have HB4:=Hd (HB3.out.later hk4.below));(have HK4:Hid (Keeps (Own w0 L0) w w4):=HK3.out.trans (Keeps.of_below (Own w0 L0) hk4.below) (fun _ _ h=>h));clear HN3 K4 hk4 HB3 HK3)
   obtain⟨qb,hqb⟩:∃q,w3.heap.size=q:=⟨_,rfl⟩
   rw[hqb]at HA4 ⊢
   clear hqb
   have hS0:AgP m qb g j P P w4.drew:=⟨fun a v hv=>by
    show w4.cell? _=_
    rw[cell_at HA4.out,Nat.zero_add,←Array.getElem?_toList];exact hv,cell_at HB4.out.rr.cell 6,by have:=row_at HB4.out.rr.pg j hj6N.out;rw[hP.out]at this;exact this⟩
   have hbb:Hid ((!eqPg P P)=false):=by show (!eqPg P P)=false;rw[eqPg_same rfl];rfl
   refine wp_region_held_drew (S:=AgP m qb g j P P) (by kernel_rfl) hS0 (fun hHeld=>?_)
   refine tx3 0 hHeld ?_
   go_frame
   refine tx3 1 hHeld ?_
   go_frame
   refine tx3 2 hHeld ?_
   go_frame
   refine tk 3 (v := .agg (pgC P)) rfl (yieldsIf_load_mid (by rfl) 49 _ rfl qb 0 rfl (pgC P).toList _ (fun _ h=>h.1) Tryz.underlying49 rfl (by kernel_rfl)) hHeld ?_
   go_frame
   refine tx3 4 hHeld ?_
   go_frame
   refine tx3 5 hHeld ?_
   go_frame
   refine tx3 6 hHeld ?_
   go_frame
   refine tx3 7 hHeld ?_
   go_frame
   refine tx3 8 hHeld ?_
   go_frame
   refine tx3 9 (v := .pointer (some ⟨g,j*16,none⟩)) hHeld ?_
   go_frame
   refine tk 10 (v := .agg (pgC P)) rfl (yieldsIf_load_mid (by rfl) 49 _ rfl g (j*16) rfl (pgC P).toList _ (fun _ h=>h.2.2) Tryz.underlying49 rfl (by kernel_rfl)) hHeld ?_
   go_frame
   refine tk 11 (v := .bool false) rfl (yieldsIf_ne_pg (by rfl) _ _ _ rfl P P false hbb.out rfl rfl) hHeld ?_
   go_frame
   refine tc 12 hHeld ?_
   go_frame
   clear hHeld
   refine wpAnyH_done (by kernel_rfl) ?_ _
   have HB5:=Hd (HB4.out.later (bD bR):Bo w0 w4.drew L0 c lp p dp lb mb n lv σ m g B ρ)
   have HK5:Hid (Keeps (Own w0 L0) w w4.drew):=HK4.out.drew
   clear hS0 HB4 HK4 HA4
   go_wp2_with fail
   go_roundw
   case rel=>exact⟨j+1,hj6N.out,rfl,HB5,HK5⟩
   case measure=>have:=hj6N.out;simp[intOf];omega
end
end Go.Proofs.YtimomjheanfbmaaGreatDoor.G
