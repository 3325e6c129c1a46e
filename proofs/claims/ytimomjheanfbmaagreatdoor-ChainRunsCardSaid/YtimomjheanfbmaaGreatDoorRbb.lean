import Derived.Test.YtimomjheanfbmaaGreatDoorQaa
import Derived.Test.YtimomjheanfbmaaGreatDoorRaz
set_option linter.unusedSimpArgs false
set_option linter.unusedVariables false
namespace Go.Proofs.YtimomjheanfbmaaGreatDoor.G
open Go.RowKit
section
variable {w w':World} {m g:Nat} {B:RB} {ρ:RS}
set_option maxRecDepth 100000 in
set_option maxHeartbeats 4000000 in
theorem rr_back (h:Rr w m g B ρ) (x tu:Int) (hx:1≤x∧x≤2147483647) (i:Nat) (hf:xFind ρ.xs x=some i) (y:Xc) (hy:ρ.xs[i]? = some y) (b:Nat) (hb:0<b) (lo:Int) (l:List (Int×Rc)) (HB:RBk x i b (max tu 0) lo l ρ ρ y.last l) (hxl:ρ.xs.length≤1000000) (hroom:0≤ρ.room∧ρ.room≤10000000000) :
  Calls Tryz.prog 39 #[.pointer (some ⟨m,0,none⟩),.int .i64 x,.int .i64 tu] w fun e w'=>RBackTo w w' m g B ρ x i b (max tu 0) lo l e:=by
 have HFi:=Hd (rr_find h x hxl)
 rw[hf]at HFi
 unfold idxI at HFi
 dsimp only at HFi
 obtain⟨bd,hbd⟩:∃c,max tu 0=c:=⟨_,rfl⟩
 rw[hbd]at HB ⊢
 have hbdN:=Hd hbd
 have H:=Hd h
 have HBK:=Hd HB
 have hxN:=Hd hx
 have hxlN:=Hd hxl
 have hroomN:=Hd hroom
 have hyN:=Hd hy
 have hbN:=Hd hb
 clear h HB hx hxl hroom hy hf hbd hb
 go_enter Tryz.func39,Tryz.ntmps39
 go_wp2_with fail
 refine(HFi.out).mono ?_
 rintro e w1 ⟨rfl,hb1⟩
 have H1:=Hd (H.out.later hb1)
 have HS1:Hid (Stp w w1 m g B B []):=Stp.later hb1
 clear hb1 HFi H
 obtain⟨n,hn⟩:∃n,ρ.xs.length=n:=⟨_,rfl⟩
 have hin:i<n:=by rw[←hn];exact(List.getElem?_eq_some_iff.1 hyN.out).1
 obtain⟨xa,xc,hxv⟩:=H1.out.xs.form
 rw[hn]at hxv
 have hox:OwnS w1 112 6 (.slice xa n xc) n (xcV ρ.xs):=by have:=H1.out.xs;rw[hxv,hn]at this;exact this
 obtain⟨gx,rfl⟩:=hox.spot (by omega)
 have C0:w1.cell? ⟨m,0,none⟩=some (.slice (some ⟨gx,0,none⟩) n xc):=by have:=cell_at H1.out.cell 0;rw[←hxv];exact this
 have c2:w1.cell? ⟨gx,i*6+2,none⟩=some (.int .i64 y.last):=flat_range xcL 6 xcL_length hox i y hyN.out 2 _ rfl
 have hi0:¬(i:Int)<0:=by omega
 have hd0:decide ((i:Int)<0)=false:=decide_eq_false hi0
 have hiI:(i:Int)<n:=by omega
 have hnN:=Hd hn
 have hxvN:=Hd hxv
 have hinN:=Hd hin
 clear hox hin hn hxv
 go_wp2_with fail
 clear C0 c2 hd0
 go_loopw [9] (fun t wr=>∃(next:Int) (ρk:RS) (Bk:RB) (rest:List (Int×Rc)),t = .int .i64 next∧Hid (Rr wr m g Bk ρk)∧Hid (Stp w wr m g B Bk [])∧Hid (RBk x i b bd lo l ρ ρk next rest)∧Hid (0≤ρk.room)∧Hid (Bk.xv = .slice (some ⟨gx,0,none⟩) n xc)) (fun t _=>(intOf t).toNat)
 case atStart=>exact⟨y.last,ρ,B,l,rfl,H1,HS1,HBK,hroomN.out.1,hxvN⟩
 case round =>
  obtain⟨next,ρk,Bk,rest,rfl,HR,HS,HBk,hrm,hbx⟩:=hrel
  by_cases hgt:bd<next
  rotate_left
  ·have hex:Hid (RBackTo w wr m g B ρ x i b bd lo l (.returned (.tuple #[.int .i64 0,.bool true]))) := .inl ⟨HBk.out.fits (by omega) hrm.out,rfl,ρk,Bk,next,rest,HR.out,HS.out,HBk.out,by omega,hrm.out⟩
   have hbd1:=hbdN.out
   by_cases ht:tu<next
   ·
     have hd1:decide (tu<next)=true:=decide_eq_true ht
     have hd2:decide (0<next)=false:=decide_eq_false (by omega)
     clear ht hbd1 hgt
     go_wp2_with fail
     go_ret2
     exact hex.out
   ·
     have hd1:decide (tu<next)=false:=decide_eq_false ht
     clear ht hbd1 hgt
     go_wp2_with fail
     go_ret2
     exact hex.out
  have hbd1:=hbdN.out
  have hd1:decide (tu<next)=true:=decide_eq_true (by omega)
  have hd2:decide (0<next)=true:=decide_eq_true (by omega)
  have hgtN:=Hd hgt
  have hnx:0<next:=by omega
  obtain⟨R,hA,hcase⟩:=HBk.out.top hnx
  obtain⟨j,hj,hp,hne⟩:=hA.spot
  rw[←HBk.out.pl.ats]at hp hne
  obtain⟨aa,ac,hav⟩:=HR.out.ats.form
  obtain⟨n2,hn2⟩:∃n,ρk.ats.length=n:=⟨_,rfl⟩
  rw[hn2]at hav
  have hjn:j<n2:=by rw[←hn2];exact(List.getElem?_eq_some_iff.1 hp).1
  have hoa:OwnO wr 3 1 (.slice aa n2 ac) n2 (intV ρk.ats):=by have:=HR.out.ats;rw[hav,hn2]at this;exact this
  obtain⟨ga,fa,rfl⟩:=hoa.spot (by omega)
  have CA:Hid (∀(k:Nat) (u:Int),ρk.ats[k]? = some u→wr.cell? ⟨ga,fa+k,none⟩=some (.int .i64 u)):=fun k u hu=>hoa.cells k _ (intV_get hu)
  have C3:wr.cell? ⟨m,3,none⟩=some (.slice (some ⟨ga,fa,none⟩) n2 ac):=by have:=cell_at HR.out.cell 3;rw[←hav];exact this
  obtain⟨iv,lw,hq⟩:=HR.out.qat hj
  obtain⟨ra,rc,hrv⟩:=HR.out.rs.form
  obtain⟨n3,hn3⟩:∃n,Bk.Q.length=n:=⟨_,rfl⟩
  rw[hn3]at hrv
  have hjn3:j<n3:=by rw[←hn3];exact(List.getElem?_eq_some_iff.1 hq).1
  have hor:OwnO wr 65 14 (.slice ra n3 rc) n3 (Bk.Q.flatMap rrL):=by have:=HR.out.rs;rw[hrv,hn3]at this;exact this
  obtain⟨gr,fr,rfl⟩:=hor.spot (by omega)
  have HRow:Hid (wr.rangeAt gr (fr+j*14) (rcC R iv lw).toList):=flat_rangeO rrL 14 rrL_length hor j _ hq
  have C2:wr.cell? ⟨m,2,none⟩=some (.slice (some ⟨gr,fr,none⟩) n3 rc):=by have:=cell_at HR.out.cell 2;rw[←hrv];exact this
  have hsl:=HR.out.sl _ (List.mem_of_getElem? hq)
  have hones:Hid (∀v∈(rcC R iv lw).toList,v.oneCell'=true):=rcC_one (by obtain⟨a',m',c',rfl,_⟩:=sl_open hsl.1;rfl) (by obtain⟨a',m',c',rfl,_⟩:=sl_open hsl.2.1;rfl)
  have hbdz:=Hd hsl.2.2.2.1
  have hrecs:Hid (ρk.recs.length≤1000000):=by have:=HBk.out.cnt;show _≤_;omega
  have hql:=HR.out.qlen
  have hal:ρk.ats.length=ρk.recs.length:=by rw[HBk.out.pl.ats,placeL_length]
  have hn2b:Hid (n2≤1000000∧n3≤1000000):=by have:=hrecs.out;show _∧_;omega
  have hjb:j≤1000000:=by have:=hn2b.out;omega
  have hcaseN:=Hd hcase
  have hpN:=Hd hp
  have hneN:=Hd hne
  have hn2N:=Hd hn2
  have hjnN:=Hd (And.intro hjn hjn3)
  have hlenN:=Hd (And.intro (show Bk.Q.length≤1000000 by have:=hn2b.out;omega) (show ρk.ats.length≤1000000 by have:=hn2b.out;omega))
  have hm0:=HR.out.mlt
  clear hA hj hp hne hav hn2 hoa hq hrv hn3 hor hsl hcase hql hal hgt hbd1
  go_wp2_with fail
  clear hd1 hd2
  go_loop [10] (fun t=>∃k:Nat,k≤j∧t = .int .i64 k) (fun t=>j-(intOf t).toNat)
  case atStart=>exact⟨0,Nat.zero_le _,rfl⟩
  case round =>
   obtain⟨k,hk,rfl⟩:=hrel
   by_cases hkj:k<j
   ·
     obtain⟨u,hu⟩:∃u,ρk.ats[k]? = some u:=⟨_,List.getElem?_eq_getElem (by rw[hn2N.out];omega)⟩
     have hcu:=CA.out k u hu
     have hun:¬u=next:=hneN.out k u hkj hu
     have hk0:(0:Int)≤k:=by omega
     have hkn:(k:Int)<n2:=by omega
     have hkw:IntKind.i64.wrap ((k:Int)+1)=(k:Int)+1:=by rw[IntKind.wrap_i64];omega
     have hkjN:=Hd hkj
     clear hu hk hkj hjn hjn3
     go_wp2_with fail
     exact⟨⟨k+1,hkjN.out,rfl⟩,by have:=hkjN.out;simp[intOf];omega⟩
   obtain rfl:k=j:=by omega
   have hcu:=CA.out k next hpN.out
   have hk0:(0:Int)≤k:=by omega
   have hkn:(k:Int)<n2:=by omega
   have hkn3:(k:Int)<n3:=by omega
   clear hk hkj hjn hjn3
   have HN:Hid ((wr.alloc (.cells (rcC rcZ nilS nilS) 65)).heap[wr.heap.size]? = some (.cells (rcC rcZ nilS nilS) 65 (0,0))):=hN rfl
   go_upto_region 10 with(first
     | (refine wpList_load_arr rfl 65 _ rfl gr (fr+k*14) rfl (rcC R iv lw) _ HRow.out Tryz.underlying65 rfl (by kernel_rfl) ?_)
     | (refine wpList_store_whole rfl 65 _ _ rfl _ (rcC R iv lw) rfl rfl _ (rcC rcZ nilS nilS) HN.out rfl (by kernel_rfl) hones.out ?_;intro w4 HR4 K4;(have hk4:Keeps (fun _=>False) wr w4:=((Keeps.refl (fun _=>False) wr).alloc _).trans K4.out (fun q hq e=>by omega))))
   obtain⟨rb,hrb⟩:∃q,wr.heap.size=q:=⟨_,rfl⟩
   rw[hrb]at HR4
   try simp only[hrb]
   have hown:Hid (rb∉rOwn m g Bk):=fun h=>by have:=HR.out.lt _ h;omega
   have R0:w4.cell? ⟨rb,0,none⟩=some (.int .i64 R.kind):=cell_at HR4.out 0
   have H4:=Hd (HR.out.later hk4.below)
   have HS4:Hid (Stp w w4 m g B Bk []):=(HS.out.trans (Stp.later hk4.below)).wide (fun q hq=>by simp at hq)
   clear HN HRow hcu C2 C3 CA K4 hk4 HR HS hrb hones hm0
   rcases hcaseN.out with⟨hk2,hn0,hnl,hst⟩ | ⟨hk1,hp0,hpl,rest',hre,hst⟩
   ·
     rw[hk2]at R0
     have R3:w4.cell? ⟨rb,3,none⟩=some (.int .i64 R.next):=cell_at HR4.out 3
     have HBn:=Hd (HBk.out.pass hst)
     have hmeas:Hid (R.next.toNat<next.toNat):=by show _<_;omega
     clear hk2 hn0 hnl hst hcaseN
     go_wp2_with fail
     go_roundw
     case rel=>exact⟨R.next,ρk,Bk,rest,rfl,H4,HS4,HBn,hrm,hbx⟩
     case measure=>simpa[intOf]using hmeas.out
   rw[hk1]at R0
   subst hre
   obtain⟨g1,⟨g2,g3⟩,⟨g4,g5⟩,g6⟩:=HBk.out.good (next,R) (by simp)
   dsimp only at g1 g2 g3 g4 g5 g6
   obtain⟨up,hup⟩:∃k:Nat,R.up=k:=⟨R.up.toNat,by omega⟩
   obtain⟨ul,hul⟩:∃k:Nat,R.ul=k:=⟨R.ul.toNat,by omega⟩
   obtain⟨y2,hy2,hb1,hb2,hb3,hb4,hb5,hb6⟩:=HBk.out.xc
   rw[List.length_cons]at hb1 hb2
   have hnext:next≤100000000000:=by
     have h1:=HBk.out.bnd
     have h2:=HBk.out.stk.lo
     have h3:=HBk.out.pl.fin
     omega
   have hpr:0≤R.prev∧R.prev≤100000000000:=⟨hp0,by omega⟩
   have hx0:0≤x∧x≤2147483647:=by have:=hxN.out;omega
   have hokc:=Hd (HBk.out.clr hx0 hpr hy2)
   have HBs:=Hd (HBk.out.step hgtN.out hx0 hpr hy2 hst)
   have hmeas:Hid (R.prev.toNat<next.toNat):=by show _<_;omega
   have hupN:=Hd hup
   have hulN:=Hd hul
   have hup6:Hid (up<6):=by show _<_;omega
   have hul6:Hid (ul<6):=by show _<_;omega
   have hkn:ρk.xs.length=n:=by rw[HBk.out.len];exact hnN.out
   have hknN:=Hd hkn
   have hbb:=Hd (And.intro hb1 (And.intro hb2 (And.intro hb3 (And.intro hb4 (And.intro hb5 hb6)))))
   have hy2N:=Hd hy2
   have hox:OwnS w4 112 6 (.slice (some ⟨gx,0,none⟩) n xc) n (xcV ρk.xs):=by have:=H4.out.xs;rw[hbx.out,hkn]at this;exact this
   have C0:w4.cell? ⟨m,0,none⟩=some (.slice (some ⟨gx,0,none⟩) n xc):=by have:=cell_at H4.out.cell 0;rw[←hbx.out];exact this
   have c3:w4.cell? ⟨gx,i*6+3,none⟩=some (.int .i64 y2.bytes):=flat_range xcL 6 xcL_length hox i y2 hy2 3 _ rfl
   have F3:=own_free hox (i*6+3)
   have hw1:IntKind.i64.wrap ((y2.bytes:Int)-320)=(y2.bytes:Int)-320:=by rw[IntKind.wrap_i64];omega
   have hgxo:Hid (gx∈rOwn m g Bk):=own_x (by rw[hbx.out];simp[blk,Value.ownBlock])
   have hi0':(0:Int)≤i:=by omega
   clear hk1 hp0 hpl hst hcaseN g1 g2 g3 g4 g5 g6 hup hul hy2 hb1 hb2 hb3 hb4 hb5 hb6 hnext hpr hx0 hkn hox hbdz
   go_upto_region 13 with fail
   obtain⟨hP,hkP⟩:=H4.out.setX hbx.out i 3 y2 {y2 with bytes:=y2.bytes-320} (.int .i64 ((y2.bytes:Int)-320)) hy2N.out (by omega) (by
     have:=hbb.out.1
     rw[show (y2.bytes:Int)-320=((y2.bytes-320:Nat):Int) by omega]
     rfl)
   refine name_world (fun W=>Rr W m g Bk {ρk with xs:=ρk.xs.set i {y2 with bytes:=y2.bytes-320}}∧Stp w W m g B Bk []∧W.heap[rb]? = some (.cells (rcC R iv lw) 65 (0,0))) ⟨hP,HS4.out.on hkP (fun q e=>e ▸ hgxo.out),hkP.keep HR4.out (fun e=>hown.out (e ▸ hgxo.out))⟩ ?_
   rintro W5 ⟨h5,hst5,hr5⟩
   have H5:=Hd h5
   have HS5:=Hd hst5
   have HR5:=Hd hr5
   have hil:i<ρk.xs.length:=(List.getElem?_eq_some_iff.1 hy2N.out).1
   have hilN:=Hd hil
   have hy5:Hid ((ρk.xs.set i {y2 with bytes:=y2.bytes-320})[i]? = some {y2 with bytes:=y2.bytes-320}):=by show _=_;rw[List.getElem?_set_self hil]
   have hox:OwnS W5 112 6 (.slice (some ⟨gx,0,none⟩) n xc) n (xcV (ρk.xs.set i {y2 with bytes:=y2.bytes-320})):=by have:=h5.xs;rw[hbx.out,show (ρk.xs.set i {y2 with bytes:=y2.bytes-320}).length=n by rw[List.length_set];exact hknN.out]at this;exact this
   have C0':W5.cell? ⟨m,0,none⟩=some (.slice (some ⟨gx,0,none⟩) n xc):=by have:=cell_at h5.cell 0;rw[←hbx.out];exact this
   have c4:W5.cell? ⟨gx,i*6+4,none⟩=some (.int .i64 y2.pages):=flat_range xcL 6 xcL_length hox i _ hy5.out 4 _ rfl
   have F4:=own_free hox (i*6+4)
   have hw2:IntKind.i64.wrap ((y2.pages:Int)-1)=(y2.pages:Int)-1:=by have:=hbb.out;rw[IntKind.wrap_i64];omega
   clear h5 hst5 hr5 hox hP hkP C0 c3 F3 H4 HS4 HR4 R0 hil hw1
   go_upto_region 14 with fail
   obtain⟨hP,hkP⟩:=H5.out.setX hbx.out i 4 {y2 with bytes:=y2.bytes-320} {y2 with bytes:=y2.bytes-320,pages:=y2.pages-1} (.int .i64 ((y2.pages:Int)-1)) hy5.out (by omega) (by
     have:=hbb.out.2.1
     rw[show (y2.pages:Int)-1=((y2.pages-1:Nat):Int) by omega]
     rfl)
   rw[List.set_set]at hP
   refine name_world (fun W=>Rr W m g Bk {ρk with xs:=ρk.xs.set i {y2 with bytes:=y2.bytes-320,pages:=y2.pages-1}}∧Stp w W m g B Bk []∧W.heap[rb]? = some (.cells (rcC R iv lw) 65 (0,0))) ⟨hP,HS5.out.on hkP (fun q e=>e ▸ hgxo.out),hkP.keep HR5.out (fun e=>hown.out (e ▸ hgxo.out))⟩ ?_
   rintro W6 ⟨h6,hst6,hr6⟩
   have H6:=Hd (h6.later (bD bR):Rr W6.drew m g Bk {ρk with xs:=ρk.xs.set i {y2 with bytes:=y2.bytes-320,pages:=y2.pages-1}})
   have HS6:Hid (Stp w W6.drew m g B Bk []):=(hst6.trans (Stp.later (bD bR))).wide (fun q hq=>by simp at hq)
   have HR6:Hid (W6.drew.heap[rb]? = some (.cells (rcC R iv lw) 65 (0,0))):=hDr hr6
   clear h6 hst6 hr6 hP hkP C0' c4 F4 H5 HS5 HR5 hy5 hw2
   obtain⟨y3,hy3⟩:∃z:Xc,({y2 with bytes:=y2.bytes-320,pages:=y2.pages-1}:Xc)=z:=⟨_,rfl⟩
   have hl3:y3.last=y2.last:=by rw[←hy3]
   rw[hy3]at H6
   obtain⟨ρ2,hρ2⟩:∃z:RS,({ρk with xs:=ρk.xs.set i y3}:RS)=z:=⟨_,rfl⟩
   rw[hρ2]at H6
   have hf2:ρ2.f=ρk.f:=by rw[←hρ2]
   have hx2:ρ2.xs[i]? = some y3:=by rw[←hρ2];show (ρk.xs.set i y3)[i]? = _;rw[List.getElem?_set_self hilN.out]
   have hn2x:ρ2.xs.length=n:=by rw[←hρ2];show (ρk.xs.set i y3).length=n;rw[List.length_set];exact hknN.out
   have CL:Hid (∀W,Rr W m g Bk ρ2→W.cell? ⟨gx,i*6+2,none⟩=some (.int .i64 y2.last)):=fun W hW=>by
     have ho:OwnS W 112 6 (.slice (some ⟨gx,0,none⟩) n xc) n (xcV ρ2.xs):=by have:=hW.xs;rw[hbx.out,hn2x]at this;exact this
     have:=flat_range xcL 6 xcL_length ho i y3 hx2 2 _ rfl
     rw[←hl3];exact this
   obtain⟨P,hPe⟩:∃P,setCl (ρk.f R.up.toNat) R.ul.toNat R.bs R.bd=P:=⟨_,rfl⟩
   have HRs:Hid (∀W,Rr W m g Bk ρ2→Calls Tryz.prog 91 #[.pointer (some ⟨m,0,none⟩),.agg (unL (recU R)).toArray] W fun e w'=>e = .returned (.agg (imA ((up:Int),P)))∧Below W.heap.size W w'):=fun W hW=>by
     have:=rr_restored hW (recU R) up ul hupN.out hulN.out hup6.out hul6.out
     rw[hf2]at this
     rw[←hPe,show R.up.toNat=up by have:=hupN.out;omega,show R.ul.toNat=ul by have:=hulN.out;omega]
     exact this
   rw[hPe]at hokc
   obtain⟨R',hR'⟩:∃z,clrR x y2.last R P=z:=⟨_,rfl⟩
   rw[hR']at hokc
   have hsz':(rcS R').size=265:=by rw[←hR'];exact clr_size (hR' ▸ hokc.out)
   have hund:ρk.undone x i y2 R=ρ2.mined i y3 R':=by unfold RS.undone;rw[hy3,hρ2,hPe,hR']
   have hims:R'.ims=[(R.up,P)]:=by rw[←hR'];rfl
   have hkeyz:R'.key.size≤maxLen∧R'.bd.size≤maxLen:=by rw[←hR'];exact⟨Nat.zero_le _,Nat.zero_le _⟩
   have hlvs:R'.lvs=[]:=by rw[←hR'];rfl
   have hPdt:∀q,q<6→(P.dt q).size≤maxLen:=fun q hq=>by
     have h1:=hokc.out.2.1 (R.up,P) (by rw[hims];simp)
     have h2:=(h1.2.2 q hq).2.2.1
     unfold maxLen
     dsimp only at h2
     omega
   have HM:Hid (∀(W:World) (ib:Nat),Rr W m g Bk ρ2→W.heap[ib]? = some (.cells (imA ((up:Int),P)) 51 (0,0))→ib∉rOwn m g Bk→Calls Tryz.prog 90 #[.pointer (some ⟨m,0,none⟩),.int .i64 i,.agg (rcC R' (.slice (some ⟨ib,0,none⟩) 1 1) nilS)] W fun e w' =>
       ((ρk.room<267∧e = .returned (.bool false)∧Below W.heap.size W w')∨(¬ρk.room<267∧e = .returned (.bool true)∧∃B',Rr w' m g B' (ρk.undone x i y2 R)∧Stp W w' m g Bk B' (blk (.slice (some ⟨ib,0,none⟩) 1 1)++blk nilS)∧B'.xv=Bk.xv))):=fun W ib hW hI hno=>by
     have hbn:=HBk.out.bnd
     have hpf:=HBk.out.pl.fin
     have hrr:=hroomN.out
     obtain⟨_,_,_,_,hrd⟩:=HBk.out.und
     have:=rr_mine hW i y3 hx2 (by rw[hn2x];have:=hxlN.out;have:=hnN.out;omega) R' (.slice (some ⟨ib,0,none⟩) 1 1) nilS hokc.out ⟨by rw[hims,hupN.out];exact sl_one hI,by rw[hlvs];exact nil_sl W,hkeyz.1,hkeyz.2,fun z hz q hq=>by rw[hims]at hz;rw[List.mem_singleton.1 hz];exact hPdt q hq⟩ (fun k hk=>by
       rcases List.mem_append.1 hk with hk | hk
       ·
         have:k=ib:=by simpa[blk,Value.ownBlock]using hk
         subst this
         exact⟨block_lt hI,hno⟩
       · simp[blk,Value.ownBlock,nilS]at hk) (by rw[hims];simp) (fun z hz=>by rw[hims]at hz;rw[List.mem_singleton.1 hz];have:=hupN.out;have:=hup6.out;show R.up<6;omega) (by rw[←hρ2];exact hlenN.out) (by rw[←hρ2];show 0≤ρk.fin∧ρk.fin≤_;omega) (by rw[←hρ2];show _≤ρk.room∧ρk.room≤_;have:=hrm.out;omega)
     rw[hsz',show ρ2.room=ρk.room by rw[←hρ2]]at this
     rw[hund]
     exact this
   have hfail:Hid (ρk.room<267→¬RFits ρ bd l):=fun h=>HBk.out.fails hgtN.out h
   have hund':Hid (¬ρk.room<267→0≤(ρk.undone x i y2 R).room):=fun h=>by
     rw[hund]
     show 0≤ρ2.room-_
     rw[hsz',show ρ2.room=ρk.room by rw[←hρ2]]
     omega
   have hm6:Hid (∀q∈rOwn m g Bk,q<W6.drew.heap.size):=H6.out.lt
   have hrbl:Hid (rb<W6.drew.heap.size):=block_lt HR6.out
   have hS0:Hid (BdS m gx rb n xc R.prev (recU R) W6.drew):=⟨by have:=cell_at H6.out.cell 0;rw[←hbx.out];exact this,cell_at HR6.out 2,World.rangeAt_of_block HR6.out 4 7⟩
   have hR'e:=Hd hR'
   obtain⟨j0,hjj,hjz,hj1,hj2⟩:=info_parts Tryz.info_imgG
   clear hy3 hl3 hρ2 hf2 hx2 hn2x hPe hR' hsz' hund hims hkeyz hlvs hPdt hokc
   refine' cut_ways (Rel:=fun W _ _ _=>∃B',Rr W m g B' (ρk.undone x i y2 R)∧Stp w W m g B B' []∧B'.xv=Bk.xv∧W.cell? ⟨rb,2,none⟩=some (.int .i64 R.prev)∧¬ρk.room<267) ?ways ?rest
   case ways =>
    intro key
    replace key:=Hd key
    refine wp_region_held_drew (S:=BdS m gx rb n xc R.prev (recU R)) (by kernel_rfl) hS0.out (fun hHeld=>?_)
    refine tk 0 (v:=?_) rfl (Or.inl ⟨by rfl,?_⟩) hHeld ?_
    rotate_left
    ·
      intro w' hSw
      obtain⟨s0,s1,s2⟩:=hSw
      go_simp
      try with_reducible rfl
      try omega
    go_frame
    refine tk 1 (v:=?_) rfl (Or.inl ⟨by rfl,?_⟩) hHeld ?_
    rotate_left
    ·
      intro w' hSw
      obtain⟨s0,s1,s2⟩:=hSw
      go_simp
      try with_reducible rfl
      try omega
    go_frame
    refine tk 2 (v:=?_) rfl (Or.inl ⟨by rfl,?_⟩) hHeld ?_
    rotate_left
    ·
      intro w' hSw
      obtain⟨s0,s1,s2⟩:=hSw
      go_simp
      try with_reducible rfl
      try omega
    go_frame
    refine tk 3 (v:=?_) rfl (Or.inl ⟨by rfl,?_⟩) hHeld ?_
    rotate_left
    ·
      intro w' hSw
      obtain⟨s0,s1,s2⟩:=hSw
      go_simp
      try with_reducible rfl
      try omega
    go_frame
    refine tk 4 (v:=?_) rfl (Or.inl ⟨by rfl,?_⟩) hHeld ?_
    rotate_left
    ·
      intro w' hSw
      obtain⟨s0,s1,s2⟩:=hSw
      go_simp
      try with_reducible rfl
      try omega
    go_frame
    refine tk 5 (v:=?_) rfl (Or.inl ⟨by rfl,?_⟩) hHeld ?_
    rotate_left
    ·
      intro w' hSw
      obtain⟨s0,s1,s2⟩:=hSw
      go_simp
      try with_reducible rfl
      try omega
    go_frame
    refine tk 6 (v:=?_) rfl (Or.inl ⟨by rfl,?_⟩) hHeld ?_
    rotate_left
    ·
      intro w' hSw
      obtain⟨s0,s1,s2⟩:=hSw
      go_simp
      try with_reducible rfl
      try omega
    go_frame
    refine tk 7 (v:=?_) rfl (Or.inl ⟨by rfl,?_⟩) hHeld ?_
    rotate_left
    ·
      intro w' hSw
      obtain⟨s0,s1,s2⟩:=hSw
      go_simp
      try with_reducible rfl
      try omega
    go_frame
    refine tk 8 (v:=?_) rfl (Or.inl ⟨by rfl,?_⟩) hHeld ?_
    rotate_left
    ·
      intro w' hSw
      obtain⟨s0,s1,s2⟩:=hSw
      go_simp
      try with_reducible rfl
      try omega
    go_frame
    refine tk 9 (v:=?_) rfl (Or.inl ⟨by rfl,?_⟩) hHeld ?_
    rotate_left
    ·
      intro w' hSw
      obtain⟨s0,s1,s2⟩:=hSw
      go_simp
      try with_reducible rfl
      try omega
    go_frame
    refine tk 11 (v:=?_) rfl (Or.inl ⟨by rfl,?_⟩) hHeld ?_
    rotate_left
    ·
      intro w' hSw
      obtain⟨s0,s1,s2⟩:=hSw
      go_simp
      try with_reducible rfl
      try omega
    go_frame
    refine tk 12 (v:=?_) rfl (Or.inl ⟨by rfl,?_⟩) hHeld ?_
    rotate_left
    ·
      intro w' hSw
      obtain⟨s0,s1,s2⟩:=hSw
      go_simp
      try with_reducible rfl
      try omega
    go_frame
    refine tk 13 (v:=?_) rfl (Or.inl ⟨by rfl,?_⟩) hHeld ?_
    rotate_left
    ·
      intro w' hSw
      obtain⟨s0,s1,s2⟩:=hSw
      go_simp
      try with_reducible rfl
      try omega
    go_frame
    refine tk 14 (v:=?_) rfl (Or.inl ⟨by rfl,?_⟩) hHeld ?_
    rotate_left
    ·
      intro w' hSw
      obtain⟨s0,s1,s2⟩:=hSw
      go_simp
      try with_reducible rfl
      try omega
    go_frame
    refine tk 15 (v := .agg (unL (recU R)).toArray) rfl (yieldsIf_load_mid (by rfl) _ _ rfl rb 4 rfl (unL (recU R)) _ (fun _ h=>h.2.2) Tryz.underlying42 rfl (by kernel_rfl)) hHeld ?_
    go_frame
    refine rd2 10 16 (fun K hK=>?_) (fun K hK=>?_)
    ·
      have cl:=CL.out _ H6.out
      go_simp
      refine hK.out _ _ hS0.out (fun hHeld=>?_)
      clear hK K cl
      try go_frame
      refine rd 16 (fun K hK=>?_)
      go_simp
      go_at_call 91
      refine(HRs.out _ H6.out).mono ?_
      rintro e w7 ⟨rfl,hb7⟩
      have H7:=Hd (H6.out.later hb7)
      have hS7:Hid (BdS m gx rb n xc R.prev (recU R) w7):=hS0.out.keep (Keeps.of_below (fun _=>False) hb7) (fun h=>h) (fun h=>h)
      have HB7:Hid (Below W6.drew.heap.size W6.drew w7):=hb7
      clear hb7
      dsimp only
      refine hK.out _ _ hS7.out (fun hHeld=>?_)
      clear hK K
      try go_frame
      refine rd 17 (fun K hK=>?_)
      refine step_buildSlice rfl 43 51 1 _ rfl (imA ((up:Int),P)) j0 _ Tryz.underlying43 hjj hjz (by rw[hj1];decide) (by rw[hj1];decide) (by rw[hj1];kernel_rfl) ?_
      have H8:Hid (Rr (w7.alloc (.cells (imA ((up:Int),P)) 51)) m g Bk ρ2):=H7.out.later (bA bR)
      have hS8:Hid (BdS m gx rb n xc R.prev (recU R) (w7.alloc (.cells (imA ((up:Int),P)) 51))):=hS7.out.keep ((Keeps.refl (fun _=>False) _).alloc _) (fun h=>h) (fun h=>h)
      refine hK.out _ _ hS8.out (fun hHeld=>?_)
      clear hK K
      try go_frame
      refine tk 18 (v := .agg (rcC R' (.slice (some ⟨w7.heap.size,0,none⟩) 1 1) nilS)) rfl (Or.inl ⟨by rfl,?_⟩) hHeld ?_
      ·
        intro w' hSw
        clear hSw
        rw[←hR'e.out]
        go_simp
        try rfl
      go_frame
      refine rd 19 (fun K hK=>?_)
      go_simp
      go_at_call 90
      have hI8:Hid ((w7.alloc (.cells (imA ((up:Int),P)) 51)).heap[w7.heap.size]? = some (.cells (imA ((up:Int),P)) 51 (0,0))):=hN rfl
      refine(HM.out _ _ H8.out hI8.out (fun h=>by have:=hm6.out _ h;have:=HB7.out.size;omega)).mono ?_
      rintro e w9 (⟨hr9,rfl,hb9⟩ | ⟨hr9,rfl,B',h9,hst9,hx9⟩)
      ·
        have hS9:=hS8.out.keep (Keeps.of_below (fun _=>False) hb9) (fun h=>h) (fun h=>h)
        have hnf:=Hd (hfail.out hr9)
        have hst9:Hid (∃B' ρ',Rr w9 m g B' ρ'∧Stp w w9 m g B B' []):=⟨Bk,ρ2,H8.out.later hb9,(HS6.out.trans (Stp.later (bT (bA HB7.out) hb9))).wide (fun q hq=>by simp at hq)⟩
        clear hr9 hb9
        dsimp only
        refine hK.out _ _ hS9 (fun hHeld=>?_)
        clear hK K
        try go_frame
        refine tk 20 (v:=?_) rfl (Or.inl ⟨by rfl,?_⟩) hHeld ?_
        rotate_left
        ·
          intro w' hSw
          clear hSw
          go_simp
          try with_reducible rfl
        go_frame
        clear hHeld
        refine wpAnyH_done (by kernel_rfl) ?_ _
        clear key hS9 hI8 hS8 H8 hS7 H7 HB7 hS0 HRs HM H6 HS6 HR6 hfail hund' CL
        go_wp2_with fail
        go_ret2
        exact .inr ⟨hnf.out,rfl,hst9.out⟩
      ·
        have hno:¬rb∈rOwn m g Bk:=hown.out
        have hS9:BdS m gx rb n xc R.prev (recU R) w9:=⟨by have:=cell_at h9.cell 0;rw[←hbx.out,←hx9];exact this,cell_keepS hst9.keeps hno hS8.out.2.1,fun j v hj=>cell_keepS hst9.keeps hno (hS8.out.2.2 j v hj)⟩
        have hb8:Below W6.drew.heap.size W6.drew (w7.alloc (.cells (imA ((up:Int),P)) 51)):=bA HB7.out
        have hrel:∃B',Rr w9 m g B' (ρk.undone x i y2 R)∧Stp w w9 m g B B' []∧B'.xv=Bk.xv∧w9.cell? ⟨rb,2,none⟩=some (.int .i64 R.prev)∧¬ρk.room<267:=by
          refine⟨B',h9,((HS6.out.trans (Stp.later hb8)).trans hst9).wide (fun k hk=>?_),hx9,hS9.2.1,hr9⟩
          rcases List.mem_append.1 hk with hk | hk
          · simp at hk
          ·rcases List.mem_append.1 hk with hk | hk
           ·have:k=w7.heap.size:=by simpa[blk,Value.ownBlock]using hk
            have h1:=HB7.out.size
            have h2:=HS6.out.keeps.size
            exact .inr (by omega)
           · simp[blk,Value.ownBlock,nilS]at hk
        have hrelN:=Hd hrel
        clear h9 hst9 hx9 hr9 hrel hb8
        dsimp only
        refine hK.out _ _ hS9 (fun hHeld=>?_)
        clear hK K
        try go_frame
        refine tk 20 (v:=?_) rfl (Or.inl ⟨by rfl,?_⟩) hHeld ?_
        rotate_left
        ·
          intro w' hSw
          clear hSw
          go_simp
          try with_reducible rfl
        go_frame
        clear hHeld
        refine wpAnyH_done (by kernel_rfl) ?_ _
        have hrel:=hrelN.out
        revert hrel
        generalize w7.heap.size=ib
        intro hrel
        obtain⟨z1,-⟩:∃z:Nat,True:=⟨0,trivial⟩
        obtain⟨z2,-⟩:∃z:Nat,True:=⟨0,trivial⟩
        exact key.out w9 ib z1 z2 hrel
    ·
      go_simp
      go_at_call 91
      refine(HRs.out _ H6.out).mono ?_
      rintro e w7 ⟨rfl,hb7⟩
      have H7:=Hd (H6.out.later hb7)
      have hS7:Hid (BdS m gx rb n xc R.prev (recU R) w7):=hS0.out.keep (Keeps.of_below (fun _=>False) hb7) (fun h=>h) (fun h=>h)
      have HB7:Hid (Below W6.drew.heap.size W6.drew w7):=hb7
      clear hb7
      dsimp only
      refine hK.out _ _ hS7.out (fun hHeld=>?_)
      clear hK K
      try go_frame
      refine rd2 10 17 (fun K hK=>?_) (fun K hK=>?_)
      ·
        have cl:=CL.out _ H7.out
        go_simp
        refine hK.out _ _ hS7.out (fun hHeld=>?_)
        clear hK K cl
        try go_frame
        refine rd 17 (fun K hK=>?_)
        refine step_buildSlice rfl 43 51 1 _ rfl (imA ((up:Int),P)) j0 _ Tryz.underlying43 hjj hjz (by rw[hj1];decide) (by rw[hj1];decide) (by rw[hj1];kernel_rfl) ?_
        have H8:Hid (Rr (w7.alloc (.cells (imA ((up:Int),P)) 51)) m g Bk ρ2):=H7.out.later (bA bR)
        have hS8:Hid (BdS m gx rb n xc R.prev (recU R) (w7.alloc (.cells (imA ((up:Int),P)) 51))):=hS7.out.keep ((Keeps.refl (fun _=>False) _).alloc _) (fun h=>h) (fun h=>h)
        refine hK.out _ _ hS8.out (fun hHeld=>?_)
        clear hK K
        try go_frame
        refine tk 18 (v := .agg (rcC R' (.slice (some ⟨w7.heap.size,0,none⟩) 1 1) nilS)) rfl (Or.inl ⟨by rfl,?_⟩) hHeld ?_
        ·
          intro w' hSw
          clear hSw
          rw[←hR'e.out]
          go_simp
          try rfl
        go_frame
        refine rd 19 (fun K hK=>?_)
        go_simp
        go_at_call 90
        have hI8:Hid ((w7.alloc (.cells (imA ((up:Int),P)) 51)).heap[w7.heap.size]? = some (.cells (imA ((up:Int),P)) 51 (0,0))):=hN rfl
        refine(HM.out _ _ H8.out hI8.out (fun h=>by have:=hm6.out _ h;have:=HB7.out.size;omega)).mono ?_
        rintro e w9 (⟨hr9,rfl,hb9⟩ | ⟨hr9,rfl,B',h9,hst9,hx9⟩)
        ·
          have hS9:=hS8.out.keep (Keeps.of_below (fun _=>False) hb9) (fun h=>h) (fun h=>h)
          have hnf:=Hd (hfail.out hr9)
          have hst9:Hid (∃B' ρ',Rr w9 m g B' ρ'∧Stp w w9 m g B B' []):=⟨Bk,ρ2,H8.out.later hb9,(HS6.out.trans (Stp.later (bT (bA HB7.out) hb9))).wide (fun q hq=>by simp at hq)⟩
          clear hr9 hb9
          dsimp only
          refine hK.out _ _ hS9 (fun hHeld=>?_)
          clear hK K
          try go_frame
          refine tk 20 (v:=?_) rfl (Or.inl ⟨by rfl,?_⟩) hHeld ?_
          rotate_left
          ·intro w' hSw
           clear hSw
           go_simp
           try with_reducible rfl
          go_frame
          clear hHeld
          refine wpAnyH_done (by kernel_rfl) ?_ _
          clear key hS9 hI8 hS8 H8 hS7 H7 HB7 hS0 HRs HM H6 HS6 HR6 hfail hund' CL
          go_wp2_with fail
          go_ret2
          exact .inr ⟨hnf.out,rfl,hst9.out⟩
        ·
          have hno:¬rb∈rOwn m g Bk:=hown.out
          have hS9:BdS m gx rb n xc R.prev (recU R) w9:=⟨by have:=cell_at h9.cell 0;rw[←hbx.out,←hx9];exact this,cell_keepS hst9.keeps hno hS8.out.2.1,fun j v hj=>cell_keepS hst9.keeps hno (hS8.out.2.2 j v hj)⟩
          have hb8:Below W6.drew.heap.size W6.drew (w7.alloc (.cells (imA ((up:Int),P)) 51)):=bA HB7.out
          have hrel:∃B',Rr w9 m g B' (ρk.undone x i y2 R)∧Stp w w9 m g B B' []∧B'.xv=Bk.xv∧w9.cell? ⟨rb,2,none⟩=some (.int .i64 R.prev)∧¬ρk.room<267:=by
           refine⟨B',h9,((HS6.out.trans (Stp.later hb8)).trans hst9).wide (fun k hk=>?_),hx9,hS9.2.1,hr9⟩
           rcases List.mem_append.1 hk with hk | hk
           · simp at hk
           ·rcases List.mem_append.1 hk with hk | hk
            ·have:k=w7.heap.size:=by simpa[blk,Value.ownBlock]using hk
             have h1:=HB7.out.size
             have h2:=HS6.out.keeps.size
             exact .inr (by omega)
            · simp[blk,Value.ownBlock,nilS]at hk
          have hrelN:=Hd hrel
          clear h9 hst9 hx9 hr9 hrel hb8
          dsimp only
          refine hK.out _ _ hS9 (fun hHeld=>?_)
          clear hK K
          try go_frame
          refine tk 20 (v:=?_) rfl (Or.inl ⟨by rfl,?_⟩) hHeld ?_
          rotate_left
          ·intro w' hSw
           clear hSw
           go_simp
           try with_reducible rfl
          go_frame
          clear hHeld
          refine wpAnyH_done (by kernel_rfl) ?_ _
          have hrel:=hrelN.out
          revert hrel
          generalize w7.heap.size=ib
          intro hrel
          obtain⟨z1,-⟩:∃z:Nat,True:=⟨0,trivial⟩
          obtain⟨z2,-⟩:∃z:Nat,True:=⟨0,trivial⟩
          exact key.out w9 ib z1 z2 hrel
      ·
        refine step_buildSlice rfl 43 51 1 _ rfl (imA ((up:Int),P)) j0 _ Tryz.underlying43 hjj hjz (by rw[hj1];decide) (by rw[hj1];decide) (by rw[hj1];kernel_rfl) ?_
        have H8:Hid (Rr (w7.alloc (.cells (imA ((up:Int),P)) 51)) m g Bk ρ2):=H7.out.later (bA bR)
        have hS8:Hid (BdS m gx rb n xc R.prev (recU R) (w7.alloc (.cells (imA ((up:Int),P)) 51))):=hS7.out.keep ((Keeps.refl (fun _=>False) _).alloc _) (fun h=>h) (fun h=>h)
        refine hK.out _ _ hS8.out (fun hHeld=>?_)
        clear hK K
        try go_frame
        refine rd 10 (fun K hK=>?_)
        have cl:=CL.out _ H8.out
        go_simp
        refine hK.out _ _ hS8.out (fun hHeld=>?_)
        clear hK K cl
        try go_frame
        refine tk 18 (v := .agg (rcC R' (.slice (some ⟨w7.heap.size,0,none⟩) 1 1) nilS)) rfl (Or.inl ⟨by rfl,?_⟩) hHeld ?_
        ·
          intro w' hSw
          clear hSw
          rw[←hR'e.out]
          go_simp
          try rfl
        go_frame
        refine rd 19 (fun K hK=>?_)
        go_simp
        go_at_call 90
        have hI8:Hid ((w7.alloc (.cells (imA ((up:Int),P)) 51)).heap[w7.heap.size]? = some (.cells (imA ((up:Int),P)) 51 (0,0))):=hN rfl
        refine(HM.out _ _ H8.out hI8.out (fun h=>by have:=hm6.out _ h;have:=HB7.out.size;omega)).mono ?_
        rintro e w9 (⟨hr9,rfl,hb9⟩ | ⟨hr9,rfl,B',h9,hst9,hx9⟩)
        ·
          have hS9:=hS8.out.keep (Keeps.of_below (fun _=>False) hb9) (fun h=>h) (fun h=>h)
          have hnf:=Hd (hfail.out hr9)
          have hst9:Hid (∃B' ρ',Rr w9 m g B' ρ'∧Stp w w9 m g B B' []):=⟨Bk,ρ2,H8.out.later hb9,(HS6.out.trans (Stp.later (bT (bA HB7.out) hb9))).wide (fun q hq=>by simp at hq)⟩
          clear hr9 hb9
          dsimp only
          refine hK.out _ _ hS9 (fun hHeld=>?_)
          clear hK K
          try go_frame
          refine tk 20 (v:=?_) rfl (Or.inl ⟨by rfl,?_⟩) hHeld ?_
          rotate_left
          ·intro w' hSw
           clear hSw
           go_simp
           try with_reducible rfl
          go_frame
          clear hHeld
          refine wpAnyH_done (by kernel_rfl) ?_ _
          clear key hS9 hI8 hS8 H8 hS7 H7 HB7 hS0 HRs HM H6 HS6 HR6 hfail hund' CL
          go_wp2_with fail
          go_ret2
          exact .inr ⟨hnf.out,rfl,hst9.out⟩
        ·
          have hno:¬rb∈rOwn m g Bk:=hown.out
          have hS9:BdS m gx rb n xc R.prev (recU R) w9:=⟨by have:=cell_at h9.cell 0;rw[←hbx.out,←hx9];exact this,cell_keepS hst9.keeps hno hS8.out.2.1,fun j v hj=>cell_keepS hst9.keeps hno (hS8.out.2.2 j v hj)⟩
          have hb8:Below W6.drew.heap.size W6.drew (w7.alloc (.cells (imA ((up:Int),P)) 51)):=bA HB7.out
          have hrel:∃B',Rr w9 m g B' (ρk.undone x i y2 R)∧Stp w w9 m g B B' []∧B'.xv=Bk.xv∧w9.cell? ⟨rb,2,none⟩=some (.int .i64 R.prev)∧¬ρk.room<267:=by
           refine⟨B',h9,((HS6.out.trans (Stp.later hb8)).trans hst9).wide (fun k hk=>?_),hx9,hS9.2.1,hr9⟩
           rcases List.mem_append.1 hk with hk | hk
           · simp at hk
           ·rcases List.mem_append.1 hk with hk | hk
            ·have:k=w7.heap.size:=by simpa[blk,Value.ownBlock]using hk
             have h1:=HB7.out.size
             have h2:=HS6.out.keeps.size
             exact .inr (by omega)
            · simp[blk,Value.ownBlock,nilS]at hk
          have hrelN:=Hd hrel
          clear h9 hst9 hx9 hr9 hrel hb8
          dsimp only
          refine hK.out _ _ hS9 (fun hHeld=>?_)
          clear hK K
          try go_frame
          refine tk 20 (v:=?_) rfl (Or.inl ⟨by rfl,?_⟩) hHeld ?_
          rotate_left
          ·intro w' hSw
           clear hSw
           go_simp
           try with_reducible rfl
          go_frame
          clear hHeld
          refine wpAnyH_done (by kernel_rfl) ?_ _
          have hrel:=hrelN.out
          revert hrel
          generalize w7.heap.size=ib
          intro hrel
          obtain⟨z1,-⟩:∃z:Nat,True:=⟨0,trivial⟩
          obtain⟨z2,-⟩:∃z:Nat,True:=⟨0,trivial⟩
          exact key.out w9 ib z1 z2 hrel
   case rest =>
    intro W ib _ _ hrel
    obtain⟨B',h',hst',hx',hc',hr'⟩:=hrel
    have H':=Hd h'
    have HS':=Hd hst'
    have hxv':=Hd (hx'.trans hbx.out)
    have hr0:=Hd (hund'.out hr')
    clear h' hst' hx' hr' hS0 HRs HM H6 HS6 HR6 hfail hund'
    go_wp2_with fail
    go_roundw
    case rel=>exact⟨R.prev,ρk.undone x i y2 R,B',rest',rfl,H',HS',HBs,hr0,hxv'⟩
    case measure=>simpa[intOf]using hmeas.out
end
end Go.Proofs.YtimomjheanfbmaaGreatDoor.G
