import Derived.Test.YtimomjheanfbmaaGreatDoorQaa
import Derived.Test.YtimomjheanfbmaaGreatDoorRbb
import Derived.Test.YtimomjheanfbmaaGreatDoorRba
import Derived.Test.YtimomjheanfbmaaGreatDoorRbd
import Derived.Test.YtimomjheanfbmaaGreatDoorRbc
set_option linter.unusedSimpArgs false
set_option linter.unusedVariables false
namespace Go.Proofs.YtimomjheanfbmaaGreatDoor.G
open Go.RowKit
def RFinTo (w w':World) (m g:Nat) (B:RB) (ρ:RS) (kind x:Int) (i:Nat) (y:Xc) (e:Ending):Prop :=
 ((y.first≠0∧ρ.room<39)∧e = .returned (.tuple #[.int .i64 0,.bool false])∧∃B' ρ',Rr w' m g B' ρ'∧Stp w w' m g B B' []) ∨
 (¬(y.first≠0∧ρ.room<39)∧e = .returned (.tuple #[.int .i64 0,.bool true])∧∃B',Rr w' m g B' (ρ.finished kind x i y)∧Stp w w' m g B B' [])
theorem xFind_congr {l l':List Xc} (h:l'.map (fun y=>(y.num,y.over))=l.map (fun y=>(y.num,y.over))) (x:Int):xFind l' x=xFind l x:=by
 have key:∀l:List Xc,xFind l x=(l.map (fun y=>(y.num,y.over))).findIdx? (fun p=>p.1==x && !p.2):=fun l=>by
  unfold xFind
  rw[List.findIdx?_map];rfl
 rw[key,key,h]
theorem set_same {l:List Xc} {i:Nat} {y z:Xc} (hy:l[i]? = some y) (hn:z.num=y.num∧z.over=y.over):(l.set i z).map (fun y=>(y.num,y.over))=l.map (fun y=>(y.num,y.over)):=by
 rw[List.map_set]
 rw[hn.1,hn.2]
 refine set_at ?_
 rw[List.getElem?_map,hy];rfl
theorem rund_nums {x:Int} {i:Nat} {ρ ρ':RS} {d:List (Int×Rc)} (h:RUnd x i ρ d ρ'):ρ'.xs.map (fun y=>(y.num,y.over))=ρ.xs.map (fun y=>(y.num,y.over)):=by
 induction h with
 | nil=>rfl
 | @snoc ρ1 l t R y h1 h2 ih =>
  rw[←ih]
  show ((ρ1.xs.set i _).set i _).map _=_
  rw[List.set_set]
  exact set_same h2 ⟨rfl,rfl⟩
theorem rund_self {x:Int} {i:Nat} {ρ ρ':RS} {d:List (Int×Rc)} (h:RUnd x i ρ d ρ') {y:Xc} (hy:ρ.xs[i]? = some y):∃y',ρ'.xs[i]? = some y'∧y'.num=y.num∧y'.over=y.over∧(y.first≠0→y'.first=y.first)∧y'.bytes=y.bytes-320*d.length∧y'.pages=y.pages-d.length∧(d=[]→y'=y)∧ρ'.fresh=ρ.fresh∧∀j,j≠i→ρ'.xs[j]? = ρ.xs[j]? := by
 induction h with
 | nil=>exact⟨y,hy,rfl,rfl,fun _=>rfl,by simp,by simp,fun _=>rfl,rfl,fun _ _=>rfl⟩
 | @snoc ρ1 l t R y1 h1 h2 ih =>
  obtain⟨y',e1,e2,e3,e4,e5,e6,-,e7,e8⟩:=ih
  rw[e1]at h2
  injection h2 with h2
  subst h2
  have hi:=(List.getElem?_eq_some_iff.1 e1).1
  refine⟨_,List.getElem?_set_self (by show i<(ρ1.xs.set i _).length;rw[List.length_set];exact hi),e2,e3,fun hf=>?_,?_,?_,fun h=>by simp at h,e7,fun j hj=>?_⟩
  ·show (if y'.first=0 then ρ1.fin else y'.first)=y.first
   rw[if_neg (by rw[e4 hf];exact hf),e4 hf]
  ·show y'.bytes-320=_
   rw[e5,List.length_append,List.length_singleton];omega
  ·show y'.pages-1=_
   rw[e6,List.length_append,List.length_singleton];omega
  ·show ((ρ1.xs.set i _).set i _)[j]? = _
   rw[List.getElem?_set_ne (fun e=>hj e.symm),List.getElem?_set_ne (fun e=>hj e.symm)]
   exact e8 j hj
section
variable {w w':World} {m g:Nat} {B:RB} {ρ:RS}
set_option maxRecDepth 100000 in
set_option maxHeartbeats 400000 in
theorem rr_back_none (h:Rr w m g B ρ) (x tu:Int) (hf:xFind ρ.xs x=none) (hxl:ρ.xs.length≤1000000) :
  Calls Tryz.prog 39 #[.pointer (some ⟨m,0,none⟩),.int .i64 x,.int .i64 tu] w fun e w'=>e = .returned (.tuple #[.int .i64 191,.bool true])∧Below w.heap.size w w':=by
 have HFi:=Hd (rr_find h x hxl)
 rw[hf]at HFi
 unfold idxI at HFi
 dsimp only at HFi
 clear h hf hxl
 go_enter Tryz.func39,Tryz.ntmps39
 go_wp2_with fail
 refine(HFi.out).mono ?_
 rintro e w1 ⟨rfl,hb1⟩
 have HB1:=Hd hb1
 clear hb1 HFi
 go_wp2_with fail
 go_ret2
 exact⟨rfl,HB1.out⟩
set_option maxRecDepth 100000 in
set_option maxHeartbeats 400000 in
theorem rr_finish_none (h:Rr w m g B ρ) (x kind:Int) (hf:xFind ρ.xs x=none) (hxl:ρ.xs.length≤1000000) :
  Calls Tryz.prog 40 #[.pointer (some ⟨m,0,none⟩),.int .i64 x,.int .i64 kind] w fun e w'=>e = .returned (.tuple #[.int .i64 191,.bool true])∧Below w.heap.size w w':=by
 have HFi:=Hd (rr_find h x hxl)
 rw[hf]at HFi
 unfold idxI at HFi
 dsimp only at HFi
 clear h hf hxl
 go_enter Tryz.func40,Tryz.ntmps40
 go_wp2_with fail
 refine(HFi.out).mono ?_
 rintro e w1 ⟨rfl,hb1⟩
 have HB1:=Hd hb1
 clear hb1 HFi
 go_wp2_with fail
 go_ret2
 exact⟨rfl,HB1.out⟩
set_option maxRecDepth 100000 in
set_option maxHeartbeats 1600000 in
theorem rr_finish3 (h:Rr w m g B ρ) (x:Int) (hx:1≤x∧x≤2147483647) (i:Nat) (hf:xFind ρ.xs x=some i) (y:Xc) (hy:ρ.xs[i]? = some y) (hl:0≤y.last∧y.last≤100000000000) (hxl:ρ.xs.length≤1000000) (hlen:B.Q.length≤1000000∧ρ.ats.length≤1000000) (hfin:0≤ρ.fin∧ρ.fin≤100000000000) (hroom : -100000000000≤ρ.room∧ρ.room≤100000000000) :
  Calls Tryz.prog 40 #[.pointer (some ⟨m,0,none⟩),.int .i64 x,.int .i64 3] w fun e w'=>RFinTo w w' m g B ρ 3 x i y e:=by
 have HFi:=Hd (rr_find h x hxl)
 rw[hf]at HFi
 unfold idxI at HFi
 dsimp only at HFi
 obtain⟨ρ1,hρ⟩:∃r,ρ=r:=⟨_,rfl⟩
 obtain⟨y1,hy1⟩:∃r,y=r:=⟨_,rfl⟩
 obtain⟨B1,hB1⟩:∃r,B=r:=⟨_,rfl⟩
 have H:=Hd h
 rw[hB1,hρ]at H
 rw[hρ]at hf hy hxl hlen hfin hroom
 rw[hB1]at hlen
 rw[hy1]at hy hl
 have hfN:=Hd hf
 have y1N:=Hd hy
 have hxlN1:=Hd hxl
 have hlenN1:=Hd hlen
 have hfinN1:=Hd hfin
 have hroomN1:=Hd hroom
 have hokN:Hid (RcOk (finR 3 x y1.last)):=end_ok (.inl rfl) ⟨by omega,hx.2⟩ hl
 replace hρ:=Hd hρ
 replace hy1:=Hd hy1
 replace hB1:=Hd hB1
 have hd0:∀k:Nat,decide ((k:Int)<0)=false:=fun k=>decide_eq_false (by omega)
 clear h hf hy hl hx hxl hlen hfin hroom
 go_enter Tryz.func40,Tryz.ntmps40
 have hi0:¬(i:Int)<0:=by omega
 have hdi:=hd0 i
 clear hd0
 go_wp2_with fail
 refine(HFi.out).mono ?_
 rintro e w1 ⟨rfl,hb1⟩
 have H1:=Hd (H.out.later hb1)
 have HS1:Hid (Stp w w1 m g B B1 []):=by show Stp _ _ _ _ _ _ _;rw[←hB1.out];exact Stp.later hb1
 clear hb1 HFi H
 have HF2:=Hd (rr_find H1.out x hxlN1.out)
 rw[hfN.out]at HF2
 unfold idxI at HF2
 dsimp only at HF2
 go_wp2_with fail
 refine(HF2.out).mono ?_
 rintro e w3 ⟨rfl,hb3⟩
 have H3:=Hd (H1.out.later hb3)
 have HS3:Hid (Stp w w3 m g B B1 []):=(HS1.out.trans (Stp.later hb3)).wide (fun q hq=>by simp at hq)
 clear hb3 HF2 H1 HS1
 obtain⟨n,hn⟩:∃n,ρ1.xs.length=n:=⟨_,rfl⟩
 have hin:i<n:=by rw[←hn];exact(List.getElem?_eq_some_iff.1 y1N.out).1
 obtain⟨xa,xc,hxv⟩:=H3.out.xs.form
 rw[hn]at hxv
 have hox:OwnS w3 112 6 (.slice xa n xc) n (xcV ρ1.xs):=by have:=H3.out.xs;rw[hxv,hn]at this;exact this
 obtain⟨gx,rfl⟩:=hox.spot (by omega)
 have C0:w3.cell? ⟨m,0,none⟩=some (.slice (some ⟨gx,0,none⟩) n xc):=by have:=cell_at H3.out.cell 0;rw[←hxv];exact this
 have hr:=flat_range xcL 6 xcL_length hox i y1 y1N.out
 obtain⟨f1,hf1⟩:∃f,y1.first=f:=⟨_,rfl⟩
 obtain⟨l1,hl1⟩:∃f,y1.last=f:=⟨_,rfl⟩
 have c1:w3.cell? ⟨gx,i*6+1,none⟩=some (.int .i64 f1):=by have:=hr 1 _ rfl;rw[←hf1];exact this
 have c2:w3.cell? ⟨gx,i*6+2,none⟩=some (.int .i64 l1):=by have:=hr 2 _ rfl;rw[←hl1];exact this
 have F5:=own_free hox (i*6+5)
 have c5:(w3.cell? ⟨gx,i*6+5,none⟩).isSome=true:=by have:=hr 5 _ rfl;rw[this];rfl
 have c5':w3.cell? ⟨gx,i*6+5,none⟩=some (.bool y1.over):=hr 5 _ rfl
 have hiI:(i:Int)<n:=by omega
 have hi0:(0:Int)≤i:=by omega
 have hxvN:=Hd hxv
 have hgxo:Hid (gx∈rOwn m g B1):=own_x (by rw[hxv];simp[blk,Value.ownBlock])
 have hf1N:=Hd hf1
 have hl1N:=Hd hl1
 have hnN:=Hd hn
 have hinN:=Hd hin
 rw[hl1]at hokN
 clear hr hox hxv hf1 hl1 hn hin c5
 by_cases hz:f1=0
 ·have hdf:(f1==0)=true:=by simpa using hz
  have hdf2:(f1 != 0)=false:=by simpa using hz
  have hzN:=Hd hz
  have HP:=Hd (H3.out.setX hxvN.out i 5 y1 {y1 with over:=true} (.bool true) y1N.out (by omega) rfl)
  clear hz
  go_wp2_with fail
  go_ret2
  have hno:¬(y1.first≠0∧ρ1.room<39):=fun h=>h.1 (hf1N.out.trans hzN.out)
  have hfi:ρ1.finished 3 x i y1=ρ1.ovr i y1:=by unfold RS.finished;rw[if_pos (hf1N.out.trans hzN.out)]
  exact .inr ⟨by rw[hρ.out,hy1.out];exact hno,rfl,_,by rw[hρ.out,hy1.out,hfi];exact HP.out.1,HS3.out.on HP.out.2 (fun q e=>e ▸ hgxo.out)⟩
 have hdf:(f1==0)=false:=by simpa using hz
 have hdf2:(f1 != 0)=true:=by simpa using hz
 have hzN:=Hd hz
 have hsz:Hid ((rcS (finR 3 x l1)).size=37):=end_size hokN.out
 have HW:=Hd (rr_write H3.out (finR 3 x l1) nilS nilS hokN.out ⟨nil_sl17 w3,nil_sl w3,by show 0≤maxLen;omega,by show 0≤maxLen;omega,fun y hy=>by cases hy⟩ (fun k hk=>by simp[blk,Value.ownBlock,nilS]at hk) (by show 0≤1;omega) (fun y hy=>by cases hy) hlenN1.out hfinN1.out hroomN1.out)
 rw[hsz.out]at HW
 obtain⟨rm,hrm⟩:∃r,ρ1.room=r:=⟨_,rfl⟩
 rw[hrm]at HW
 have hrmN:=Hd hrm
 clear hz hrm
 go_wp2_with fail
 refine(HW.out).mono ?_
 clear c1 c2 c5' C0 F5 HW
 rintro e w4 (⟨hr4,rfl,hb4⟩ | ⟨hr4,rfl,B4,h4,hst4,hx4⟩)
 ·have hyes:Hid (y1.first≠0∧ρ1.room<39):=⟨by rw[hf1N.out];exact hzN.out,by rw[hrmN.out];omega⟩
  have hst4:Hid (∃B' ρ',Rr w4 m g B' ρ'∧Stp w w4 m g B B' []):=⟨B1,ρ1,H3.out.later hb4,(HS3.out.trans (Stp.later hb4)).wide (fun q hq=>by simp at hq)⟩
  clear hr4 hb4
  go_wp2_with fail
  go_ret2
  exact .inl ⟨by rw[hρ.out,hy1.out];exact hyes.out,rfl,hst4.out⟩
 have hno:Hid (¬(y1.first≠0∧ρ1.room<39)):=fun h=>by have:=h.2;rw[hrmN.out]at this;omega
 have H4:=Hd h4
 have HS4:Hid (Stp w w4 m g B B4 []):=(HS3.out.trans hst4).wide (fun q hq=>by simp[blk,Value.ownBlock,nilS]at hq)
 have hxv4:B4.xv = .slice (some ⟨gx,0,none⟩) n xc:=by rw[hx4];exact hxvN.out
 have hox:OwnS w4 112 6 (.slice (some ⟨gx,0,none⟩) n xc) n (xcV ρ1.xs):=by have:=h4.xs;rw[hxv4,show (ρ1.wrote (finR 3 x l1)).xs.length=n from hnN.out]at this;exact this
 have C0:w4.cell? ⟨m,0,none⟩=some (.slice (some ⟨gx,0,none⟩) n xc):=by have:=cell_at h4.cell 0;rw[←hxv4];exact this
 have F5:=own_free hox (i*6+5)
 have c5':w4.cell? ⟨gx,i*6+5,none⟩=some (.bool y1.over):=flat_range xcL 6 xcL_length hox i y1 y1N.out 5 _ rfl
 have HP:=Hd (h4.setX hxv4 i 5 y1 {y1 with over:=true} (.bool true) y1N.out (by omega) rfl)
 have hgxo4:Hid (gx∈rOwn m g B4):=own_x (by rw[hxv4];simp[blk,Value.ownBlock])
 clear hr4 h4 hst4 hx4 hox hxv4
 go_wp2_with fail
 go_ret2
 have hfi:ρ1.finished 3 x i y1=(ρ1.wrote (finR 3 x l1)).ovr i y1:=by unfold RS.finished;rw[if_neg (by rw[hf1N.out];exact hzN.out),hl1N.out]
 exact .inr ⟨by rw[hρ.out,hy1.out];exact hno.out,rfl,_,by rw[hρ.out,hy1.out,hfi];exact HP.out.1,HS4.out.on HP.out.2 (fun q e=>e ▸ hgxo4.out)⟩
def RAbTo (w w':World) (m g:Nat) (B:RB) (ρ:RS) (x:Int) (i b:Nat) (lo:Int) (l:List (Int×Rc)) (e:Ending):Prop :=
 (¬RFits ρ 0 l∧e = .returned (.tuple #[.int .i64 0,.bool false])∧∃B' ρ',Rr w' m g B' ρ'∧Stp w w' m g B B' []) ∨
 ∃ρ1 y1 next rest,RFits ρ 0 l∧RBk x i b 0 lo l ρ ρ1 next rest∧next≤0∧ρ1.xs[i]? = some y1∧(((y1.first≠0∧ρ1.room<39)∧e = .returned (.tuple #[.int .i64 0,.bool false])∧∃B' ρ',Rr w' m g B' ρ'∧Stp w w' m g B B' []) ∨
  (¬(y1.first≠0∧ρ1.room<39)∧e = .returned (.tuple #[.int .i64 0,.bool true])∧∃B',Rr w' m g B' (ρ1.finished 4 x i y1)∧Stp w w' m g B B' []))
set_option maxRecDepth 100000 in
set_option maxHeartbeats 1600000 in
theorem rr_finish4 (h:Rr w m g B ρ) (x:Int) (hx:1≤x∧x≤2147483647) (i:Nat) (hf:xFind ρ.xs x=some i) (y:Xc) (hy:ρ.xs[i]? = some y) (b:Nat) (hb:0<b) (lo:Int) (l:List (Int×Rc)) (HB:RBk x i b 0 lo l ρ ρ y.last l) (hxl:ρ.xs.length≤1000000) (hroom:0≤ρ.room∧ρ.room≤10000000000) :
  Calls Tryz.prog 40 #[.pointer (some ⟨m,0,none⟩),.int .i64 x,.int .i64 4] w fun e w'=>RAbTo w w' m g B ρ x i b lo l e:=by
 have HFi:=Hd (rr_find h x hxl)
 rw[hf]at HFi
 unfold idxI at HFi
 dsimp only at HFi
 have H:=Hd h
 have HBk:=Hd (fun (W:World) (hW:Rr W m g B ρ)=>rr_back hW x 0 hx i hf y hy b hb lo l HB hxl hroom)
 have hxN:=Hd hx
 have hfN0:=Hd hf
 have hyN:=Hd hy
 have hxlN:=Hd hxl
 have hroomN:=Hd hroom
 clear h hf hy hx hxl hroom HB hb
 go_enter Tryz.func40,Tryz.ntmps40
 have hi0:¬(i:Int)<0:=by omega
 have hdi:decide ((i:Int)<0)=false:=decide_eq_false hi0
 go_wp2_with fail
 refine(HFi.out).mono ?_
 rintro e w1 ⟨rfl,hb1⟩
 have H1:=Hd (H.out.later hb1)
 have HB1:=Hd hb1
 have HBk1:=Hd (HBk.out w1 H1.out)
 clear hb1 HFi H HBk
 go_wp2_with fail
 refine(HBk1.out).mono ?_
 rintro e w2 (⟨hfit,rfl,ρ1,B1,next,rest,h2,hst2,hbk2,hn2,hr2⟩ | ⟨hfit,rfl,B2,ρ2,h2,hst2⟩)
 rotate_left
 ·have hfitN:=Hd hfit
  have hst3:Hid (∃B' ρ',Rr w2 m g B' ρ'∧Stp w w2 m g B B' []):=⟨B2,ρ2,h2,Stp.in0 HB1.out hst2⟩
  clear hfit HBk1 H1 h2 hst2
  go_wp2_with fail
  go_ret2
  exact .inl ⟨hfitN.out,rfl,hst3.out⟩
 rw[show max (0:Int) 0=0 from rfl]at hfit hbk2 hn2
 obtain⟨done,hu,-,-,hrm⟩:=hbk2.und
 obtain⟨y1,e1,-⟩:=rund_self hu hyN.out
 obtain⟨y1',e1',-,-,e4,e5,-,-⟩:=hbk2.xc
 rw[e1]at e1'
 injection e1' with e1'
 subst e1'
 have hfN:Hid (xFind ρ1.xs x=some i):=by show _=_;rw[xFind_congr (rund_nums hu)];exact hfN0.out
 have y1N:=Hd e1
 have hxlN1:Hid (ρ1.xs.length≤1000000):=by show _≤_;rw[hbk2.len];exact hxlN.out
 have hlenN1:Hid (B1.Q.length≤1000000∧ρ1.ats.length≤1000000):=by
  have h1:=h2.qlen
  have h3:=hbk2.cnt
  have h4:ρ1.ats.length=ρ1.recs.length:=by rw[hbk2.pl.ats,placeL_length]
  show _∧_
  omega
 have hfinN1:Hid (0≤ρ1.fin∧ρ1.fin≤100000000000):=by have h1:=hbk2.pl.fin;have h3:=hbk2.bnd;show _∧_;omega
 have hroomN1:Hid (-100000000000≤ρ1.room∧ρ1.room≤100000000000):=by have:=hroomN.out;show _∧_;omega
 have hokN:Hid (RcOk (finR 4 x y1.last)):=end_ok (.inr rfl) ⟨by have:=hxN.out;omega,hxN.out.2⟩ ⟨e4,e5⟩
 have hfitN:=Hd hfit
 have hbkN:=Hd hbk2
 have hn2N:=Hd hn2
 have HS1:Hid (Stp w w2 m g B B1 []):=Stp.in0 HB1.out hst2
 clear H1 HBk1
 have H1:=Hd h2
 clear h2 hst2 hbk2 hn2 hr2 hfit hu hrm e1 e4 e5 HB1
 have HF2:=Hd (rr_find H1.out x hxlN1.out)
 rw[hfN.out]at HF2
 unfold idxI at HF2
 dsimp only at HF2
 go_wp2_with fail
 refine(HF2.out).mono ?_
 rintro e w3 ⟨rfl,hb3⟩
 have H3:=Hd (H1.out.later hb3)
 have HS3:Hid (Stp w w3 m g B B1 []):=(HS1.out.trans (Stp.later hb3)).wide (fun q hq=>by simp at hq)
 clear hb3 HF2 H1 HS1
 obtain⟨n,hn⟩:∃n,ρ1.xs.length=n:=⟨_,rfl⟩
 have hin:i<n:=by rw[←hn];exact(List.getElem?_eq_some_iff.1 y1N.out).1
 obtain⟨xa,xc,hxv⟩:=H3.out.xs.form
 rw[hn]at hxv
 have hox:OwnS w3 112 6 (.slice xa n xc) n (xcV ρ1.xs):=by have:=H3.out.xs;rw[hxv,hn]at this;exact this
 obtain⟨gx,rfl⟩:=hox.spot (by omega)
 have C0:w3.cell? ⟨m,0,none⟩=some (.slice (some ⟨gx,0,none⟩) n xc):=by have:=cell_at H3.out.cell 0;rw[←hxv];exact this
 have hr:=flat_range xcL 6 xcL_length hox i y1 y1N.out
 obtain⟨f1,hf1⟩:∃f,y1.first=f:=⟨_,rfl⟩
 obtain⟨l1,hl1⟩:∃f,y1.last=f:=⟨_,rfl⟩
 have c1:w3.cell? ⟨gx,i*6+1,none⟩=some (.int .i64 f1):=by have:=hr 1 _ rfl;rw[←hf1];exact this
 have c2:w3.cell? ⟨gx,i*6+2,none⟩=some (.int .i64 l1):=by have:=hr 2 _ rfl;rw[←hl1];exact this
 have F5:=own_free hox (i*6+5)
 have c5:(w3.cell? ⟨gx,i*6+5,none⟩).isSome=true:=by have:=hr 5 _ rfl;rw[this];rfl
 have c5':w3.cell? ⟨gx,i*6+5,none⟩=some (.bool y1.over):=hr 5 _ rfl
 have hiI:(i:Int)<n:=by omega
 have hi0:(0:Int)≤i:=by omega
 have hxvN:=Hd hxv
 have hgxo:Hid (gx∈rOwn m g B1):=own_x (by rw[hxv];simp[blk,Value.ownBlock])
 have hf1N:=Hd hf1
 have hl1N:=Hd hl1
 have hnN:=Hd hn
 have hinN:=Hd hin
 rw[hl1]at hokN
 clear hr hox hxv hf1 hl1 hn hin c5
 by_cases hz:f1=0
 ·have hdf:(f1==0)=true:=by simpa using hz
  have hdf2:(f1 != 0)=false:=by simpa using hz
  have hzN:=Hd hz
  have HP:=Hd (H3.out.setX hxvN.out i 5 y1 {y1 with over:=true} (.bool true) y1N.out (by omega) rfl)
  clear hz
  go_wp2_with fail
  go_ret2
  have hno:¬(y1.first≠0∧ρ1.room<39):=fun h=>h.1 (hf1N.out.trans hzN.out)
  have hfi:ρ1.finished 4 x i y1=ρ1.ovr i y1:=by unfold RS.finished;rw[if_pos (hf1N.out.trans hzN.out)]
  exact .inr ⟨ρ1,y1,next,rest,hfitN.out,hbkN.out,hn2N.out,y1N.out,.inr ⟨hno,rfl,_,by rw[hfi];exact HP.out.1,HS3.out.on HP.out.2 (fun q e=>e ▸ hgxo.out)⟩⟩
 have hdf:(f1==0)=false:=by simpa using hz
 have hdf2:(f1 != 0)=true:=by simpa using hz
 have hzN:=Hd hz
 have hsz:Hid ((rcS (finR 4 x l1)).size=37):=end_size hokN.out
 have HW:=Hd (rr_write H3.out (finR 4 x l1) nilS nilS hokN.out ⟨nil_sl17 w3,nil_sl w3,by show 0≤maxLen;omega,by show 0≤maxLen;omega,fun y hy=>by cases hy⟩ (fun k hk=>by simp[blk,Value.ownBlock,nilS]at hk) (by show 0≤1;omega) (fun y hy=>by cases hy) hlenN1.out hfinN1.out hroomN1.out)
 rw[hsz.out]at HW
 obtain⟨rm,hrm⟩:∃r,ρ1.room=r:=⟨_,rfl⟩
 rw[hrm]at HW
 have hrmN:=Hd hrm
 clear hz hrm
 go_wp2_with fail
 refine(HW.out).mono ?_
 clear c1 c2 c5' C0 F5 HW
 rintro e w4 (⟨hr4,rfl,hb4⟩ | ⟨hr4,rfl,B4,h4,hst4,hx4⟩)
 ·have hyes:Hid (y1.first≠0∧ρ1.room<39):=⟨by rw[hf1N.out];exact hzN.out,by rw[hrmN.out];omega⟩
  have hst4:Hid (∃B' ρ',Rr w4 m g B' ρ'∧Stp w w4 m g B B' []):=⟨B1,ρ1,H3.out.later hb4,(HS3.out.trans (Stp.later hb4)).wide (fun q hq=>by simp at hq)⟩
  clear hr4 hb4
  go_wp2_with fail
  go_ret2
  exact .inr ⟨ρ1,y1,next,rest,hfitN.out,hbkN.out,hn2N.out,y1N.out,.inl ⟨hyes.out,rfl,hst4.out⟩⟩
 have hno:Hid (¬(y1.first≠0∧ρ1.room<39)):=fun h=>by have:=h.2;rw[hrmN.out]at this;omega
 have H4:=Hd h4
 have HS4:Hid (Stp w w4 m g B B4 []):=(HS3.out.trans hst4).wide (fun q hq=>by simp[blk,Value.ownBlock,nilS]at hq)
 have hxv4:B4.xv = .slice (some ⟨gx,0,none⟩) n xc:=by rw[hx4];exact hxvN.out
 have hox:OwnS w4 112 6 (.slice (some ⟨gx,0,none⟩) n xc) n (xcV ρ1.xs):=by have:=h4.xs;rw[hxv4,show (ρ1.wrote (finR 4 x l1)).xs.length=n from hnN.out]at this;exact this
 have C0:w4.cell? ⟨m,0,none⟩=some (.slice (some ⟨gx,0,none⟩) n xc):=by have:=cell_at h4.cell 0;rw[←hxv4];exact this
 have F5:=own_free hox (i*6+5)
 have c5':w4.cell? ⟨gx,i*6+5,none⟩=some (.bool y1.over):=flat_range xcL 6 xcL_length hox i y1 y1N.out 5 _ rfl
 have HP:=Hd (h4.setX hxv4 i 5 y1 {y1 with over:=true} (.bool true) y1N.out (by omega) rfl)
 have hgxo4:Hid (gx∈rOwn m g B4):=own_x (by rw[hxv4];simp[blk,Value.ownBlock])
 clear hr4 h4 hst4 hx4 hox hxv4
 go_wp2_with fail
 go_ret2
 have hfi:ρ1.finished 4 x i y1=(ρ1.wrote (finR 4 x l1)).ovr i y1:=by unfold RS.finished;rw[if_neg (by rw[hf1N.out];exact hzN.out),hl1N.out]
 exact .inr ⟨ρ1,y1,next,rest,hfitN.out,hbkN.out,hn2N.out,y1N.out,.inr ⟨hno.out,rfl,_,by rw[hfi];exact HP.out.1,HS4.out.on HP.out.2 (fun q e=>e ▸ hgxo4.out)⟩⟩
end
end Go.Proofs.YtimomjheanfbmaaGreatDoor.G
namespace Go.Proofs.YtimomjheanfbmaaGreatDoor.G
open Go.RowKit
def StP (Φ:CS→RS→Prop) (w0 w:World) (L0:List Nat) (c lp p dp m g:Nat):Prop:=∃lb mb n lv σ B ρ,Bo w0 w L0 c lp p dp lb mb n lv σ m g B ρ∧Φ σ ρ
def Ok (k:Nat) (σ:CS) (ρ:RS):Prop:=σ.recs=ρ.recs∧Sm σ ρ (fun _=>False)∧Bd σ ρ k
theorem Ok.up {k:Nat} {σ:CS} {ρ:RS} (h:Ok k σ ρ) (hk:k+1≤250):Ok (k+1) σ ρ:=by
 obtain⟨h1,h2,h3⟩:=h
 have:=h3.cnt
 have:=h3.T2
 have:=h3.fr
 have:=h3.fin
 have:=h3.len
 exact⟨h1,h2,h3.T1,by omega,by omega,⟨by omega,by push_cast;omega⟩,by omega,by omega,hk⟩
theorem find_none {l:List Xc} {x:Int} (h:∀s∈xLive l,s.1≠x):xFind l x=none:=by
 cases hf:xFind l x with
 | none=>rfl
 | some j =>
  obtain⟨y,hy,hn,ho,hl,-⟩:=find_pos hf
  exact absurd hn (h (lvO y) (List.mem_of_getElem? hl))
theorem find_is {l:List Xc} {x:Int} {i:Nat} {s:Lv} (h1:(xLive l)[i]? = some s) (h2:s.1=x) (h3:∀(j:Nat) (s':Lv),j<i→(xLive l)[j]? = some s'→s'.1≠x):∃(j:Nat) (y:Xc),xFind l x=some j∧l[j]? = some y∧y.num=x∧y.over=false∧i=xPos l j∧s=lvO y:=by
 cases hf:xFind l x with
 | none=>exact absurd h2 (live_none hf s (List.mem_of_getElem? h1))
 | some j =>
  obtain⟨y,hy,hn,ho,hl,hmin⟩:=find_pos hf
  have hi:i=xPos l j:=by
   rcases Nat.lt_trichotomy i (xPos l j) with h | h | h
   · exact absurd h2 (hmin i s h h1)
   · exact h
   · exact absurd hn (h3 _ _ h hl)
  subst hi
  rw[hl]at h1
  exact⟨j,y,rfl,hy,hn,ho,rfl,(Option.some.inj h1).symm⟩
section
variable {Φ Ψ:CS→RS→Prop} {w0 w w':World} {L0:List Nat} {c lp p dp m g:Nat}
theorem StP.later (h:StP Φ w0 w L0 c lp p dp m g) (hb:Below w.heap.size w w'):StP Φ w0 w' L0 c lp p dp m g:=by
 obtain⟨lb,mb,n,lv,σ,B,ρ,h1,h2⟩:=h
 exact⟨lb,mb,n,lv,σ,B,ρ,h1.later hb,h2⟩
theorem StP.mono (h:StP Φ w0 w L0 c lp p dp m g) (hi:∀σ ρ,Φ σ ρ→Ψ σ ρ):StP Ψ w0 w L0 c lp p dp m g:=by
 obtain⟨lb,mb,n,lv,σ,B,ρ,h1,h2⟩:=h
 exact⟨lb,mb,n,lv,σ,B,ρ,h1,hi σ ρ h2⟩
theorem StP.bel (h:StP Φ w0 w L0 c lp p dp m g):Below w0.heap.size w0 w:=by
 obtain⟨lb,mb,n,lv,σ,B,ρ,h1,h2⟩:=h
 exact h1.bel
theorem StP.lt (h:StP Φ w0 w L0 c lp p dp m g):∀k∈L0,k<w.heap.size:=by
 obtain⟨lb,mb,n,lv,σ,B,ρ,h1,h2⟩:=h
 exact h1.lt
theorem StP.move (h:StP Φ w0 w L0 c lp p dp m g) {S:Nat→Prop} (hk:Keeps S w w') (hS:∀q,S q→q∈L0∧w0.heap.size≤q) (L1:List Nat) (hl:∀k∈L1,k<w'.heap.size) (hn:∀k∈L1,k∈L0∨w.heap.size≤k):StP Φ w0 w' L1 c lp p dp m g:=by
 obtain⟨lb,mb,n,lv,σ,B,ρ,h1,h2⟩:=h
 exact⟨lb,mb,n,lv,σ,B,ρ,h1.move hk hS L1 hl hn,h2⟩
theorem StP.push (h:StP Φ w0 w L0 c lp p dp m g) (hb:Below w.heap.size w w') (q:Nat) (h1:w.heap.size≤q) (h2:q<w'.heap.size):StP Φ w0 w' (q::L0) c lp p dp m g:=by
 obtain⟨lb,mb,n,lv,σ,B,ρ,h3,h4⟩:=h
 exact⟨lb,mb,n,lv,σ,B,ρ,h3.push hb q h1 h2,h4⟩
theorem StP.pop {q:Nat} (h:StP Φ w0 w (q::L0) c lp p dp m g):StP Φ w0 w L0 c lp p dp m g:=by
 obtain⟨lb,mb,n,lv,σ,B,ρ,h3,h4⟩:=h
 exact⟨lb,mb,n,lv,σ,B,ρ,h3.pop,h4⟩
def BegP (k:Nat) (a cd:Int) (σ':CS) (ρ:RS):Prop:=∃σ,Ok k σ ρ∧((σ'=σ∧σ.lives.length=8∧a=0∧cd=192)∨(σ'=σ∧σ.lives.length<8∧¬Fits 128 0 σ.T (σ.free 0) 1073741824∧a=0∧cd=70)∨(σ'=σ.begun∧σ.lives.length<8∧Fits 128 0 σ.T (σ.free 0) 1073741824∧a=σ.fresh∧cd=0))
theorem st_begin {k:Nat} (h:StP (Ok k) w0 w L0 c lp p dp m g):Calls Tryz.prog 12 #[.pointer (some ⟨c,0,none⟩)] w fun e w'=>∃a cd:Int,e = .returned (.tuple #[.int .i64 a,.int .i64 cd])∧Keeps (Own w0 L0) w w'∧StP (BegP k a cd) w0 w' L0 c lp p dp m g:=by
 obtain⟨lb,mb,n,lv,σ,B,ρ,hbo,hok⟩:=h
 obtain⟨hr,hs,hb⟩:=hok
 have hbd:=hbo.bds hs hb
 refine(cx_begin hbo.cx ⟨hb.fr.1,by have:=hb.fr;have:=hb.kk;omega⟩ (by omega)).mono fun e w' ⟨hk,hc⟩=>?_
 rcases hc with⟨h1,he,hx⟩ | ⟨h1,h2,he,hx⟩ | ⟨h1,h2,he,n',lv',hx⟩
 ·obtain⟨b1,b2⟩:=hbo.conc hk hx
  exact⟨0,192,he,b2,lb,mb,n,lv,σ,B,ρ,b1,σ,⟨hr,hs,hb⟩,.inl ⟨rfl,h1,rfl,rfl⟩⟩
 ·obtain⟨b1,b2⟩:=hbo.conc hk hx
  exact⟨0,70,he,b2,lb,mb,n,lv,σ,B,ρ,b1,σ,⟨hr,hs,hb⟩,.inr (.inl ⟨rfl,h1,h2,rfl,rfl⟩)⟩
 ·obtain⟨b1,b2⟩:=hbo.conc hk hx
  exact⟨σ.fresh,0,he,b2,lb,mb,n',lv',σ.begun,B,ρ,b1,σ,⟨hr,hs,hb⟩,.inr (.inr ⟨rfl,h1,h2,rfl,rfl⟩)⟩
set_option maxRecDepth 100000 in
theorem st_begin2 {k:Nat} {a cd:Int} (h:StP (BegP k a cd) w0 w L0 c lp p dp m g) (hk1:k+1≤250):Calls Tryz.prog 37 #[.pointer (some ⟨m,0,none⟩)] w fun e w'=>e = .returned (.tuple #[.int .i64 a,.int .i64 cd])∧Keeps (Own w0 L0) w w'∧StP (Ok (k+1)) w0 w' L0 c lp p dp m g:=by
 obtain⟨lb,mb,n,lv,σ',B,ρ,hbo,σ,hok,hc⟩:=h
 have hok2:=hok
 obtain⟨hr,hs,hb⟩:=hok
 have hlen:ρ.xs.length≤250:=by have:=hb.len;have:=hb.kk;omega
 have hT:=hs.T
 have hT1:=hb.T1
 have hT2:=hb.T2
 have hfr:=hb.fr
 have hfe:=hs.fresh
 have hroom:=hs.room
 have hlv:=hs.lives
 have hfree:σ.free 0=6912-σ.used:=rfl
 have hu:σ.used≤6912:=by
  have:=hbo.cx.count.2.1
  rcases hc with⟨rfl,_⟩ | ⟨rfl,_⟩ | ⟨rfl,_⟩ <;> exact this
 have hl8:σ.lives.length≤8:=by rcases hc with⟨rfl,h,_⟩ | ⟨rfl,h,_⟩ | ⟨rfl,h,_⟩ <;> omega
 refine(rr_begin hbo.rr ⟨by rw[←hT];omega,by rw[←hT];omega⟩ (by omega) ⟨by omega,by omega⟩).mono fun e w' hpost=>?_
 rw[←hlv,←hT]at hpost
 rcases hc with⟨rfl,h1,rfl,rfl⟩ | ⟨rfl,h1,h2,rfl,rfl⟩ | ⟨rfl,h1,h2,rfl,rfl⟩
 ·rcases hpost with⟨_,he,hbl⟩ | ⟨h3,_⟩ | ⟨h3,_⟩
  · exact⟨he,Keeps.of_below _ hbl |>.mono (fun q _ h=>h),lb,mb,n,lv,_,B,ρ,hbo.later hbl,hok2.up hk1⟩
  · omega
  · omega
 ·rcases hpost with⟨h3,_⟩ | ⟨_,_,he,hbl⟩ | ⟨_,h3,_⟩
  · omega
  · exact⟨he,Keeps.of_below _ hbl |>.mono (fun q _ h=>h),lb,mb,n,lv,_,B,ρ,hbo.later hbl,hok2.up hk1⟩
  · exact absurd ⟨by rw[hfree];omega,by omega⟩ h2
 ·rcases hpost with⟨h3,_⟩ | ⟨_,h3,_⟩ | ⟨_,_,he,B',hrr,hst⟩
  · omega
  · have:=h2.1;rw[hfree]at this;omega
  ·obtain⟨b1,b2⟩:=hbo.doc hrr hst L0 (fun _ h=>h) (fun _ h=>by cases h)
   rw[hfe]at he
   refine⟨he,b2,lb,mb,n,lv,_,B',_,b1,hr,hs.begun hfr.1,hb.next hk1 ?_ ?_ ?_ (.inr rfl) (.inl rfl) hu ?_⟩
   · have:=h2.1;rw[hfree]at this;show σ.T.1+128≤6912;omega
   · show σ.T.2+0≤k+1;omega
   · show σ.cnt+1≤σ.cnt+1000;omega
   · show (ρ.xs++[_]).length≤_;rw[List.length_append];exact Nat.le_refl _
def ImP (k:Nat) (y:LCall) (U:Un) (pi:Nat) (P:Pg) (σ:CS) (ρ:RS):Prop:=Ok k σ ρ∧U=imgU ρ.f y∧pi=pos6 y.page∧P=imgP ρ.f y
theorem imgP_dt {f:Nat→Pg} (hok:∀i,i<6→PgOk (f i)) {y:LCall} (hy:y.dt.size≤maxLen):∀i,i<6→((imgP f y).dt i).size≤maxLen:=fun i hi=>by
 show (if i=pos6 y.slot then y.dt else (f (pos6 y.page)).dt i).size≤maxLen
 split
 · exact hy
 ·have h1:=((hok (pos6 y.page) (pos6_eq _).2).2 i hi).2.2.1
  unfold maxLen;omega
theorem imgU_good {f:Nat→Pg} (hok:∀i,i<6→PgOk (f i)) (y:LCall) (x last:Int) (ims:List (Int×Pg)):GoodU (chgR x last (imgU f y) ims):=by
 have h1:=(pos6_eq y.page).2
 have h2:=(pos6_eq y.slot).2
 exact⟨rfl,⟨by show (0:Int)≤(pos6 y.page:Int);omega,by show (pos6 y.page:Int)<6;omega⟩,⟨by show (0:Int)≤(pos6 y.slot:Int);omega,by show (pos6 y.slot:Int)<6;omega⟩,(hok _ h1).2 _ h2⟩
theorem st_image {k:Nat} (h:StP (Ok k) w0 w L0 c lp p dp m g) (y:LCall):Calls Tryz.prog 14 #[.pointer (some ⟨m,0,none⟩),.agg (lcL y).toArray] w fun e w'=>∃(ib:Nat) (U:Un) (pi:Nat) (P:Pg),e = .returned (.tuple #[.agg (unL U).toArray,.slice (some ⟨ib,0,none⟩) 1 1]) ∧
  w'.heap[ib]? = some (.cells (imA ((pi:Int),P)) 51 (0,0))∧Below w.heap.size w w'∧w.heap.size≤ib∧StP (ImP k y U pi P) w0 w' (ib::L0) c lp p dp m g:=by
 obtain⟨lb,mb,n,lv,σ,B,ρ,hbo,hok⟩:=h
 exact(mx_image hbo.rr.mx y).mono fun e w' ⟨ib,he,hi,hb,hlt⟩=>⟨ib,_,_,_,he,hi,hb,hlt,lb,mb,n,lv,σ,B,ρ,hbo.push hb ib hlt (block_lt hi),hok,rfl,rfl,rfl⟩
def ChgP (k:Nat) (y:LCall) (U:Un) (pi:Nat) (P:Pg) (x mi cd:Int) (σ':CS) (ρ:RS):Prop:=∃σ,ImP k y U pi P σ ρ ∧
 ((σ'=σ∧xFind ρ.xs x=none∧cd=191)∨∃(j:Nat) (yx:Xc),xFind ρ.xs x=some j∧ρ.xs[j]? = some yx ∧
  (
   (σ'=σ∧¬(RcOk (chgR x yx.last U [((pi:Int),P)])∧0≤mi∧mi≤1048576)∧cd=1) ∨
   (σ'=σ∧(RcOk (chgR x yx.last U [((pi:Int),P)])∧0≤mi∧mi≤1048576)∧¬Fits (320+mi.toNat) 1 σ.T (σ.free ((rcS (chgR x yx.last U [((pi:Int),P)])).size+2)) 1073741824∧cd=70) ∨
   (σ'=σ.changed x (xPos ρ.xs j) (lvO yx) U [((pi:Int),P)] (320+mi.toNat)∧(RcOk (chgR x yx.last U [((pi:Int),P)])∧0≤mi∧mi≤1048576)∧Fits (320+mi.toNat) 1 σ.T (σ.free ((rcS (chgR x yx.last U [((pi:Int),P)])).size+2)) 1073741824∧cd=0)))
theorem st_change {k:Nat} {y:LCall} {U:Un} {pi:Nat} {P:Pg} (h:StP (ImP k y U pi P) w0 w L0 c lp p dp m g) (x mi:Int) (hx:RngK x) (hy:y.dt.size≤maxLen) (ib:Nat) (hib:ib∈L0) (hi:w.heap[ib]? = some (.cells (imA ((pi:Int),P)) 51 (0,0))) :
  Calls Tryz.prog 15 #[.pointer (some ⟨c,0,none⟩),.int .i64 x,.agg (unL U).toArray,.slice (some ⟨ib,0,none⟩) 1 1,.int .i64 mi] w fun e w'=>∃cd:Int,e = .returned (.int .i64 cd)∧Keeps (Own w0 L0) w w'∧StP (ChgP k y U pi P x mi cd) w0 w' L0 c lp p dp m g:=by
 obtain⟨lb,mb,n,lv,σ,B,ρ,hbo,him⟩:=h
 have him2:=him
 obtain⟨⟨hr,hs,hb⟩,hU,hpi,hP⟩:=him
 have hbd:=hbo.bds hs hb
 have hib2:ib∈rOwn m g B++(rIm B++L0):=List.mem_append_right _ (List.mem_append_right _ hib)
 have hpi6:pi<6:=by rw[hpi];exact(pos6_eq _).2
 have hbdU:U.bd.size≤maxLen:=by
  rw[hU]
  have h1:=((hs.pok (pos6 y.page) (pos6_eq _).2).2 (pos6 y.slot) (pos6_eq _).2).2.2.1
  show ((ρ.f (pos6 y.page)).dt (pos6 y.slot)).size≤maxLen
  unfold maxLen;omega
 refine(cx_change hbo.cx (by omega) x hx U (by rw[hU];show (1:Int)≠0;omega) (by rw[hU];exact Nat.zero_le _) hbdU [((pi:Int),P)] (by simp) (fun z hz=>by rw[List.mem_singleton.1 hz];show (pi:Int)<6;omega) (fun z hz i hi=>by rw[List.mem_singleton.1 hz];show (P.dt i).size≤maxLen;rw[hP];exact imgP_dt hs.pok hy i hi) _ (fun w' hk=>sl_one (hk.keep hi (fun h=>h.2 hib2))) mi).mono fun e w' ⟨hk,hc⟩=>?_
 rcases hc with⟨h1,he,hx1⟩ | ⟨i,s,h1,h2,h3,hc⟩
 ·obtain⟨b1,b2⟩:=hbo.conc hk hx1
  exact⟨191,he,b2,lb,mb,n,lv,σ,B,ρ,b1,σ,him2,.inl ⟨rfl,find_none (by rw[←hs.lives];exact h1),rfl⟩⟩
 ·rw[hs.lives]at h1 h3
  obtain⟨j,yx,f1,f2,f3,f4,rfl,rfl⟩:=find_is h1 h2 h3
  rcases hc with⟨h4,he,hx1⟩ | ⟨h4,h5,he,hx1⟩ | ⟨h4,h5,he,n',hx1⟩
  ·obtain⟨b1,b2⟩:=hbo.conc hk hx1
   exact⟨1,he,b2,lb,mb,n,lv,σ,B,ρ,b1,σ,him2,.inr ⟨j,yx,f1,f2,.inl ⟨rfl,h4,rfl⟩⟩⟩
  ·obtain⟨b1,b2⟩:=hbo.conc hk hx1
   exact⟨70,he,b2,lb,mb,n,lv,σ,B,ρ,b1,σ,him2,.inr ⟨j,yx,f1,f2,.inr (.inl ⟨rfl,h4,h5,rfl⟩)⟩⟩
  ·obtain⟨b1,b2⟩:=hbo.conc hk hx1
   exact⟨0,he,b2,lb,mb,n',lv,_,B,ρ,b1,σ,him2,.inr ⟨j,yx,f1,f2,.inr (.inr ⟨rfl,h4,h5,rfl⟩)⟩⟩
set_option maxRecDepth 100000 in
theorem st_change2 {k:Nat} {y:LCall} {U:Un} {pi:Nat} {P:Pg} {x mi cd:Int} (h:StP (ChgP k y U pi P x mi cd) w0 w L0 c lp p dp m g) (hk1:k+1≤250) (hy:y.dt.size≤maxLen) (ib:Nat) (hib:ib∈L0) (hi:w.heap[ib]? = some (.cells (imA ((pi:Int),P)) 51 (0,0))) :
  Calls Tryz.prog 38 #[.pointer (some ⟨m,0,none⟩),.int .i64 x,.agg (unL U).toArray,.slice (some ⟨ib,0,none⟩) 1 1,.int .i64 mi] w fun e w'=>e = .returned (.int .i64 cd)∧Keeps (Own w0 L0) w w'∧StP (Ok (k+1)) w0 w' L0 c lp p dp m g:=by
 obtain⟨lb,mb,n,lv,σ',B,ρ,hbo,σ,him,hc⟩:=h
 obtain⟨hok,hU,hpi,hP⟩:=him
 have hok2:=hok
 obtain⟨hr,hs,hb⟩:=hok
 have hT:=hs.T
 have hT1:=hb.T1
 have hT2:=hb.T2
 have hkk:=hb.kk
 have hroom:=hs.room
 have hlen:ρ.xs.length≤250:=by have:=hb.len;omega
 have hu':σ'.used≤6912:=hbo.cx.count.2.1
 have hfin0:=hs.fin
 have hfb:=hb.fin
 have hpi6:pi<6:=by rw[hpi];exact(pos6_eq _).2
 have hbdU:U.bd.size≤maxLen:=by
  rw[hU]
  have h1:=((hs.pok (pos6 y.page) (pos6_eq _).2).2 (pos6 y.slot) (pos6_eq _).2).2.2.1
  show ((ρ.f (pos6 y.page)).dt (pos6 y.slot)).size≤maxLen
  unfold maxLen;omega
 have hq:B.Q.length≤1000000∧ρ.ats.length≤1000000:=by
  have h1:=hbo.rr.qlen
  have h2:ρ.ats.length=ρ.recs.length:=by rw[hs.pl.ats,placeL_length]
  have h3:=hbo.cx.count.1
  have h4:ρ.recs.length≤σ'.recs.length:=by
   rw[←hr]
   rcases hc with⟨rfl,_⟩ | ⟨j,yx,_,_,⟨rfl,_⟩ | ⟨rfl,_⟩ | ⟨rfl,_⟩⟩
   · exact Nat.le_refl _
   · exact Nat.le_refl _
   · exact Nat.le_refl _
   · show _≤(σ.recs++[_]).length;rw[List.length_append];omega
  omega
 have hfree:∀b,σ.free b=6912-σ.used-b:=fun b=>rfl
 have hu:σ.used≤6912:=by
  rcases hc with⟨rfl,_⟩ | ⟨j,yx,_,_,⟨rfl,_⟩ | ⟨rfl,_⟩ | ⟨rfl,_,hf,_⟩⟩
  · exact hu'
  · exact hu'
  · exact hu'
  · have:=hf.1;rw[hfree]at this;omega
 refine(rr_change hbo.rr x U (by rw[hU];show (1:Int)≠0;omega) (by rw[hU];exact Nat.zero_le _) hbdU pi P hpi6 (by rw[hP];exact imgP_dt hs.pok hy) ib hi mi ⟨by rw[←hT];omega,by rw[←hT];omega⟩ (by omega) hq ⟨by omega,by omega⟩ ⟨by omega,by omega⟩).mono fun e w' hpost=>?_
 unfold ChgTo at hpost
 rw[←hT]at hpost
 rcases hc with⟨rfl,h1,rfl⟩ | ⟨j,yx,h1,h2,hc⟩
 ·rcases hpost with⟨_,he,hbl⟩ | ⟨i,z,h3,_⟩
  · exact⟨he,(Keeps.of_below _ hbl),lb,mb,n,lv,_,B,ρ,hbo.later hbl,hok2.up hk1⟩
  · rw[h1]at h3;cases h3
 ·rcases hpost with⟨h3,_⟩ | ⟨i,z,h3,h4,hpost⟩
  · rw[h1]at h3;cases h3
  ·rw[h1]at h3
   injection h3 with h3
   subst h3
   rw[h2]at h4
   injection h4 with h4
   subst h4
   rcases hc with⟨rfl,h5,rfl⟩ | ⟨rfl,h5,h6,rfl⟩ | ⟨rfl,h5,h6,rfl⟩
   ·rcases hpost with⟨_,he,hbl⟩ | ⟨h7,_⟩ | ⟨h7,_⟩
    · exact⟨he,(Keeps.of_below _ hbl),lb,mb,n,lv,_,B,ρ,hbo.later hbl,hok2.up hk1⟩
    · exact absurd h7 h5
    · exact absurd h7 h5
   ·rcases hpost with⟨h7,_⟩ | ⟨_,_,he,hbl⟩ | ⟨_,h7,_⟩
    · exact absurd h5 h7
    · exact⟨he,(Keeps.of_below _ hbl),lb,mb,n,lv,_,B,ρ,hbo.later hbl,hok2.up hk1⟩
    ·refine absurd ⟨?_,by omega⟩ h6
     rw[hfree];omega
   ·rcases hpost with⟨h7,_⟩ | ⟨_,h7,_⟩ | ⟨_,_,he,B',hrr,hst⟩
    · exact absurd h5 h7
    · have:=h6.1;rw[hfree]at this;omega
    ·obtain⟨b1,b2⟩:=hbo.doc hrr hst L0 (fun _ h=>h) (fun _ h=>by cases h)
     obtain⟨z1,hz1,hz2,hz3⟩:=xFind_get h1
     rw[h2]at hz1
     injection hz1 with hz1
     subst hz1
     have hgu:GoodU (chgR x yx.last U [((pi:Int),P)]):=by rw[hU];exact imgU_good hs.pok y x _ _
     refine⟨he,b2,lb,mb,n,lv,_,B',_,b1,?_,hs.changed h2 hz3 hz2 h5.1 hgu (by omega),hb.next hk1 ?_ ?_ ?_ (.inl rfl) (.inl rfl) hu' ?_⟩
     · show σ.recs++[_]=ρ.recs++[_];rw[hr];rfl
     · have:=h6.1;rw[hfree]at this;show σ.T.1+_≤6912;omega
     · show σ.T.2+1≤k+1;omega
     · show σ.cnt+1≤_;omega
     · show ((ρ.xs.set j _).set j _).length≤_;rw[List.length_set,List.length_set];omega
def SavP (k:Nat) (x a cd:Int) (σ:CS) (ρ:RS):Prop:=Ok k σ ρ∧((xFind ρ.xs x=none∧a=0∧cd=191)∨∃(j:Nat) (y:Xc),xFind ρ.xs x=some j∧ρ.xs[j]? = some y∧a=y.last∧cd=0)
theorem st_save {k:Nat} (h:StP (Ok k) w0 w L0 c lp p dp m g) (x:Int):Calls Tryz.prog 32 #[.pointer (some ⟨c,0,none⟩),.int .i64 x] w fun e w'=>∃a cd:Int,e = .returned (.tuple #[.int .i64 a,.int .i64 cd])∧Below w.heap.size w w'∧StP (SavP k x a cd) w0 w' L0 c lp p dp m g:=by
 obtain⟨lb,mb,n,lv,σ,B,ρ,hbo,hok⟩:=h
 refine(ch_save hbo.cx.ch x).mono fun e w' ⟨hc,hbl⟩=>?_
 have hl:=hok.2.1.lives
 rcases hc with⟨i,s,h1,h2,h3,he⟩ | ⟨h1,he⟩
 ·rw[hl]at h1 h3
  obtain⟨j,yx,f1,f2,f3,f4,rfl,rfl⟩:=find_is h1 h2 h3
  exact⟨_,0,he,hbl,lb,mb,n,lv,σ,B,ρ,hbo.later hbl,hok,.inr ⟨j,yx,f1,f2,rfl,rfl⟩⟩
 · exact⟨0,191,he,hbl,lb,mb,n,lv,σ,B,ρ,hbo.later hbl,hok,.inl ⟨find_none (by rw[←hl];exact h1),rfl,rfl⟩⟩
def FreP (k:Nat) (x:Int) (σ':CS) (ρ:RS):Prop:=Ok k σ' (ρ.freed x)
theorem st_free {k:Nat} (h:StP (Ok k) w0 w L0 c lp p dp m g) (x:Int) (hx:RngK x):Calls Tryz.prog 34 #[.pointer (some ⟨c,0,none⟩),.int .i64 x] w fun e w'=>e = .returned (.tuple #[])∧Keeps (Own w0 L0) w w'∧StP (FreP k x) w0 w' L0 c lp p dp m g:=by
 obtain⟨lb,mb,n,lv,σ,B,ρ,hbo,hr,hs,hb⟩:=h
 refine(cx_drop hbo.cx x hx).mono fun e w' ⟨he,hc⟩=>?_
 rcases hc with⟨h1,hx1,hk⟩ | ⟨h1,hx1,hk⟩
 ·obtain⟨b1,b2⟩:=hbo.conc hk hx1
  refine⟨he,b2,lb,mb,n,lv,σ,B,ρ,b1,?_⟩
  show Ok k σ (ρ.freed x)
  rw[hs.freed_no h1]
  exact⟨hr,hs,hb⟩
 ·obtain⟨b1,b2⟩:=hbo.conc hk hx1
  refine⟨he,b2,lb,mb,n,lv,_,B,ρ,b1,hr,hs.freed h1.1,?_⟩
  have:=hb.T1
  have:=hb.T2
  exact⟨by show σ.T.1-_≤6912;omega,by show σ.T.2-_≤k;omega,hb.cnt,hb.fr,hb.fin,by show (ρ.xs.map _).length≤k;rw[List.length_map];exact hb.len,hb.kk⟩
theorem st_free2 {k:Nat} {x:Int} (h:StP (FreP k x) w0 w L0 c lp p dp m g) (hk1:k+1≤250):Calls Tryz.prog 42 #[.pointer (some ⟨m,0,none⟩),.int .i64 x] w fun e w'=>e = .returned (.tuple #[])∧Keeps (Own w0 L0) w w'∧StP (Ok (k+1)) w0 w' L0 c lp p dp m g:=by
 obtain⟨lb,mb,n,lv,σ,B,ρ,hbo,hok⟩:=h
 have hl:=hok.2.2.len
 have hkk:=hok.2.2.kk
 rw[show (ρ.freed x).xs.length=ρ.xs.length by show (ρ.xs.map _).length=_;rw[List.length_map]]at hl
 refine(rr_free hbo.rr x (by omega)).mono fun e w' ⟨he,hrr,hst⟩=>?_
 obtain⟨b1,b2⟩:=hbo.doc hrr hst L0 (fun _ h=>h) (fun _ h=>by cases h)
 exact⟨he,b2,lb,mb,n,lv,σ,B,_,b1,Ok.up hok hk1⟩
end
end Go.Proofs.YtimomjheanfbmaaGreatDoor.G
