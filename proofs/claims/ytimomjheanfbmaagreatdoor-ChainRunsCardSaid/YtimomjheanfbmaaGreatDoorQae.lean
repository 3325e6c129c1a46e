import Derived.Test.YtimomjheanfbmaaGreatDoorQaa
import Derived.Test.YtimomjheanfbmaaGreatDoorQad
import Derived.Test.YtimomjheanfbmaaGreatDoorQac
set_option linter.unusedSimpArgs false
set_option linter.unusedVariables false
namespace Go.Proofs.YtimomjheanfbmaaGreatDoor
open Go.RowKit
structure Rc where
 kind:Int
 xct:Int
 prev:Int
 next:Int
 uk:Int
 us:Int
 up:Int
 ul:Int
 key:ByteArray
 bs:Int
 bd:ByteArray
 fresh:Int
 ims:List (Int×Pg)
 lvs:List (Int×Int×Int)
def inR (n m:Int):Prop:=0≤n∧n≤m
instance (n m:Int):Decidable (inR n m):=by unfold inR;exact inferInstance
def ImOk (x:Int×Pg):Prop:=inR x.1 1023∧PgOk x.2
instance (x:Int×Pg):Decidable (ImOk x):=by unfold ImOk;exact inferInstance
def LvOk (x:Int×Int×Int):Prop:=inR x.1 2147483647∧inR x.2.1 1099511627776∧inR x.2.2 1099511627776
instance (x:Int×Int×Int):Decidable (LvOk x):=by unfold LvOk;exact inferInstance
def RcHd (R:Rc):Prop:=(1≤R.kind∧R.kind≤6)∧inR R.xct 2147483647∧inR R.prev 1099511627776∧inR R.next 1099511627776∧inR R.fresh 2147483647∧inR R.uk 3∧inR R.us 6∧inR R.up 1023∧inR R.ul 5
 ∧ R.key.size≤8∧inR R.bs 2∧R.bd.size≤34∧R.ims.length≤24∧R.lvs.length≤8
instance (R:Rc):Decidable (RcHd R):=by unfold RcHd;exact inferInstance
def RcOk (R:Rc):Prop:=RcHd R∧(∀x∈R.ims,ImOk x)∧∀x∈R.lvs,LvOk x
instance (R:Rc):Decidable (RcOk R):=by unfold RcOk;exact inferInstance
def nB (w:Nat) (n:Int):List UInt8:=(leS n w).data.toList
def tB (s:ByteArray):List UInt8:=(textS s).data.toList
def imB (x:Int×Pg):List UInt8:=nB 4 x.1++(pageS x.2).data.toList
def lvB (x:Int×Int×Int):List UInt8:=nB 4 x.1++nB 8 x.2.1++nB 8 x.2.2
def hdB (R:Rc):List UInt8:=nB 1 R.kind++nB 4 R.xct++nB 8 R.prev++nB 8 R.next++nB 4 R.fresh++nB 1 R.uk++nB 1 R.us++nB 4 R.up++nB 1 R.ul++tB R.key++nB 1 R.bs++tB R.bd++nB 1 (R.ims.length:Int)
def rcL (R:Rc):List UInt8:=hdB R++R.ims.flatMap imB++nB 1 (R.lvs.length:Int)++R.lvs.flatMap lvB
def rcS (R:Rc):ByteArray:=⟨(rcL R).toArray⟩
theorem rcS_list (R:Rc):(rcS R).data.toList=rcL R:=by simp[rcS]
theorem nB_length (w:Nat) (n:Int):(nB w n).length=w:=leS_list_length n w
theorem tB_cons (s:ByteArray):tB s=UInt8.ofNat s.size::s.data.toList:=by
 unfold tB textS
 rw[ByteArray.data_append,Array.toList_append,strOfNums_data]
 simp
theorem tB_length (s:ByteArray):(tB s).length=s.size+1:=by rw[tB_cons,List.length_cons,list_size]
theorem hdB_length (R:Rc):(hdB R).length=36+R.key.size+R.bd.size:=by
 simp only[hdB,List.length_append,nB_length,tB_length];omega
theorem imB_length {x:Int×Pg} (h:ImOk x):(imB x).length=228:=by
 rw[imB,List.length_append,nB_length,list_size,pageS_size h.2]
theorem lvB_length (x:Int×Int×Int):(lvB x).length=20:=by
 simp only[lvB,List.length_append,nB_length]
theorem flat_length {α:Type} (f:α→List UInt8) (m:Nat):∀(l:List α),(∀x∈l,(f x).length=m)→(l.flatMap f).length=m*l.length
 | [],_=>by simp
 | x::l,h=>by
  rw[List.flatMap_cons,List.length_append,h x (by simp),flat_length f m l (fun y hy=>h y (by simp[hy])),List.length_cons,Nat.mul_add];omega
theorem rcS_size {R:Rc} (h:RcOk R):(rcS R).size=37+R.key.size+R.bd.size+228*R.ims.length+20*R.lvs.length:=by
 show (rcL R).toArray.size=_
 rw[List.size_toArray,rcL,List.length_append,List.length_append,List.length_append,hdB_length,nB_length,flat_length imB 228 _ (fun x hx=>imB_length (h.2.1 x hx)),flat_length lvB 20 _ (fun x _=>lvB_length x)]
 omega
def clip (n:Int):Int:=if 1099511627776<n then -1 else n
theorem clip_in {n:Int} (h:n≤1099511627776):clip n=n:=if_neg (by omega)
abbrev St:=ByteArray×Bool
def rN (w:Nat) (σ:St):Int×St:=(clip (rdNum σ.1 σ.2 w).1,(rdNum σ.1 σ.2 w).2)
def rT (σ:St):ByteArray×St:=rdText σ.1 σ.2
def rB (σ:St):ByteArray×St:=rdBytes σ.1 σ.2 224
def Gd (σ:St) (l:List UInt8):Prop:=σ.2=false∧σ.1.data.toList=l
theorem bytes_go {σ:St} {a r:List UInt8} {n:Nat} (h:Gd σ (a++r)) (ha:a.length=n):(rdBytes σ.1 σ.2 n).1.data.toList=a∧Gd (rdBytes σ.1 σ.2 n).2 r:=by
 obtain⟨s,b⟩:=σ
 obtain⟨hb,hl⟩:=h
 dsimp only at hb hl
 subst hb
 have hz:s.size=n+r.length:=by rw[←list_size,hl,List.length_append,ha]
 dsimp only
 rw[rdBytes_yes ⟨rfl,by omega,by omega⟩,Int.toNat_natCast]
 refine⟨?_,rfl,?_⟩
 ·dsimp only
  rw[ext_list,hl,List.drop_zero,Nat.sub_zero,←ha,List.take_left]
 ·dsimp only
  rw[ext_list,hl,←ha,List.drop_left,hz,ha,Nat.add_sub_cancel_left,List.take_length]
theorem rdNum_eq {s:ByteArray} {b:Bool} {w:Nat} (h1:1≤w) (h8:w≤8):rdNum s b w=(valS (rdBytes s b w).1,(rdBytes s b w).2):=by
 unfold rdNum
 rw[if_neg (by omega)]
theorem num_go {σ:St} {a r:List UInt8} {w:Nat} (h:Gd σ (a++r)) (ha:a.length=w) (h1:1≤w) (h8:w≤8):(rdNum σ.1 σ.2 w).1=valL a∧Gd (rdNum σ.1 σ.2 w).2 r:=by
 rw[rdNum_eq h1 h8]
 obtain⟨e,g⟩:=bytes_go h ha
 exact⟨by dsimp only;unfold valS;rw[e],g⟩
theorem rN_go {σ:St} {a r:List UInt8} {w:Nat} (h:Gd σ (a++r)) (ha:a.length=w) (h1:1≤w) (h8:w≤8):(rN w σ).1=clip (valL a)∧Gd (rN w σ).2 r:=by
 obtain⟨e,g⟩:=num_go h ha h1 h8
 exact⟨by unfold rN;rw[e],g⟩
theorem valL_one (b:UInt8):valL [b]=b.toNat:=by simp[valL]
theorem rT_go {σ:St} {t r:List UInt8} (h:Gd σ (UInt8.ofNat t.length::(t++r))) (ht:t.length<256):(rT σ).1.data.toList=t∧Gd (rT σ).2 r:=by
 obtain⟨e,g⟩:=num_go (a:=[UInt8.ofNat t.length]) (r:=t++r) (w:=1) h rfl (by omega) (by omega)
 unfold rT rdText
 rw[valL_one,u8_back ht]at e
 have e':(rdNum σ.1 σ.2 1).1=(t.length:Int):=e
 rw[e']
 exact bytes_go (σ:=((rdNum σ.1 σ.2 1).2.1,(rdNum σ.1 σ.2 1).2.2)) g rfl
def hdR (s:ByteArray):Rc×St :=
 let a:=rN 1 (s,false)
 let b:=rN 4 a.2
 let c:=rN 8 b.2
 let d:=rN 8 c.2
 let e:=rN 4 d.2
 let f:=rN 1 e.2
 let g:=rN 1 f.2
 let h:=rN 4 g.2
 let i:=rN 1 h.2
 let j:=rT i.2
 let k:=rN 1 j.2
 let l:=rT k.2
 ({kind:=a.1,xct:=b.1,prev:=c.1,next:=d.1,fresh:=e.1,uk:=f.1,us:=g.1,up:=h.1,ul:=i.1,key:=j.1,bs:=k.1,bd:=l.1,ims:=[],lvs:=[]},l.2)
open Classical in
noncomputable def imgsR:Nat→St→List (Int×Pg)→Option (List (Int×Pg)×St)
 | 0,σ,acc=>some (acc,σ)
 | n+1,σ,acc=>if σ.2=true then some (acc,σ) else if DecOk (rB (rN 4 σ).2).1 then imgsR n (rB (rN 4 σ).2).2 (acc++[((rN 4 σ).1,decP (rB (rN 4 σ).2).1)]) else none
def livesR:Nat→St→List (Int×Int×Int)→List (Int×Int×Int)×St
 | 0,σ,acc=>(acc,σ)
 | n+1,σ,acc=>if σ.2=true then (acc,σ) else livesR n (rN 8 (rN 8 (rN 4 σ).2).2).2 (acc++[((rN 4 σ).1,(rN 8 (rN 4 σ).2).1,(rN 8 (rN 8 (rN 4 σ).2).2).1)])
def cntR (s:ByteArray):Int×St:=rN 1 (hdR s).2
open Classical in
noncomputable def endR (R:Rc) (σ:St):Option Rc:=if σ.2=false∧σ.1.size=0∧RcOk R then some R else none
noncomputable def tailR (R:Rc) (x:List (Int×Pg)×St):Option Rc :=
 endR { R with ims := x.1, lvs := (livesR (rN 1 x.2).1.toNat (rN 1 x.2).2 []).1 } (livesR (rN 1 x.2).1.toNat (rN 1 x.2).2 []).2
noncomputable def decR (s:ByteArray):Option Rc :=
 match imgsR (cntR s).1.toNat (cntR s).2 []with
 | none=>none
 | some x=>tailR (hdR s).1 x
def imC (x:Int×Pg):Int×Array Value:=(x.1,pgC x.2)
def SameRc (R Q:Rc):Prop:=R.kind=Q.kind∧R.xct=Q.xct∧R.prev=Q.prev∧R.next=Q.next∧R.fresh=Q.fresh∧R.uk=Q.uk∧R.us=Q.us∧R.up=Q.up∧R.ul=Q.ul∧R.key=Q.key∧R.bs=Q.bs∧R.bd=Q.bd∧R.ims.map imC=Q.ims.map imC∧R.lvs=Q.lvs
theorem valL_nB {n:Int} {w:Nat} (h0:0≤n) (h:n<256^w):valL (nB w n)=n:=valS_leS n w h0 h
theorem rN_nB {σ:St} {n:Int} {w:Nat} {r:List UInt8} (h:Gd σ (nB w n++r)) (h1:1≤w) (h8:w≤8) (h0:0≤n) (hn:n<256^w) (hc:n≤1099511627776):(rN w σ).1=n∧Gd (rN w σ).2 r:=by
 obtain⟨e,g⟩:=rN_go h (nB_length w n) h1 h8
 rw[valL_nB h0 hn,clip_in hc]at e
 exact⟨e,g⟩
theorem rN1 {σ:St} {n:Int} {r:List UInt8} (h:Gd σ (nB 1 n++r)) (h0:0≤n) (hn:n≤255):(rN 1 σ).1=n∧Gd (rN 1 σ).2 r:=rN_nB h (by omega) (by omega) h0 (by omega) (by omega)
theorem rN4 {σ:St} {n:Int} {r:List UInt8} (h:Gd σ (nB 4 n++r)) (h0:0≤n) (hn:n≤2147483647):(rN 4 σ).1=n∧Gd (rN 4 σ).2 r:=rN_nB h (by omega) (by omega) h0 (by omega) (by omega)
theorem rN8 {σ:St} {n:Int} {r:List UInt8} (h:Gd σ (nB 8 n++r)) (h0:0≤n) (hn:n≤1099511627776):(rN 8 σ).1=n∧Gd (rN 8 σ).2 r:=rN_nB h (by omega) (by omega) h0 (by omega) hn
theorem rT_tB {σ:St} {t:ByteArray} {r:List UInt8} (h:Gd σ (tB t++r)) (ht:t.size≤255):(rT σ).1=t∧Gd (rT σ).2 r:=by
 rw[tB_cons,List.cons_append]at h
 have hz:t.data.toList.length=t.size:=list_size t
 rw[←hz]at h
 obtain⟨e,g⟩:=rT_go h (by omega)
 exact⟨ba_ext e,g⟩
theorem hdB_app (R:Rc) (r:List UInt8):hdB R++r=nB 1 R.kind++(nB 4 R.xct++(nB 8 R.prev++(nB 8 R.next++(nB 4 R.fresh++(nB 1 R.uk++(nB 1 R.us++(nB 4 R.up++(nB 1 R.ul++(tB R.key++(nB 1 R.bs++(tB R.bd++(nB 1 (R.ims.length:Int)++r)))))))))))):=by
 simp only[hdB,List.append_assoc]
theorem hdR_go {R:Rc} (h:RcHd R) {s:ByteArray} {r:List UInt8} (hs:s.data.toList=hdB R++r):(hdR s).1={R with ims:=[],lvs:=[]}∧(cntR s).1=R.ims.length∧Gd (cntR s).2 r:=by
 obtain⟨⟨a1,a2⟩,⟨b1,b2⟩,⟨c1,c2⟩,⟨d1,d2⟩,⟨e1,e2⟩,⟨f1,f2⟩,⟨g1,g2⟩,⟨h1,h2⟩,⟨i1,i2⟩,j,⟨k1,k2⟩,l,m,n⟩:=h
 have G0:Gd (s,false) (hdB R++r):=⟨rfl,hs⟩
 rw[hdB_app]at G0
 obtain⟨A,G⟩:=rN1 G0 (by omega) (by omega)
 obtain⟨B,G⟩:=rN4 G (by omega) (by omega)
 obtain⟨C,G⟩:=rN8 G (by omega) (by omega)
 obtain⟨D,G⟩:=rN8 G (by omega) (by omega)
 obtain⟨E,G⟩:=rN4 G (by omega) (by omega)
 obtain⟨F,G⟩:=rN1 G (by omega) (by omega)
 obtain⟨K,G⟩:=rN1 G (by omega) (by omega)
 obtain⟨H,G⟩:=rN4 G (by omega) (by omega)
 obtain⟨I,G⟩:=rN1 G (by omega) (by omega)
 obtain⟨J,G⟩:=rT_tB G (by omega)
 obtain⟨L,G⟩:=rN1 G (by omega) (by omega)
 obtain⟨M,G⟩:=rT_tB G (by omega)
 obtain⟨N,G⟩:=rN1 G (by omega) (by omega)
 refine⟨?_,N,G⟩
 unfold hdR
 dsimp only
 rw[A,B,C,D,E,F,K,H,I,J,L,M]
theorem imgsR_go:∀(l:List (Int×Pg)) {σ:St} {r:List UInt8} (acc:List (Int×Pg)),(∀x∈l,ImOk x)→Gd σ (l.flatMap imB++r)→∃l' τ,imgsR l.length σ acc=some (acc++l',τ)∧l'.map imC=l.map imC∧Gd τ r
 | [],σ,r,acc,_,hg=>⟨[],σ,by simp[imgsR],rfl,hg⟩
 | x::l,σ,r,acc,h,hg=>by
  obtain⟨⟨h1,h2⟩,hp⟩:=h x (by simp)
  rw[List.flatMap_cons,imB,List.append_assoc,List.append_assoc]at hg
  have hσ:=hg.1
  obtain⟨A,G⟩:=rN4 hg h1 (by omega)
  obtain⟨B,G⟩:=bytes_go (n:=224) G (by rw[list_size,pageS_size hp])
  have B':(rB (rN 4 σ).2).1=pageS x.2:=ba_ext B
  obtain⟨l',τ,e1,e2,e3⟩:=imgsR_go l (σ:=(rB (rN 4 σ).2).2) (acc++[((rN 4 σ).1,decP (rB (rN 4 σ).2).1)]) (fun y hy=>h y (by simp[hy])) G
  refine⟨((rN 4 σ).1,decP (rB (rN 4 σ).2).1)::l',τ,?_,?_,e3⟩
  ·rw[List.length_cons,imgsR,if_neg (by rw[hσ];decide),if_pos (by rw[B'];exact dec_ok hp),e1,List.append_assoc]
   rfl
  ·rw[List.map_cons,List.map_cons,e2]
   congr 1
   unfold imC
   rw[B',A,dec_enc hp]
theorem livesR_go:∀(l:List (Int×Int×Int)) {σ:St} {r:List UInt8} (acc:List (Int×Int×Int)),(∀x∈l,LvOk x)→Gd σ (l.flatMap lvB++r)→∃τ,livesR l.length σ acc=(acc++l,τ)∧Gd τ r
 | [],σ,r,acc,_,hg=>⟨σ,by simp[livesR],hg⟩
 | x::l,σ,r,acc,h,hg=>by
  obtain⟨⟨h1,h2⟩,⟨h3,h4⟩,⟨h5,h6⟩⟩:=h x (by simp)
  rw[List.flatMap_cons,lvB,List.append_assoc,List.append_assoc,List.append_assoc]at hg
  have hσ:=hg.1
  obtain⟨A,G⟩:=rN4 hg h1 (by omega)
  obtain⟨B,G⟩:=rN8 G h3 (by omega)
  obtain⟨C,G⟩:=rN8 G h5 (by omega)
  obtain⟨τ,e1,e3⟩:=livesR_go l (acc++[((rN 4 σ).1,(rN 8 (rN 4 σ).2).1,(rN 8 (rN 8 (rN 4 σ).2).2).1)]) (fun y hy=>h y (by simp[hy])) G
  refine⟨τ,?_,e3⟩
  rw[List.length_cons,livesR,if_neg (by rw[hσ];decide),e1,A,B,C,List.append_assoc]
  rfl
theorem RcOk.congr {R Q:Rc} (h:RcOk Q) (hs:SameRc R Q):RcOk R:=by
 obtain⟨a1,a2,a3,a4,a5,a6,a7,a8,a9,a10,a11,a12,a13,a14⟩:=hs
 have hl:R.ims.length=Q.ims.length:=by simpa using congrArg List.length a13
 refine⟨?_,?_,by rw[a14];exact h.2.2⟩
 ·have:=h.1
  unfold RcHd at this ⊢
  rw[a1,a2,a3,a4,a5,a6,a7,a8,a9,a10,a11,a12,a14,hl]
  exact this
 ·intro x hx
  have:imC x∈Q.ims.map imC:=by rw[←a13];exact List.mem_map_of_mem hx
  obtain⟨y,hy,e⟩:=List.mem_map.1 this
  have hk:=h.2.1 y hy
  unfold imC at e
  obtain⟨e1,e2⟩:=Prod.mk.inj e
  refine⟨e1 ▸ hk.1,?_⟩
  have e3:(pgC y.2).toList=(pgC x.2).toList:=by rw[e2]
  simp only[pgC,List.cons.injEq,Value.int.injEq,Value.string.injEq,true_and,and_true]at e3
  obtain⟨p1,p2,p3,p4,p5,p6,p7,p8,p9,p10,p11,p12,p13,p14,p15,p16⟩:=e3
  refine PgOk.congr p1.symm p2.symm p3.symm p4.symm (fun i hi=>?_) hk.2
  match i,hi with
  | 0,_=>exact⟨p5.symm,p6.symm⟩
  | 1,_=>exact⟨p7.symm,p8.symm⟩
  | 2,_=>exact⟨p9.symm,p10.symm⟩
  | 3,_=>exact⟨p11.symm,p12.symm⟩
  | 4,_=>exact⟨p13.symm,p14.symm⟩
  | 5,_=>exact⟨p15.symm,p16.symm⟩
theorem rcL_app (R:Rc) (z:List UInt8):rcL R++z=hdB R++(R.ims.flatMap imB++(nB 1 (R.lvs.length:Int)++(R.lvs.flatMap lvB++z))):=by
 simp only[rcL,List.append_assoc]
open Classical in
theorem decR_go {R:Rc} (h:RcOk R) {s:ByteArray} {z:List UInt8} (hs:s.data.toList=rcL R++z):∃R',SameRc R' R∧decR s=if z=[] then some R' else none:=by
 rw[rcL_app]at hs
 obtain⟨e1,e2,G⟩:=hdR_go h.1 hs
 obtain⟨l',τ,e3,e4,G⟩:=imgsR_go R.ims [] h.2.1 G
 have hlv:R.lvs.length≤8:=h.1.2.2.2.2.2.2.2.2.2.2.2.2.2
 obtain⟨e5,G⟩:=rN1 G (by omega) (by omega)
 obtain⟨υ,e6,G⟩:=livesR_go R.lvs [] h.2.2 G
 refine⟨{R with ims:=l'},⟨rfl,rfl,rfl,rfl,rfl,rfl,rfl,rfl,rfl,rfl,rfl,rfl,e4,rfl⟩,?_⟩
 unfold decR
 rw[e2,Int.toNat_natCast,e3]
 dsimp only
 unfold tailR
 dsimp only
 rw[e5,Int.toNat_natCast,e6,e1]
 dsimp only
 simp only[List.nil_append]
 unfold endR
 have hz:υ.1.size=z.length:=by rw[←list_size,G.2]
 have hok:RcOk {R with ims:=l'}:=h.congr ⟨rfl,rfl,rfl,rfl,rfl,rfl,rfl,rfl,rfl,rfl,rfl,rfl,e4,rfl⟩
 by_cases e:z=[]
 · rw[if_pos e,if_pos ⟨G.1,by rw[hz,e];rfl,hok⟩]
 · rw[if_neg e,if_neg (fun h=>e (List.eq_nil_of_length_eq_zero (by omega)))]
theorem rN1_range (σ:St):0≤(rN 1 σ).1∧(rN 1 σ).1≤255:=by
 have h:0≤(rdNum σ.1 σ.2 1).1∧(rdNum σ.1 σ.2 1).1<256:=rdNum_range σ.1 σ.2 1
 show 0≤clip (rdNum σ.1 σ.2 1).1∧clip (rdNum σ.1 σ.2 1).1≤255
 rw[clip_in (by omega)]
 omega
theorem imB_congr {x y:Int×Pg} (h:imC x=imC y):imB x=imB y:=by
 unfold imC at h
 obtain⟨e1,e2⟩:=Prod.mk.inj h
 unfold imB
 rw[e1,pageS_congr e2]
theorem flat_congr:∀(l m:List (Int×Pg)),l.map imC=m.map imC→l.flatMap imB=m.flatMap imB
 | [],[],_=>rfl
 | x::l,y::m,h=>by
  simp only[List.map_cons,List.cons.injEq]at h
  rw[List.flatMap_cons,List.flatMap_cons,imB_congr h.1,flat_congr l m h.2]
 | [],_::_,h=>by simp at h
 | _::_,[],h=>by simp at h
theorem rcS_congr {R Q:Rc} (h:SameRc R Q):rcS R=rcS Q:=by
 obtain⟨a1,a2,a3,a4,a5,a6,a7,a8,a9,a10,a11,a12,a13,a14⟩:=h
 have hl:R.ims.length=Q.ims.length:=by simpa using congrArg List.length a13
 apply ba_ext
 rw[rcS_list,rcS_list]
 unfold rcL hdB
 rw[a1,a2,a3,a4,a5,a6,a7,a8,a9,a10,a11,a12,a14,hl,flat_congr _ _ a13]
theorem dec_same {R:Rc} (h:RcOk R):∃Q,decR (rcS R)=some Q∧SameRc Q R:=by
 obtain⟨Q,h1,e1⟩:=decR_go h (s:=rcS R) (z:=[]) (by rw[rcS_list,List.append_nil])
 rw[if_pos rfl]at e1
 exact⟨Q,e1,h1⟩
end Go.Proofs.YtimomjheanfbmaaGreatDoor
namespace Go.Proofs.YtimomjheanfbmaaGreatDoor
open Go.RowKit
def skipOk (n:Nat) (ops:Array Oper):List Nat→List Oper→Option (List Nat)
 | K,[]=>some K
 | K,o::r =>
  match o.dst with
  | none=>none
  | some d =>
   if d<n then
    match o.guard with
    | some (j,false) =>
     match (ops[j]?).bind (·.dst) with
     | some s=>if s∈K then skipOk n ops (K.filter (· != d)) r else none
     | none=>none
    | some (_,true)=>none
    | none =>
     match o.op with
     | .move (.tmp x)=>if x∈K then skipOk n ops (d::K) r else none
     | .pick (.tmp x) (.const (.bool true)) _=>if x∈K then skipOk n ops (d::K) r else none
     | _=>none
   else none
def Tru (K:List Nat) (T:Array Value):Prop:=∀k∈K,T[k]? = some (.bool true)
theorem Tru.put {K:List Nat} {T:Array Value} (h:Tru K T) (d:Nat):Tru (K.filter (· != d)) (T.setIfInBounds d undef):=fun k hk=>by
 simp only[List.mem_filter,bne_iff_ne]at hk
 rw[Array.getElem?_setIfInBounds_ne (fun e=>hk.2 e.symm)]
 exact h k hk.1
theorem Tru.add {K:List Nat} {T:Array Value} (h:Tru K T) (d:Nat) (hd:d<T.size):Tru (d::K) (T.setIfInBounds d (.bool true)):=fun k hk=>by
 by_cases e:d=k
 ·subst e
  rw[Array.getElem?_setIfInBounds_self_of_lt hd]
 ·rw[Array.getElem?_setIfInBounds_ne e]
  exact h k ((List.mem_cons.1 hk).resolve_left (fun h=>e h.symm))
theorem wpList_skipOk {P:Program} {ops:Array Oper} {Q:Exit→Act→World→Prop} {D:List Deferred} {w:World} {K':List Nat} {n:Nat}:∀(l:List Oper) (K:List Nat) (T:Array Value),T.size=n→Tru K T→skipOk n ops K l=some K' →
  (∀T':Array Value,T'.size=n→Tru K' T'→Q .normal {tmps:=T',defers:=D} w)→wpList P ops Q l {tmps:=T,defers:=D} w
 | [],K,T,hs,hT,h,hQ=>by
  simp only[skipOk,Option.some.injEq]at h
  subst h
  exact hQ T hs hT
 | o::r,K,T,hs,hT,h,hQ=>by
  refine wpList_step fun W hW=>?_
  unfold skipOk at h
  split at h
  · cases h
  ·rename_i d hd
   split at h
   rotate_left
   · cases h
   rename_i hdn
   rw[←hs]at hdn
   split at h
   ·rename_i j hg
    split at h
    ·rename_i s hj
     split at h
     ·rename_i hK
      have hw:Region.wanted o (yielded ops T)=false:=by
       unfold Region.wanted yielded
       simp only[hg,hj,Option.bind_some,hT s hK]
       rfl
      rw[if_neg (by rw[hw];decide)]
      refine hW _ _ ?_
      unfold Act.put
      rw[hd]
      exact wpList_skipOk r _ _ (by simp[hs]) (hT.put d) h hQ
     · cases h
    · cases h
   · cases h
   ·rename_i hg
    have hw:Region.wanted o (yielded ops T)=true:=by unfold Region.wanted;simp only[hg]
    rw[if_pos (by rw[hw])]
    split at h
    ·rename_i x ho
     split at h
     ·rename_i hK
      unfold Oper.wp execOp
      simp only[ho,Sem.run_pure,Oper.upon_value]
      refine hW _ _ ?_
      have hx:=hT x hK
      have hev:({tmps:=T,defers:=D}:Act).eval (.tmp x) = .bool true:=by
       show T.getD x undef=_
       rw[Array.getD_eq_getD_getElem?,hx];rfl
      rw[hev]
      unfold Act.put
      rw[hd]
      exact wpList_skipOk r _ _ (by simp[hs]) (hT.add d hdn) h hQ
     · cases h
    ·rename_i x y ho
     split at h
     ·rename_i hK
      have hx:=hT x hK
      have hev:({tmps:=T,defers:=D}:Act).eval (.tmp x) = .bool true:=by
       show T.getD x undef=_
       rw[Array.getD_eq_getD_getElem?,hx];rfl
      unfold Oper.wp execOp
      simp only[ho,hev,asBool,Sem.run_bind,Sem.run_pure,Result.andThen_ok,if_true,Oper.upon_value]
      refine hW _ _ ?_
      unfold Act.put
      rw[hd]
      exact wpList_skipOk r _ _ (by simp[hs]) (hT.add d hdn) h hQ
     · cases h
    · cases h
theorem wpList_skip {P:Program} {ops:Array Oper} {Q:Exit→Act→World→Prop} {D:List Deferred} {w:World} {l:List Oper} {T:Array Value} (s p n:Nat) (hs:T.size=n) (hT:T[s]? = some (.bool true))
  (h:(skipOk n ops [s] l).map (fun K=>decide (p∈K))=some true) (hQ:∀V:Nat→Value,V p = .bool true→wpList P ops Q [] {tmps:=((List.range n).map V).toArray,defers:=D} w):wpList P ops Q l {tmps:=T,defers:=D} w:=by
 cases e:skipOk n ops [s] l with
 | none=>rw[e]at h;cases h
 | some K =>
  rw[e]at h
  simp only[Option.map_some,Option.some.injEq,decide_eq_true_eq]at h
  refine wpList_skipOk l [s] T hs (fun k hk=>by rw[List.mem_singleton.1 hk];exact hT) e (fun T' h1 h2=>?_)
  have hT:T'=((List.range n).map fun j=>T'.getD j undef).toArray:=by
   rw[←h1]
   apply Array.ext
   · simp
   ·intro i h1 h2
    simp[Array.getD,h1]
  rw[hT]
  refine hQ (fun j=>T'.getD j undef) ?_
  show T'.getD p undef=_
  rw[Array.getD_eq_getD_getElem?,h2 p h];rfl
theorem wpList_skip2 {P:Program} {ops:Array Oper} {Q:Exit→Act→World→Prop} {D:List Deferred} {w:World} {o:Oper} {r:List Oper} {T:Array Value} {x:Operand} (c y d p n:Nat) (ho:o.op = .pick (.tmp c) x (.tmp y)) (hg:o.guard=none) (hd:o.dst=some d) (hdn:decide (d<n)=true)
  (hs:T.size=n) (hc:T[c]? = some (.bool false)) (hy:T[y]? = some (.bool true))
  (h:(skipOk n ops [d] r).map (fun K=>decide (p∈K))=some true) (hQ:∀V:Nat→Value,V p = .bool true→wpList P ops Q [] {tmps:=((List.range n).map V).toArray,defers:=D} w):wpList P ops Q (o::r) {tmps:=T,defers:=D} w:=by
 refine wpList_plain hg fun W hW=>?_
 have h1:({tmps:=T,defers:=D}:Act).eval (.tmp c) = .bool false:=by
  show T.getD c undef=_
  rw[Array.getD_eq_getD_getElem?,hc];rfl
 have h2:({tmps:=T,defers:=D}:Act).eval (.tmp y) = .bool true:=by
  show T.getD y undef=_
  rw[Array.getD_eq_getD_getElem?,hy];rfl
 unfold Oper.wp execOp
 simp only[ho,h1,h2,asBool,Sem.run_bind,Sem.run_pure,Result.andThen_ok,if_false,Bool.false_eq_true,Oper.upon_value]
 refine hW _ _ ?_
 unfold Act.put
 rw[hd]
 have hdn':d<n:=of_decide_eq_true hdn
 refine wpList_skip d p n (by simpa using hs) ?_ h hQ
 exact Array.getElem?_setIfInBounds_self_of_lt (show d<T.size by omega)
end Go.Proofs.YtimomjheanfbmaaGreatDoor
namespace Go.Proofs.YtimomjheanfbmaaGreatDoor
open Go.RowKit
inductive Kd where
 | b
 | i (k:IntKind)
 | s
 | sl (t:TypeId)
def flatAll (f:TypeId→Option (List Kd)) (P:Program):Nat→List Field→Option (List Kd)
 | _,[]=>some []
 | pos,fd::r =>
  match f fd.type,flatAll f P (pos+P.cellsOf fd.type) r with
  | some ks,some ls=>if fd.offset=pos∧ks.length=P.cellsOf fd.type then some (ks++ls) else none
  | _,_=>none
def flatRep (ks:List Kd):Nat→List Kd
 | 0=>[]
 | n+1=>ks++flatRep ks n
def flat (P:Program):Nat→TypeId→Option (List Kd)
 | 0,_=>none
 | n+1,t =>
  match P.underlying t with
  | some .bool=>some [.b]
  | some (.int k)=>some [.i k]
  | some .string=>some [.s]
  | some (.slice _)=>some [.sl t]
  | some (.struct fs)=>match flatAll (flat P n) P 0 fs.toList with
   | some ks=>if ks.length=P.cellsOf t then some ks else none
   | none=>none
  | some (.array m e)=>match flat P n e with
   | some ks=>if ks.length=P.cellsOf e∧P.cellsOf t=m*P.cellsOf e then some (flatRep ks m) else none
   | none=>none
  | _=>none
section
variable {H:Type} (enc:TypeId×Value→H) (P:Program) (W:World) (sp:Nat→Bool) (held:Bool)
def KdOk:Kd→Value→Prop
 | .b,v=>∃x,v = .bool x
 | .i k,v=>∃n,v = .int k n∧(Lit.int k n).wf=true
 | .s,v=>∃t:ByteArray,v = .string t∧t.size≤maxLen
 | .sl t,v=>(∃a l c,v = .slice a l c)∧∃d ps,DataW.Trod enc P W 0 sp held t v d ps
def Fa:List Kd→List Value→Prop
 | [],[]=>True
 | k::ks,v::vs=>KdOk enc P W sp held k v∧Fa ks vs
 | _,_=>False
variable {enc P W sp held}
theorem Fa.append:∀{ks:List Kd} {vs:List Value} {ks':List Kd} {vs':List Value},Fa enc P W sp held ks vs→Fa enc P W sp held ks' vs'→Fa enc P W sp held (ks++ks') (vs++vs')
 | [],[],_,_,_,h'=>h'
 | k::ks,v::vs,_,_,h,h'=>⟨h.1,Fa.append h.2 h'⟩
 | [],_::_,_,_,h,_=>h.elim
 | _::_,[],_,_,h,_=>h.elim
theorem fa_flatAll {f:TypeId→Option (List Kd)} {n:Nat}
  (ih:∀t ks,f t=some ks→∀cs y,DataW.trod enc P W 0 sp held n t cs=some y→Fa enc P W sp held ks cs) :
  ∀(fs:List Field) (pos:Nat) (ks:List Kd),flatAll f P pos fs=some ks→∀cs:List Value,cs.length=pos+ks.length →
   (∀fd∈fs,∃y,DataW.trod enc P W 0 sp held n fd.type ((cs.drop fd.offset).take (P.cellsOf fd.type))=some y)→Fa enc P W sp held ks (cs.drop pos)
 | [],pos,ks,h,cs,hl,_=>by
  simp[flatAll]at h;subst h
  have:cs.drop pos=[]:=List.drop_eq_nil_of_le (by simp at hl;omega)
  rw[this];trivial
 | fd::r,pos,ks,h,cs,hl,ht=>by
  unfold flatAll at h
  split at h
  ·rename_i k1 k2 e1 e2
   split at h
   ·rename_i hc
    obtain⟨ho,hk⟩:=hc
    simp at h;subst h
    obtain⟨y,hy⟩:=ht fd (by simp)
    have h1:=ih _ _ e1 _ _ hy
    rw[List.length_append]at hl
    have h2:=fa_flatAll ih r (pos+P.cellsOf fd.type) k2 e2 cs (by omega) (fun g hg=>ht g (by simp[hg]))
    have e:cs.drop pos=(cs.drop pos).take (P.cellsOf fd.type)++cs.drop (pos+P.cellsOf fd.type):=by
     rw[←List.drop_drop,List.take_append_drop]
    rw[e]
    rw[ho]at h1
    exact h1.append h2
   · cases h
  · cases h
theorem fa_flatRep {n m:Nat} {e:TypeId} {ks:List Kd} (hk:ks.length=m) :
  ∀(c:Nat) (cs:List Value),cs.length=c*m→(∀i,i<c→Fa enc P W sp held ks ((cs.drop (i*m)).take m))→Fa enc P W sp held (flatRep ks c) cs
 | 0,cs,hl,_=>by
  have:cs=[]:=List.eq_nil_of_length_eq_zero (by omega)
  subst this;trivial
 | c+1,cs,hl,h=>by
  have h0:=h 0 (by omega)
  rw[Nat.zero_mul,List.drop_zero]at h0
  have hr:=fa_flatRep (n:=n) (e:=e) hk c (cs.drop m) (by rw[List.length_drop,hl,Nat.add_mul];omega) (fun i hi=>by
   have:=h (i+1) (by omega)
   rw[List.drop_drop]
   rw[show m+i*m=(i+1)*m from by rw[Nat.add_mul];omega]
   exact this)
  have e:cs=cs.take m++cs.drop m:=(List.take_append_drop m cs).symm
  rw[e]
  exact h0.append hr
theorem fa_flat:∀(n:Nat) (t:TypeId) (ks:List Kd),flat P n t=some ks→∀(fuel:Nat) (cs:List Value) (y:DataW H×List MemPlace),DataW.trod enc P W 0 sp held fuel t cs=some y→Fa enc P W sp held ks cs:=by
 intro n
 induction n with
 | zero=>intro t ks h;simp[flat]at h
 | succ n ih =>
  intro t ks h fuel cs y hy
  unfold flat at h
  split at h
  ·rename_i hu;simp at h;subst h
   obtain⟨b,hc,_⟩:=DataW.trod_bool hu hy
   subst hc
   exact⟨⟨b,rfl⟩,trivial⟩
  ·rename_i k hu;simp at h;subst h
   obtain⟨a,hc,_,hw⟩:=DataW.trod_int hu hy
   subst hc
   exact⟨⟨a,rfl,hw⟩,trivial⟩
  ·rename_i hu;simp at h;subst h
   obtain⟨a,hc,_,hw⟩:=DataW.trod_string hu hy
   subst hc
   exact⟨⟨a,rfl,hw⟩,trivial⟩
  ·rename_i e hu;simp at h;subst h
   have hform:∃a l c,cs=[.slice a l c]:=by
    rcases Deep.open_slice hu hy with⟨hcs,_⟩ | ⟨a,l,c,_,_,_,_,hcs,_⟩
    · exact⟨_,_,_,hcs⟩
    · exact⟨_,_,_,hcs⟩
   obtain⟨a,l,c,rfl⟩:=hform
   exact⟨⟨⟨a,l,c,rfl⟩,y.1,y.2,fuel,hy⟩,trivial⟩
  ·rename_i fs hu
   split at h
   ·rename_i ks1 e1
    split at h
    ·rename_i hk
     simp at h;subst h
     obtain⟨xs,m,rfl,_,hl,hlen,hf⟩:=DataW.trod_struct hu hy
     have:=fa_flatAll (f:=flat P n) (n:=m) (fun t ks h cs y hy=>ih t ks h m cs y hy) fs.toList 0 ks1 e1 cs (by omega) (fun fd hfd=>by
      obtain⟨i,hi,hfi⟩:=List.getElem_of_mem hfd
      have h1:=hf i fd (by rw[←Array.getElem?_toList,List.getElem?_eq_getElem hi,hfi])
      have hi':i<xs.length:=by rw[hlen];simpa using hi
      exact⟨xs[i],by rw[h1,List.getElem?_eq_getElem hi']⟩)
     simpa using this
    · cases h
   · cases h
  ·rename_i m e hu
   split at h
   ·rename_i k1 e1
    split at h
    ·rename_i hk
     simp at h;subst h
     obtain⟨xs,f',rfl,_,hl,hlen,hf⟩:=DataW.trod_array hu hy
     refine fa_flatRep (n:=n) (e:=e) hk.1 m cs (by rw[hl];exact hk.2) (fun i hi=>?_)
     have h1:=hf i hi
     have hi':i<xs.length:=by omega
     rw[List.getElem?_eq_getElem hi']at h1
     exact ih _ _ e1 _ _ _ h1
    · cases h
   · cases h
  · cases h
end
end Go.Proofs.YtimomjheanfbmaaGreatDoor
