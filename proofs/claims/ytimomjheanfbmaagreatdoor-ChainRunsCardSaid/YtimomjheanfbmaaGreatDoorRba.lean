import Derived.Test.YtimomjheanfbmaaGreatDoorQaa
import Derived.Test.YtimomjheanfbmaaGreatDoorRaz
import Derived.Test.YtimomjheanfbmaaGreatDoorRav
set_option linter.unusedSimpArgs false
set_option linter.unusedVariables false
namespace Go.Proofs.YtimomjheanfbmaaGreatDoor.G
open Go.RowKit
def RS.ovr (ρ:RS) (i:Nat) (y:Xc):RS:={ρ with xs:=ρ.xs.set i {y with over:=true}}
def RS.finished (ρ:RS) (kind x:Int) (i:Nat) (y:Xc):RS:=if y.first=0 then ρ.ovr i y else (ρ.wrote (finR kind x y.last)).ovr i y
def freeX (x:Int) (y:Xc):Xc:=if y.num=x∧y.over=true then {y with bytes:=0,pages:=0} else y
def RS.freed (ρ:RS) (x:Int):RS:={ρ with xs:=ρ.xs.map (freeX x)}
def lvO (y:Xc):Lv:=(y.num,y.first,y.last)
theorem xLive_app (a b:List Xc):xLive (a++b)=xLive a++xLive b:=by unfold xLive;rw[List.filter_append,List.map_append]
theorem xLive_cons (y:Xc) (l:List Xc):xLive (y::l)=(if y.over=true then [] else [lvO y])++xLive l:=by
 unfold xLive
 cases hy:y.over <;> simp[List.filter_cons,hy,lvO]
theorem list_split {α:Type} {l:List α} {j:Nat} {y:α} (h:l[j]? = some y):l=l.take j++y::l.drop (j+1):=by
 have hj:=(List.getElem?_eq_some_iff.1 h).1
 have hy:=(List.getElem?_eq_some_iff.1 h).2
 have:=(List.take_append_drop j l).symm
 rw[List.drop_eq_getElem_cons hj,hy]at this
 exact this
theorem set_at {α:Type} {l:List α} {i:Nat} {y:α} (h:l[i]? = some y):l.set i y=l:=by
 obtain⟨hi,rfl⟩:=List.getElem?_eq_some_iff.1 h
 exact List.set_getElem_self hi
theorem set_split {α:Type} {l:List α} {j:Nat} {y:α} (h:l[j]? = some y) (y':α):l.set j y'=l.take j++y'::l.drop (j+1):=by
 have hj:=(List.getElem?_eq_some_iff.1 h).1
 rw[List.set_eq_take_append_cons_drop,if_pos hj]
def xPos (l:List Xc) (j:Nat):Nat:=(xLive (l.take j)).length
theorem xLive_split {l:List Xc} {j:Nat} {y:Xc} (h:l[j]? = some y) (ho:y.over=false):xLive l=xLive (l.take j)++lvO y::xLive (l.drop (j+1)):=by
 have:=congrArg xLive (list_split h)
 rw[xLive_app,xLive_cons,ho]at this
 exact this
theorem xLive_at {l:List Xc} {j:Nat} {y:Xc} (h:l[j]? = some y) (ho:y.over=false):(xLive l)[xPos l j]? = some (lvO y):=by
 unfold xPos
 rw[xLive_split h ho,List.getElem?_append_right (Nat.le_refl _),Nat.sub_self];rfl
theorem xLive_set {l:List Xc} {j:Nat} {y:Xc} (h:l[j]? = some y) (ho:y.over=false) (y':Xc) (ho':y'.over=false):xLive (l.set j y')=(xLive l).set (xPos l j) (lvO y'):=by
 unfold xPos
 rw[set_split h,xLive_app,xLive_cons,ho',xLive_split h ho,List.set_append_right _ _ (Nat.le_refl _),Nat.sub_self];rfl
theorem xLive_end {l:List Xc} {j:Nat} {y:Xc} (h:l[j]? = some y) (ho:y.over=false) (y':Xc) (ho':y'.over=true):xLive (l.set j y')=(xLive l).eraseIdx (xPos l j):=by
 unfold xPos
 rw[set_split h,xLive_app,xLive_cons,ho',xLive_split h ho,List.eraseIdx_append_of_length_le (Nat.le_refl _),Nat.sub_self];rfl
theorem xPos_set {l:List Xc} {j:Nat} {y:Xc} (h:l[j]? = some y) (y':Xc):xPos (l.set j y') j=xPos l j:=by
 unfold xPos
 have hj:=(List.getElem?_eq_some_iff.1 h).1
 rw[set_split h,List.take_append_of_le_length (by rw[List.length_take];omega),List.take_of_length_le (by rw[List.length_take];omega)]
theorem xLive_mem {l:List Xc} {s:Lv} (h:s∈xLive l):∃(j:Nat) (y:Xc),l[j]? = some y∧y.over=false∧s=lvO y:=by
 unfold xLive at h
 obtain⟨y,hy,rfl⟩:=List.mem_map.1 h
 obtain⟨h1,h2⟩:=List.mem_filter.1 hy
 obtain⟨j,hj⟩:=List.mem_iff_getElem?.1 h1
 exact⟨j,y,hj,by simpa using h2,rfl⟩
theorem live_none {l:List Xc} {x:Int} (h:xFind l x=none):∀s∈xLive l,s.1≠x:=fun s hs e=>by
 obtain⟨j,y,hj,ho,rfl⟩:=xLive_mem hs
 unfold xFind at h
 rw[List.findIdx?_eq_none_iff]at h
 have:=h y (List.mem_of_getElem? hj)
 have e':y.num=x:=e
 rw[e',ho]at this
 simp at this
theorem find_pos {l:List Xc} {x:Int} {j:Nat} (h:xFind l x=some j):∃y,l[j]? = some y∧y.num=x∧y.over=false∧(xLive l)[xPos l j]? = some (lvO y)∧∀(i:Nat) (s:Lv),i<xPos l j→(xLive l)[i]? = some s→s.1≠x:=by
 obtain⟨y,hy,hn,ho⟩:=xFind_get h
 refine⟨y,hy,hn,ho,xLive_at hy ho,fun i s hi hs e=>?_⟩
 rw[xLive_split hy ho,List.getElem?_append_left hi]at hs
 obtain⟨a,z,ha,hz,rfl⟩:=xLive_mem (List.mem_of_getElem? hs)
 have haj:a<j:=by have:=(List.getElem?_eq_some_iff.1 ha).1;rw[List.length_take]at this;omega
 rw[List.getElem?_take,if_pos haj]at ha
 unfold xFind at h
 rw[List.findIdx?_eq_some_iff_getElem]at h
 obtain⟨hl,-,hmin⟩:=h
 have:=hmin a haj
 rw[(List.getElem?_eq_some_iff.1 ha).2]at this
 have e':z.num=x:=e
 rw[e',hz]at this
 simp at this
theorem xSum_app (a b:List Xc):xSum (a++b)=((xSum a).1+(xSum b).1,(xSum a).2+(xSum b).2):=by unfold xSum;simp only[List.map_append,List.sum_append]
theorem xSum_cons (y:Xc) (l:List Xc):xSum (y::l)=(y.bytes+(xSum l).1,y.pages+(xSum l).2):=by unfold xSum;simp only[List.map_cons,List.sum_cons]
theorem xSum_set {l:List Xc} {j:Nat} {y:Xc} (h:l[j]? = some y) (y':Xc):(xSum (l.set j y')).1+y.bytes=(xSum l).1+y'.bytes∧(xSum (l.set j y')).2+y.pages=(xSum l).2+y'.pages:=by
 have e:=congrArg xSum (list_split h)
 rw[xSum_app,xSum_cons]at e
 rw[set_split h,xSum_app,xSum_cons,e]
 dsimp only
 omega
theorem snoc_get {α:Type} {l:List α} {a:α} {i:Nat} {z:α} (h:(l++[a])[i]? = some z):l[i]? = some z∨(i=l.length∧z=a):=by
 rcases Nat.lt_trichotomy i l.length with h1 | h1 | h1
 · rw[List.getElem?_append_left h1]at h;exact .inl h
 · subst h1;rw[List.getElem?_concat_length]at h;exact .inr ⟨rfl,(Option.some.inj h).symm⟩
 · rw[List.getElem?_eq_none (by simp;omega)]at h;cases h
theorem set_get {α:Type} {l:List α} {j i:Nat} {a z:α} (h:(l.set j a)[i]? = some z):(i=j∧z=a)∨(i≠j∧l[i]? = some z):=by
 by_cases e:i=j
 ·subst e
  have hi:=(List.getElem?_eq_some_iff.1 h).1
  rw[List.length_set]at hi
  rw[List.getElem?_set_self hi]at h
  exact .inl ⟨rfl,(Option.some.inj h).symm⟩
 · rw[List.getElem?_set_ne (fun h=>e h.symm)]at h;exact .inr ⟨e,h⟩
structure Gd (b:Nat) (recs:List Rc) (y:Xc):Prop where
 stk:∃l,Stk b recs y.first y.last l∧(∀z∈l,GoodU z.2)∧320*l.length≤y.bytes∧l.length≤y.pages
 fl:y.first=0↔y.last=0
 fr:y.first≠0→∃R,AtR b recs y.first R
theorem Gd.more {b:Nat} {recs:List Rc} {y:Xc} (h:Gd b recs y) (R:Rc):Gd b (recs++[R]) y:=by
 obtain⟨⟨l,h1,h2⟩,h3,h4⟩:=h
 exact⟨⟨l,h1.more R,h2⟩,h3,fun hn=>by obtain⟨Q,hq⟩:=h4 hn;exact⟨Q,hq.more⟩⟩
structure Sm (σ:CS) (ρ:RS) (X:Nat→Prop):Prop where
 rs:σ.rs=ρ.recs.map rcS
 pl:RPl σ.org ρ
 room:ρ.room=6912-(σ.used:Int)
 fresh:ρ.fresh=σ.fresh
 lives:σ.lives=xLive ρ.xs
 T:σ.T=xSum ρ.xs
 B:∀(i:Nat) (y:Xc),ρ.xs[i]? = some y→σ.B y.num=(y.bytes,y.pages)
 num:∀(i:Nat) (y:Xc),ρ.xs[i]? = some y→1≤y.num∧y.num<ρ.fresh
 uniq:∀(i j:Nat) (y z:Xc),ρ.xs[i]? = some y→ρ.xs[j]? = some z→y.num=z.num→i=j
 zero:∀x,(∀(i:Nat) (y:Xc),ρ.xs[i]? = some y→y.num≠x)→σ.B x=(0,0)
 pgs:∀i,i<6→pgC (σ.M i).1=pgC (ρ.f i)
 pok:∀i,i<6→PgOk (ρ.f i)
 ok:∀R∈ρ.recs,RcOk R
 good:∀(i:Nat) (y:Xc),ρ.xs[i]? = some y→y.over=false→¬X i→Gd σ.org ρ.recs y
 org:54≤σ.org
theorem Sm.fin {σ:CS} {ρ:RS} {X:Nat→Prop} (h:Sm σ ρ X):ρ.fin=(σ.fin:Int):=by
 rw[h.pl.fin];unfold CS.fin;rw[h.rs]
theorem Sm.init (fresh:Int) (hf:1≤fresh):Sm (CS.init fresh) {xs:=[],fresh:=fresh,ats:=[],fin:=54,room:=6912,f:=fun _=>pageZ,recs:=[]} (fun _=>False):=by
 have h0:lenL ([]:List ByteArray)=0:=by rw[lenL]
 refine⟨rfl,⟨?_,rfl⟩,?_,rfl,rfl,rfl,fun i y h=>by simp at h,fun i y h=>by simp at h,fun i j y z h=>by simp at h,fun x _=>rfl,fun i hi=>?_,fun i _=>(by decide:PgOk pageZ),fun R hR=>by simp at hR,fun i y h=>by simp at h,by show 54≤54*1+P0.size;omega⟩
 ·show (54:Int)=((54*1+P0.size+lenL []:Nat):Int)
  rw[h0];rfl
 ·show (6912:Int)=6912-((P0.size+lenL []:Nat):Int)
  rw[h0];rfl
 · rfl
def CS.nm (σ:CS) (recs:List Rc):CS:={σ with recs:=recs}
theorem Sm.nm {σ:CS} {ρ:RS} {X:Nat→Prop} (h:Sm σ ρ X):Sm (σ.nm ρ.recs) ρ X:=by
 have hrs:(σ.nm ρ.recs).rs=σ.rs:=h.rs.symm
 exact⟨rfl,h.pl,by have:=h.room;unfold CS.used at this ⊢;rw[hrs];exact this,h.fresh,h.lives,h.T,h.B,h.num,h.uniq,h.zero,h.pgs,h.pok,h.ok,h.good,h.org⟩
theorem Cx.nm {w0 w:World} {L:List Nat} {c lp p dp pg lb mb n:Nat} {lv:Value} {σ:CS} (h:Cx w0 w L c lp p dp pg lb mb n lv σ) {recs:List Rc} (he:σ.rs=recs.map rcS) (hok:∀R∈recs,RcOk R):Cx w0 w L c lp p dp pg lb mb n lv (σ.nm recs):=by
 have hrs:(σ.nm recs).rs=σ.rs:=he.symm
 refine⟨h.ch,?_,h.hi,h.most,hok,h.cn⟩
 have hf:(σ.nm recs).fin=σ.fin:=by unfold CS.fin;rw[hrs];rfl
 rw[hrs,hf]
 exact h.kx
theorem Sm.wide {σ:CS} {ρ:RS} {X:Nat→Prop} (h:Sm σ ρ (fun _=>False)):Sm σ ρ X:={h with good:=fun i y hi ho _=>h.good i y hi ho (fun hf=>hf)}
theorem Sm.fill {σ:CS} {ρ:RS} {j:Nat} (h:Sm σ ρ (· = j)) {y:Xc} (hy:ρ.xs[j]? = some y) (hg:y.over=false→Gd σ.org ρ.recs y):Sm σ ρ (fun _=>False) :=
 {h with good:=fun i z hi ho _=>(by
  by_cases e:i=j
  ·subst e
   rw[hy]at hi
   injection hi with hi
   subst hi
   exact hg ho
  · exact h.good i z hi ho e)}
theorem Sm.begun {σ:CS} {ρ:RS} (h:Sm σ ρ (fun _=>False)) (hf:1≤σ.fresh):Sm σ.begun ρ.begun (fun _=>False):=by
 have hne:∀(i:Nat) (y:Xc),ρ.xs[i]? = some y→y.num≠σ.fresh:=fun i y hy=>by have:=(h.num i y hy).2;rw[h.fresh]at this;omega
 have hget:∀(i:Nat) (y:Xc),ρ.begun.xs[i]? = some y→ρ.xs[i]? = some y∨(i=ρ.xs.length∧y=⟨ρ.fresh,0,0,128,0,false⟩):=fun i y hy=>snoc_get hy
 refine⟨h.rs,⟨h.pl.fin,h.pl.ats⟩,h.room,by show ρ.fresh+1=σ.fresh+1;rw[h.fresh],?_,?_,fun i y hy=>?_,fun i y hy=>?_,fun i j y z hy hz he=>?_,fun x hx=>?_,h.pgs,h.pok,h.ok,fun i y hy ho _=>?_,h.org⟩
 ·show σ.lives++[(σ.fresh,0,0)]=xLive (ρ.xs++[_])
  rw[xLive_app,←h.lives,←h.fresh];rfl
 ·show (σ.T.1+128,σ.T.2+0)=xSum (ρ.xs++[_])
  rw[xSum_app,←h.T];rfl
 ·rcases hget i y hy with hy | ⟨rfl,rfl⟩
  · rw[←h.B i y hy];exact if_neg (hne i y hy)
  ·have e:σ.begun.B ρ.fresh=((σ.B σ.fresh).1+128,(σ.B σ.fresh).2+0):=by rw[h.fresh];exact if_pos rfl
   show σ.begun.B ρ.fresh=_
   rw[e,h.zero _ hne]
 ·show 1≤y.num∧y.num<ρ.fresh+1
  rcases hget i y hy with hy | ⟨rfl,rfl⟩
  · have:=h.num i y hy;omega
  · have:=h.fresh;show 1≤ρ.fresh∧ρ.fresh<ρ.fresh+1;omega
 ·rcases hget i y hy with hy | ⟨hi,rfl⟩ <;> rcases hget j z hz with hz | ⟨hj,rfl⟩
  · exact h.uniq i j y z hy hz he
  · exact absurd (he.trans h.fresh) (hne i y hy)
  · exact absurd (he.symm.trans h.fresh) (hne j z hz)
  · omega
 ·have hx1:x≠σ.fresh:=fun e=>hx ρ.xs.length ⟨ρ.fresh,0,0,128,0,false⟩ (List.getElem?_concat_length ..) (by rw[e];exact h.fresh)
  have e:σ.begun.B x=σ.B x:=if_neg hx1
  rw[e]
  refine h.zero x (fun i y hy=>hx i y ?_)
  show (ρ.xs++[_])[i]? = _
  rw[List.getElem?_append_left (List.getElem?_eq_some_iff.1 hy).1];exact hy
 ·rcases hget i y hy with hy | ⟨rfl,rfl⟩
  · exact h.good i y hy ho (fun h=>h)
  · exact⟨⟨[],.nil,fun z hz=>by simp at hz,Nat.zero_le _,Nat.zero_le _⟩,Iff.rfl,fun h=>absurd rfl h⟩
theorem put_pgs:∀(l:List (Int×Pg)) (st:Int) {M:Nat→Pg×Int} {f:Nat→Pg},(∀i,i<6→pgC (M i).1=pgC (f i))→∀i,i<6→pgC (putIms M l st i).1=pgC (putF f l i)
 | [],_,_,_,h=>h
 | z::l,st,M,f,h=>put_pgs l st (M:=upd M z.1.toNat (z.2,st)) (f:=fun k=>if k=z.1.toNat then z.2 else f k) (fun i hi=>by
  unfold upd
  by_cases e:i=z.1.toNat
  · rw[if_pos e,if_pos e]
  · rw[if_neg e,if_neg e];exact h i hi)
theorem put_pok:∀(l:List (Int×Pg)) {f:Nat→Pg},(∀z∈l,PgOk z.2)→(∀i,i<6→PgOk (f i))→∀i,i<6→PgOk (putF f l i)
 | [],_,_,h=>h
 | z::l,f,hl,h=>put_pok l (f:=fun k=>if k=z.1.toNat then z.2 else f k) (fun y hy=>hl y (List.mem_cons_of_mem _ hy)) (fun i hi=>by
  by_cases e:i=z.1.toNat
  · rw[if_pos e];exact hl z (List.mem_cons_self ..)
  · rw[if_neg e];exact h i hi)
theorem used_snoc {σ σ':CS} {R:Rc} (hP:σ'.P=σ.P) (hr:σ'.rs=σ.rs++[rcS R]):σ'.used=σ.used+((rcS R).size+2):=by
 unfold CS.used
 rw[hP,hr,lenL_append,lenL_one];omega
theorem Sm.wrote {σ:CS} {ρ:RS} {X:Nat→Prop} (h:Sm σ ρ X) {R:Rc} (hR:RcOk R):Sm (σ.wrote R) (ρ.wrote R) X:=by
 have hrs:(σ.wrote R).rs=σ.rs++[rcS R]:=by unfold CS.rs CS.wrote;rw[List.map_append];rfl
 have hpl:=h.pl.wrote R
 refine⟨by rw[hrs,h.rs];show _=(ρ.recs++[R]).map rcS;rw[List.map_append];rfl,⟨hpl.fin,hpl.ats⟩,?_,h.fresh,h.lives,h.T,h.B,h.num,h.uniq,h.zero,put_pgs R.ims _ h.pgs,put_pok R.ims (fun z hz=>(hR.2.1 z hz).2) h.pok,fun Q hQ=>?_,fun i y hy ho hx=>(h.good i y hy ho hx).more R,h.org⟩
 ·rw[used_snoc (σ:=σ) (σ':=σ.wrote R) rfl hrs]
  have:=h.room
  show ρ.room-_=_
  omega
 ·rcases List.mem_append.1 hQ with hQ | hQ
  · exact h.ok Q hQ
  · rw[List.mem_singleton.1 hQ];exact hR
theorem Sm.setx {σ:CS} {ρ:RS} {X:Nat→Prop} (h:Sm σ ρ X) {j:Nat} {y:Xc} (hy:ρ.xs[j]? = some y) (y':Xc) (hn:y'.num=y.num) (B':Int→Nat×Nat) (hB:B' y.num=(y'.bytes,y'.pages)) (hBo:∀z,z≠y.num→B' z=σ.B z) (T':Nat×Nat) (hT:T'=xSum (ρ.xs.set j y')) (lv':List Lv) (hl:lv'=xLive (ρ.xs.set j y')) (c':Nat) (hg:y'.over=false→¬X j→Gd σ.org ρ.recs y') :
  Sm {σ with lives:=lv',B:=B',T:=T',cnt:=c'} {ρ with xs:=ρ.xs.set j y'} X:=by
 have hj:=(List.getElem?_eq_some_iff.1 hy).1
 refine⟨h.rs,⟨h.pl.fin,h.pl.ats⟩,h.room,h.fresh,hl,hT,fun i z hz=>?_,fun i z hz=>?_,fun a b u v hu hv he=>?_,fun x hx=>?_,h.pgs,h.pok,h.ok,fun i z hz ho hx=>?_,h.org⟩
 ·rcases set_get hz with⟨rfl,rfl⟩ | ⟨hi,hz⟩
  · show B' z.num=_;rw[hn];exact hB
  ·show B' z.num=_
   rw[hBo z.num (fun e=>hi (h.uniq i j z y hz hy e))]
   exact h.B i z hz
 ·rcases set_get hz with⟨rfl,rfl⟩ | ⟨hi,hz⟩
  · rw[hn];exact h.num _ y hy
  · exact h.num i z hz
 ·rcases set_get hu with⟨ea,eu⟩ | ⟨ha,hu2⟩ <;> rcases set_get hv with⟨eb,ev⟩ | ⟨hb,hv2⟩
  · exact ea.trans eb.symm
  · exact absurd (h.uniq _ _ _ _ hv2 hy (by rw[←he,eu,hn])) hb
  · exact absurd (h.uniq _ _ _ _ hu2 hy (by rw[he,ev,hn])) ha
  · exact h.uniq a b u v hu2 hv2 he
 ·have hx1:x≠y.num:=fun e=>hx j y' (List.getElem?_set_self hj) (by rw[hn,e])
  show B' x=_
  rw[hBo x hx1]
  refine h.zero x (fun i z hz=>?_)
  by_cases e:i=j
  · subst e;rw[hy]at hz;injection hz with hz;subst hz;exact fun e=>hx1 e.symm
  · exact hx i z (by show (ρ.xs.set j y')[i]? = _;rw[List.getElem?_set_ne (fun h=>e h.symm)];exact hz)
 ·rcases set_get hz with⟨rfl,rfl⟩ | ⟨hi,hz⟩
  · exact hg ho hx
  · exact h.good i z hz ho hx
theorem Sm.changed {σ:CS} {ρ:RS} (h:Sm σ ρ (fun _=>False)) {j:Nat} {y:Xc} (hy:ρ.xs[j]? = some y) (ho:y.over=false) {x:Int} (hx:y.num=x) {u:Un} {ims:List (Int×Pg)} (hR:RcOk (chgR x y.last u ims)) (hU:GoodU (chgR x y.last u ims)) {q:Nat} (hq:320≤q) :
  Sm (σ.changed x (xPos ρ.xs j) (lvO y) u ims q) (ρ.changed j y (chgR x y.last u ims) q) (fun _=>False):=by
 subst hx
 have hfin:=h.fin
 have hg:=h.good j y hy ho (fun h=>h)
 obtain⟨y2,hy2⟩:∃y2:Xc,y2={y with bytes:=y.bytes+q,pages:=y.pages+1,first:=if y.first=0 then ρ.fin else y.first,last:=ρ.fin}:=⟨_,rfl⟩
 have e:ρ.changed j y (chgR y.num y.last u ims) q={ρ.wrote (chgR y.num y.last u ims) with xs:=ρ.xs.set j y2}:=by
  subst hy2
  unfold RS.changed RS.mined RS.wrote
  simp only[List.set_set]
 rw[e]
 have hw:=h.wrote hR
 have hyw:(ρ.wrote (chgR y.num y.last u ims)).xs[j]? = some y:=hy
 have hs:=xSum_set hy y2
 have hT:=h.T
 have:=hw.setx hyw y2 (by rw[hy2]) (addB σ.B y.num q 1) (by
  show (if y.num=y.num then _ else _)=_
  rw[if_pos rfl,h.B j y hy,hy2]) (fun z hz=>if_neg hz) (σ.T.1+q,σ.T.2+1) (by
  show _=xSum (ρ.xs.set j y2)
  rw[hT]
  have e1:y2.bytes=y.bytes+q:=by rw[hy2]
  have e2:y2.pages=y.pages+1:=by rw[hy2]
  refine Prod.ext ?_ ?_
  · dsimp only;omega
  · dsimp only;omega) (σ.lives.set (xPos ρ.xs j) (setLast (lvO y) (σ.fin:Int))) (by
  show _=xLive (ρ.xs.set j y2)
  rw[xLive_set hy ho y2 (by rw[hy2];exact ho),←h.lives,hy2,hfin];rfl) (σ.cnt+1) (fun _ _=>?_)
 · exact this
 ·obtain⟨⟨l,g1,g2,g3,g4⟩,g5,g6⟩:=hg
  have hlo:=g1.lo
  have hat:AtR σ.org (ρ.recs++[chgR y.num y.last u ims]) ρ.fin (chgR y.num y.last u ims):=by rw[h.pl.fin];exact AtR.last _ _ _
  have hf54:54≤ρ.fin:=by have:=h.pl.fin;have:=h.org;omega
  have hlast:0≤y.last∧y.last<ρ.fin:=by
   have:=h.pl.fin
   have:=h.org
   omega
  show Gd σ.org (ρ.recs++[chgR y.num y.last u ims]) y2
  rw[hy2]
  refine⟨⟨(ρ.fin,chgR y.num y.last u ims)::l,.upd hat ?_ rfl hlast.1 hlast.2 ?_,fun z hz=>?_,?_,?_⟩,?_,fun _=>?_⟩
  ·show (if y.first=0 then ρ.fin else y.first)≤ρ.fin
   by_cases e:y.first=0
   · rw[if_pos e];exact Int.le_refl _
   ·rw[if_neg e]
    obtain⟨Q,hQ⟩:=g6 e
    have:=hQ.lo.2
    have:=h.pl.fin
    omega
  ·show Stk σ.org (ρ.recs++[_]) (if y.first=0 then ρ.fin else y.first) y.last l
   by_cases e:y.first=0
   ·rw[g5.1 e]at g1 ⊢
    rw[g1.zero (by have:=h.org;omega)]
    exact .nil
   · rw[if_neg e];exact g1.more _
  ·rcases List.mem_cons.1 hz with rfl | hz
   · exact hU
   · exact g2 z hz
  · show 320*(l.length+1)≤y.bytes+q;omega
  · show l.length+1≤y.pages+1;omega
  ·show (if y.first=0 then ρ.fin else y.first)=0↔ρ.fin=0
   by_cases e:y.first=0
   · rw[if_pos e]
   ·rw[if_neg e];constructor
    · intro h;exact absurd h e
    · intro h;omega
  ·show ∃R,AtR σ.org (ρ.recs++[_]) (if y.first=0 then ρ.fin else y.first) R
   by_cases e:y.first=0
   · rw[if_pos e];exact⟨_,hat⟩
   ·rw[if_neg e]
    obtain⟨Q,hQ⟩:=g6 e
    exact⟨Q,hQ.more⟩
end Go.Proofs.YtimomjheanfbmaaGreatDoor.G
namespace Go.Proofs.YtimomjheanfbmaaGreatDoor.G
open Go.RowKit
theorem Sm.congr {σ σ2:CS} {ρ:RS} {X:Nat→Prop} (h:Sm σ ρ X) (h1:σ2.bb=σ.bb) (h2:σ2.P=σ.P) (h3:σ2.rs=σ.rs) (h4:σ2.lives=σ.lives) (h5:σ2.fresh=σ.fresh) (h6:σ2.B=σ.B) (h7:σ2.T=σ.T) (h8:∀i,i<6→pgC (σ2.M i).1=pgC (σ.M i).1):Sm σ2 ρ X:=by
 have ho:σ2.org=σ.org:=by unfold CS.org;rw[h1,h2]
 have hu:σ2.used=σ.used:=by unfold CS.used;rw[h2,h3]
 exact⟨by rw[h3];exact h.rs,by rw[ho];exact h.pl,by rw[hu];exact h.room,by rw[h5];exact h.fresh,by rw[h4];exact h.lives,by rw[h7];exact h.T,by rw[h6];exact h.B,h.num,h.uniq,by rw[h6];exact h.zero,fun i hi=>(h8 i hi).trans (h.pgs i hi),h.pok,h.ok,by rw[ho];exact h.good,by rw[ho];exact h.org⟩
theorem clr_same {x last:Int} {R:Rc} {P Q:Pg} (h:pgC P=pgC Q):rcS (clrR x last R P)=rcS (clrR x last R Q) :=
 rcS_congr ⟨rfl,rfl,rfl,rfl,rfl,rfl,rfl,rfl,rfl,rfl,rfl,rfl,by show [imC (R.up,P)]=[imC (R.up,Q)];unfold imC;rw[h],rfl⟩
theorem Sm.undone {σ:CS} {ρ:RS} {j:Nat} {y:Xc} (h:Sm σ ρ (· = j)) (hy:ρ.xs[j]? = some y) (ho:y.over=false) {x:Int} (hx:y.num=x) (hf:y.first≠0) {R:Rc} {P:Pg} (hul:R.ul.toNat<6) (hup:R.up.toNat<6) (hP:pgC P=pgC (setCl (σ.M R.up.toNat).1 R.ul.toNat R.bs R.bd))
  (hok:RcOk (clrR x y.last R (setCl (ρ.f R.up.toNat) R.ul.toNat R.bs R.bd))) (hb:320≤y.bytes) (hp:1≤y.pages):Sm (σ.undone x (xPos ρ.xs j) (lvO y) R P) (ρ.undone x j y R) (· = j):=by
 subst hx
 have hfin:=h.fin
 obtain⟨P',hP'⟩:∃P',setCl (ρ.f R.up.toNat) R.ul.toNat R.bs R.bd=P':=⟨_,rfl⟩
 have hPP:pgC P=pgC P':=by rw[hP,←hP'];exact setCl_congr (h.pgs _ hup) _ hul _ _
 obtain⟨y2,hy2⟩:∃y2:Xc,y2={y with bytes:=y.bytes-320,pages:=y.pages-1,last:=ρ.fin}:=⟨_,rfl⟩
 have e:ρ.undone y.num j y R={ρ.wrote (clrR y.num y.last R P') with xs:=ρ.xs.set j y2}:=by
  subst hy2
  unfold RS.undone RS.mined RS.wrote
  rw[hP']
  simp only[List.set_set,if_neg hf]
 rw[hP']at hok
 rw[e]
 have hw:=h.wrote hok
 have hyw:(ρ.wrote (clrR y.num y.last R P')).xs[j]? = some y:=hy
 have hs:=xSum_set hy y2
 have hT:=h.T
 have hmain:=hw.setx hyw y2 (by rw[hy2]) (subB σ.B y.num 320 1) (by
  show (if y.num=y.num then _ else _)=_
  rw[if_pos rfl,h.B j y hy,hy2]) (fun z hz=>if_neg hz) (σ.T.1-320,σ.T.2-1) (by
  show _=xSum (ρ.xs.set j y2)
  rw[hT]
  have e1:y2.bytes=y.bytes-320:=by rw[hy2]
  have e2:y2.pages=y.pages-1:=by rw[hy2]
  refine Prod.ext ?_ ?_
  · dsimp only;omega
  · dsimp only;omega) (σ.lives.set (xPos ρ.xs j) (y.num,y.first,(σ.fin:Int))) (by
  show _=xLive (ρ.xs.set j y2)
  rw[xLive_set hy ho y2 (by rw[hy2];exact ho),←h.lives,hy2,←hfin];rfl) (σ.cnt+1) (fun _ hx=>absurd rfl hx)
 refine hmain.congr rfl rfl ?_ rfl rfl rfl rfl (fun i hi=>?_)
 ·show (σ.recs++[clrR y.num y.last R P]).map rcS=(σ.recs++[clrR y.num y.last R P']).map rcS
  rw[List.map_append,List.map_append,List.map_singleton,List.map_singleton,clr_same hPP]
 ·show pgC (putIms σ.M [(R.up,P)] (σ.fin:Int) i).1=pgC (putIms σ.M [(R.up,P')] (σ.fin:Int) i).1
  show pgC (upd σ.M R.up.toNat (P,(σ.fin:Int)) i).1=pgC (upd σ.M R.up.toNat (P',(σ.fin:Int)) i).1
  unfold upd
  by_cases e:i=R.up.toNat
  · rw[if_pos e,if_pos e];exact hPP
  · rw[if_neg e,if_neg e]
theorem RUnd.inv {x:Int} {j:Nat} {ρ ρ':RS} {l:List (Int×Rc)} {t:Int} {R:Rc} (h:RUnd x j ρ (l++[(t,R)]) ρ'):∃(ρ1:RS) (y:Xc),RUnd x j ρ l ρ1∧ρ1.xs[j]? = some y∧ρ'=ρ1.undone x j y R:=by
 generalize e:l++[(t,R)]=d at h
 cases h with
 | nil=>simp at e
 | snoc h1 h2 =>
  obtain⟨rfl,e2⟩:=List.append_inj' e rfl
  simp only[List.cons.injEq,Prod.mk.injEq,and_true]at e2
  obtain⟨rfl,rfl⟩:=e2
  exact⟨_,_,h1,h2,rfl⟩
structure Mid (σ:CS) (ρ:RS) (x:Int) (j:Nat) (y:Xc) (rest:List (Int×Rc)):Prop where
 sm:Sm σ ρ (· = j)
 at_:ρ.xs[j]? = some y
 ov:y.over=false
 nm:y.num=x
 fl:y.first=0↔y.last=0
 fr:y.first≠0→∃R,AtR σ.org ρ.recs y.first R
 stk:Stk σ.org ρ.recs y.first y.last rest
 bk:320*rest.length≤y.bytes∧rest.length≤y.pages
theorem Mid.of {σ:CS} {ρ:RS} (h:Sm σ ρ (fun _=>False)) {x:Int} {j:Nat} {y:Xc} (hy:ρ.xs[j]? = some y) (ho:y.over=false) (hx:y.num=x):∃l,Mid σ ρ x j y l∧∀z∈l,GoodU z.2:=by
 obtain⟨⟨l,g1,g2,g3,g4⟩,g5,g6⟩:=h.good j y hy ho (fun h=>h)
 exact⟨l,⟨h.wide,hy,ho,hx,g5,g6,g1,g3,g4⟩,g2⟩
theorem Mid.done {σ:CS} {ρ:RS} {x:Int} {j:Nat} {y:Xc} {rest:List (Int×Rc)} (h:Mid σ ρ x j y rest) (hg:∀z∈rest,GoodU z.2):Sm σ ρ (fun _=>False) :=
 h.sm.fill h.at_ (fun _=>⟨⟨rest,h.stk,hg,h.bk.1,h.bk.2⟩,h.fl,h.fr⟩)
set_option maxRecDepth 100000 in
theorem sm_und {x:Int} {i:Nat} {σ σ':CS} {d:List (Int×Rc)} (hu:Und x i σ d σ'):∀{ρ ρ':RS} {j:Nat} {y:Xc} {rest:List (Int×Rc)},RUnd x j ρ d ρ'→i=xPos ρ.xs j→(0≤x∧x≤2147483647)→Mid σ ρ x j y (d++rest)→(∀z∈d,GoodU z.2)→σ.fin+267*d.length≤10000000000 →
  ∃y',Mid σ' ρ' x j y' rest∧σ'.fin=σ.fin+267*d.length∧i=xPos ρ'.xs j∧σ'.bb=σ.bb∧σ'.P=σ.P:=by
 induction hu with
 | nil =>
  intro ρ ρ' j y rest hr hi hx hm hg hf
  have:ρ'=ρ:=by
   generalize e:([]:List (Int×Rc))=d at hr
   cases hr with
   | nil=>rfl
   | snoc h1 h2=>simp at e
  subst this
  exact⟨y,hm,by simp,hi,rfl,rfl⟩
 | @snoc σ1 l t R s P h1 h2 h3 h4 ih =>
  intro ρ ρ' j y rest hr hi hx hm hg hf
  obtain⟨ρ1,y1,r1,r2,rfl⟩:=hr.inv
  rw[List.append_assoc,List.singleton_append]at hm
  rw[List.length_append,List.length_singleton]at hf
  obtain⟨y1',hm1,hf1,hi1,hbb,hPp⟩:=ih r1 hi hx hm (fun z hz=>hg z (by simp[hz])) (by omega)
  have hy1:=hm1.at_
  rw[r2]at hy1
  injection hy1 with hy1
  subst hy1
  have hs:s=lvO y1:=by
   have e:=h2
   rw[hm1.sm.lives,hi1,xLive_at r2 hm1.ov]at e
   exact(Option.some.inj e).symm
  subst hs
  obtain⟨k1,k2,k3,k4,k5,k6⟩:=hm1.stk.head rfl
  have hb54:=hm1.sm.org
  have hlo:=k1.lo
  have hstk:=hm1.stk.lo
  have hfin:=hm1.sm.fin
  have hplf:=hm1.sm.pl.fin
  have hfne:y1.first≠0:=fun e=>by have:=hm1.fl.1 e;omega
  obtain⟨g1,⟨g2,g3⟩,⟨g4,g5⟩,g6⟩:=hg (t,R) (by simp)
  dsimp only at g1 g2 g3 g4 g5 g6
  have hbk:=hm1.bk
  rw[List.length_cons]at hbk
  have hok:RcOk (clrR x y1.last R (setCl (ρ1.f R.up.toNat) R.ul.toNat R.bs R.bd)) :=
   clr_ok hx ⟨by omega,by omega⟩ ⟨k3,by omega⟩ ⟨g2,g3⟩ (setCl_ok (hm1.sm.pok _ (by omega)) g6)
  have hsm:=hm1.sm.undone r2 hm1.ov hm1.nm hfne (P:=P) (by omega) (by omega) h4 hok (by omega) (by omega)
  rw[←hi1]at hsm
  have hj:=(List.getElem?_eq_some_iff.1 r2).1
  have hsz:=clr_size hok
  have horg:(σ1.undone x i (lvO y1) R P).org=σ1.org:=rfl
  have hrec:(ρ1.undone x j y1 R).recs=ρ1.recs++[clrR x y1.last R (setCl (ρ1.f R.up.toNat) R.ul.toNat R.bs R.bd)]:=rfl
  have hat:AtR σ1.org (ρ1.recs++[clrR x y1.last R (setCl (ρ1.f R.up.toNat) R.ul.toNat R.bs R.bd)]) ρ1.fin (clrR x y1.last R (setCl (ρ1.f R.up.toNat) R.ul.toNat R.bs R.bd)):=by rw[hplf];exact AtR.last _ _ _
  have hxs:(ρ1.undone x j y1 R).xs=ρ1.xs.set j {y1 with bytes:=y1.bytes-320,pages:=y1.pages-1,last:=ρ1.fin}:=by
   show (ρ1.xs.set j _).set j _=_
   rw[List.set_set,if_neg hfne]
  have hfr:=hm1.fr hfne
  refine⟨{y1 with bytes:=y1.bytes-320,pages:=y1.pages-1,last:=ρ1.fin},⟨hsm,by rw[hxs,List.getElem?_set_self hj],hm1.ov,hm1.nm,⟨fun e=>absurd e hfne,fun e=>?_⟩,fun _=>?_,?_,?_,?_⟩,?_,?_,hbb,hPp⟩
  ·have e':ρ1.fin=0:=e
   omega
  ·obtain⟨Q,hQ⟩:=hfr
   exact⟨Q,by rw[horg,hrec];exact hQ.more⟩
  ·rw[horg,hrec]
   refine .clr hat ?_ rfl k3 (by show R.prev<ρ1.fin;omega) (k6.more _)
   obtain⟨Q,hQ⟩:=hfr
   have:=hQ.lo.2
   show y1.first≤ρ1.fin
   omega
  · show _≤y1.bytes-320;omega
  · show _≤y1.pages-1;omega
  ·have h7:=hsm.fin
   have h8:(ρ1.undone x j y1 R).fin=ρ1.fin+((rcS (clrR x y1.last R (setCl (ρ1.f R.up.toNat) R.ul.toNat R.bs R.bd))).size+2):=rfl
   rw[hsz]at h8
   rw[List.length_append,List.length_singleton]
   omega
  · rw[hxs,xPos_set r2];exact hi1
theorem Sm.ended {σ:CS} {ρ:RS} (h:Sm σ ρ (fun _=>False)) {j:Nat} {y:Xc} (hy:ρ.xs[j]? = some y) (ho:y.over=false) {x:Int} {kind:Int} (hok:RcOk (finR kind x y.last)):Sm ((σ.last kind x (lvO y)).ended (xPos ρ.xs j)) (ρ.finished kind x j y) (fun _=>False):=by
 have hs:=xSum_set hy {y with over:=true}
 by_cases e:y.first=0
 ·have e1:σ.last kind x (lvO y)=σ:=by unfold CS.last;exact if_pos e
  have e2:ρ.finished kind x j y=ρ.ovr j y:=by unfold RS.finished;exact if_pos e
  rw[e1,e2]
  exact h.setx hy {y with over:=true} rfl σ.B (h.B j y hy) (fun z _=>rfl) σ.T (by
   rw[h.T];exact Prod.ext (by have:=hs.1;dsimp only at this ⊢;omega) (by have:=hs.2;dsimp only at this ⊢;omega)) (σ.lives.eraseIdx (xPos ρ.xs j)) (by rw[xLive_end hy ho _ rfl,h.lives]) σ.cnt (fun h=>by cases h)
 ·have e1:σ.last kind x (lvO y)=σ.wrote (finR kind x y.last):=by unfold CS.last;exact if_neg e
  have e2:ρ.finished kind x j y=(ρ.wrote (finR kind x y.last)).ovr j y:=by unfold RS.finished;exact if_neg e
  rw[e1,e2]
  have hw:=h.wrote hok
  exact hw.setx (show (ρ.wrote (finR kind x y.last)).xs[j]? = some y from hy) {y with over:=true} rfl σ.B (h.B j y hy) (fun z _=>rfl) σ.T (by
   show σ.T=xSum (ρ.xs.set j _)
   rw[h.T];exact Prod.ext (by have:=hs.1;dsimp only at this ⊢;omega) (by have:=hs.2;dsimp only at this ⊢;omega)) (σ.lives.eraseIdx (xPos ρ.xs j)) (by show _=xLive (ρ.xs.set j _);rw[xLive_end hy ho _ rfl,h.lives]) σ.cnt (fun h=>by cases h)
theorem Sm.freed_no {σ:CS} {ρ:RS} (h:Sm σ ρ (fun _=>False)) {x:Int} (hx:(∃s∈σ.lives,s.1=x)∨x=0):ρ.freed x=ρ:=by
 have key:∀(i:Nat) (y:Xc),ρ.xs[i]? = some y→freeX x y=y:=fun i y hy=>by
  unfold freeX
  refine if_neg (fun hc=>?_)
  rcases hx with⟨s,hs,hsx⟩ | rfl
  ·rw[h.lives]at hs
   obtain⟨a,z,ha,hz,rfl⟩:=xLive_mem hs
   have hij:=h.uniq i a y z hy ha (hc.1.trans hsx.symm)
   subst hij
   rw[hy]at ha
   injection ha with ha
   subst ha
   rw[hc.2]at hz
   cases hz
  · have:=(h.num i y hy).1;omega
 unfold RS.freed
 have:ρ.xs.map (freeX x)=ρ.xs:=by
  apply List.ext_getElem?
  intro i
  rw[List.getElem?_map]
  cases hi:ρ.xs[i]? with
  | none=>rfl
  | some y=>rw[Option.map_some,key i y hi]
 rw[this]
theorem Sm.freed {σ:CS} {ρ:RS} (h:Sm σ ρ (fun _=>False)) {x:Int} (hx:∀s∈σ.lives,s.1≠x):Sm {σ with B:=delB σ.B x,T:=(σ.T.1-(σ.B x).1,σ.T.2-(σ.B x).2)} (ρ.freed x) (fun _=>False):=by
 by_cases hex:∃(j:Nat) (y:Xc),ρ.xs[j]? = some y∧y.num=x
 ·obtain⟨j,y,hy,rfl⟩:=hex
  have hov:y.over=true:=by
   cases ho:y.over with
   | true=>rfl
   | false=>exact absurd rfl (hx (lvO y) (by rw[h.lives];exact List.mem_of_getElem? (xLive_at hy ho)))
  have hj:=(List.getElem?_eq_some_iff.1 hy).1
  have hfx:freeX y.num y={y with bytes:=0,pages:=0}:=by unfold freeX;rw[if_pos ⟨rfl,hov⟩]
  have e:ρ.freed y.num={ρ with xs:=ρ.xs.set j {y with bytes:=0,pages:=0}}:=by
   unfold RS.freed
   congr 1
   apply List.ext_getElem?
   intro i
   rw[List.getElem?_map]
   by_cases ei:i=j
   ·subst ei
    rw[hy,List.getElem?_set_self hj,Option.map_some,hfx]
   ·rw[List.getElem?_set_ne (fun h=>ei h.symm)]
    cases hi:ρ.xs[i]? with
    | none=>rfl
    | some z =>
     rw[Option.map_some]
     unfold freeX
     rw[if_neg (fun hc=>ei (h.uniq i j z y hi hy hc.1))]
  have hs:=xSum_set hy {y with bytes:=0,pages:=0}
  have hlive:xLive (ρ.xs.set j {y with bytes:=0,pages:=0})=xLive ρ.xs:=by
   rw[set_split hy,xLive_app,xLive_cons]
   have:=congrArg xLive (list_split hy)
   rw[xLive_app,xLive_cons]at this
   rw[this]
   dsimp only
   rw[hov]
   rfl
  rw[e]
  exact h.setx hy {y with bytes:=0,pages:=0} rfl (delB σ.B y.num) (if_pos rfl) (fun z hz=>if_neg hz) _ (by
   rw[h.B j y hy,h.T]
   refine Prod.ext ?_ ?_
   · have:=hs.1;dsimp only at this ⊢;omega
   · have:=hs.2;dsimp only at this ⊢;omega) σ.lives (by rw[hlive];exact h.lives) σ.cnt (fun ho=>by rw[show ({y with bytes:=0,pages:=0}:Xc).over=y.over from rfl,hov]at ho;cases ho)
 ·have hno:∀(i:Nat) (y:Xc),ρ.xs[i]? = some y→y.num≠x:=fun i y hy e=>hex ⟨i,y,hy,e⟩
  have e:ρ.freed x=ρ:=by
   unfold RS.freed
   have:ρ.xs.map (freeX x)=ρ.xs:=by
    apply List.ext_getElem?
    intro i
    rw[List.getElem?_map]
    cases hi:ρ.xs[i]? with
    | none=>rfl
    | some y =>
     rw[Option.map_some]
     unfold freeX
     rw[if_neg (fun hc=>hno i y hi hc.1)]
   rw[this]
  have hz:=h.zero x hno
  have hd:delB σ.B x=σ.B:=by
   funext z
   unfold delB
   by_cases ez:z=x
   · rw[if_pos ez,ez,hz]
   · rw[if_neg ez]
  rw[e,hd,hz]
  exact h.congr rfl rfl rfl rfl rfl rfl (by rw[Nat.sub_zero,Nat.sub_zero]) (fun i _=>rfl)
def RS.cut (ρ:RS) (k:Nat) (room:Int):RS:={ρ with ats:=ρ.ats.drop k,recs:=ρ.recs.drop k,room:=room}
theorem placeL_drop (b:Nat) (recs:List Rc) (k:Nat):(placeL b recs).drop k=placeL (b+lenL ((recs.map rcS).take k)) (recs.drop k):=by
 apply List.ext_getElem?
 intro i
 rw[List.getElem?_drop]
 rcases Nat.lt_or_ge (k+i) recs.length with hi | hi
 ·rw[placeL_get b recs hi,placeL_get _ _ (by rw[List.length_drop];omega)]
  have e:lenL ((recs.map rcS).take (k+i))=lenL ((recs.map rcS).take k)+lenL (((recs.drop k).map rcS).take i):=by
   rw[List.map_drop,←lenL_append]
   congr 1
   rw[List.take_add]
  rw[e,Nat.add_assoc]
 · rw[List.getElem?_eq_none (by rw[placeL_length];exact hi),List.getElem?_eq_none (by rw[placeL_length,List.length_drop];omega)]
theorem Sm.cut {σ:CS} {ρ:RS} (h:Sm σ ρ (fun _=>False)) (hr:σ.recs=ρ.recs) {k:Nat} (hk:k≤σ.recs.length) (hlo:∀(i:Nat) (y:Xc),ρ.xs[i]? = some y→y.over=false→y.first≠0→((σ.org+lenL (σ.rs.take k):Nat):Int)≤y.first) :
  Sm (σ.cut k) (ρ.cut k (6912-((σ.cut k).used:Int))) (fun _=>False):=by
 obtain⟨h1,h2⟩:=σ.cut_fin hk
 have hrs:σ.rs=ρ.recs.map rcS:=h.rs
 rw[hrs]at h2 hlo
 refine⟨?_,⟨?_,?_⟩,rfl,h.fresh,h.lives,h.T,h.B,h.num,h.uniq,h.zero,h.pgs,h.pok,fun R hR=>h.ok R (List.mem_of_mem_drop hR),fun i y hy ho hx=>?_,by rw[h2];have:=h.org;omega⟩
 ·show (σ.recs.drop k).map rcS=(ρ.recs.drop k).map rcS
  rw[hr]
 ·show ρ.fin=_
  rw[h.fin,←h1]
  unfold CS.fin
  show (((σ.cut k).org+lenL ((σ.recs.drop k).map rcS):Nat):Int)=(((σ.cut k).org+lenL ((ρ.recs.drop k).map rcS):Nat):Int)
  rw[hr]
 ·show ρ.ats.drop k=_
  rw[h.pl.ats,placeL_drop,h2];rfl
 ·obtain⟨⟨l,g1,g2,g3⟩,g4,g5⟩:=h.good i y hy ho hx
  rw[h2]
  by_cases e:y.first=0
  ·refine⟨⟨[],?_,fun z hz=>by simp at hz,Nat.zero_le _,Nat.zero_le _⟩,g4,fun hn=>absurd e hn⟩
   rw[g4.1 e];exact .nil
  ·have hle:=hlo i y hy ho e
   refine⟨⟨l,g1.drop hle,g2,g3⟩,g4,fun hn=>?_⟩
   obtain⟨R,hR⟩:=g5 hn
   exact⟨R,hR.drop hle⟩
def wantF (fin:Int) (l:List Lv):Int×Bool:=l.foldl (fun a s=>if s.2.1≠0 then (min a.1 s.2.1,true) else a) (fin,false)
theorem wantF_next {fin:Int} {l:List Lv} {i:Nat} {s:Lv} (h:l[i]? = some s):wantF fin (l.take (i+1))=if s.2.1≠0 then (min (wantF fin (l.take i)).1 s.2.1,true) else wantF fin (l.take i):=by
 unfold wantF
 rw[List.take_add_one,h,List.foldl_append];rfl
theorem old_want:∀(l:List Lv) (a b:Int×Bool),a.2=b.2→(a.2=true→a.1=b.1)→(a.2=false→∀s∈l,s.2.1≠0→s.2.1≤b.1) →
  (l.foldl (fun a s=>if s.2.1≠0∧(a.2=false∨s.2.1<a.1) then (s.2.1,true) else a) a).2=(l.foldl (fun a s=>if s.2.1≠0 then (min a.1 s.2.1,true) else a) b).2 ∧
  ((l.foldl (fun a s=>if s.2.1≠0∧(a.2=false∨s.2.1<a.1) then (s.2.1,true) else a) a).2=true→(l.foldl (fun a s=>if s.2.1≠0∧(a.2=false∨s.2.1<a.1) then (s.2.1,true) else a) a).1=(l.foldl (fun a s=>if s.2.1≠0 then (min a.1 s.2.1,true) else a) b).1)
 | [],a,b,h1,h2,_=>⟨h1,h2⟩
 | s::l,a,b,h1,h2,h3=>by
  simp only[List.foldl_cons]
  by_cases hs:s.2.1=0
  ·rw[if_neg (fun h=>h.1 hs),if_neg (fun h=>h hs)]
   exact old_want l a b h1 h2 (fun ha t ht=>h3 ha t (List.mem_cons_of_mem _ ht))
  ·rw[if_pos (show s.2.1≠0 from hs)]
   cases ha:a.2 with
   | false =>
    rw[if_pos ⟨hs,.inl rfl⟩]
    have hle:=h3 ha s (List.mem_cons_self ..) hs
    refine old_want l _ _ rfl (fun _=>?_) (fun h=>by cases h)
    show s.2.1=min b.1 s.2.1
    omega
   | true =>
    have e:=h2 ha
    by_cases hlt:s.2.1<a.1
    ·rw[if_pos ⟨hs,.inr hlt⟩]
     refine old_want l _ _ rfl (fun _=>?_) (fun h=>by cases h)
     show s.2.1=min b.1 s.2.1
     omega
    ·rw[if_neg (fun h=>h.2.elim (fun h=>Bool.noConfusion h) (fun h=>hlt h))]
     refine old_want l _ _ ha (fun _=>?_) (fun h=>by rw[ha]at h;cases h)
     show a.1=min b.1 s.2.1
     omega
theorem oldF_want (fin:Int) (l:List Lv) (h:∀s∈l,s.2.1≤fin):(oldF l).2=(wantF fin l).2∧((oldF l).2=true→(oldF l).1=(wantF fin l).1) :=
 old_want l (0,false) (fin,false) rfl (fun h=>by cases h) (fun _ s hs _=>h s hs)
theorem want_spec:∀(l:List Lv) (b:Int×Bool),
  ((l.foldl (fun a s=>if s.2.1≠0 then (min a.1 s.2.1,true) else a) b).1=b.1∨∃s∈l,s.2.1≠0∧(l.foldl (fun a s=>if s.2.1≠0 then (min a.1 s.2.1,true) else a) b).1=s.2.1) ∧
  (∀s∈l,s.2.1≠0→(l.foldl (fun a s=>if s.2.1≠0 then (min a.1 s.2.1,true) else a) b).1≤s.2.1)∧(l.foldl (fun a s=>if s.2.1≠0 then (min a.1 s.2.1,true) else a) b).1≤b.1 ∧
  ((l.foldl (fun a s=>if s.2.1≠0 then (min a.1 s.2.1,true) else a) b).2=false→b.2=false∧∀s∈l,s.2.1=0)
 | [],b=>⟨.inl rfl,(fun s hs=>by cases hs),Int.le_refl _,fun h=>⟨h,(fun s hs=>by cases hs)⟩⟩
 | s::l,b=>by
  simp only[List.foldl_cons]
  by_cases hs:s.2.1=0
  ·rw[if_neg (fun h=>h hs)]
   obtain⟨h1,h2,h3,h4⟩:=want_spec l b
   refine⟨h1.imp (fun h=>h) (fun ⟨t,ht,h⟩=>⟨t,List.mem_cons_of_mem _ ht,h⟩),fun t ht hn=>?_,h3,fun h=>⟨(h4 h).1,fun t ht=>?_⟩⟩
   ·rcases List.mem_cons.1 ht with rfl | ht
    · exact absurd hs hn
    · exact h2 t ht hn
   ·rcases List.mem_cons.1 ht with rfl | ht
    · exact hs
    · exact(h4 h).2 t ht
  ·rw[if_pos (show s.2.1≠0 from hs)]
   obtain⟨h1,h2,h3,h4⟩:=want_spec l (min b.1 s.2.1,true)
   dsimp only at h1 h3
   refine⟨?_,fun t ht hn=>?_,by omega,fun h=>by have:=(h4 h).1;cases this⟩
   ·rcases h1 with h | ⟨t,ht,h⟩
    ·by_cases hb:b.1≤s.2.1
     · left;rw[h];omega
     · right;exact⟨s,List.mem_cons_self ..,hs,by rw[h];omega⟩
    · exact .inr ⟨t,List.mem_cons_of_mem _ ht,h⟩
   ·rcases List.mem_cons.1 ht with rfl | ht
    · omega
    · exact h2 t ht hn
end Go.Proofs.YtimomjheanfbmaaGreatDoor.G
