import Derived.Test.YtimomjheanfbmaaGreatDoorQaa
import Derived.Test.YtimomjheanfbmaaGreatDoorRbe
set_option linter.unusedSimpArgs false
set_option linter.unusedVariables false
namespace Go.Proofs.YtimomjheanfbmaaGreatDoor.G
open Go.RowKit
section
variable {w0 w w':World} {L:List Nat} {c lp p dp pg lb mb n:Nat} {lv:Value} {σ:CS}
set_option maxRecDepth 100000 in
theorem cx_back_none (h:Cx w0 w L c lp p dp pg lb mb n lv σ) (x tu:Int) (hx:∀s∈σ.lives,s.1≠x) (kv:Value) :
  Calls Tryz.prog 13 #[.pointer (some ⟨c,0,none⟩),.int .i64 x,.int .i64 tu,kv] w fun e w'=>e = .returned (.int .i64 191)∧Below w.heap.size w w':=by
 have HFi:=Hd (ch_find h.ch x)
 clear h
 go_enter Tryz.func13,Tryz.ntmps13
 go_wp2_with fail
 refine(HFi.out).mono ?_
 rintro e w1 ⟨hr,hb1⟩
 obtain rfl:e = .returned (.int .i64 (-1)):=by
  rcases hr with⟨j,s',e1,e2,e3,he⟩ | ⟨_,he⟩
  · exact absurd e2 (hx s' (List.mem_of_getElem? e1))
  · exact he
 have HB:=Hd hb1
 clear hr hb1 HFi hx
 go_wp2_with fail
 go_ret
 exact⟨rfl,HB.out⟩
set_option maxRecDepth 100000 in
theorem cx_end_none (h:Cx w0 w L c lp p dp pg lb mb n lv σ) (x kind:Int) (hx:∀s∈σ.lives,s.1≠x) :
  Calls Tryz.prog 88 #[.pointer (some ⟨c,0,none⟩),.int .i64 x,.int .i64 kind] w fun e w'=>e = .returned (.int .i64 191)∧Below w.heap.size w w':=by
 have HFi:=Hd (ch_find h.ch x)
 clear h
 go_enter Tryz.func88,Tryz.ntmps88
 go_wp2_with fail
 refine(HFi.out).mono ?_
 rintro e w1 ⟨hr,hb1⟩
 obtain rfl:e = .returned (.int .i64 (-1)):=by
  rcases hr with⟨j,s',e1,e2,e3,he⟩ | ⟨_,he⟩
  · exact absurd e2 (hx s' (List.mem_of_getElem? e1))
  · exact he
 have HB:=Hd hb1
 clear hr hb1 HFi hx
 go_wp2_with fail
 go_ret
 exact⟨rfl,HB.out⟩
set_option maxRecDepth 100000 in
theorem cx_commit_none (h:Cx w0 w L c lp p dp pg lb mb n lv σ) (x:Int) (hx:∀s∈σ.lives,s.1≠x) :
  Calls Tryz.prog 35 #[.pointer (some ⟨c,0,none⟩),.int .i64 x] w fun e w'=>e = .returned (.int .i64 191)∧Below w.heap.size w w':=by
 have HE:=Hd (cx_end_none h x 3 hx)
 clear h hx
 go_enter Tryz.func35,Tryz.ntmps35
 go_wp2_with fail
 refine(HE.out).mono ?_
 rintro e w1 ⟨rfl,hb1⟩
 have HB:=Hd hb1
 clear hb1 HE
 go_wp2_with fail
 go_ret
 exact⟨rfl,HB.out⟩
set_option maxRecDepth 100000 in
theorem cx_abort_none (h:Cx w0 w L c lp p dp pg lb mb n lv σ) (x:Int) (hx:∀s∈σ.lives,s.1≠x) :
  Calls Tryz.prog 36 #[.pointer (some ⟨c,0,none⟩),.int .i64 x,kitV p] w fun e w'=>e = .returned (.int .i64 191)∧Below w.heap.size w w':=by
 have HE:=Hd (cx_back_none h x 0 hx (kitV p))
 clear h hx
 unfold kitV at HE ⊢
 go_enter Tryz.func36,Tryz.ntmps36
 go_wp2_with fail
 refine(HE.out).mono ?_
 rintro e w1 ⟨rfl,hb1⟩
 have HB:=Hd hb1
 clear hb1 HE
 go_wp2_with fail
 go_ret
 exact⟨rfl,HB.out⟩
end
theorem parts_same {bd:Int}:∀{a a' b b':List (Int×Rc)},a++b=a'++b'→(∀z∈a,bd<z.1)→(∀z∈a',bd<z.1)→(∀z∈b,z.1≤bd)→(∀z∈b',z.1≤bd)→a=a'∧b=b'
 | [],[],b,b',h,_,_,_,_=>⟨rfl,h⟩
 | [],z::a',b,b',h,_,h2,h3,_=>by
  have e:b=z::(a'++b'):=h
  have:=h3 z (by rw[e];exact List.mem_cons_self ..)
  have:=h2 z (List.mem_cons_self ..)
  omega
 | z::a,[],b,b',h,h1,_,_,h4=>by
  have e:z::(a++b)=b':=h
  have:=h4 z (by rw[←e];exact List.mem_cons_self ..)
  have:=h1 z (List.mem_cons_self ..)
  omega
 | z::a,z'::a',b,b',h,h1,h2,h3,h4=>by
  simp only[List.cons_append,List.cons.injEq]at h
  obtain⟨e1,e2⟩:=parts_same h.2 (fun y hy=>h1 y (List.mem_cons_of_mem _ hy)) (fun y hy=>h2 y (List.mem_cons_of_mem _ hy)) h3 h4
  exact⟨by rw[h.1,e1],e2⟩
theorem und_T {x:Int} {i:Nat} {σ σ':CS} {d:List (Int×Rc)} (h:Und x i σ d σ'):σ'.T.1≤σ.T.1∧σ'.T.2≤σ.T.2∧σ'.fresh=σ.fresh:=by
 induction h with
 | nil=>exact⟨Nat.le_refl _,Nat.le_refl _,rfl⟩
 | @snoc σ1 l t R s P h1 h2 h3 h4 ih =>
  obtain⟨a,b,c⟩:=ih
  exact⟨by show σ1.T.1-320≤_;omega,by show σ1.T.2-1≤_;omega,c⟩
structure Gone (k:Nat) (σ:CS) (ρ:RS) (x:Int) (j:Nat) (y:Xc) (l:List (Int×Rc)):Prop where
 ok:Ok k σ ρ
 find:xFind ρ.xs x=some j
 mid:Mid σ ρ x j y l
 good:∀z∈l,GoodU z.2
theorem Gone.of {k:Nat} {σ:CS} {ρ:RS} (h:Ok k σ ρ) {x:Int} {j:Nat} (hf:xFind ρ.xs x=some j):∃y l,Gone k σ ρ x j y l:=by
 obtain⟨y,hy,hn,ho,-,-⟩:=find_pos hf
 obtain⟨l,hm,hg⟩:=Mid.of h.2.1 hy ho hn
 exact⟨y,l,h,hf,hm,hg⟩
section
variable {k:Nat} {σ:CS} {ρ:RS} {x:Int} {j:Nat} {y:Xc} {l:List (Int×Rc)}
theorem Gone.nums (h:Gone k σ ρ x j y l):(1≤x∧x≤2147483647)∧l.length≤21∧(0≤y.last∧y.last≤100000000)∧y.bytes≤6912∧y.pages≤250:=by
 obtain⟨hr,hs,hb⟩:=h.ok
 have h1:=hs.num j y h.mid.at_
 have h2:=h.mid.nm
 have h3:=hs.fresh
 have h4:=hb.fr
 have h5:=hb.kk
 have h6:=h.mid.bk
 have h7:=xSum_at h.mid.at_
 rw[←hs.T]at h7
 have h8:=hb.T1
 have h9:=hb.T2
 have h10:=h.mid.stk.lo
 have h11:=hs.pl.fin
 have h12:=hs.fin
 have h13:=hb.fin
 refine⟨⟨by omega,by omega⟩,by omega,⟨by omega,by omega⟩,by omega,by omega⟩
theorem Gone.rbk (h:Gone k σ ρ x j y l) (bd:Int) (hroom:ρ.recs.length≤2304):RBk x j σ.org bd y.first l ρ ρ y.last l:=by
 obtain⟨hr,hs,hb⟩:=h.ok
 obtain⟨n1,n2,n3,n4,n5⟩:=h.nums
 have h12:=hs.fin
 have h13:=hb.fin
 have h5:=hb.kk
 refine⟨⟨[],.nil ρ,rfl,fun z hz=>by simp at hz,by simp⟩,hs.pl,h.mid.stk,h.good,⟨y,h.mid.at_,h.mid.bk.1,h.mid.bk.2,n3.1,by omega,by omega,by omega⟩,rfl,hs.pok,by omega,by omega⟩
theorem Gone.live (h:Gone k σ ρ x j y l):σ.lives[xPos ρ.xs j]? = some (lvO y)∧(lvO y).1=x∧∀(i:Nat) (s:Lv),i<xPos ρ.xs j→σ.lives[i]? = some s→s.1≠x:=by
 obtain⟨y',hy,hn,ho,hl,hmin⟩:=find_pos h.find
 rw[h.mid.at_]at hy
 injection hy with hy
 subst hy
 rw[h.ok.2.1.lives]
 exact⟨hl,hn,hmin⟩
theorem Gone.back (h:Gone k σ ρ x j y l) {done rest:List (Int×Rc)} (hl:l=done++rest) {σ':CS} {ρ':RS} (hu:Und x (xPos ρ.xs j) σ done σ') (hr:RUnd x j ρ done ρ') (hk1:k+1≤250) (huse:σ'.used≤6912) (hcnt:σ'.cnt≤σ.cnt+1000) :
  ∃y',Mid σ' ρ' x j y' rest∧xPos ρ'.xs j=xPos ρ.xs j∧Sm σ' ρ' (fun _=>False)∧Ok (k+1) (σ'.nm ρ'.recs) ρ':=by
 subst hl
 obtain⟨hrr,hs,hb⟩:=h.ok
 obtain⟨n1,n2,n3,n4,n5⟩:=h.nums
 have hfin:=hb.fin
 have hkk:=hb.kk
 rw[List.length_append]at n2
 obtain⟨y',hm,hf,hi,hbb,hP⟩:=sm_und hu hr rfl ⟨by omega,n1.2⟩ h.mid (fun z hz=>h.good z (List.mem_append_left _ hz)) (by omega)
 have hsm:=hm.done (fun z hz=>h.good z (List.mem_append_right _ hz))
 obtain⟨t1,t2,t3⟩:=und_T hu
 have hT1:=hb.T1
 have hT2:=hb.T2
 have hlen:ρ'.xs.length=ρ.xs.length:=by
  have:=congrArg List.length (rund_nums hr)
  simpa using this
 refine⟨y',hm,hi.symm,hsm,rfl,hsm.nm,hb.next hk1 (by show σ'.T.1≤_;omega) (by show σ'.T.2≤_;omega) hcnt (.inl t3) (.inl hbb) ?_ (by omega)⟩
 have e:(σ'.nm ρ'.recs).rs=σ'.rs:=hsm.rs.symm
 show σ'.P.size+lenL (σ'.nm ρ'.recs).rs≤6912
 rw[e];exact huse
end
section
variable {w0 w w':World} {L0:List Nat} {c lp p dp m g:Nat}
def BckP (k:Nat) (x tu f:Int) (ok:Bool) (σ:CS) (ρ':RS):Prop:=∃ρ,Ok k σ ρ∧((xFind ρ.xs x=none∧f=191∧ok=true∧ρ'=ρ)∨∃j y l,Gone k σ ρ x j y l ∧
 ((¬RFits ρ (max tu 0) l∧ok=false)∨(RFits ρ (max tu 0) l∧f=0∧ok=true∧∃done rest,RUnd x j ρ done ρ'∧l=done++rest∧(∀z∈done,max tu 0<z.1)∧∀z∈rest,z.1≤max tu 0)))
theorem recs_cnt {lb mb n:Nat} {lv:Value} {σ:CS} {B:RB} {ρ:RS} (h:Bo w0 w L0 c lp p dp lb mb n lv σ m g B ρ) (hr:σ.recs=ρ.recs):ρ.recs.length≤2304:=by rw[←hr];exact h.cx.count.1
set_option maxRecDepth 100000 in
theorem st_back {k:Nat} (h:StP (Ok k) w0 w L0 c lp p dp m g) (x tu:Int):Calls Tryz.prog 39 #[.pointer (some ⟨m,0,none⟩),.int .i64 x,.int .i64 tu] w fun e w'=>∃(f:Int) (ok:Bool),e = .returned (.tuple #[.int .i64 f,.bool ok])∧Keeps (Own w0 L0) w w'∧StP (BckP k x tu f ok) w0 w' L0 c lp p dp m g:=by
 obtain⟨lb,mb,n,lv,σ,B,ρ,hbo,hok⟩:=h
 have hbd:=hbo.bds hok.2.1 hok.2.2
 cases hf:xFind ρ.xs x with
 | none =>
  refine(rr_back_none hbo.rr x tu hf (by omega)).mono fun e w' ⟨he,hb⟩=>⟨191,true,he,Keeps.of_below _ hb,lb,mb,n,lv,σ,B,ρ,hbo.later hb,ρ,hok,.inl ⟨hf,rfl,rfl,rfl⟩⟩
 | some j =>
  obtain⟨y,l,hg⟩:=Gone.of hok hf
  obtain⟨n1,n2,n3,n4,n5⟩:=hg.nums
  refine(rr_back hbo.rr x tu n1 j hf y hg.mid.at_ σ.org (by have:=hok.2.1.org;omega) y.first l (hg.rbk _ (recs_cnt hbo hok.1)) (by omega) (by omega)).mono fun e w' hto=>?_
  rcases hto with⟨hfit,he,ρ',B',next,rest,hrr,hst,hbk,hn,hr0⟩ | ⟨hfit,he,B',ρ',hrr,hst⟩
  ·obtain⟨b1,b2⟩:=hbo.doc hrr hst L0 (fun _ h=>h) (fun _ h=>by cases h)
   obtain⟨done,u1,u2,u3,-⟩:=hbk.und
   exact⟨0,true,he,b2,lb,mb,n,lv,σ,B',ρ',b1,ρ,hok,.inr ⟨j,y,l,hg,.inr ⟨hfit,rfl,rfl,done,rest,u1,u2,u3,fun z hz=>by have:=hbk.stk.le z hz;omega⟩⟩⟩
  ·obtain⟨b1,b2⟩:=hbo.doc hrr hst L0 (fun _ h=>h) (fun _ h=>by cases h)
   exact⟨0,false,he,b2,lb,mb,n,lv,σ,B',ρ',b1,ρ,hok,.inr ⟨j,y,l,hg,.inl ⟨hfit,rfl⟩⟩⟩
theorem fits_same {σ:CS} {ρ:RS} {X:Nat→Prop} (h:Sm σ ρ X) (bd:Int) (l:List (Int×Rc)):BackFits σ bd l↔RFits ρ bd l:=by
 have:=h.room
 unfold BackFits RFits
 omega
set_option maxRecDepth 100000 in
theorem st_back2 {k:Nat} {x tu f:Int} {ok:Bool} (h:StP (BckP k x tu f ok) w0 w L0 c lp p dp m g) (hk1:k+1≤250):Calls Tryz.prog 13 #[.pointer (some ⟨c,0,none⟩),.int .i64 x,.int .i64 tu,kitV p] w fun e w'=>∃cd:Int,e = .returned (.int .i64 cd)∧Keeps (Own w0 L0) w w'∧(ok=true→cd=f∧StP (Ok (k+1)) w0 w' L0 c lp p dp m g)∧(ok=false→cd≠0):=by
 obtain⟨lb,mb,n,lv,σ,B,ρ',hbo,ρ,hok,hc⟩:=h
 have hcnt:=hok.2.2.cnt
 have hkk:=hok.2.2.kk
 rcases hc with⟨hf,rfl,rfl,rfl⟩ | ⟨j,y,l,hg,hc⟩
 · refine(cx_back_none hbo.cx x tu (by rw[hok.2.1.lives];exact live_none hf) (kitV p)).mono fun e w' ⟨he,hb⟩=>⟨191,he,Keeps.of_below _ hb,fun _=>⟨rfl,lb,mb,n,lv,σ,B,_,hbo.later hb,hok.up hk1⟩,fun h=>by cases h⟩
 ·obtain⟨n1,n2,n3,n4,n5⟩:=hg.nums
  have hB:=hok.2.1.B j y hg.mid.at_
  rw[hg.mid.nm]at hB
  have hstk:=hg.mid.stk
  rw[←hok.1]at hstk
  refine(cx_back hbo.cx x tu n1 (xPos ρ.xs j) (lvO y) hg.live y.first l hstk hg.good (by rw[hB];exact hg.mid.bk) (by omega) (by omega)).mono fun e w' ⟨hk,hto⟩=>?_
  rcases hto with⟨hfit,he,σ',n',next,rest,hx',hbk,hn⟩ | ⟨hfit,he⟩
  ·obtain⟨b1,b2⟩:=hbo.conc hk hx'
   rcases hc with⟨hnf,rfl⟩ | ⟨_,rfl,rfl,done,rest',r1,r2,r3,r4⟩
   · exact absurd ((fits_same hok.2.1 _ _).1 hfit) hnf
   obtain⟨done',u1,u2,u3,-⟩:=hbk.und
   obtain⟨rfl,rfl⟩:=parts_same (r2.symm.trans u2) r3 u3 r4 (fun z hz=>by have:=hbk.stk.le z hz;omega)
   have hcn:=hbk.cnt
   obtain⟨y',hm,-,hsm,hok'⟩:=hg.back r2 u1 r1 hk1 hx'.count.2.1 (by omega)
   exact⟨0,he,b2,fun _=>⟨rfl,lb,mb,n',lv,_,B,ρ',b1.ofNm hsm,hok'⟩,fun h=>by cases h⟩
  ·refine⟨70,he,hk.mono (fun q _ hq=>⟨hq.1,fun h'=>hq.2 (List.mem_append_right _ (List.mem_append_right _ h'))⟩),fun hok1=>?_,fun _=>by omega⟩
   rcases hc with⟨_,h2⟩ | ⟨hf2,_⟩
   · rw[h2]at hok1;cases hok1
   · exact absurd ((fits_same hok.2.1 _ _).2 hf2) hfit
def FinP (k:Nat) (x f:Int) (ok:Bool) (σ:CS) (ρ':RS):Prop:=∃ρ,Ok k σ ρ∧((xFind ρ.xs x=none∧f=191∧ok=true∧ρ'=ρ)∨∃j y l,Gone k σ ρ x j y l ∧
 (((y.first≠0∧ρ.room<39)∧ok=false)∨(¬(y.first≠0∧ρ.room<39)∧f=0∧ok=true∧ρ'=ρ.finished 3 x j y)))
theorem end_same {σ:CS} {ρ:RS} {X:Nat→Prop} (h:Sm σ ρ X) (y:Xc):EndFits σ (lvO y)↔¬(y.first≠0∧ρ.room<39):=by
 have:=h.room
 unfold EndFits
 show y.first=0∨_↔_
 omega
set_option maxRecDepth 100000 in
theorem st_fin {k:Nat} (h:StP (Ok k) w0 w L0 c lp p dp m g) (x:Int):Calls Tryz.prog 40 #[.pointer (some ⟨m,0,none⟩),.int .i64 x,.int .i64 3] w fun e w'=>∃(f:Int) (ok:Bool),e = .returned (.tuple #[.int .i64 f,.bool ok])∧Keeps (Own w0 L0) w w'∧StP (FinP k x f ok) w0 w' L0 c lp p dp m g:=by
 obtain⟨lb,mb,n,lv,σ,B,ρ,hbo,hok⟩:=h
 have hbd:=hbo.bds hok.2.1 hok.2.2
 cases hf:xFind ρ.xs x with
 | none =>
  refine(rr_finish_none hbo.rr x 3 hf (by omega)).mono fun e w' ⟨he,hb⟩=>⟨191,true,he,Keeps.of_below _ hb,lb,mb,n,lv,σ,B,ρ,hbo.later hb,ρ,hok,.inl ⟨hf,rfl,rfl,rfl⟩⟩
 | some j =>
  obtain⟨y,l,hg⟩:=Gone.of hok hf
  obtain⟨n1,n2,n3,n4,n5⟩:=hg.nums
  refine(rr_finish3 hbo.rr x n1 j hf y hg.mid.at_ (by omega) (by omega) (hbo.qn hok.2.1) (by omega) (by omega)).mono fun e w' hto=>?_
  rcases hto with⟨h1,he,B',ρ',hrr,hst⟩ | ⟨h1,he,B',hrr,hst⟩
  ·obtain⟨b1,b2⟩:=hbo.doc hrr hst L0 (fun _ h=>h) (fun _ h=>by cases h)
   exact⟨0,false,he,b2,lb,mb,n,lv,σ,B',ρ',b1,ρ,hok,.inr ⟨j,y,l,hg,.inl ⟨h1,rfl⟩⟩⟩
  ·obtain⟨b1,b2⟩:=hbo.doc hrr hst L0 (fun _ h=>h) (fun _ h=>by cases h)
   exact⟨0,true,he,b2,lb,mb,n,lv,σ,B',_,b1,ρ,hok,.inr ⟨j,y,l,hg,.inr ⟨h1,rfl,rfl,rfl⟩⟩⟩
theorem fin_len (ρ:RS) (kind x:Int) (j:Nat) (y:Xc):(ρ.finished kind x j y).xs.length=ρ.xs.length:=by
 unfold RS.finished RS.ovr RS.wrote
 split <;> simp
theorem last_fields (σ:CS) (kind x:Int) (s:Lv) (i:Nat):((σ.last kind x s).ended i).T=σ.T∧((σ.last kind x s).ended i).cnt=σ.cnt∧((σ.last kind x s).ended i).fresh=σ.fresh∧((σ.last kind x s).ended i).bb=σ.bb:=by
 unfold CS.ended CS.last
 split <;> exact⟨rfl,rfl,rfl,rfl⟩
theorem fin_recs {σ:CS} {ρ:RS} (h:σ.recs=ρ.recs) (kind x:Int) (i j:Nat) (y:Xc):((σ.last kind x (lvO y)).ended i).recs=(ρ.finished kind x j y).recs:=by
 by_cases e:y.first=0
 ·rw[show σ.last kind x (lvO y)=σ by unfold CS.last;exact if_pos e,show ρ.finished kind x j y=ρ.ovr j y by unfold RS.finished;exact if_pos e]
  exact h
 ·rw[show σ.last kind x (lvO y)={σ with recs:=σ.recs++[finR kind x y.last]} by unfold CS.last;exact if_neg e,show ρ.finished kind x j y=(ρ.wrote (finR kind x y.last)).ovr j y by unfold RS.finished;exact if_neg e]
  show σ.recs++_=ρ.recs++_
  rw[h]
set_option maxRecDepth 100000 in
theorem st_commit {k:Nat} {x f:Int} {ok:Bool} (h:StP (FinP k x f ok) w0 w L0 c lp p dp m g) (hk1:k+1≤250):Calls Tryz.prog 35 #[.pointer (some ⟨c,0,none⟩),.int .i64 x] w fun e w'=>∃cd:Int,e = .returned (.int .i64 cd)∧Keeps (Own w0 L0) w w'∧(ok=true→cd=f∧StP (Ok (k+1)) w0 w' L0 c lp p dp m g)∧(ok=false→cd≠0):=by
 obtain⟨lb,mb,n,lv,σ,B,ρ',hbo,ρ,hok,hc⟩:=h
 rcases hc with⟨hf,rfl,rfl,rfl⟩ | ⟨j,y,l,hg,hc⟩
 · refine(cx_commit_none hbo.cx x (by rw[hok.2.1.lives];exact live_none hf)).mono fun e w' ⟨he,hb⟩=>⟨191,he,Keeps.of_below _ hb,fun _=>⟨rfl,lb,mb,n,lv,σ,B,_,hbo.later hb,hok.up hk1⟩,fun h=>by cases h⟩
 ·obtain⟨n1,n2,n3,n4,n5⟩:=hg.nums
  refine(cx_commit hbo.cx x n1 (xPos ρ.xs j) (lvO y) hg.live ⟨n3.1,by show y.last≤_;omega⟩).mono fun e w' ⟨hk,hto⟩=>?_
  rcases hto with⟨hfit,he,lv',hx'⟩ | ⟨hfit,he⟩
  ·obtain⟨b1,b2⟩:=hbo.conc hk hx'
   rcases hc with⟨hnf,rfl⟩ | ⟨_,rfl,rfl,rfl⟩
   · exact absurd hnf ((end_same hok.2.1 y).1 hfit)
   obtain⟨l1,l2,l3,l4⟩:=last_fields σ 3 x (lvO y) (xPos ρ.xs j)
   have hT1:=hok.2.2.T1
   have hT2:=hok.2.2.T2
   refine⟨0,he,b2,fun _=>⟨rfl,lb,mb,n,lv',_,B,_,b1,fin_recs hok.1 3 x _ j y,hok.2.1.ended hg.mid.at_ hg.mid.ov (end_ok (.inl rfl) ⟨by omega,n1.2⟩ ⟨n3.1,by omega⟩),hok.2.2.next hk1 (by rw[l1];exact hT1) (by rw[l1];omega) (by rw[l2];omega) (.inl l3) (.inl l4) hx'.count.2.1 (by rw[fin_len];omega)⟩,fun h=>by cases h⟩
  ·refine⟨70,he,hk.mono (fun q _ hq=>⟨hq.1,fun h'=>hq.2 (List.mem_append_right _ (List.mem_append_right _ h'))⟩),fun hok1=>?_,fun _=>by omega⟩
   rcases hc with⟨_,h2⟩ | ⟨hf2,_⟩
   · rw[h2]at hok1;cases hok1
   · exact absurd ((end_same hok.2.1 y).2 hf2) hfit
def AboP (k:Nat) (x f:Int) (ok:Bool) (σ:CS) (ρ':RS):Prop:=∃ρ,Ok k σ ρ∧((xFind ρ.xs x=none∧f=191∧ok=true∧ρ'=ρ)∨∃j y l,Gone k σ ρ x j y l ∧
 ((¬RFits ρ 0 l∧ok=false)∨∃ρ1 y1,RFits ρ 0 l∧RUnd x j ρ l ρ1∧ρ1.xs[j]? = some y1∧(((y1.first≠0∧ρ1.room<39)∧ok=false)∨(¬(y1.first≠0∧ρ1.room<39)∧f=0∧ok=true∧ρ'=ρ1.finished 4 x j y1))))
set_option maxRecDepth 100000 in
theorem st_fin4 {k:Nat} (h:StP (Ok k) w0 w L0 c lp p dp m g) (x:Int):Calls Tryz.prog 40 #[.pointer (some ⟨m,0,none⟩),.int .i64 x,.int .i64 4] w fun e w'=>∃(f:Int) (ok:Bool),e = .returned (.tuple #[.int .i64 f,.bool ok])∧Keeps (Own w0 L0) w w'∧StP (AboP k x f ok) w0 w' L0 c lp p dp m g:=by
 obtain⟨lb,mb,n,lv,σ,B,ρ,hbo,hok⟩:=h
 have hbd:=hbo.bds hok.2.1 hok.2.2
 cases hf:xFind ρ.xs x with
 | none =>
  refine(rr_finish_none hbo.rr x 4 hf (by omega)).mono fun e w' ⟨he,hb⟩=>⟨191,true,he,Keeps.of_below _ hb,lb,mb,n,lv,σ,B,ρ,hbo.later hb,ρ,hok,.inl ⟨hf,rfl,rfl,rfl⟩⟩
 | some j =>
  obtain⟨y,l,hg⟩:=Gone.of hok hf
  obtain⟨n1,n2,n3,n4,n5⟩:=hg.nums
  have h54:=hok.2.1.org
  refine(rr_finish4 hbo.rr x n1 j hf y hg.mid.at_ σ.org (by omega) y.first l (hg.rbk _ (recs_cnt hbo hok.1)) (by omega) (by omega)).mono fun e w' hto=>?_
  rcases hto with⟨h1,he,B',ρ',hrr,hst⟩ | ⟨ρ1,y1,next,rest,h1,hbk,hn,hy1,hto⟩
  ·obtain⟨b1,b2⟩:=hbo.doc hrr hst L0 (fun _ h=>h) (fun _ h=>by cases h)
   exact⟨0,false,he,b2,lb,mb,n,lv,σ,B',ρ',b1,ρ,hok,.inr ⟨j,y,l,hg,.inl ⟨h1,rfl⟩⟩⟩
  ·have hn0:next=0:=by have:=hbk.stk.lo.1;omega
   subst hn0
   have hrest:rest=[]:=hbk.stk.zero (by omega)
   subst hrest
   obtain⟨done,u1,u2,-,-⟩:=hbk.und
   rw[List.append_nil]at u2
   subst u2
   rcases hto with⟨h2,he,B',ρ',hrr,hst⟩ | ⟨h2,he,B',hrr,hst⟩
   ·obtain⟨b1,b2⟩:=hbo.doc hrr hst L0 (fun _ h=>h) (fun _ h=>by cases h)
    exact⟨0,false,he,b2,lb,mb,n,lv,σ,B',ρ',b1,ρ,hok,.inr ⟨j,y,l,hg,.inr ⟨ρ1,y1,h1,u1,hy1,.inl ⟨h2,rfl⟩⟩⟩⟩
   ·obtain⟨b1,b2⟩:=hbo.doc hrr hst L0 (fun _ h=>h) (fun _ h=>by cases h)
    exact⟨0,true,he,b2,lb,mb,n,lv,σ,B',_,b1,ρ,hok,.inr ⟨j,y,l,hg,.inr ⟨ρ1,y1,h1,u1,hy1,.inr ⟨h2,rfl,rfl,rfl⟩⟩⟩⟩
set_option maxRecDepth 100000 in
theorem st_abort {k:Nat} {x f:Int} {ok:Bool} (h:StP (AboP k x f ok) w0 w L0 c lp p dp m g) (hk1:k+2≤250):Calls Tryz.prog 36 #[.pointer (some ⟨c,0,none⟩),.int .i64 x,kitV p] w fun e w'=>∃cd:Int,e = .returned (.int .i64 cd)∧Keeps (Own w0 L0) w w'∧(ok=true→cd=f∧StP (Ok (k+1)) w0 w' L0 c lp p dp m g)∧(ok=false→cd≠0):=by
 obtain⟨lb,mb,n,lv,σ,B,ρ',hbo,ρ,hok,hc⟩:=h
 have hcnt:=hok.2.2.cnt
 have hkk:=hok.2.2.kk
 rcases hc with⟨hf,rfl,rfl,rfl⟩ | ⟨j,y,l,hg,hc⟩
 · refine(cx_abort_none hbo.cx x (by rw[hok.2.1.lives];exact live_none hf)).mono fun e w' ⟨he,hb⟩=>⟨191,he,Keeps.of_below _ hb,fun _=>⟨rfl,lb,mb,n,lv,σ,B,_,hbo.later hb,hok.up (by omega)⟩,fun h=>by cases h⟩
 ·obtain⟨n1,n2,n3,n4,n5⟩:=hg.nums
  have hB:=hok.2.1.B j y hg.mid.at_
  rw[hg.mid.nm]at hB
  have hstk:=hg.mid.stk
  rw[←hok.1]at hstk
  refine(cx_abort hbo.cx ⟨hg.live,n1,hstk,hg.good,by rw[hB];exact hg.mid.bk,by omega,hok.2.1.org⟩ (by omega)).mono fun e w' ⟨hk,hto⟩=>?_
  have hk2:Keeps (Own w0 L0) w w':=hk.mono (fun q _ hq=>⟨hq.1,fun h'=>hq.2 (List.mem_append_right _ (List.mem_append_right _ h'))⟩)
  rcases hto with⟨hfit,σ',s',hu,hus,horg,e1,e2,e3,hto⟩ | ⟨hfit,he⟩
  rotate_left
  ·refine⟨70,he,hk2,fun hok1=>?_,fun _=>by omega⟩
   rcases hc with⟨_,h2⟩ | ⟨ρ1,y1,hf2,_⟩
   · rw[h2]at hok1;cases hok1
   · exact absurd ((fits_same hok.2.1 _ _).2 hf2) hfit
  rcases hc with⟨hnf,rfl⟩ | ⟨ρ1,y1,_,hru,hy1,hc⟩
  · exact absurd ((fits_same hok.2.1 _ _).1 hfit) hnf
  have hroom:=hok.2.1.room
  have hfit2:σ.used+267*l.length≤6912:=by
   have h1:=hfit
   unfold BackFits at h1
   have h2:above 0 l=l.length:=by
    have:=above_app 0 (a:=l) (b:=[]) (hg.mid.stk.pos (by have:=hok.2.1.org;omega))
    rw[List.append_nil]at this
    rw[this];rfl
   rw[h2]at h1;exact h1
  have hcn:σ'.cnt≤σ.cnt+21:=by
   have:∀{i:Nat} {σ σ':CS} {d:List (Int×Rc)},Und x i σ d σ'→σ'.cnt=σ.cnt+d.length:=fun h=>by
    induction h with
    | nil=>rfl
    | @snoc σ1 l t R s P h1 h2 h3 h4 ih=>rw[List.length_append,List.length_singleton];show σ1.cnt+1=_;omega
   rw[this hu];omega
  obtain⟨y1',hm,hpos,hsm,hok1⟩:=hg.back (rest:=[]) (List.append_nil _).symm hu hru (by omega) (by rw[hus];exact hfit2) (by omega)
  have hyy:y1'=y1:=by have:=hm.at_;rw[hy1]at this;exact(Option.some.inj this).symm
  subst hyy
  have hs':s'=lvO y1':=by
   rw[hsm.lives,←hpos,xLive_at hy1 hm.ov]at e1
   exact(Option.some.inj e1).symm
  subst hs'
  obtain⟨m1,m2,m3,m4,m5⟩:=Gone.nums (k:=k+1) (σ:=σ'.nm ρ1.recs) (ρ:=ρ1) (x:=x) (j:=j) (y:=y1') (l:=[]) ⟨hok1,by rw[xFind_congr (rund_nums hru)];exact hg.find,⟨hok1.2.1.wide,hm.at_,hm.ov,hm.nm,hm.fl,hm.fr,hm.stk,hm.bk⟩,fun z hz=>by simp at hz⟩
  rcases hto with⟨hef,he,n',lv',hx'⟩ | ⟨hef,he⟩
  ·obtain⟨b1,b2⟩:=hbo.conc hk hx'
   rcases hc with⟨hnf,rfl⟩ | ⟨_,rfl,rfl,rfl⟩
   · exact absurd hnf ((end_same hsm y1').1 hef)
   obtain⟨l1,l2,l3,l4⟩:=last_fields σ' 4 x (lvO y1') (xPos ρ.xs j)
   obtain⟨t1,t2,t3⟩:=und_T hu
   have hT1:=hok.2.2.T1
   have hT2:=hok.2.2.T2
   have hsmf:=hsm.ended (x:=x) (kind:=4) hm.at_ hm.ov (end_ok (.inr rfl) ⟨by omega,m1.2⟩ ⟨m3.1,by omega⟩)
   rw[hpos]at hsmf
   have hbb:σ'.bb=σ.bb:=by
    have:∀{i:Nat} {σ σ':CS} {d:List (Int×Rc)},Und x i σ d σ'→σ'.bb=σ.bb:=fun h=>by
     induction h with
     | nil=>rfl
     | @snoc σ1 l t R s P h1 h2 h3 h4 ih=>exact ih
    exact this hu
   have hlen:ρ1.xs.length=ρ.xs.length:=by have:=congrArg List.length (rund_nums hru);simpa using this
   have hrs2:=hsmf.rs
   refine⟨0,he,b2,fun _=>⟨rfl,lb,mb,n',lv',_,B,_,b1.ofNm hsmf,rfl,hsmf.nm,hok.2.2.next (by omega) (by show ((σ'.last 4 x (lvO y1')).ended (xPos ρ.xs j)).T.1≤_;rw[l1];omega) (by show ((σ'.last 4 x (lvO y1')).ended (xPos ρ.xs j)).T.2≤_;rw[l1];omega) (by show ((σ'.last 4 x (lvO y1')).ended (xPos ρ.xs j)).cnt≤_;rw[l2];omega) (.inl (l3.trans t3)) (.inl (l4.trans hbb)) (b1.ofNm hsmf).cx.count.2.1 (by rw[fin_len];omega)⟩,fun h=>by cases h⟩
  ·refine⟨70,he,hk2,fun hok1=>?_,fun _=>by omega⟩
   rcases hc with⟨_,h2⟩ | ⟨hf2,_⟩
   · rw[h2]at hok1;cases hok1
   · exact absurd ((end_same hsm y1').2 hf2) hef
def SysP (k:Nat) (y:LCall) (U:Un) (pi:Nat) (P:Pg) (cd:Int) (σ':CS) (ρ:RS):Prop:=∃σ,ImP k y U pi P σ ρ ∧
 ((σ'=σ∧¬RcOk (sysR [((pi:Int),P)])∧cd=1)∨(σ'=σ∧RcOk (sysR [((pi:Int),P)])∧Full σ.used (rcS (sysR [((pi:Int),P)]))∧cd=70)∨(σ'=σ.wrote (sysR [((pi:Int),P)])∧RcOk (sysR [((pi:Int),P)])∧¬Full σ.used (rcS (sysR [((pi:Int),P)]))∧cd=0))
theorem st_system {k:Nat} {y:LCall} {U:Un} {pi:Nat} {P:Pg} (h:StP (ImP k y U pi P) w0 w L0 c lp p dp m g) (hy:y.dt.size≤maxLen) (ib:Nat) (hib:ib∈L0) (hi:w.heap[ib]? = some (.cells (imA ((pi:Int),P)) 51 (0,0))) :
  Calls Tryz.prog 44 #[.pointer (some ⟨c,0,none⟩),.slice (some ⟨ib,0,none⟩) 1 1] w fun e w'=>∃cd:Int,e = .returned (.int .i64 cd)∧Keeps (Own w0 L0) w w'∧StP (SysP k y U pi P cd) w0 w' L0 c lp p dp m g:=by
 obtain⟨lb,mb,n,lv,σ,B,ρ,hbo,him⟩:=h
 have him2:=him
 obtain⟨⟨hr,hs,hb⟩,hU,hpi,hP⟩:=him
 have hib2:ib∈rOwn m g B++(rIm B++L0):=List.mem_append_right _ (List.mem_append_right _ hib)
 have hpi6:pi<6:=by rw[hpi];exact(pos6_eq _).2
 refine(cx_system hbo.cx [((pi:Int),P)] (by simp) (fun z hz=>by rw[List.mem_singleton.1 hz];show (pi:Int)<6;omega) (fun z hz i hi=>by rw[List.mem_singleton.1 hz];show (P.dt i).size≤maxLen;rw[hP];exact imgP_dt hs.pok hy i hi) _ (fun w' hk=>sl_one (hk.keep hi (fun h=>h.2 hib2)))).mono fun e w' ⟨hk,hc⟩=>?_
 rcases hc with⟨h1,he,hx1⟩ | ⟨h1,h2,he,hx1⟩ | ⟨h1,h2,he,hx1⟩
 ·obtain⟨b1,b2⟩:=hbo.conc hk hx1
  exact⟨1,he,b2,lb,mb,n,lv,σ,B,ρ,b1,σ,him2,.inl ⟨rfl,h1,rfl⟩⟩
 ·obtain⟨b1,b2⟩:=hbo.conc hk hx1
  exact⟨70,he,b2,lb,mb,n,lv,σ,B,ρ,b1,σ,him2,.inr (.inl ⟨rfl,h1,h2,rfl⟩)⟩
 ·obtain⟨b1,b2⟩:=hbo.conc hk hx1
  exact⟨0,he,b2,lb,mb,n,lv,_,B,ρ,b1,σ,him2,.inr (.inr ⟨rfl,h1,h2,rfl⟩)⟩
theorem SysP.no {k:Nat} {y:LCall} {U:Un} {pi:Nat} {P:Pg} {cd:Int} {σ':CS} {ρ:RS} (h:SysP k y U pi P cd σ' ρ) (hno:¬RcOk (sysR [((pi:Int),P)])):cd=1∧Ok k σ' ρ:=by
 obtain⟨σ,him,⟨rfl,_,rfl⟩ | ⟨_,h1,_⟩ | ⟨_,h1,_⟩⟩:=h
 · exact⟨rfl,him.1⟩
 · exact absurd h1 hno
 · exact absurd h1 hno
theorem SysP.cd {k:Nat} {y:LCall} {U:Un} {pi:Nat} {P:Pg} {cd:Int} {σ':CS} {ρ:RS} (h:SysP k y U pi P cd σ' ρ) (hok:RcOk (sysR [((pi:Int),P)])):cd=70∨cd=0:=by
 obtain⟨σ,him,⟨_,h1,_⟩ | ⟨_,_,_,rfl⟩ | ⟨_,_,_,rfl⟩⟩:=h
 · exact absurd hok h1
 · exact .inl rfl
 · exact .inr rfl
set_option maxRecDepth 100000 in
theorem st_sysw {k:Nat} {y:LCall} {U:Un} {pi:Nat} {P:Pg} {cd:Int} {ib:Nat} (h:StP (SysP k y U pi P cd) w0 w (ib::L0) c lp p dp m g) (hk1:k+1≤250) (hn:ib∉L0) (hok:RcOk (sysR [((pi:Int),P)])) (hi:w.heap[ib]? = some (.cells (imA ((pi:Int),P)) 51 (0,0))) :
  Calls Tryz.prog 46 #[.pointer (some ⟨m,0,none⟩),.agg (rcC (sysR [((pi:Int),P)]) (.slice (some ⟨ib,0,none⟩) 1 1) nilS)] w fun e w'=>e = .returned (.bool (decide (cd=0)))∧Keeps (Own w0 L0) w w'∧StP (Ok (k+1)) w0 w' L0 c lp p dp m g:=by
 obtain⟨lb,mb,n,lv,σ',B,ρ,hbo,σ,him,hc⟩:=h
 obtain⟨hok2,hU,hpi,hP⟩:=him
 have hok3:=hok2
 obtain⟨hr,hs,hb⟩:=hok2
 have hpi6:pi<6:=by rw[hpi];exact(pos6_eq _).2
 have hfin0:=hs.fin
 have hfb:=hb.fin
 have hkk:=hb.kk
 have hroom:=hs.room
 have hu':σ'.used≤6912:=hbo.cx.count.2.1
 have hsz:=rc_sizes hok
 have hT1:=hb.T1
 have hT2:=hb.T2
 have hu:σ.used≤6912:=by
  rcases hc with⟨rfl,_⟩ | ⟨rfl,_⟩ | ⟨rfl,_,hf,_⟩
  · exact hu'
  · exact hu'
  ·have h1:¬6912<σ.used+(2+(rcS (sysR [((pi:Int),P)])).size):=hf
   omega
 have hq:B.Q.length≤1000000∧ρ.ats.length≤1000000:=by
  have h1:=hbo.rr.qlen
  have h2:ρ.ats.length=ρ.recs.length:=by rw[hs.pl.ats,placeL_length]
  have h3:=hbo.cx.count.1
  have h4:ρ.recs.length≤σ'.recs.length:=by
   rw[←hr]
   rcases hc with⟨rfl,_⟩ | ⟨rfl,_⟩ | ⟨rfl,_⟩
   · exact Nat.le_refl _
   · exact Nat.le_refl _
   · show _≤(σ.recs++[_]).length;rw[List.length_append];omega
  omega
 have hib:ib∉rOwn m g B:=fun h'=>(hbo.hi ib h').2 (List.mem_cons_self ..)
 have hdt:∀i,i<6→(P.dt i).size≤maxLen:=fun i hi=>by
  have h1:=(hok.2.1 ((pi:Int),P) (List.mem_cons_self ..)).2.2 i hi
  have h2:=h1.2.2.1
  dsimp only at h2
  unfold maxLen;omega
 refine(rr_write hbo.rr (sysR [((pi:Int),P)]) (.slice (some ⟨ib,0,none⟩) 1 1) nilS hok ⟨sl_one hi,nil_sl w,Nat.zero_le _,Nat.zero_le _,fun z hz q hq=>by rw[List.mem_singleton.1 hz];exact hdt q hq⟩ (fun q hq=>by
  have:q=ib:=by simpa[blk,Value.ownBlock,nilS]using hq
  subst this
  exact⟨block_lt hi,hib⟩) (by simp[sysR]) (fun z hz=>by rw[List.mem_singleton.1 hz];show (pi:Int)<6;omega) hq ⟨by omega,by omega⟩ ⟨by omega,by omega⟩).mono fun e w' hpost=>?_
 rcases hc with⟨_,h1,_⟩ | ⟨rfl,_,h1,rfl⟩ | ⟨rfl,_,h1,rfl⟩
 · exact absurd hok h1
 ·have h2:6912<σ'.used+(2+(rcS (sysR [((pi:Int),P)])).size):=h1
  rcases hpost with⟨_,he,hbl⟩ | ⟨h3,_⟩
  · exact⟨he,Keeps.of_below _ hbl,lb,mb,n,lv,_,B,ρ,(hbo.later hbl).pop,hok3.up hk1⟩
  · omega
 ·have h2:¬6912<σ.used+(2+(rcS (sysR [((pi:Int),P)])).size):=h1
  rcases hpost with⟨h3,_⟩ | ⟨_,he,B',hrr,hst,-⟩
  · omega
  ·obtain⟨b1,b2⟩:=hbo.doc hrr hst L0 (fun q hq=>List.mem_cons_of_mem _ hq) (fun q hq=>by
    have:q=ib:=by simpa[blk,Value.ownBlock,nilS]using hq
    subst this
    exact⟨List.mem_cons_self ..,hn⟩)
   refine⟨he,b2,lb,mb,n,lv,_,B',_,b1,?_,hs.wrote hok,hb.next hk1 hT1 (by show σ.T.2≤k+1;omega) (by show σ.cnt≤_;omega) (.inl rfl) (.inl rfl) hu' (by show ρ.xs.length≤_;omega)⟩
   show σ.recs++_=ρ.recs++_
   rw[hr]
end
end Go.Proofs.YtimomjheanfbmaaGreatDoor.G
