import Derived.Test.YtimomjheanfbmaaGreatDoorQaa
import Derived.Test.YtimomjheanfbmaaGreatDoorRbf
import Derived.BigQuiet
import Derived.BigRegion
set_option linter.unusedSimpArgs false
set_option linter.unusedVariables false
namespace Go.Proofs.YtimomjheanfbmaaGreatDoor.G
open Go.RowKit
section
variable {w0 w w':World} {L0:List Nat} {c lp p dp lb mb n:Nat} {lv:Value} {σ:CS} {m g:Nat} {B:RB} {ρ:RS}
theorem Bo.docL (h:Bo w0 w L0 c lp p dp lb mb n lv σ m g B ρ) {B':RB} {ρ':RS} {E:List Nat} (hr:Rr w' m g B' ρ') (hs:Stp w w' m g B B' E) (hE:∀k∈E,w.heap.size≤k∨k∈rIm B):(∀k∈rOwn m g B'++(rIm B'++L0),k<w'.heap.size)∧∀k∈rOwn m g B'++(rIm B'++L0),k∈rOwn m g B++(rIm B++L0)∨w.heap.size≤k:=by
 refine⟨fun k hk=>?_,fun k hk=>?_⟩
 ·rcases List.mem_append.1 hk with hk | hk
  · exact hr.lt k hk
  ·rcases List.mem_append.1 hk with hk | hk
   · exact(hr.im k hk).1
   · exact Nat.lt_of_lt_of_le (h.lt k hk) hs.keeps.size
 ·rcases List.mem_append.1 hk with hk | hk
  · exact(hs.own k hk).imp (fun h=>List.mem_append_left _ h) (fun h=>h)
  ·rcases List.mem_append.1 hk with hk | hk
   ·rcases hs.im k hk with h1 | h1 | h1
    · exact .inl (List.mem_append_right _ (List.mem_append_left _ h1))
    ·rcases hE k h1 with h2 | h2
     · exact .inr h2
     · exact .inl (List.mem_append_right _ (List.mem_append_left _ h2))
    · exact .inr h1
   · exact .inl (List.mem_append_right _ (List.mem_append_right _ hk))
theorem chk_ok {k:Nat} (h:Ok k σ ρ) (hl:σ.lives.length≤8):RcOk (chkR (xLive ρ.xs) ρ.fresh)∧(rcS (chkR (xLive ρ.xs) ρ.fresh)).size≤197:=by
 obtain⟨hr,hs,hb⟩:=h
 have hfr:=hb.fr
 have hkk:=hb.kk
 have hfe:=hs.fresh
 have hll:(xLive ρ.xs).length≤8:=by rw[←hs.lives];exact hl
 have hlv:∀s∈xLive ρ.xs,LvOk s:=fun s hs'=>by
  obtain⟨j,y,hj,ho,rfl⟩:=xLive_mem hs'
  have h1:=hs.num j y hj
  obtain⟨⟨l,g1,g2,g3,g4⟩,g5,g6⟩:=hs.good j y hj ho (fun h=>h)
  have h2:=g1.lo
  have h3:=hs.pl.fin
  have h4:=hs.fin
  have h5:=hb.fin
  have h6:0≤y.first∧y.first≤1000000000:=by
   by_cases e:y.first=0
   · omega
   ·obtain⟨R,hR⟩:=g6 e
    have:=hR.lo
    omega
  exact⟨⟨by show 0≤y.num;omega,by show y.num≤_;omega⟩,⟨h6.1,by show y.first≤_;omega⟩,⟨by show 0≤y.last;omega,by show y.last≤_;omega⟩⟩
 have hok:RcOk (chkR (xLive ρ.xs) ρ.fresh):=by
  refine⟨⟨⟨by show (1:Int)≤5;omega,by show (5:Int)≤6;omega⟩,⟨Int.le_refl _,by show (0:Int)≤2147483647;decide⟩,⟨Int.le_refl _,by show (0:Int)≤1099511627776;decide⟩,⟨Int.le_refl _,by show (0:Int)≤1099511627776;decide⟩,⟨by show 0≤ρ.fresh;omega,by show ρ.fresh≤2147483647;omega⟩,⟨Int.le_refl _,by show (0:Int)≤3;decide⟩,⟨Int.le_refl _,by show (0:Int)≤6;decide⟩,⟨Int.le_refl _,by show (0:Int)≤1023;decide⟩,⟨Int.le_refl _,by show (0:Int)≤5;decide⟩,by show (ByteArray.size ⟨#[]⟩)≤8;decide,⟨Int.le_refl _,by show (0:Int)≤2;decide⟩,by show (ByteArray.size ⟨#[]⟩)≤34;decide,by show 0≤24;decide,hll⟩,fun z hz=>by simp[chkR]at hz,hlv⟩
 refine⟨hok,?_⟩
 rw[rcS_size hok]
 show 37+0+0+228*0+20*(xLive ρ.xs).length≤197
 omega
theorem first_le {k:Nat} (h:Ok k σ ρ):∀s∈xLive ρ.xs,s.2.1≤ρ.fin:=fun s hs'=>by
 obtain⟨hr,hs,hb⟩:=h
 obtain⟨j,y,hj,ho,rfl⟩:=xLive_mem hs'
 obtain⟨⟨l,g1,g2,g3,g4⟩,g5,g6⟩:=hs.good j y hj ho (fun h=>h)
 have h3:=hs.pl.fin
 show y.first≤_
 by_cases e:y.first=0
 · omega
 ·obtain⟨R,hR⟩:=g6 e
  have:=hR.lo
  omega
theorem old_place {k:Nat} (h:Ok k σ ρ) (hw:(wantF ρ.fin (xLive ρ.xs)).2=true):∃kk,kk<ρ.recs.length∧(wantF ρ.fin (xLive ρ.xs)).1=((σ.org+lenL ((ρ.recs.map rcS).take kk):Nat):Int)∧∀(i:Nat) (y:Xc),ρ.xs[i]? = some y→y.over=false→y.first≠0→(wantF ρ.fin (xLive ρ.xs)).1≤y.first:=by
 have hle:=first_le h
 obtain⟨hr,hs,hb⟩:=h
 have hsp:=want_spec (xLive ρ.xs) (ρ.fin,false)
 obtain⟨h1,h2,h3,-⟩:=hsp
 have hmin:∀(i:Nat) (y:Xc),ρ.xs[i]? = some y→y.over=false→y.first≠0→(wantF ρ.fin (xLive ρ.xs)).1≤y.first:=fun i y hy ho hf=>h2 (lvO y) (List.mem_of_getElem? (xLive_at hy ho)) hf
 have hex:∃s∈xLive ρ.xs,s.2.1≠0∧(wantF ρ.fin (xLive ρ.xs)).1=s.2.1:=by
  rcases h1 with h1 | h1
  ·exfalso
   have hsome:∃s∈xLive ρ.xs,s.2.1≠0:=by
    apply Classical.byContradiction
    intro hno
    have hz:∀s∈xLive ρ.xs,s.2.1=0:=fun s hs=>Classical.byContradiction fun hn=>hno ⟨s,hs,hn⟩
    have key:∀(l:List Lv) (b:Int×Bool),(∀s∈l,s.2.1=0)→l.foldl (fun a s=>if s.2.1≠0 then (min a.1 s.2.1,true) else a) b=b:=by
     intro l
     induction l with
     | nil=>intro b _;rfl
     | cons s l ih =>
      intro b hb
      rw[List.foldl_cons,if_neg (fun h=>h (hb s (List.mem_cons_self ..)))]
      exact ih b (fun t ht=>hb t (List.mem_cons_of_mem _ ht))
    have:=key _ (ρ.fin,false) hz
    unfold wantF at hw
    rw[this]at hw
    cases hw
   obtain⟨s,hs',hn⟩:=hsome
   have h4:=h2 s hs' hn
   rw[h1]at h4
   obtain⟨j,y,hj,ho,rfl⟩:=xLive_mem hs'
   obtain⟨R,hR⟩:=(hs.good j y hj ho (fun h=>h)).fr hn
   have h5:=hR.lo
   have h6:=hs.pl.fin
   have h7:ρ.fin≤y.first:=h4
   omega
  · exact h1
 obtain⟨s,hs',hn,he⟩:=hex
 obtain⟨j,y,hj,ho,rfl⟩:=xLive_mem hs'
 obtain⟨R,kk,hk1,hk2⟩:=(hs.good j y hj ho (fun h=>h)).fr hn
 exact⟨kk,(List.getElem?_eq_some_iff.1 hk1).1,he.trans hk2,hmin⟩
theorem want_none {fin:Int} {l:List Lv} (h:(wantF fin l).2=false):(wantF fin l).1=fin∧∀s∈l,s.2.1=0:=by
 obtain⟨h1,h2,h3,h4⟩:=want_spec l (fin,false)
 have h5:=(h4 h).2
 rcases h1 with h1 | ⟨s,hs,hn,-⟩
 · exact⟨h1,h5⟩
 · exact absurd (h5 s hs) hn
theorem OwnO.tail2 {w:World} {e:TypeId} {size:Nat} {g off n c:Nat} {x xs:List Value} (h:OwnO w e size (.slice (some ⟨g,off,none⟩) (n+1) c) (n+1) (x++xs)) (hx:x.length=size):OwnO w e size (.slice (some ⟨g,if c=1 then off else off+size,none⟩) n (c-1)) n xs:=by
 by_cases hc:c=1
 ·rw[if_pos hc]
  subst hc
  have hcap:=h.cap.1
  obtain rfl:n=0:=by omega
  have hl:=h.1
  rw[List.length_append,hx]at hl
  obtain rfl:xs=[]:=List.eq_nil_of_length_eq_zero (by omega)
  refine⟨by simp,?_⟩
  rcases h.2 with⟨h2,-⟩ | ⟨g',off',cap,cur,e',hg,h3,h4,h5,hc'⟩
  · simp at h2
  ·simp only[Value.slice.injEq,Option.some.injEq,Addr.mk.injEq,and_true,true_and]at e'
   obtain⟨⟨rfl,rfl⟩,rfl⟩:=e'
   exact .inr ⟨g,off,0,cur,rfl,hg,Nat.le_refl _,by unfold maxLen;omega,by omega,fun j u hu=>by simp at hu⟩
 · rw[if_neg hc];exact h.tail hx
theorem Rr.cut1 (h:Rr w m g B ρ) {a:Int} {ra:List Int} (ha:ρ.ats=a::ra) {t:Rc×Value×Value} {Q':List (Rc×Value×Value)} (hq:B.Q=t::Q') {ga fa na ca gr fr nr cr:Nat} (hav:B.av = .slice (some ⟨ga,fa,none⟩) (na+1) ca) (hrv:B.rv = .slice (some ⟨gr,fr,none⟩) (nr+1) cr) (av' rv':Value) (hav'0:av' = .slice (if ca=1 then some ⟨ga,fa,none⟩ else some ⟨ga,fa+1,none⟩) na (ca-1)) (hrv'0:rv' = .slice (if cr=1 then some ⟨gr,fr,none⟩ else some ⟨gr,fr+14,none⟩) nr (cr-1))
  (hc:w'.heap[m]? = some (.cells (rCells g {B with av:=av',rv:=rv',Q:=Q'} {ρ with ats:=ra,recs:=ρ.recs.drop 1}) 57 (0,0))) (hk:Keeps (· = m) w w'):Rr w' m g {B with av:=av',rv:=rv',Q:=Q'} {ρ with ats:=ra,recs:=ρ.recs.drop 1}:=by
 have hav':av' = .slice (some ⟨ga,if ca=1 then fa else fa+1,none⟩) na (ca-1):=by rw[hav'0];split <;> rfl
 have hrv':rv' = .slice (some ⟨gr,if cr=1 then fr else fr+14,none⟩) nr (cr-1):=by rw[hrv'0];split <;> rfl
 have hba:blk av'=blk B.av:=by rw[hav',hav];simp[blk,Value.ownBlock]
 have hbr:blk rv'=blk B.rv:=by rw[hrv',hrv];simp[blk,Value.ownBlock]
 have hats:=h.ats
 have hrs:=h.rs
 have hna:ra.length=na:=by
  obtain⟨x,y,e⟩:=hats.form
  rw[hav,ha]at e
  simp only[Value.slice.injEq,List.length_cons]at e
  omega
 have hnr:Q'.length=nr:=by
  obtain⟨x,y,e⟩:=hrs.form
  rw[hrv,hq]at e
  simp only[Value.slice.injEq,List.length_cons]at e
  omega
 rw[ha,hav,List.length_cons,hna]at hats
 rw[hq,hrv,List.length_cons,hnr,List.flatMap_cons]at hrs
 have hats2:=OwnO.tail2 (x:=[.int .i64 a]) (xs:=intV ra) hats rfl
 have hrs2:=OwnO.tail2 (x:=rrL t) (xs:=Q'.flatMap rrL) hrs (rrL_length t)
 refine⟨hc,h.xs.keep hk (fun q hq e=>(h.nx q hq).1 e),?_,?_,h.pg.keep hk (fun q hq e=>by simp[blk,Value.ownBlock]at hq;exact h.mg (by rw[←e,hq])),fun s hs=>?_,h.mg,fun q hq=>?_,fun q hq=>?_,fun q hq=>?_,fun q hq=>?_,?_⟩
 ·show OwnO w' _ 14 rv' Q'.length (Q'.flatMap rrL)
  rw[hrv',hnr]
  exact hrs2.keep hk (fun q hq e=>(h.nr q (by rw[hrv];simpa[blk,Value.ownBlock]using hq)).1 e)
 ·show OwnO w' _ 1 av' ra.length (intV ra)
  rw[hav',hna]
  exact hats2.keep hk (fun q hq e=>(h.na q (by rw[hav];simpa[blk,Value.ownBlock]using hq)).1 e)
 ·have hs':s∈B.Q:=by rw[hq];exact List.mem_cons_of_mem _ hs
  exact RcSl.keepS (h.sl s hs') hk (fun q hq' e=>(h.im q (List.mem_flatMap.2 ⟨s,hs',hq'⟩)).2 (e ▸ own_m))
 ·show q≠m∧q≠g∧q∉blk rv'∧q∉blk av'
  rw[hba,hbr];exact h.nx q hq
 ·have hq':q∈blk rv':=hq
  show q≠m∧q≠g∧q∉blk av'
  rw[hbr]at hq'
  rw[hba];exact h.nr q hq'
 ·have hq':q∈blk av':=hq
  rw[hba]at hq'
  exact h.na q hq'
 ·have hq':q∈rIm B:=by
   obtain⟨s,hs,hs2⟩:=List.mem_flatMap.1 hq
   exact List.mem_flatMap.2 ⟨s,by rw[‹B.Q=_›];exact List.mem_cons_of_mem _ hs,hs2⟩
  obtain⟨h1,h2⟩:=h.im q hq'
  refine⟨Nat.lt_of_lt_of_le h1 hk.size,fun h3=>h2 ?_⟩
  have h4:rOwn m g {B with av:=av',rv:=rv',Q:=Q'}=rOwn m g B:=by
   show m::g::(blk B.xv++blk rv'++blk av')=_
   rw[hba,hbr];rfl
  rwa[h4]at h3
 ·show Q'.map (·.1)=ρ.recs.drop 1
  rw[←h.rq,hq];rfl
theorem ok_cut {k:Nat} (hok:Ok k σ ρ) (hk1:k+1≤250) {σ2:CS} {ρ2:RS} (hs2:Sm σ2 ρ2 (fun _=>False)) (hr2:σ2.recs=ρ2.recs) {kk:Nat} (hkk:kk≤σ2.recs.length) (hlo:∀(i:Nat) (y:Xc),ρ2.xs[i]? = some y→y.over=false→y.first≠0→((σ2.org+lenL (σ2.rs.take kk):Nat):Int)≤y.first) (hT:σ2.T=σ.T) (hc:σ2.cnt≤σ.cnt+1) (hf:σ2.fresh=σ.fresh) (hfin:σ2.fin≤σ.fin+7000) (hx:ρ2.xs=ρ.xs) (hu:(σ2.cut kk).used≤6912) :
  Ok (k+1) (σ2.cut kk) (ρ2.cut kk (6912-((σ2.cut kk).used:Int))):=by
 have hb:=hok.2.2
 have hT1:=hb.T1
 have hT2:=hb.T2
 refine⟨?_,hs2.cut hr2 hkk hlo,hb.next hk1 (by show σ2.T.1≤_;rw[hT];exact hT1) (by show σ2.T.2≤_;rw[hT];omega) (by show σ2.cnt≤_;omega) (.inl hf) (.inr ?_) hu (by show ρ2.xs.length≤_;rw[hx];omega)⟩
 ·show σ2.recs.drop kk=ρ2.recs.drop kk
  rw[hr2]
 · rw[(σ2.cut_fin hkk).1];exact hfin
def lenV' (v:Option Value):Nat:=match v with | some (.slice _ n _)=>n | _=>0
set_option maxRecDepth 100000 in
set_option maxHeartbeats 2000000 in
theorem law_checked {k:Nat} (h:StP (Ok k) w0 w L0 c lp p dp m g) (hk1:k+1≤250):Calls Tryz.prog 43 #[.pointer (some ⟨c,0,none⟩),.pointer (some ⟨lp,0,none⟩),.pointer (some ⟨m,0,none⟩)] w fun e w'=>e = .returned (.bool true)∧Keeps (Own w0 L0) w w'∧StP (Ok (k+1)) w0 w' L0 c lp p dp m g:=by
 obtain⟨lb,mb,n,lv,σ,B,ρ,hbo,hok⟩:=h
 have hbd:=hbo.bds hok.2.1 hok.2.2
 have HBO:=Hd hbo
 have HOK:=Hd hok
 have hbdN:=Hd hbd
 obtain⟨fi,hfi⟩:∃f,ρ.fin=f:=⟨_,rfl⟩
 have C4:w.cell? ⟨m,4,none⟩=some (.int .i64 fi):=by have:=cell_at hbo.rr.cell 4;rw[←hfi];exact this
 have HLv:=Hd (rr_lives hbo.rr (by omega))
 obtain⟨l,hl⟩:∃l,xLive ρ.xs=l:=⟨_,rfl⟩
 rw[hl]at HLv
 have hfiN:=Hd hfi
 have hlN:=Hd hl
 clear hbo hok hbd hfi hl
 go_enter Tryz.func43,Tryz.ntmps43
 go_wp2_with fail
 refine(HLv.out).mono ?_
 rintro e wL ⟨v',rfl,ho,-,hbl⟩
 have HBL:=Hd (HBO.out.later hbl)
 have HblN:=Hd hbl
 obtain⟨nl,hnl⟩:∃q,l.length=q:=⟨_,rfl⟩
 rw[hnl]at ho
 obtain⟨sa,sc,rfl⟩:=ho.form
 have HO:=Hd ho
 have hn8:Hid (nl≤8):=by have:=hbdN.out.2.2.2.2.2.2.2;rw[HOK.out.2.1.lives,hlN.out,hnl]at this;exact this
 have hnlN:=Hd hnl
 clear ho hbl HLv C4 hnl HBO
 go_wp2_with fail
 go_loopw [24,7,8] (fun x y z wr=>∃i:Nat,i≤nl∧x = .int .i64 i∧y = .int .i64 (wantF fi (l.take i)).1∧z = .bool (wantF fi (l.take i)).2∧Hid (Below wL.heap.size wL wr)) (fun x _ _ _=>nl-(intOf x).toNat)
 case atStart=>exact⟨0,Nat.zero_le _,rfl,rfl,rfl,bR⟩
 case round =>
  obtain⟨i,hi,rfl,rfl,rfl,HB⟩:=hrel
  by_cases hin:i<nl
  ·obtain⟨s,hs⟩:∃s,l[i]? = some s:=⟨_,List.getElem?_eq_getElem (by rw[hnlN.out];exact hin)⟩
   have HOr:OwnS wr 61 3 (.slice sa nl sc) nl (lvV l):=HO.out.keep (Keeps.of_below (fun _=>False) HB.out) (fun _ _ h=>h)
   obtain⟨gb,rfl⟩:=HOr.spot (by omega)
   have HRl:=Hd (lv_range HOr i s hs)
   have hnx:=wantF_next (fin:=fi) hs
   have hiI:(i:Int)<nl:=by omega
   have hi0:(0:Int)≤i:=by omega
   have hiw:IntKind.i64.wrap ((i:Int)+1)=(i:Int)+1:=by have:=hn8.out;rw[IntKind.wrap_i64];omega
   obtain⟨s0,s1,s2⟩:=s
   dsimp only at hnx
   obtain⟨a,ha⟩:∃a,(wantF fi (l.take i)).1=a:=⟨_,rfl⟩
   obtain⟨b,hb⟩:∃b,(wantF fi (l.take i)).2=b:=⟨_,rfl⟩
   have hab:wantF fi (l.take i)=(a,b):=Prod.ext ha hb
   rw[hab]at hnx
   dsimp only at hnx
   rw[ha,hb]
   have HNa:Hid ((wr.alloc (.cells #[.int .i64 0,.int .i64 0,.int .i64 0] 61)).heap[wr.heap.size]? = some (.cells #[.int .i64 0,.int .i64 0,.int .i64 0] 61 (0,0))):=hN rfl
   have hiN:=Hd hin
   have hnxN:=Hd hnx
   clear hs HOr hi hin ha hb hab hnx
   go_upto_region 6 with(first
    | (refine wpList_load_mid rfl 61 _ rfl gb (i*3) rfl (lvL (s0,s1,s2)) _ HRl.out Tryz.underlying61 rfl (by kernel_rfl) ?_)
    | (refine wpList_store_whole rfl 61 _ _ rfl _ #[.int .i64 s0,.int .i64 s1,.int .i64 s2] rfl rfl _ _ HNa.out rfl (by kernel_rfl) (by simp[Value.oneCell']) ?_;intro w5 HS5 K5;(have HB5:Hid (Below wL.heap.size wL w5):=bT HB.out (((Keeps.refl (fun _=>False) wr).alloc _).trans K5.out (fun q hq e=>by omega)).below);(have A1:w5.cell? ⟨wr.heap.size,1,none⟩=some (.int .i64 s1):=cell_at HS5.out 1);clear HNa K5))
   by_cases hz:s1=0
   ·subst hz
    have hd:((0:Int)==0)=true:=rfl
    have hn2:Hid (wantF fi (l.take (i+1))=(a,b)):=by show _=_;rw[hnxN.out,if_neg (fun h=>h rfl)]
    clear hnxN HB
    go_wp2_with fail
    go_roundw
    case rel=>exact⟨i+1,hiN.out,rfl,by rw[hn2.out],by rw[hn2.out],HB5⟩
    case measure=>have:=hiN.out;simp[intOf];omega
   ·have hd:(s1==0)=false:=by simpa using hz
    have hd2:(s1 != 0)=true:=by simpa using hz
    have hn2:Hid (wantF fi (l.take (i+1))=(min a s1,true)):=by show _=_;rw[hnxN.out,if_pos hz]
    clear hnxN HB
    go_wp2_with fail
    go_roundw
    case rel=>exact⟨i+1,hiN.out,rfl,by rw[hn2.out],by rw[hn2.out],HB5⟩
    case measure=>have:=hiN.out;simp[intOf];omega
  obtain rfl:i=nl:=by omega
  have hiI:¬(i:Int)<i:=by omega
  rw[List.take_of_length_le (by rw[hnlN.out];exact Nat.le_refl _)]
  obtain⟨wt,hwt⟩:∃a,(wantF fi l).1=a:=⟨_,rfl⟩
  obtain⟨sm,hsm⟩:∃b,(wantF fi l).2=b:=⟨_,rfl⟩
  rw[hwt,hsm]
  have hold:=oldF_want fi l (by have:=first_le HOK.out;rw[hlN.out,hfiN.out]at this;exact this)
  rw[hwt,hsm]at hold
  have holdN:=Hd hold
  have hwtN:=Hd hwt
  have hsmN:=Hd hsm
  have HBr:=Hd (HBL.out.later HB.out)
  have HKr:Hid (Keeps (Own w0 L0) w wr):=Keeps.of_below _ (bT HblN.out HB.out)
  have hT:=HOK.out.2.1.T
  obtain⟨a,ha⟩:∃a,σ.T.1=a:=⟨_,rfl⟩
  have haB:Hid (a≤6912):=by show a≤6912;rw[←ha];exact HOK.out.2.2.T1
  have HRs:=Hd (rr_reserved HBr.out.rr (by have:=hbdN.out;omega) (by have:=hbdN.out;omega))
  rw[←hT,ha]at HRs
  have haN:=Hd ha
  clear hold hwt hsm ha hT hi hin HB HBL HO HblN
  go_wp2_with fail
  refine(HRs.out).mono ?_
  rintro e wR ⟨rfl,hbR⟩
  have HBR:=Hd (HBr.out.later hbR)
  have HKR:Hid (Keeps (Own w0 L0) w wR):=HKr.out.trans (Keeps.of_below (Own w0 L0) hbR) (fun _ _ h=>h)
  have hck:=chk_ok HOK.out (by have:=hbdN.out;omega)
  have HCk:=Hd (cx_check HBR.out.cx (by have:=hbdN.out;omega) (HOK.out.2.1.zero 0 (fun i y hy e=>by have:=(HOK.out.2.1.num i y hy).1;omega)) (by rw[HOK.out.2.1.lives,←HOK.out.2.1.fresh];exact hck.1) (by rw[HOK.out.2.1.lives,←HOK.out.2.1.fresh];omega))
  have hckN:=Hd hck
  clear hbR HBr HKr HRs hck
  go_wp2_with fail
  refine(HCk.out).mono ?_
  rintro e wC ⟨hkC,hto⟩
  clear HCk
  have hroomN:Hid (ρ.room=6912-(σ.used:Int)∧σ.used≤6912):=⟨HOK.out.2.1.room,hbdN.out.1⟩
  rcases hto with⟨ho,rfl,hcf⟩ | ⟨ho,hnf,rfl,hx⟩ | ⟨ho,hft,rfl,nC,hcf⟩
  ·have hsf:sm=false:=by have:=holdN.out.1;rw[HOK.out.2.1.lives,hlN.out]at ho;rw[←this];exact ho
   subst hsf
   have hwn:=want_none hsmN.out
   have hwf:wt=fi:=by rw[←hwtN.out];exact hwn.1
   rw[hwf]
   obtain⟨b1,b2⟩:=HBR.out.conc hkC hcf.1
   have hfin:=HOK.out.2.1.fin
   rw[hfiN.out]at hfin
   rw[←hfin]
   have hfinN:=Hd hfin
   obtain⟨od,hodv⟩:∃o,fi=o:=⟨_,rfl⟩
   have C4:wC.cell? ⟨m,4,none⟩=some (.int .i64 fi):=by rw[←hfiN.out];exact cell_at b1.rr.cell 4
   have HB1:=Hd b1
   have HCf1:=Hd hcf
   have HK1:Hid (Keeps (Own w0 L0) w wC):=HKR.out.trans b2 (fun _ _ h=>h)
   replace hodv:=Hd hodv
   clear b1 b2 hkC hcf ho HBR HKR hwf hwn hfin
   go_upto_region 14 with fail
   go_quiet (fail)
   obtain⟨W2,hW2⟩:∃W,wC.drewN nq=W:=⟨_,rfl⟩
   rw[hW2]
   have HB2:Hid (Bo w0 W2 L0 c lp p dp lb mb n lv σ m g B ρ):=hW2 ▸ HB1.out.later (bDN bR nq)
   have HCf:Hid (Cf w0 W2 (rOwn m g B++(rIm B++L0)) c lp p dp 6 lb mb n lv σ):=hW2 ▸ HCf1.out.later (bDN bR nq)
   have HK2:Hid (Keeps (Own w0 L0) w W2):=hW2 ▸ HK1.out.trans (Keeps.of_below (Own w0 L0) (bDN bR nq)) (fun _ _ h=>h)
   clear C4 hW2 HB1 HCf1 HK1
   rw[hodv.out]
   obtain⟨σ2,hσ2⟩:∃s,σ=s:=⟨_,rfl⟩
   obtain⟨ρ2,hρ2⟩:∃s,ρ=s:=⟨_,rfl⟩
   obtain⟨B2,hB2⟩:∃s,B=s:=⟨_,rfl⟩
   obtain⟨n2,hn2⟩:∃s,n=s:=⟨_,rfl⟩
   obtain⟨kk,hkkv⟩:∃q,σ2.recs.length=q:=⟨_,rfl⟩
   rw[hσ2,hB2,hρ2,hn2]at HB2
   rw[hσ2,hB2,hn2]at HCf
   have HS2:Hid (Sm σ2 ρ2 (fun _=>False)):=hσ2 ▸ hρ2 ▸ HOK.out.2.1
   have hr2:Hid (σ2.recs=ρ2.recs):=hσ2 ▸ hρ2 ▸ HOK.out.1
   have hkk:Hid (kk≤σ2.recs.length):=by show kk≤_;omega
   have hall:σ2.rs.take kk=σ2.rs:=List.take_of_length_le (by unfold CS.rs;rw[List.length_map];omega)
   have hod:Hid (od=((σ2.org+lenL (σ2.rs.take kk):Nat):Int)):=by show _=_;rw[hall,←hodv.out,hfinN.out,hσ2];rfl
   have hf2:Hid (σ2.fin≤50000000000):=by have h1:=HOK.out.2.2.fin;have h2:=HOK.out.2.2.kk;rw[hσ2]at h1;show _≤_;omega
   have HF:Hid (∀(W:World) (Bf:RB),Bo w0 W L0 c lp p dp lb mb n2 lv (σ2.cut kk) m g Bf (ρ2.cut kk (6912-((σ2.cut kk).used:Int)))→StP (Ok (k+1)) w0 W L0 c lp p dp m g):=fun W Bf hb=>⟨lb,mb,n2,lv,_,Bf,_,hb,ok_cut (σ:=σ2) (ρ:=ρ2) (hσ2 ▸ hρ2 ▸ HOK.out) hk1 HS2.out hr2.out hkk.out (fun i y hy ho hf=>absurd ((want_none hsmN.out).2 (lvO y) (by rw[←hlN.out,hρ2];exact List.mem_of_getElem? (xLive_at hy ho))) hf) rfl (by omega) rfl (by omega) rfl hb.cx.count.2.1⟩
   clear hall hkkv hn2 hB2 hρ2 hσ2 hodv
   have hS0:W2.drew.cell? ⟨m,1,none⟩=some (.int .i64 σ2.fresh):=by have:=cell_at HB2.out.rr.cell 1;rw[←HS2.out.fresh];exact this
   have HCd:Hid (Cf w0 W2.drew (rOwn m g B2++(rIm B2++L0)) c lp p dp 6 lb mb n2 lv σ2):=HCf.out.later (bD bR)
   have HBd:Hid (Bo w0 W2.drew L0 c lp p dp lb mb n2 lv σ2 m g B2 ρ2):=HB2.out.later (bD bR)
   have HKd:Hid (Keeps (Own w0 L0) w W2.drew):=HK2.out.drew
   have HFr:=Hd (cx_fresh HBd.out.cx)
   have HCu:Hid (∀W,Below W2.drew.heap.size W2.drew W→Calls Tryz.prog 94 #[.pointer (some ⟨c,0,none⟩),.int .i64 od] W fun e w'=>e = .returned (.int .i64 0)∧Keeps (Own w0 (rOwn m g B2++(rIm B2++L0))) W w'∧Cx w0 w' (rOwn m g B2++(rIm B2++L0)) c lp p dp 6 lb mb n2 lv (σ2.cut kk)):=fun W hb=>cx_cut (HCd.out.later hb) kk hkk.out hf2.out od hod.out
   have hrcb:Hid (ρ2.recs.length≤2304):=recs_cnt HB2.out hr2.out
   have hmo:Hid (¬Own w0 (rOwn m g B2++(rIm B2++L0)) m):=fun h=>h.2 (List.mem_append_left _ own_m)
   clear HCf HB2 HK2
   go_upto_region 16 with fail
   refine wp_region_held_drew (S:=fun W=>W.cell? ⟨m,1,none⟩=some (.int .i64 σ2.fresh)) (by kernel_rfl) hS0 (fun hHeld=>?_)
   refine tp 0 hHeld ?_
   go_frame
   refine tp 1 hHeld ?_
   go_frame
   refine tp 2 hHeld ?_
   go_frame
   refine tp 3 hHeld ?_
   go_frame
   refine tp 4 hHeld ?_
   go_frame
   refine tp 5 hHeld ?_
   go_frame
   refine tp 6 hHeld ?_
   go_frame
   refine tp 7 hHeld ?_
   go_frame
   refine tp 8 hHeld ?_
   go_frame
   refine tp 9 hHeld ?_
   go_frame
   refine tp 10 hHeld ?_
   go_frame
   refine tp 11 hHeld ?_
   go_frame
   refine tp 12 hHeld ?_
   go_frame
   refine tp 13 hHeld ?_
   go_frame
   refine tp 15 hHeld ?_
   go_frame
   refine tp 16 hHeld ?_
   go_frame
   refine tp 17 hHeld ?_
   go_frame
   refine tp 18 hHeld ?_
   go_frame
   refine rd 14 (fun K hK=>?_)
   go_simp
   go_at_call 93
   refine(HFr.out).mono ?_
   rintro e W3 ⟨rfl,hb3⟩
   have hS3:W3.cell? ⟨m,1,none⟩=some (.int .i64 σ2.fresh):=cell_keepS (Keeps.of_below (fun _=>False) hb3) (fun h=>h) hS0
   have HB3:=Hd hb3
   clear hb3 HFr
   dsimp only
   refine hK.out _ _ hS3 (fun hHeld=>?_)
   clear hK K
   try go_frame
   refine tp 19 hHeld ?_
   go_frame
   refine tp 20 hHeld ?_
   go_frame
   refine tp 21 hHeld ?_
   go_frame
   refine tp 22 hHeld ?_
   go_frame
   refine tp 23 hHeld ?_
   go_frame
   refine rd 24 (fun K hK=>?_)
   go_simp
   go_at_call 94
   refine(HCu.out _ HB3.out).mono ?_
   rintro e W4 ⟨rfl,hk4,hx4⟩
   have hS4:W4.cell? ⟨m,1,none⟩=some (.int .i64 σ2.fresh):=cell_keepS hk4 hmo.out hS3
   obtain⟨b4,hk4'⟩:=(HBd.out.later HB3.out).conc hk4 hx4
   have HB4:=Hd b4
   have HK4:Hid (Keeps (Own w0 L0) w W4):=(HKd.out.trans (Keeps.of_below (Own w0 L0) HB3.out) (fun _ _ h=>h)).trans hk4' (fun _ _ h=>h)
   clear hk4 hx4 hk4' b4 HCu HBd HKd HCd
   dsimp only
   refine hK.out _ _ hS4 (fun hHeld=>?_)
   clear hK K
   try go_frame
   refine tp 25 hHeld ?_
   go_frame
   refine tp 26 hHeld ?_
   go_frame
   clear hHeld
   refine wpAnyH_done (by kernel_rfl) ?_ _
   clear hS0 hS3 hS4 HB3
   have HRo:=Hd (HB4.out.cx.room)
   go_wp2_with fail
   refine(HRo.out).mono ?_
   rintro e W5 ⟨rfl,hb5⟩
   have HB5:=Hd (HB4.out.later hb5)
   have HK5:Hid (Keeps (Own w0 L0) w W5):=HK4.out.trans (Keeps.of_below (Own w0 L0) hb5) (fun _ _ h=>h)
   have F5:=free_at HB5.out.rr.cell 5
   have C5:W5.cell? ⟨m,5,none⟩=some (.int .i64 ρ2.room):=cell_at HB5.out.rr.cell 5
   obtain⟨rm,hrm⟩:∃r:Int,6912-((σ2.cut kk).used:Int)=r:=⟨_,rfl⟩
   rw[hrm]
   have hrmN:=Hd hrm
   have HP:=Hd (HB5.out.rr.setM 5 (.int .i64 rm) {ρ2 with room:=rm} rfl rfl rfl rfl rfl)
   clear hb5 HRo HB4 HK4 hrm
   go_upto_region 19 with fail
   refine name_world (fun W=>Rr W m g B2 {ρ2 with room:=rm}∧Keeps (· = m) W5 W) HP.out ?_
   rintro W6 ⟨h6,hk6⟩
   have hst6:Stp W5 W6 m g B2 B2 []:=⟨hk6.mono (fun q _ e=>e ▸ own_m),fun q hq => .inl hq,fun q hq => .inl hq⟩
   obtain⟨b6,k6⟩:=HB5.out.doc h6 hst6 L0 (fun _ h=>h) (fun _ h=>by cases h)
   have HB6:=Hd b6
   have HK6:Hid (Keeps (Own w0 L0) w W6):=HK5.out.trans k6 (fun _ _ h=>h)
   clear b6 k6 hst6 h6 hk6 HP HB5 HK5 C5 F5
   go_loopw [] (fun wr=>∃(i:Nat) (Bi:RB),i≤kk∧Hid (Bo w0 wr L0 c lp p dp lb mb n2 lv (σ2.cut kk) m g Bi (({ρ2 with room:=rm}:RS).cut i rm))∧Hid (Keeps (Own w0 L0) w wr)) (fun wr=>lenV' (wr.cell? ⟨m,3,none⟩))
   case atStart=>exact⟨0,B2,Nat.zero_le _,HB6,HK6⟩
   case round =>
    obtain⟨i,Bi,hi,HBi,HKi⟩:=hrel
    obtain⟨aa,ac,hav⟩:=HBi.out.rr.ats.form
    obtain⟨na,hna⟩:∃q,(({ρ2 with room:=rm}:RS).cut i rm).ats.length=q:=⟨_,rfl⟩
    rw[hna]at hav
    have C3:wr.cell? ⟨m,3,none⟩=some (.slice aa na ac):=by rw[←hav];exact cell_at HBi.out.rr.cell 3
    have hoa:OwnO wr 3 1 (.slice aa na ac) na (intV (ρ2.ats.drop i)):=by have:=HBi.out.rr.ats;rw[hav,hna]at this;exact this
    have hall:ρ2.ats.length=ρ2.recs.length:=by rw[HS2.out.pl.ats,placeL_length]
    have hnaN:Hid (na=ρ2.recs.length-i):=by show _=_;rw[←hna,←hall];show (ρ2.ats.drop i).length=_;rw[List.length_drop]
    have hkr:kk≤ρ2.recs.length:=by have:=hkk.out;rw[hr2.out]at this;exact this
    have hq:=HBi.out.rr.rq
    have hql:Bi.Q.length=na:=by have:=congrArg List.length hq;rw[List.length_map]at this;rw[this,hnaN.out];show (ρ2.recs.drop i).length=_;rw[List.length_drop]
    have hcap:=hoa.cap
    unfold maxLen at hcap
    by_cases hik:i<kk
    ·obtain⟨nb,rfl⟩:∃q,na=q+1:=⟨na-1,by have:=hnaN.out;omega⟩
     obtain⟨ga,fa,rfl⟩:=hoa.spot (by omega)
     have hil:i<ρ2.ats.length:=by rw[hall];omega
     obtain⟨a,hai⟩:∃a,ρ2.ats[i]? = some a:=⟨_,List.getElem?_eq_getElem hil⟩
     have hap:a=((σ2.org+lenL ((ρ2.recs.map rcS).take i):Nat):Int):=by
      have:=hai
      rw[HS2.out.pl.ats,placeL_get _ _ (by omega)]at this
      exact(Option.some.inj this).symm
     have hlt:a<od:=by
      have h1:=lenL_lt (ρ2.recs.map rcS) hik (by rw[List.length_map];exact hkr)
      have h2:=hod.out
      rw[HS2.out.rs]at h2
      omega
     have hdr:ρ2.ats.drop i=a::ρ2.ats.drop (i+1):=by rw[List.drop_eq_getElem_cons hil,(List.getElem?_eq_some_iff.1 hai).2]
     have CA:wr.cell? ⟨ga,fa,none⟩=some (.int .i64 a):=hoa.cells 0 _ (intV_get (by rw[hdr];rfl))
     obtain⟨ro,rc,hrv⟩:=HBi.out.rr.rs.form
     rw[hql]at hrv
     have hor:OwnO wr 65 14 (.slice ro (nb+1) rc) (nb+1) (Bi.Q.flatMap rrL):=by have:=HBi.out.rr.rs;rw[hrv,hql]at this;exact this
     obtain⟨gr,fr,rfl⟩:=hor.spot (by omega)
     have hcap2:=hor.cap
     unfold maxLen at hcap2
     have C2:wr.cell? ⟨m,2,none⟩=some (.slice (some ⟨gr,fr,none⟩) (nb+1) rc):=by rw[←hrv];exact cell_at HBi.out.rr.cell 2
     have F2:=free_at HBi.out.rr.cell 2
     have F3:=free_at HBi.out.rr.cell 3
     have h0n:(0:Int)<((nb+1:Nat):Int):=by omega
     have hd1:decide ((0:Int)<((nb+1:Nat):Int))=true:=decide_eq_true h0n
     have hd2:decide (a<od)=true:=decide_eq_true hlt
     obtain⟨t,Q',hQ⟩:∃t Q',Bi.Q=t::Q':=by
      cases hB:Bi.Q with
      | nil=>rw[hB]at hql;simp at hql
      | cons t Q'=>exact⟨t,Q',rfl⟩
     have hdrN:=Hd hdr
     have hQN:=Hd hQ
     have havN:=Hd hav
     have hrvN:=Hd hrv
     have hikN:=Hd hik
     clear hap hil hdr hQ hav hrv hor hoa hik hai hna hq hql hall hkr hi
     go_upto_region 20 with fail
     go_region
     obtain⟨av',hav'⟩:∃v,Value.slice (if ac=1 then some ⟨ga,fa,none⟩ else some ⟨ga,fa+1,none⟩) nb (ac-1)=v:=⟨_,rfl⟩
     obtain⟨rv',hrv'⟩:∃v,Value.slice (if rc=1 then some ⟨gr,fr,none⟩ else some ⟨gr,fr+14,none⟩) nb (rc-1)=v:=⟨_,rfl⟩
     rw[hav',hrv']
     have hk7:Keeps (· = m) wr (((wr.setCell ⟨m,3,none⟩ av').setCell ⟨m,2,none⟩ rv').drew):=(((Keeps.refl (fun x=>x=m) wr).setCell ⟨m,3,none⟩ av' (.inl rfl)).setCell ⟨m,2,none⟩ rv' (.inl rfl)).drew
     have hc7:(((wr.setCell ⟨m,3,none⟩ av').setCell ⟨m,2,none⟩ rv').drew).heap[m]? = some (.cells (rCells g {Bi with av:=av',rv:=rv',Q:=Q'} {(({ρ2 with room:=rm}:RS).cut i rm) with ats:=ρ2.ats.drop (i+1),recs:=(({ρ2 with room:=rm}:RS).cut i rm).recs.drop 1}) 57 (0,0)):=(heap_set (heap_set HBi.out.rr.cell 3 av') 2 rv').trans rfl
     have hr7:=HBi.out.rr.cut1 (a:=a) (ra:=ρ2.ats.drop (i+1)) hdrN.out hQN.out havN.out hrvN.out av' rv' hav'.symm hrv'.symm hc7 hk7
     have he7:({(({ρ2 with room:=rm}:RS).cut i rm) with ats:=ρ2.ats.drop (i+1),recs:=(({ρ2 with room:=rm}:RS).cut i rm).recs.drop 1}:RS)=(({ρ2 with room:=rm}:RS).cut (i+1) rm):=by
      unfold RS.cut
      dsimp only
      rw[List.drop_drop]
     rw[he7]at hr7
     have hba:blk av'=blk Bi.av:=by rw[←hav',havN.out];split <;> simp[blk,Value.ownBlock]
     have hbr:blk rv'=blk Bi.rv:=by rw[←hrv',hrvN.out];split <;> simp[blk,Value.ownBlock]
     have hst7:Stp wr (((wr.setCell ⟨m,3,none⟩ av').setCell ⟨m,2,none⟩ rv').drew) m g Bi {Bi with av:=av',rv:=rv',Q:=Q'} []:=⟨hk7.mono (fun q _ e=>e ▸ own_m),fun q hq => .inl (by
      rcases own_cases hq with h | h | h | h | h
      · exact h ▸ own_m
      · exact h ▸ own_g
      · exact own_x h
      ·have h':q∈blk rv':=h
       rw[hbr]at h';exact own_r h'
      ·have h':q∈blk av':=h
       rw[hba]at h';exact own_a h'),fun q hq => .inl (by
      obtain⟨s,hs,hs2⟩:=List.mem_flatMap.1 hq
      exact List.mem_flatMap.2 ⟨s,by rw[hQN.out];exact List.mem_cons_of_mem _ hs,hs2⟩)⟩
     obtain⟨b7,k7⟩:=HBi.out.doc hr7 hst7 L0 (fun _ h=>h) (fun _ h=>by cases h)
     have HB7:=Hd b7
     have HK7:Hid (Keeps (Own w0 L0) w (((wr.setCell ⟨m,3,none⟩ av').setCell ⟨m,2,none⟩ rv').drew)):=HKi.out.trans k7 (fun _ _ h=>h)
     have hms:Hid (lenV' ((((wr.setCell ⟨m,3,none⟩ av').setCell ⟨m,2,none⟩ rv').drew).cell? ⟨m,3,none⟩)<lenV' (wr.cell? ⟨m,3,none⟩)):=by
      show _<_
      rw[C3,show (((wr.setCell ⟨m,3,none⟩ av').setCell ⟨m,2,none⟩ rv').drew).cell? ⟨m,3,none⟩=some av' from cell_at hr7.cell 3,←hav']
      show nb<nb+1
      omega
     revert HB7 HK7 hms
     generalize ((wr.setCell ⟨m,3,none⟩ av').setCell ⟨m,2,none⟩ rv').drew=W7
     intro HB7 HK7 hms
     clear b7 k7 hst7 hr7 hc7 hk7 he7 hba hbr hav' hrv' C2 C3 CA F2 F3
     go_wp2_with fail
     go_roundw
     case rel=>exact⟨i+1,_,hikN.out,HB7,HK7⟩
     case measure=>exact hms.out
    obtain rfl:i=kk:=by omega
    have hfin:=HF.out wr Bi (by rw[hrmN.out];exact HBi.out)
    have hfinS:=Hd hfin
    clear HF hfin
    cases na with
    | zero =>
     have hd1:decide ((0:Int)<((0:Nat):Int))=false:=by decide
     have h0n:¬(0:Int)<((0:Nat):Int):=by decide
     clear hna hav hoa hall hkr hq hql hcap hi hik
     go_wp2_with fail
     go_ret
     exact⟨rfl,HKi.out,hfinS.out⟩
    | succ nb =>
     obtain⟨ga,fa,rfl⟩:=hoa.spot (by omega)
     have hil:i<ρ2.ats.length:=by rw[hall];have:=hnaN.out;omega
     obtain⟨a,hai⟩:∃a,ρ2.ats[i]? = some a:=⟨_,List.getElem?_eq_getElem hil⟩
     have hap:a=((σ2.org+lenL ((ρ2.recs.map rcS).take i):Nat):Int):=by
      have:=hai
      rw[HS2.out.pl.ats,placeL_get _ _ (by omega)]at this
      exact(Option.some.inj this).symm
     have hao:a=od:=by rw[hap,hod.out,HS2.out.rs]
     have hdr:ρ2.ats.drop i=a::ρ2.ats.drop (i+1):=by rw[List.drop_eq_getElem_cons hil,(List.getElem?_eq_some_iff.1 hai).2]
     have CA:wr.cell? ⟨ga,fa,none⟩=some (.int .i64 od):=by have:=hoa.cells 0 _ (intV_get (by rw[hdr];rfl));rw[←hao];exact this
     have h0n:(0:Int)<((nb+1:Nat):Int):=by omega
     have hd1:decide ((0:Int)<((nb+1:Nat):Int))=true:=decide_eq_true h0n
     have hlo:¬od<od:=Int.lt_irrefl _
     have hd2:decide (od<od)=false:=decide_eq_false hlo
     clear hna hav hoa hall hkr hq hql hi hik hil hai hap hao hdr
     go_wp2_with fail
     go_ret
     exact⟨rfl,HKi.out,hfinS.out⟩
  ·have hst:sm=true:=by have:=holdN.out.1;rw[HOK.out.2.1.lives,hlN.out]at ho;rw[←this];exact ho
   subst hst
   obtain⟨b1,b2⟩:=HBR.out.conc hkC hx
   have HB1:=Hd b1
   have HK1:Hid (Keeps (Own w0 L0) w wC):=HKR.out.trans b2 (fun _ _ h=>h)
   have hgt:Hid (ρ.room<(a:Int)+384):=by
    have h1:=hroomN.out
    have h2:¬(384+σ.T.1≤6912-σ.used-0∧0+σ.T.2≤1073741824):=hnf
    have h3:=HOK.out.2.2.T2
    have h4:=HOK.out.2.2.kk
    have h5:=haN.out
    show _<_
    omega
   have C5:wC.cell? ⟨m,5,none⟩=some (.int .i64 ρ.room):=cell_at HB1.out.rr.cell 5
   have haw:IntKind.i64.wrap ((a:Int)+384)=(a:Int)+384:=by have:=haB.out;rw[IntKind.wrap_i64];omega
   have hgd:ρ.room<(a:Int)+384:=hgt.out
   have hgd2:decide (ρ.room<(a:Int)+384)=true:=decide_eq_true hgt.out
   clear b1 b2 hkC hx ho hnf HBR HKR
   go_wp2_with fail
   go_ret
   exact⟨rfl,HK1.out,lb,mb,n,lv,σ,B,ρ,HB1.out,HOK.out.up hk1⟩
  ·have hst:sm=true:=by have:=holdN.out.1;rw[HOK.out.2.1.lives,hlN.out]at ho;rw[←this];exact ho
   subst hst
   have hwo:(oldF σ.lives).1=wt:=by rw[HOK.out.2.1.lives,hlN.out];exact holdN.out.2 (by rw[holdN.out.1])
   rw[hwo]
   obtain⟨b1,b2⟩:=HBR.out.conc hkC hcf.1
   have hfin:=HOK.out.2.1.fin
   rw[hfiN.out]at hfin
   rw[←hfin]
   have hfinN:=Hd hfin
   have hgt:Hid (¬ρ.room<(a:Int)+384):=fun h=>by
    have h1:=hroomN.out
    have h2:384+σ.T.1≤6912-σ.used-0:=hft.1
    have h5:=haN.out
    omega
   have C5:wC.cell? ⟨m,5,none⟩=some (.int .i64 ρ.room):=cell_at b1.rr.cell 5
   have C4:wC.cell? ⟨m,4,none⟩=some (.int .i64 fi):=by rw[←hfiN.out];exact cell_at b1.rr.cell 4
   have C1:wC.cell? ⟨m,1,none⟩=some (.int .i64 ρ.fresh):=cell_at b1.rr.cell 1
   have haw:IntKind.i64.wrap ((a:Int)+384)=(a:Int)+384:=by have:=haB.out;rw[IntKind.wrap_i64];omega
   have hgd:¬ρ.room<(a:Int)+384:=hgt.out
   have hgd2:decide (ρ.room<(a:Int)+384)=false:=decide_eq_false hgt.out
   have HB1:=Hd b1
   have HCf1:=Hd hcf
   have HK1:Hid (Keeps (Own w0 L0) w wC):=HKR.out.trans b2 (fun _ _ h=>h)
   obtain⟨fr,hfr⟩:∃f,ρ.fresh=f:=⟨_,rfl⟩
   rw[hfr]at C1
   have hS0:wC.drew.cell? ⟨m,1,none⟩=some (.int .i64 fr):=C1
   have HBd1:Hid (Bo w0 wC.drew L0 c lp p dp lb mb nC lv _ m g B ρ):=HB1.out.later (bD bR)
   have HLv2:=Hd (rr_lives HBd1.out.rr (by have:=hbdN.out;omega))
   rw[hlN.out,hnlN.out]at HLv2
   have hmr:Hid (∀(W:World) (v'':Value),Rr W m g B ρ→OwnS W 61 3 v'' i (lvV l)→(∀k∈blk v'',k<W.heap.size∧k∉rOwn m g B)→Calls Tryz.prog 46 #[.pointer (some ⟨m,0,none⟩),.agg (rcC (chkR l fr) nilS v'')] W fun e w'=>e = .returned (.bool true)∧∃B',Rr w' m g B' (ρ.wrote (chkR l fr))∧Stp W w' m g B B' (blk nilS++blk v'')):=fun W v'' hW hv hb=>by
    have hck:=hckN.out
    rw[hlN.out,hfr]at hck
    have hl8:=hn8.out
    have hbd:=hbdN.out
    have hq:=HB1.out.rr.qlen
    have hrn:=recs_cnt HB1.out
    have hn1:ρ.recs.length≤2304:=by have h1:=HBR.out.cx.count.1;rw[HOK.out.1]at h1;exact h1
    have ha2:ρ.ats.length=ρ.recs.length:=by rw[HOK.out.2.1.pl.ats,placeL_length]
    refine(rr_write hW (chkR l fr) nilS v'' hck.1 ⟨nil_sl17 W,by
     show Sl W v'' 3 (l.map lvL)
     exact own_sl lvL lvL_length l hv hnlN.out.symm (by unfold maxLen;omega) (by omega),Nat.zero_le _,Nat.zero_le _,fun z hz=>by simp[chkR]at hz⟩ (fun q hq'=>by
     rcases List.mem_append.1 hq' with h | h
     · simp[blk,Value.ownBlock,nilS]at h
     · exact hb q h) (by simp[chkR]) (fun z hz=>by simp[chkR]at hz) (by omega) (by omega) (by omega)).mono fun e w' hpost=>?_
    rcases hpost with⟨h1,_⟩ | ⟨_,he,B',hr,hst,-⟩
    ·have h2:=hgt.out
     have h3:=hroomN.out
     omega
    · exact⟨he,B',hr,hst⟩
   have hdj:Hid (∀q∈rOwn m g B,q<wC.drew.heap.size):=HBd1.out.rr.lt
   replace hfr:=Hd hfr
   clear b1 b2 hkC hcf ho HBR HKR hfin hwo hft
   go_upto_region 14 with fail
   clear C4 C5
   refine wp_region_held_drew (S:=fun W=>W.cell? ⟨m,1,none⟩=some (.int .i64 fr)) (by kernel_rfl) hS0 (fun hHeld=>?_)
   refine tp 0 hHeld ?_
   go_frame
   refine tp 1 hHeld ?_
   go_frame
   refine tp 2 hHeld ?_
   go_frame
   refine tp 3 hHeld ?_
   go_frame
   refine tp 5 hHeld ?_
   go_frame
   refine tp 6 hHeld ?_
   go_frame
   refine tp 7 hHeld ?_
   go_frame
   refine tp 8 hHeld ?_
   go_frame
   refine rd 4 (fun K hK=>?_)
   go_simp
   go_at_call 49
   refine(HLv2.out).mono ?_
   rintro e W3 ⟨v'',rfl,ho3,hbk3,hb3⟩
   obtain⟨va,vc,rfl⟩:=ho3.form
   have hS3:W3.cell? ⟨m,1,none⟩=some (.int .i64 fr):=cell_keepS (Keeps.of_below (fun _=>False) hb3) (fun h=>h) hS0
   have HB3:=Hd hb3
   have HW3:=Hd (hmr.out W3 (.slice va i vc) (HBd1.out.rr.later hb3) ho3 (fun q hq=>⟨ho3.lt hq,fun h=>by have h1:=hdj.out q h;have h2:=hbk3 q hq;omega⟩))
   have hbk:=Hd hbk3
   clear hb3 HLv2 ho3 hbk3 hmr
   dsimp only
   refine hK.out _ _ hS3 (fun hHeld=>?_)
   clear hK K
   try go_frame
   obtain⟨R',hR'⟩:∃R,rcC (chkR l fr) nilS (.slice va i vc)=R:=⟨_,rfl⟩
   rw[hR']at HW3
   replace hR':=Hd hR'
   refine tk 9 (v := .agg R') rfl (Or.inl ⟨by rfl,?_⟩) hHeld ?_
   ·intro w' hSw
    rw[←hR'.out]
    go_simp
    try rfl
   go_frame
   refine rd 10 (fun K hK=>?_)
   go_simp
   go_at_call 46
   refine(HW3.out).mono ?_
   rintro e W4 ⟨rfl,B4,h4,hst4⟩
   have hS4:W4.cell? ⟨m,1,none⟩=some (.int .i64 fr):=by rw[←hfr.out];exact cell_at h4.cell 1
   have hstw:Stp wC.drew W4 m g B B4 []:=((Stp.later HB3.out).trans hst4).wide (fun q hq=>by
    rcases List.mem_append.1 hq with h | h
    · simp at h
    ·rcases List.mem_append.1 h with h | h
     · simp[blk,Value.ownBlock,nilS]at h
     · exact .inr (hbk.out q h))
   obtain⟨b4,k4⟩:=HBd1.out.doc h4 hstw L0 (fun _ h=>h) (fun _ h=>by cases h)
   obtain⟨dl1,dl2⟩:=HBd1.out.docL h4 hstw (fun _ h=>by cases h)
   have hcf4:=(HCf1.out.later (bD bR)).swap hstw.keeps (fun q hq=>⟨List.mem_append_left _ hq,(HBd1.out.hi q hq).1⟩) _ dl1 dl2
   have HB2:=Hd b4
   have HCf:=Hd hcf4
   have HK2:Hid (Keeps (Own w0 L0) w W4):=HK1.out.drew.trans k4 (fun _ _ h=>h)
   clear b4 k4 dl1 dl2 hcf4 hstw hst4 h4 HW3 HB3 hbk hdj HBd1 HCf1 HB1 HK1 hR'
   dsimp only
   refine hK.out _ _ hS4 (fun hHeld=>?_)
   clear hK K
   try go_frame
   refine tp 11 hHeld ?_
   go_frame
   refine tp 12 hHeld ?_
   go_frame
   clear hHeld
   refine wpAnyH_done (by kernel_rfl) ?_ _
   clear hS0 hS3 hS4 C1
   obtain⟨W2,hW2⟩:∃W,W4=W:=⟨_,rfl⟩
   rw[hW2]at HB2 HCf HK2 ⊢
   clear hW2
   have hckr:chkR σ.lives σ.fresh=chkR l fr:=by rw[HOK.out.2.1.lives,hlN.out,←HOK.out.2.1.fresh,hfr.out]
   rw[hckr]at HB2 HCf
   have hck:=hckN.out
   rw[hlN.out,hfr.out]at hck
   have hs1:Sm {σ with cnt:=σ.cnt+1} ρ (fun _=>False):=HOK.out.2.1.congr rfl rfl rfl rfl rfl rfl rfl (fun i _=>rfl)
   have hs2:=hs1.wrote hck.1
   obtain⟨kk,hk1',hk2',hk3'⟩:=old_place HOK.out (by rw[hfiN.out,hlN.out];exact hsmN.out)
   rw[hfiN.out,hlN.out,hwtN.out]at hk2' hk3'
   have hrs1:(({σ with cnt:=σ.cnt+1}:CS).wrote (chkR l fr)).rs=σ.rs++[rcS (chkR l fr)]:=by unfold CS.rs CS.wrote;rw[List.map_append];rfl
   have hrl:kk<σ.rs.length:=by unfold CS.rs;rw[List.length_map,HOK.out.1];exact hk1'
   have htk:(({σ with cnt:=σ.cnt+1}:CS).wrote (chkR l fr)).rs.take kk=(ρ.recs.map rcS).take kk:=by rw[hrs1,List.take_append_of_le_length (by omega),HOK.out.2.1.rs]
   have hfin2:(({σ with cnt:=σ.cnt+1}:CS).wrote (chkR l fr)).fin≤σ.fin+300:=by
    show σ.org+lenL (({σ with cnt:=σ.cnt+1}:CS).wrote (chkR l fr)).rs≤σ.org+lenL σ.rs+300
    rw[hrs1,lenL_append,lenL_one]
    omega
   obtain⟨σ2,hσ2⟩:∃s,({σ with cnt:=σ.cnt+1}:CS).wrote (chkR l fr)=s:=⟨_,rfl⟩
   obtain⟨ρ2,hρ2⟩:∃s,ρ.wrote (chkR l fr)=s:=⟨_,rfl⟩
   obtain⟨B2,hB2⟩:∃s,B4=s:=⟨_,rfl⟩
   obtain⟨n2,hn2⟩:∃s,nC=s:=⟨_,rfl⟩
   rw[hσ2,hB2,hn2]at HCf
   rw[hσ2,hB2,hn2]at HB2
   rw[hρ2]at HB2
   rw[hσ2]at htk hfin2
   have HS2:Hid (Sm σ2 ρ2 (fun _=>False)):=hσ2 ▸ hρ2 ▸ hs2
   have hr2:Hid (σ2.recs=ρ2.recs):=by show _=_;rw[←hσ2,←hρ2];show σ.recs++_=ρ.recs++_;rw[HOK.out.1]
   have hkk:Hid (kk≤σ2.recs.length):=by show _≤_;rw[hr2.out,←hρ2];show kk≤(ρ.recs++_).length;rw[List.length_append];omega
   obtain⟨od,hodv⟩:∃o,wt=o:=⟨_,rfl⟩
   have horg:σ2.org=σ.org:=by rw[←hσ2];rfl
   have hod:Hid (od=((σ2.org+lenL (σ2.rs.take kk):Nat):Int)):=by show _=_;rw[htk,←hodv,hk2',horg]
   have hf2:Hid (σ2.fin≤50000000000):=by have h1:=HOK.out.2.2.fin;have h2:=HOK.out.2.2.kk;show _≤_;omega
   have HF:Hid (∀(W:World) (Bf:RB),Bo w0 W L0 c lp p dp lb mb n2 lv (σ2.cut kk) m g Bf (ρ2.cut kk (6912-((σ2.cut kk).used:Int)))→StP (Ok (k+1)) w0 W L0 c lp p dp m g):=fun W Bf hb=>⟨lb,mb,n2,lv,_,Bf,_,hb,ok_cut HOK.out hk1 HS2.out hr2.out hkk.out (fun i y hy ho hf=>by
    rw[←hρ2]at hy
    have h1:=hk3' i y hy ho hf
    have h2:=hod.out
    omega) (by rw[←hσ2];rfl) (by rw[←hσ2];exact Nat.le_refl _) (by rw[←hσ2];rfl) (by omega) (by rw[←hρ2];rfl) hb.cx.count.2.1⟩
   rw[hodv]
   have hfi2:Hid (fi=fi):=rfl
   clear hs1 hs2 hck hckr hk1' hk2' hk3' hrs1 hrl htk hfin2 hn2 hB2 hρ2 hσ2 hodv horg
   have hS0:W2.drew.cell? ⟨m,1,none⟩=some (.int .i64 σ2.fresh):=by have:=cell_at HB2.out.rr.cell 1;rw[←HS2.out.fresh];exact this
   have HCd:Hid (Cf w0 W2.drew (rOwn m g B2++(rIm B2++L0)) c lp p dp 6 lb mb n2 lv σ2):=HCf.out.later (bD bR)
   have HBd:Hid (Bo w0 W2.drew L0 c lp p dp lb mb n2 lv σ2 m g B2 ρ2):=HB2.out.later (bD bR)
   have HKd:Hid (Keeps (Own w0 L0) w W2.drew):=HK2.out.drew
   have HFr:=Hd (cx_fresh HBd.out.cx)
   have HCu:Hid (∀W,Below W2.drew.heap.size W2.drew W→Calls Tryz.prog 94 #[.pointer (some ⟨c,0,none⟩),.int .i64 od] W fun e w'=>e = .returned (.int .i64 0)∧Keeps (Own w0 (rOwn m g B2++(rIm B2++L0))) W w'∧Cx w0 w' (rOwn m g B2++(rIm B2++L0)) c lp p dp 6 lb mb n2 lv (σ2.cut kk)):=fun W hb=>cx_cut (HCd.out.later hb) kk hkk.out hf2.out od hod.out
   have hrcb:Hid (ρ2.recs.length≤2304):=recs_cnt HB2.out hr2.out
   have hmo:Hid (¬Own w0 (rOwn m g B2++(rIm B2++L0)) m):=fun h=>h.2 (List.mem_append_left _ own_m)
   clear HCf HB2 HK2
   go_upto_region 16 with fail
   refine wp_region_held_drew (S:=fun W=>W.cell? ⟨m,1,none⟩=some (.int .i64 σ2.fresh)) (by kernel_rfl) hS0 (fun hHeld=>?_)
   refine tp 0 hHeld ?_
   go_frame
   refine tp 1 hHeld ?_
   go_frame
   refine tp 2 hHeld ?_
   go_frame
   refine tp 3 hHeld ?_
   go_frame
   refine tp 4 hHeld ?_
   go_frame
   refine tp 5 hHeld ?_
   go_frame
   refine tp 6 hHeld ?_
   go_frame
   refine tp 7 hHeld ?_
   go_frame
   refine tp 8 hHeld ?_
   go_frame
   refine tp 9 hHeld ?_
   go_frame
   refine tp 10 hHeld ?_
   go_frame
   refine tp 11 hHeld ?_
   go_frame
   refine tp 12 hHeld ?_
   go_frame
   refine tp 13 hHeld ?_
   go_frame
   refine tp 15 hHeld ?_
   go_frame
   refine tp 16 hHeld ?_
   go_frame
   refine tp 17 hHeld ?_
   go_frame
   refine tp 18 hHeld ?_
   go_frame
   refine rd 14 (fun K hK=>?_)
   go_simp
   go_at_call 93
   refine(HFr.out).mono ?_
   rintro e W3 ⟨rfl,hb3⟩
   have hS3:W3.cell? ⟨m,1,none⟩=some (.int .i64 σ2.fresh):=cell_keepS (Keeps.of_below (fun _=>False) hb3) (fun h=>h) hS0
   have HB3:=Hd hb3
   clear hb3 HFr
   dsimp only
   refine hK.out _ _ hS3 (fun hHeld=>?_)
   clear hK K
   try go_frame
   refine tp 19 hHeld ?_
   go_frame
   refine tp 20 hHeld ?_
   go_frame
   refine tp 21 hHeld ?_
   go_frame
   refine tp 22 hHeld ?_
   go_frame
   refine tp 23 hHeld ?_
   go_frame
   refine rd 24 (fun K hK=>?_)
   go_simp
   go_at_call 94
   refine(HCu.out _ HB3.out).mono ?_
   rintro e W4 ⟨rfl,hk4,hx4⟩
   have hS4:W4.cell? ⟨m,1,none⟩=some (.int .i64 σ2.fresh):=cell_keepS hk4 hmo.out hS3
   obtain⟨b4,hk4'⟩:=(HBd.out.later HB3.out).conc hk4 hx4
   have HB4:=Hd b4
   have HK4:Hid (Keeps (Own w0 L0) w W4):=(HKd.out.trans (Keeps.of_below (Own w0 L0) HB3.out) (fun _ _ h=>h)).trans hk4' (fun _ _ h=>h)
   clear hk4 hx4 hk4' b4 HCu HBd HKd HCd
   dsimp only
   refine hK.out _ _ hS4 (fun hHeld=>?_)
   clear hK K
   try go_frame
   refine tp 25 hHeld ?_
   go_frame
   refine tp 26 hHeld ?_
   go_frame
   clear hHeld
   refine wpAnyH_done (by kernel_rfl) ?_ _
   clear hS0 hS3 hS4 HB3
   have HRo:=Hd (HB4.out.cx.room)
   go_wp2_with fail
   refine(HRo.out).mono ?_
   rintro e W5 ⟨rfl,hb5⟩
   have HB5:=Hd (HB4.out.later hb5)
   have HK5:Hid (Keeps (Own w0 L0) w W5):=HK4.out.trans (Keeps.of_below (Own w0 L0) hb5) (fun _ _ h=>h)
   have F5:=free_at HB5.out.rr.cell 5
   have C5:W5.cell? ⟨m,5,none⟩=some (.int .i64 ρ2.room):=cell_at HB5.out.rr.cell 5
   obtain⟨rm,hrm⟩:∃r:Int,6912-((σ2.cut kk).used:Int)=r:=⟨_,rfl⟩
   rw[hrm]
   have hrmN:=Hd hrm
   have HP:=Hd (HB5.out.rr.setM 5 (.int .i64 rm) {ρ2 with room:=rm} rfl rfl rfl rfl rfl)
   clear hb5 HRo HB4 HK4 hrm
   go_upto_region 19 with fail
   refine name_world (fun W=>Rr W m g B2 {ρ2 with room:=rm}∧Keeps (· = m) W5 W) HP.out ?_
   rintro W6 ⟨h6,hk6⟩
   have hst6:Stp W5 W6 m g B2 B2 []:=⟨hk6.mono (fun q _ e=>e ▸ own_m),fun q hq => .inl hq,fun q hq => .inl hq⟩
   obtain⟨b6,k6⟩:=HB5.out.doc h6 hst6 L0 (fun _ h=>h) (fun _ h=>by cases h)
   have HB6:=Hd b6
   have HK6:Hid (Keeps (Own w0 L0) w W6):=HK5.out.trans k6 (fun _ _ h=>h)
   clear b6 k6 hst6 h6 hk6 HP HB5 HK5 C5 F5
   go_loopw [] (fun wr=>∃(i:Nat) (Bi:RB),i≤kk∧Hid (Bo w0 wr L0 c lp p dp lb mb n2 lv (σ2.cut kk) m g Bi (({ρ2 with room:=rm}:RS).cut i rm))∧Hid (Keeps (Own w0 L0) w wr)) (fun wr=>lenV' (wr.cell? ⟨m,3,none⟩))
   case atStart=>exact⟨0,B2,Nat.zero_le _,HB6,HK6⟩
   case round =>
    obtain⟨i,Bi,hi,HBi,HKi⟩:=hrel
    obtain⟨aa,ac,hav⟩:=HBi.out.rr.ats.form
    obtain⟨na,hna⟩:∃q,(({ρ2 with room:=rm}:RS).cut i rm).ats.length=q:=⟨_,rfl⟩
    rw[hna]at hav
    have C3:wr.cell? ⟨m,3,none⟩=some (.slice aa na ac):=by rw[←hav];exact cell_at HBi.out.rr.cell 3
    have hoa:OwnO wr 3 1 (.slice aa na ac) na (intV (ρ2.ats.drop i)):=by have:=HBi.out.rr.ats;rw[hav,hna]at this;exact this
    have hall:ρ2.ats.length=ρ2.recs.length:=by rw[HS2.out.pl.ats,placeL_length]
    have hnaN:Hid (na=ρ2.recs.length-i):=by show _=_;rw[←hna,←hall];show (ρ2.ats.drop i).length=_;rw[List.length_drop]
    have hkr:kk≤ρ2.recs.length:=by have:=hkk.out;rw[hr2.out]at this;exact this
    have hq:=HBi.out.rr.rq
    have hql:Bi.Q.length=na:=by have:=congrArg List.length hq;rw[List.length_map]at this;rw[this,hnaN.out];show (ρ2.recs.drop i).length=_;rw[List.length_drop]
    have hcap:=hoa.cap
    unfold maxLen at hcap
    by_cases hik:i<kk
    ·obtain⟨nb,rfl⟩:∃q,na=q+1:=⟨na-1,by have:=hnaN.out;omega⟩
     obtain⟨ga,fa,rfl⟩:=hoa.spot (by omega)
     have hil:i<ρ2.ats.length:=by rw[hall];omega
     obtain⟨a,hai⟩:∃a,ρ2.ats[i]? = some a:=⟨_,List.getElem?_eq_getElem hil⟩
     have hap:a=((σ2.org+lenL ((ρ2.recs.map rcS).take i):Nat):Int):=by
      have:=hai
      rw[HS2.out.pl.ats,placeL_get _ _ (by omega)]at this
      exact(Option.some.inj this).symm
     have hlt:a<od:=by
      have h1:=lenL_lt (ρ2.recs.map rcS) hik (by rw[List.length_map];exact hkr)
      have h2:=hod.out
      rw[HS2.out.rs]at h2
      omega
     have hdr:ρ2.ats.drop i=a::ρ2.ats.drop (i+1):=by rw[List.drop_eq_getElem_cons hil,(List.getElem?_eq_some_iff.1 hai).2]
     have CA:wr.cell? ⟨ga,fa,none⟩=some (.int .i64 a):=hoa.cells 0 _ (intV_get (by rw[hdr];rfl))
     obtain⟨ro,rc,hrv⟩:=HBi.out.rr.rs.form
     rw[hql]at hrv
     have hor:OwnO wr 65 14 (.slice ro (nb+1) rc) (nb+1) (Bi.Q.flatMap rrL):=by have:=HBi.out.rr.rs;rw[hrv,hql]at this;exact this
     obtain⟨gr,fr,rfl⟩:=hor.spot (by omega)
     have hcap2:=hor.cap
     unfold maxLen at hcap2
     have C2:wr.cell? ⟨m,2,none⟩=some (.slice (some ⟨gr,fr,none⟩) (nb+1) rc):=by rw[←hrv];exact cell_at HBi.out.rr.cell 2
     have F2:=free_at HBi.out.rr.cell 2
     have F3:=free_at HBi.out.rr.cell 3
     have h0n:(0:Int)<((nb+1:Nat):Int):=by omega
     have hd1:decide ((0:Int)<((nb+1:Nat):Int))=true:=decide_eq_true h0n
     have hd2:decide (a<od)=true:=decide_eq_true hlt
     obtain⟨t,Q',hQ⟩:∃t Q',Bi.Q=t::Q':=by
      cases hB:Bi.Q with
      | nil=>rw[hB]at hql;simp at hql
      | cons t Q'=>exact⟨t,Q',rfl⟩
     have hdrN:=Hd hdr
     have hQN:=Hd hQ
     have havN:=Hd hav
     have hrvN:=Hd hrv
     have hikN:=Hd hik
     clear hap hil hdr hQ hav hrv hor hoa hik hai hna hq hql hall hkr hi
     go_upto_region 20 with fail
     go_region
     obtain⟨av',hav'⟩:∃v,Value.slice (if ac=1 then some ⟨ga,fa,none⟩ else some ⟨ga,fa+1,none⟩) nb (ac-1)=v:=⟨_,rfl⟩
     obtain⟨rv',hrv'⟩:∃v,Value.slice (if rc=1 then some ⟨gr,fr,none⟩ else some ⟨gr,fr+14,none⟩) nb (rc-1)=v:=⟨_,rfl⟩
     rw[hav',hrv']
     have hk7:Keeps (· = m) wr (((wr.setCell ⟨m,3,none⟩ av').setCell ⟨m,2,none⟩ rv').drew):=(((Keeps.refl (fun x=>x=m) wr).setCell ⟨m,3,none⟩ av' (.inl rfl)).setCell ⟨m,2,none⟩ rv' (.inl rfl)).drew
     have hc7:(((wr.setCell ⟨m,3,none⟩ av').setCell ⟨m,2,none⟩ rv').drew).heap[m]? = some (.cells (rCells g {Bi with av:=av',rv:=rv',Q:=Q'} {(({ρ2 with room:=rm}:RS).cut i rm) with ats:=ρ2.ats.drop (i+1),recs:=(({ρ2 with room:=rm}:RS).cut i rm).recs.drop 1}) 57 (0,0)):=(heap_set (heap_set HBi.out.rr.cell 3 av') 2 rv').trans rfl
     have hr7:=HBi.out.rr.cut1 (a:=a) (ra:=ρ2.ats.drop (i+1)) hdrN.out hQN.out havN.out hrvN.out av' rv' hav'.symm hrv'.symm hc7 hk7
     have he7:({(({ρ2 with room:=rm}:RS).cut i rm) with ats:=ρ2.ats.drop (i+1),recs:=(({ρ2 with room:=rm}:RS).cut i rm).recs.drop 1}:RS)=(({ρ2 with room:=rm}:RS).cut (i+1) rm):=by
      unfold RS.cut
      dsimp only
      rw[List.drop_drop]
     rw[he7]at hr7
     have hba:blk av'=blk Bi.av:=by rw[←hav',havN.out];split <;> simp[blk,Value.ownBlock]
     have hbr:blk rv'=blk Bi.rv:=by rw[←hrv',hrvN.out];split <;> simp[blk,Value.ownBlock]
     have hst7:Stp wr (((wr.setCell ⟨m,3,none⟩ av').setCell ⟨m,2,none⟩ rv').drew) m g Bi {Bi with av:=av',rv:=rv',Q:=Q'} []:=⟨hk7.mono (fun q _ e=>e ▸ own_m),fun q hq => .inl (by
      rcases own_cases hq with h | h | h | h | h
      · exact h ▸ own_m
      · exact h ▸ own_g
      · exact own_x h
      ·have h':q∈blk rv':=h
       rw[hbr]at h';exact own_r h'
      ·have h':q∈blk av':=h
       rw[hba]at h';exact own_a h'),fun q hq => .inl (by
      obtain⟨s,hs,hs2⟩:=List.mem_flatMap.1 hq
      exact List.mem_flatMap.2 ⟨s,by rw[hQN.out];exact List.mem_cons_of_mem _ hs,hs2⟩)⟩
     obtain⟨b7,k7⟩:=HBi.out.doc hr7 hst7 L0 (fun _ h=>h) (fun _ h=>by cases h)
     have HB7:=Hd b7
     have HK7:Hid (Keeps (Own w0 L0) w (((wr.setCell ⟨m,3,none⟩ av').setCell ⟨m,2,none⟩ rv').drew)):=HKi.out.trans k7 (fun _ _ h=>h)
     have hms:Hid (lenV' ((((wr.setCell ⟨m,3,none⟩ av').setCell ⟨m,2,none⟩ rv').drew).cell? ⟨m,3,none⟩)<lenV' (wr.cell? ⟨m,3,none⟩)):=by
      show _<_
      rw[C3,show (((wr.setCell ⟨m,3,none⟩ av').setCell ⟨m,2,none⟩ rv').drew).cell? ⟨m,3,none⟩=some av' from cell_at hr7.cell 3,←hav']
      show nb<nb+1
      omega
     revert HB7 HK7 hms
     generalize ((wr.setCell ⟨m,3,none⟩ av').setCell ⟨m,2,none⟩ rv').drew=W7
     intro HB7 HK7 hms
     clear b7 k7 hst7 hr7 hc7 hk7 he7 hba hbr hav' hrv' C2 C3 CA F2 F3
     go_wp2_with fail
     go_roundw
     case rel=>exact⟨i+1,_,hikN.out,HB7,HK7⟩
     case measure=>exact hms.out
    obtain rfl:i=kk:=by omega
    have hfin:=HF.out wr Bi (by rw[hrmN.out];exact HBi.out)
    have hfinS:=Hd hfin
    clear HF hfin
    cases na with
    | zero =>
     have hd1:decide ((0:Int)<((0:Nat):Int))=false:=by decide
     have h0n:¬(0:Int)<((0:Nat):Int):=by decide
     clear hna hav hoa hall hkr hq hql hcap hi hik
     go_wp2_with fail
     go_ret
     exact⟨rfl,HKi.out,hfinS.out⟩
    | succ nb =>
     obtain⟨ga,fa,rfl⟩:=hoa.spot (by omega)
     have hil:i<ρ2.ats.length:=by rw[hall];have:=hnaN.out;omega
     obtain⟨a,hai⟩:∃a,ρ2.ats[i]? = some a:=⟨_,List.getElem?_eq_getElem hil⟩
     have hap:a=((σ2.org+lenL ((ρ2.recs.map rcS).take i):Nat):Int):=by
      have:=hai
      rw[HS2.out.pl.ats,placeL_get _ _ (by omega)]at this
      exact(Option.some.inj this).symm
     have hao:a=od:=by rw[hap,hod.out,HS2.out.rs]
     have hdr:ρ2.ats.drop i=a::ρ2.ats.drop (i+1):=by rw[List.drop_eq_getElem_cons hil,(List.getElem?_eq_some_iff.1 hai).2]
     have CA:wr.cell? ⟨ga,fa,none⟩=some (.int .i64 od):=by have:=hoa.cells 0 _ (intV_get (by rw[hdr];rfl));rw[←hao];exact this
     have h0n:(0:Int)<((nb+1:Nat):Int):=by omega
     have hd1:decide ((0:Int)<((nb+1:Nat):Int))=true:=decide_eq_true h0n
     have hlo:¬od<od:=Int.lt_irrefl _
     have hd2:decide (od<od)=false:=decide_eq_false hlo
     clear hna hav hoa hall hkr hq hql hi hik hil hai hap hao hdr
     go_wp2_with fail
     go_ret
     exact⟨rfl,HKi.out,hfinS.out⟩
end
end Go.Proofs.YtimomjheanfbmaaGreatDoor.G
