import Derived.Test.YtimomjheanfbmaaGreatDoorQaa
import Derived.Test.YtimomjheanfbmaaGreatDoorRai
set_option linter.unusedSimpArgs false
set_option linter.unusedVariables false
namespace Go.Proofs.YtimomjheanfbmaaGreatDoor
open Go.RowKit
theorem step_store_slot {ops:Array Oper} {o:Oper} {a:Act} {w:World} {K:Act→World→Prop} {Q:Exit→Act→World→Prop} {E:Prop} (hgd:o.guard=none) (x y:Operand) (ho:o.op = .store 166 x y)
  (g i c n:Nat) (l:List Slot) (s':Slot) (hx:a.eval x = .pointer (some ⟨g,i*20,none⟩)) (hy:a.eval y = .agg (slC s').toArray) (H:OwnS w 166 20 (.slice (some ⟨g,0,none⟩) n c) n (slV l)) (hi:i<l.length) (hn:0<n)
  (h:∀w',Hid (OwnS w' 166 20 (.slice (some ⟨g,0,none⟩) n c) n (slV (l.set i s')))→Hid (Keeps (· = g) w w')→K (a.put o.dst undef) w'):if Region.wanted o (yielded ops a.tmps)=true then Oper.wp Tryz.prog o a w K Q else E:=by
 have hw:Region.wanted o (yielded ops a.tmps)=true:=by simp[Region.wanted,hgd]
 rw[if_pos hw]
 have h20:(slC s').toArray.size=20:=by rw[List.size_toArray,slC_length]
 refine wp_store_mid 166 x y ho g (i*20) (slC s').toArray hx hy (by rw[h20];exact slot_there H i l[i] (List.getElem?_eq_getElem hi) hn) (by rw[h20];kernel_rfl) (slC_one s') ?_
 refine h _ ?_ (Keeps.setCells (S:=fun x=>x=g) (a:=w) (b:=g) (.inl rfl) _ _ (Keeps.refl _ _))
 have h2:=OwnS.cells H (slC s') (i*20)
 rw[Nat.mul_comm i 20,slV_put l i s' hi]at h2
 rw[Nat.mul_comm i 20]
 exact h2
theorem OwnS.addr {w:World} {e:TypeId} {size:Nat} {a:Option Addr} {n c:Nat} {xs:List Value} (h:OwnS w e size (.slice a n c) n xs) (hn:0<n):∃g,a=some ⟨g,0,none⟩:=by
 obtain⟨g,c',he⟩:=h.has hn
 exact⟨g,by simpa using congrArg (fun v=>match v with | .slice a _ _=>a | _=>none) he⟩
def GtS (p b:Nat) (sv:Value) (Q:Pg) (w:World):Prop:=w.cell? ⟨p,5,none⟩=some sv∧w.heap[b]? = some (.cells (pgC Q) 49 (0,0))
inductive GetRel (first n bb:Nat) (P:ByteArray) (rs:List ByteArray) (X:Pl) (i0:Nat) (D:Dev) (id:Int):Pg→Int→Pl→Nat→Dev→Prop
 | wrong:id<0∨(X.pages:Int)≤id→GetRel first n bb P rs X i0 D id pageZ 1 X i0 D
 | hit (i:Nat) (s:Slot):0≤id→id<X.pages→X.slots[i]? = some s→s.id=id→GetRel first n bb P rs X i0 D id s.P 0 {X with slots:=X.slots.set i {s with warm:=true}} i0 D
 | bad (Q:Pg) (t c:Int):0≤id→id<X.pages→(∀s∈X.slots,s.id≠id)→LdRel D (X.base+4*id.toNat) Q t c→c≠0→GetRel first n bb P rs X i0 D id pageZ c X i0 D
 | full (Q:Pg) (t:Int) (X1:Pl) (i1:Nat) (D1:Dev) (cd:Int) (at_:Nat):0≤id→id<X.pages→(∀s∈X.slots,s.id≠id)→LdRel D (X.base+4*id.toNat) Q t 0→PlaceRel first n bb P rs X i0 D X1 i1 D1 cd at_→cd≠0→GetRel first n bb P rs X i0 D id pageZ cd X1 i1 D1
 | got (Q:Pg) (t:Int) (X1:Pl) (i1:Nat) (D1:Dev) (at_:Nat):0≤id→id<X.pages→(∀s∈X.slots,s.id≠id)→LdRel D (X.base+4*id.toNat) Q t 0→PlaceRel first n bb P rs X i0 D X1 i1 D1 0 at_ →
  GetRel first n bb P rs X i0 D id Q 0 {X1 with slots:=X1.slots.set at_ {id:=id,P:=Q,st:=t,dirty:=false,warm:=true}} i1 D1
theorem results_row_one {P:Program} {fn:Func} {p k:Tmp} {ty:TypeId} (h:fn.results = #[.cell p ty,.tmp k]) (tmps:Array Value) (w:World) (g:Nat) (t:TypeId) (cs:Array Value) (fr:Nat×Nat) (d:TypeDesc)
 (hp:tmps.getD p undef = .pointer (some ⟨g,0,none⟩)) (hg:w.heap[g]? = some (.cells cs t fr))
 (hu:P.underlying ty=some d) (hd:(match d with | .struct _ | .array _ _=>true | _=>false)=true) (hi:(P.info? ty).map (·.size)=some cs.size) :
 (results fn tmps).run P w = .ok (.tuple #[.agg cs,tmps.getD k undef]) w:=results_row_tmp h tmps w g t cs fr d hp hg hu hd hi
theorem place_at {first n bb:Nat} {P:ByteArray} {rs:List ByteArray} {X X':Pl} {i0 i1:Nat} {D D':Dev} {cd:Int} {at_:Nat} (h:PlaceRel first n bb P rs X i0 D X' i1 D' cd at_) (hcd:cd=0):at_<X'.slots.length∧X'.pages=X.pages∧X'.base=X.base∧X'.room=X.room:=by
 cases h with
 | grow h=>exact⟨by show _<(X.slots++[slBlank]).length;rw[List.length_append];simp,rfl,rfl,rfl⟩
 | keep l _ s h h1 h2 h3 h4=>exact⟨by show _<(l.set _ slBlank).length;rw[List.length_set];exact(List.getElem?_eq_some_iff.1 h3).1,rfl,rfl,rfl⟩
 | wrote l _ s h _ _ h1 h2 h3 h4 h5=>exact⟨by show _<(l.set _ slBlank).length;rw[List.length_set];exact(List.getElem?_eq_some_iff.1 h3).1,rfl,rfl,rfl⟩
 | fail l a s h _ _ h1 h2 h3 h4 h5=>exact absurd hcd (by decide)
set_option maxRecDepth 100000 in
set_option maxHeartbeats 800000 in
theorem pl_get {w:World} {p lp dp first n bb:Nat} {P:ByteArray} {rs:List ByteArray} {i0:Nat} {X:Pl} {sv:Value} {S Sl Sd:List Nat} {D:Dev} (h:Pw w p lp dp first n bb P rs i0 X sv S Sl Sd D)
  (N:Nat) (hNb:N≤3000000000000) (hsoft:SoftB N D) (id:Int) :
  Calls Tryz.prog 24 #[.pointer (some ⟨p,0,none⟩),.int .i64 id] w fun e w'=>∃Q c i1 X' sv' S' Sd' D',e = .returned (.tuple #[pgV Q,.int .i64 c])∧GetRel first n bb P rs X i0 D id Q c X' i1 D' ∧
   Pw w' p lp dp first n bb P rs i1 X' sv' S' Sl Sd' D'∧Keeps (fun k=>k∈S∨k∈Sl∨k∈Sd) w w'∧(∀k∈S',k∈S∨w.heap.size≤k)∧∀k∈Sd',k∈Sd∨w.heap.size≤k:=by
 have hpw:Hid (∀w',Below w.heap.size w w'→Pw w' p lp dp first n bb P rs i0 X sv S Sl Sd D):=fun w' hb=>h.later hb
 have HWr:=Hd (fun w' (hb:Below w.heap.size w w')=>pl_wrong (hpw.out w' hb).pool id)
 have HF:=Hd (fun w' (hb:Below w.heap.size w w')=>pl_find (hpw.out w' hb).pool id)
 have HPl:=Hd (fun w' (hb:Below w.heap.size w w')=>pl_place (hpw.out w' hb) N hNb hsoft)
 have hlow:Hid (∀k,(k∈S∨k∈Sl∨k∈Sd)→k<w.heap.size):=fun k hk=>by
  rcases hk with hk | hk | hk
  · exact h.pool.lt k hk
  · exact h.ws.log.lt k hk
  · exact h.ws.dsk.lt k hk
 have hfit:=h.fit
 obtain⟨⟨o1,o2,o3,o4,o5,o6,o7,o8⟩,g1,g2,gS,gSn⟩:=h.pool
 obtain⟨sa,sc,hsv⟩:=g2.form
 have H1:=Hd g1
 have H2:=Hd g2
 replace gS:=Hd gS
 replace gSn:=Hd gSn
 replace o8:=Hd o8
 have hz0:Hid ((w.alloc (.cells (pgC pageZ) 49)).heap[w.heap.size]? = some (.cells (pgC pageZ) 49 (0,0))):=hN rfl
 clear h g1 g2
 go_enter Tryz.func24,Tryz.ntmps24
 go_wp2_with fail
 refine(HWr.out _ (bA bR)).mono ?_
 rintro e w2 ⟨rfl,hb⟩
 have HB2:=Hd (bT (bA bR) hb)
 have HZ2:=Hd (hBs hb hz0.out)
 clear hb hz0 HWr
 by_cases hr:id<0∨(X.pages:Int)≤id
 ·have hb:(decide (id<0)||decide ((X.pages:Int)≤id))=true:=by simpa using hr
  rw[hb]
  replace hr:=Hd hr
  clear hb
  go_wp2_with (refine wpList_store_whole rfl 49 _ _ rfl _ (pgC pageZ) rfl rfl _ (pgC pageZ) HZ2.out rfl (by kernel_rfl) (pgC_one _) ?_;intro wz HRz KZ)
  refine bodyPost_ret (results_row_tmp Tryz.results24 _ _ _ _ _ _ _ rfl HRz.out Tryz.underlying49 rfl (by kernel_rfl)) rfl ?_
  have hbz:Below w.heap.size w wz:=bK HB2.out KZ.out (fun j hj=>by omega)
  exact⟨pageZ,1,i0,X,sv,S,Sd,D,rfl,.wrong hr.out,hpw.out _ hbz,Keeps.of_below _ hbz,fun k hk => .inl hk,fun k hk => .inl hk⟩
 have hb:(decide (id<0)||decide ((X.pages:Int)≤id))=false:=by simp;omega
 rw[hb]
 clear hb
 obtain⟨m,rfl⟩:∃m:Nat,id=m:=⟨id.toNat,by omega⟩
 have hm:m<X.pages:=by omega
 have HL:=Hd (fun w' (hb:Below w.heap.size w w')=>pl_load (hpw.out w' hb).pool (hpw.out w' hb).ws.dsk m hm hfit)
 have hm0:Hid ((0:Int)≤m∧(m:Int)<X.pages):=⟨by omega,by omega⟩
 have hmt:Hid ((m:Int).toNat=m):=Int.toNat_natCast m
 replace hr:=Hd hr
 replace hfit:=Hd hfit
 go_wp2_with fail
 refine(HF.out _ HB2.out).mono ?_
 rintro e w3 ⟨h3,hb⟩
 have HB3:=Hd (bT HB2.out hb)
 have HZ3:=Hd (hBs hb HZ2.out)
 clear hb HZ2 HB2 HF
 rcases h3 with⟨i,s,hs,hsid,-,rfl⟩ | ⟨hnone,rfl⟩
 ·have hil:i<X.slots.length:=(List.getElem?_eq_some_iff.1 hs).1
  subst hsv
  obtain⟨g,rfl⟩:=H2.out.addr (by omega)
  have hpg:Hid (p≠g∧g∈S∧p∈S):=by
   have h1:=gSn.out
   rw[gS.out]at h1 ⊢
   refine⟨?_,by simp[blk,Value.ownBlock],by simp⟩
   rintro rfl
   simp[blk,Value.ownBlock]at h1
  have hne:=hpg.out.1
  have H13:=Hd (hBs HB3.out H1.out)
  have H23:=Hd (H2.out.keep (Keeps.of_below (fun _=>False) HB3.out) (fun _ _ h=>h))
  have x5:w3.cell? ⟨p,5,none⟩=some (.slice (some ⟨g,0,none⟩) X.slots.length sc):=cell_at H13.out 5
  obtain⟨-,-,-,-,r4⟩:=slot_at H23.out i s hs
  have f4:=slot_free H23.out (by omega) (i*20+19)
  have hset:Hid (OwnS (w3.setCell ⟨g,i*20+19,none⟩ (.bool true)) 166 20 (.slice (some ⟨g,0,none⟩) X.slots.length sc) X.slots.length (slV (X.slots.set i {s with warm:=true}))):=by
   have:=H23.out.set (i*20+19) (.bool true)
   rw[Nat.mul_comm i 20,slV_set X.slots i 19 s {s with warm:=true} (.bool true) hs (by omega) rfl]at this
   rw[Nat.mul_comm i 20]
   exact this
  have HR4:=Hd (slot_at hset.out i {s with warm:=true} (by rw[List.getElem?_set_self hil])).2.1
  have hglt:Hid (g<w.heap.size):=hlow.out g (.inl hpg.out.2.1)
  have HZ4:Hid ((w3.setCell ⟨g,i*20+19,none⟩ (.bool true)).heap[w.heap.size]? = some (.cells (pgC pageZ) 49 (0,0))):=hSO HZ3.out (by have:=hglt.out;show w.heap.size≠g;omega)
  have hilI:(i:Int)<X.slots.length:=by omega
  have hi0:(0:Int)≤i:=by omega
  replace hs:=Hd hs
  replace hsid:=Hd hsid
  replace hil:=Hd hil
  go_wp2_with (first
   | (refine wpList_load_arr rfl 49 _ rfl g (i*20+1) rfl (pgC s.P) _ HR4.out Tryz.underlying49 rfl (by kernel_rfl) ?_)
   | (refine wpList_store_whole rfl 49 _ _ rfl _ (pgC s.P) rfl rfl _ (pgC pageZ) HZ4.out rfl (by kernel_rfl) (pgC_one _) ?_;intro wz HRz KZ))
  refine bodyPost_ret (results_row_tmp Tryz.results24 _ _ _ _ _ _ _ rfl HRz.out Tryz.underlying49 rfl (by kernel_rfl)) rfl ?_
  have hkg:Keeps (· = g) w3 (w3.setCell ⟨g,i*20+19,none⟩ (.bool true)):=(Keeps.refl _ _).setCell _ _ (.inl rfl)
  have hP4:=(hpw.out _ HB3.out).slots (g:=g) (by simp[blk,Value.ownBlock]) (l':=X.slots.set i {s with warm:=true}) (by rw[List.length_set]) (by rw[List.length_set];exact hset.out) hkg (fun s' hs' hd'=>by
   rcases List.mem_or_eq_of_mem_set hs' with h | h
   · exact o8.out s' h hd'
   · subst h;exact o8.out s (List.mem_of_getElem? hs.out) hd')
  have hKz:Keeps (fun k=>k∈S∨k∈Sl∨k∈Sd) w wz:=((Keeps.of_below _ HB3.out).trans hkg (fun k _ e => .inl (by rw[e];exact hpg.out.2.1))).trans KZ.out (fun k hk e=>by omega)
  exact⟨s.P,0,i0,_,_,S,Sd,D,rfl,.hit i s hm0.out.1 hm0.out.2 hs.out hsid.out,⟨hP4.pool.keep KZ.out (fun k hk e=>by have:=hlow.out k (.inl hk);omega),hP4.ws.keep KZ.out (fun k hk e=>by have:=hlow.out k (.inr (.inl hk));omega) (fun k hk e=>by have:=hlow.out k (.inr (.inr hk));omega),hP4.dl,hP4.dd,hP4.ring,hP4.fit⟩,hKz,fun k hk => .inl hk,fun k hk => .inl hk⟩
 ·have HN:=Hd hnone
  clear hnone
  go_wp2_with fail
  refine(HL.out _ HB3.out).mono ?_
  rintro e w4 ⟨Q,t,c,rfl,hld,hb⟩
  have HLd:=Hd hld
  have HB4:=Hd (bT HB3.out hb)
  have HZ4:=Hd (hBs hb HZ3.out)
  have hzl:Hid (w.heap.size<w4.heap.size):=block_lt HZ4.out
  have HN4:Hid ((w4.alloc (.cells (pgC pageZ) 49)).heap[w4.heap.size]? = some (.cells (pgC pageZ) 49 (0,0))):=hN rfl
  clear hb hld HZ3 HB3 HL
  unfold pgV
  by_cases hc:c=0
  rotate_left
  ·have hc':=Hd hc
   go_wp2_with (first
    | (refine wpList_store_whole rfl 49 _ _ rfl _ (pgC Q) rfl rfl _ (pgC pageZ) HN4.out rfl (by kernel_rfl) (pgC_one _) ?_;intro w5 HR5 K5;(have HZ5:=Hd (K5.keep (hO HZ4.out) (by have:=hzl.out;omega)));(have HB5:=Hd (bK (bA HB4.out) K5 (fun j hj=>by have:=hzl.out;omega)));clear HN4 HZ4 HB4)
    | (refine wpList_store_whole rfl 49 _ _ rfl _ (pgC pageZ) rfl rfl _ (pgC pageZ) HZ5.out rfl (by kernel_rfl) (pgC_one _) ?_;intro wz HRz KZ))
   refine bodyPost_ret (results_row_tmp Tryz.results24 _ _ _ _ _ _ _ rfl HRz.out Tryz.underlying49 rfl (by kernel_rfl)) rfl ?_
   have hbz:Below w.heap.size w wz:=bK HB5.out KZ.out (fun j hj=>by omega)
   exact⟨pageZ,c,i0,X,sv,S,Sd,D,rfl,.bad Q t c hm0.out.1 hm0.out.2 HN.out (by rw[hmt.out];exact HLd.out) hc'.out,hpw.out _ hbz,Keeps.of_below _ hbz,fun k hk => .inl hk,fun k hk => .inl hk⟩
  subst hc
  go_wp2_with (refine wpList_store_whole rfl 49 _ _ rfl _ (pgC Q) rfl rfl _ (pgC pageZ) HN4.out rfl (by kernel_rfl) (pgC_one _) ?_;intro w5 HR5 K5;(have HZ5:=Hd (K5.keep (hO HZ4.out) (by have:=hzl.out;omega)));(have HB5:=Hd (bK (bA HB4.out) K5 (fun j hj=>by have:=hzl.out;omega)));clear HN4 HZ4 HB4)
  refine(HPl.out _ HB5.out).mono ?_
  rintro e w6 ⟨cd,at_,i1,X1,sv1,S1,Sd1,D1,rfl,hpr,hp6,hk6,hS1,hSd1⟩
  have HPR:=Hd hpr
  have HP6:=Hd hp6
  have hb5:w.heap.size≤w5.heap.size:=HB5.out.size
  have HK6:Hid (Keeps (fun k=>k∈S∨k∈Sl∨k∈Sd) w w6):=(Keeps.of_below _ HB5.out).trans hk6 (fun k _ h=>h)
  have HS1:Hid (∀k∈S1,k∈S∨w5.heap.size≤k):=hS1
  have HSd1:Hid (∀k∈Sd1,k∈Sd∨w5.heap.size≤k):=hSd1
  have hbl5:Hid (w.heap.size<w5.heap.size∧w4.heap.size<w5.heap.size):=⟨block_lt HZ5.out,block_lt HR5.out⟩
  have HZ6:=Hd (hk6.keep HZ5.out (fun h=>by have:=hlow.out _ h;omega))
  have HR6:=Hd (hk6.keep HR5.out (fun h=>by have:=hlow.out _ h;have:=hzl.out;omega))
  clear hpr hp6 hk6 hS1 hSd1 HPl HR5 HZ5
  by_cases hcd:cd=0
  rotate_left
  ·have hcd':=Hd hcd
   go_wp2_with (refine wpList_store_whole rfl 49 _ _ rfl _ (pgC pageZ) rfl rfl _ (pgC pageZ) HZ6.out rfl (by kernel_rfl) (pgC_one _) ?_;intro wz HRz KZ)
   refine bodyPost_ret (results_row_tmp Tryz.results24 _ _ _ _ _ _ _ rfl HRz.out Tryz.underlying49 rfl (by kernel_rfl)) rfl ?_
   have hn1:∀k,(k∈S1∨k∈Sl∨k∈Sd1)→k≠w.heap.size:=fun k hk e=>by
    rcases hk with hk | hk | hk
    ·rcases HS1.out k hk with h | h
     · have:=hlow.out k (.inl h);omega
     · have:=hbl5.out.1;omega
    · have:=hlow.out k (.inr (.inl hk));omega
    ·rcases HSd1.out k hk with h | h
     · have:=hlow.out k (.inr (.inr h));omega
     · have:=hbl5.out.1;omega
   exact⟨pageZ,cd,i1,X1,sv1,S1,Sd1,D1,rfl,.full Q t X1 i1 D1 cd at_ hm0.out.1 hm0.out.2 HN.out (by rw[hmt.out];exact HLd.out) HPR.out hcd'.out,⟨HP6.out.pool.keep KZ.out (fun k hk e=>hn1 k (.inl hk) e),HP6.out.ws.keep KZ.out (fun k hk e=>hn1 k (.inr (.inl hk)) e) (fun k hk e=>hn1 k (.inr (.inr hk)) e),HP6.out.dl,HP6.out.dd,HP6.out.ring,HP6.out.fit⟩,HK6.out.trans KZ.out (fun k hk e=>by omega),fun k hk=>(HS1.out k hk).imp (fun h=>h) (fun h=>by omega),fun k hk=>(HSd1.out k hk).imp (fun h=>h) (fun h=>by omega)⟩
  subst hcd
  obtain⟨hat,-,-,-⟩:=place_at HPR.out rfl
  obtain⟨-,q1,q2,qS,qSn⟩:=HP6.out.pool
  obtain⟨sa1,sc1,hsv1⟩:=q2.form
  subst hsv1
  obtain⟨g,rfl⟩:=q2.addr (by omega)
  have hpg:Hid (p≠g∧g∈S1∧p∈S1):=by
   rw[qS]at qSn ⊢
   refine⟨?_,by simp[blk,Value.ownBlock],by simp⟩
   rintro rfl
   simp[blk,Value.ownBlock]at qSn
  have Q1:=Hd q1
  have Q2:=Hd q2
  have hatI:(at_:Int)<X1.slots.length:=by omega
  have hat0:(0:Int)≤at_:=by omega
  have hn1:Hid (∀k,(k∈S1∨k∈Sl∨k∈Sd1)→k≠w.heap.size∧k≠w4.heap.size):=fun k hk=>by
   have h4:=hzl.out
   have h5:=hbl5.out
   rcases hk with hk | hk | hk
   ·rcases HS1.out k hk with h | h
    · have:=hlow.out k (.inl h);omega
    · omega
   · have:=hlow.out k (.inr (.inl hk));omega
   ·rcases HSd1.out k hk with h | h
    · have:=hlow.out k (.inr (.inr h));omega
    · omega
  clear q1 q2 qS qSn
  go_wp2_with fail
  have hS0:GtS p w4.heap.size (.slice (some ⟨g,0,none⟩) X1.slots.length sc1) Q w6.drew:=⟨cell_at Q1.out 5,HR6.out⟩
  refine wp_region_held_drew (S:=GtS p w4.heap.size (.slice (some ⟨g,0,none⟩) X1.slots.length sc1) Q) (by kernel_rfl) hS0 (fun hHeld=>?_)
  clear hS0
  refine tx2 0 hHeld ?_
  go_frame
  refine tx2 1 hHeld ?_
  go_frame
  refine tx2 2 hHeld ?_
  go_frame
  refine tx2 3 hHeld ?_
  go_frame
  refine tx2 4 hHeld ?_
  go_frame
  refine tx2 5 hHeld ?_
  go_frame
  refine tk 6 (v := .agg (pgC Q)) rfl (yieldsIf_load_mid (by rfl) _ _ rfl w4.heap.size 0 rfl (pgC Q).toList _ (fun _ h=>range_of h.2) Tryz.underlying49 rfl (by kernel_rfl)) hHeld ?_
  go_frame
  refine tx2 7 hHeld ?_
  go_frame
  refine tk 8 (v := .agg (slC {id:=m,P:=Q,st:=t,dirty:=false,warm:=true}).toArray) rfl (Or.inl ⟨by rfl,fun _ _=>by first | kernel_rfl | (go_simp;simp[pgC,slC])⟩) hHeld ?_
  go_frame
  refine tx2 9 (v := .pointer (some ⟨g,at_*20,none⟩)) hHeld ?_
  go_frame
  refine rd 10 (fun K hK=>?_)
  refine step_store_slot rfl _ _ rfl g at_ sc1 X1.slots.length X1.slots {id:=m,P:=Q,st:=t,dirty:=false,warm:=true} rfl rfl (OwnS.keep (w:=w6) Q2.out ((Keeps.refl (fun _=>False) w6).drew) (fun _ _ h=>h)) hat (by omega) ?_
  intro w7 HO7 HK7
  refine hK.out _ _ ⟨(cell_at (HK7.out.keep (hDr Q1.out) hpg.out.1) 5),HK7.out.keep (hDr HR6.out) (fun e=>(hn1.out g (.inl hpg.out.2.1)).2 e.symm)⟩ (fun hHeld=>?_)
  clear hK K
  have HR7:=Hd hHeld.2
  have HZ7:=Hd (HK7.out.keep (hDr HZ6.out) (fun e=>(hn1.out g (.inl hpg.out.2.1)).1 e.symm))
  clear hHeld
  try go_frame
  refine wpAnyH_done (by kernel_rfl) ?_ _
  refine ‹∀(a:Act) (w:World),Code.wp Tryz.prog _ _ a w→_› _ _ ?_
  go_wp2_with (first
   | (refine wpList_load_row rfl 49 _ rfl _ rfl 49 _ _ _ HR7.out Tryz.underlying49 rfl (by kernel_rfl) ?_)
   | (refine wpList_store_whole rfl 49 _ _ rfl _ (pgC Q) rfl rfl _ (pgC pageZ) HZ7.out rfl (by kernel_rfl) (pgC_one _) ?_;intro wz HRz KZ))
  refine bodyPost_ret (results_row_tmp Tryz.results24 _ _ _ _ _ _ _ rfl HRz.out Tryz.underlying49 rfl (by kernel_rfl)) rfl ?_
  have hP7:=(HP6.out.later (bD bR)).slots (g:=g) (by simp[blk,Value.ownBlock]) (l':=X1.slots.set at_ {id:=m,P:=Q,st:=t,dirty:=false,warm:=true}) (by rw[List.length_set]) (by rw[List.length_set];exact HO7.out) HK7.out (fun s' hs' hd'=>by
   rcases List.mem_or_eq_of_mem_set hs' with h | h
   · exact HP6.out.pool.1.2.2.2.2.2.2.2 s' h hd'
   · subst h;cases hd')
  have hKz:Keeps (fun k=>k∈S∨k∈Sl∨k∈Sd) w wz:=((HK6.out.drew).trans HK7.out (fun k hk e=>by
   have h1:=HS1.out g hpg.out.2.1
   rw[←e]at h1
   rcases h1 with h | h
   · exact .inl h
   · omega)).trans KZ.out (fun k hk e=>by omega)
  exact⟨Q,0,i1,_,_,S1,Sd1,D1,rfl,.got Q t X1 i1 D1 at_ hm0.out.1 hm0.out.2 HN.out (by rw[hmt.out];exact HLd.out) HPR.out,⟨hP7.pool.keep KZ.out (fun k hk e=>(hn1.out k (.inl hk)).1 e),hP7.ws.keep KZ.out (fun k hk e=>(hn1.out k (.inr (.inl hk))).1 e) (fun k hk e=>(hn1.out k (.inr (.inr hk))).1 e),hP7.dl,hP7.dd,hP7.ring,hP7.fit⟩,hKz,fun k hk=>(HS1.out k hk).imp (fun h=>h) (fun h=>by omega),fun k hk=>(HSd1.out k hk).imp (fun h=>h) (fun h=>by omega)⟩
end Go.Proofs.YtimomjheanfbmaaGreatDoor
namespace Go.Proofs.YtimomjheanfbmaaGreatDoor
open Go.RowKit
inductive PutRel (first n bb:Nat) (P:ByteArray) (rs:List ByteArray) (X:Pl) (i0:Nat) (D:Dev) (id:Int) (x:Pg) (st:Int):Int→Pl→Nat→Dev→Prop
 | bad:(id<0∨(X.pages:Int)≤id∨st<0∨¬PgOk x)→PutRel first n bb P rs X i0 D id x st 1 X i0 D
 | over (i:Nat) (s:Slot):0≤id→id<X.pages→0≤st→PgOk x→X.slots[i]? = some s→s.id=id→PutRel first n bb P rs X i0 D id x st 0 {X with slots:=X.slots.set i {id:=id,P:=x,st:=st,dirty:=true,warm:=true}} i0 D
 | full (X1:Pl) (i1:Nat) (D1:Dev) (cd:Int) (at_:Nat):0≤id→id<X.pages→0≤st→PgOk x→(∀s∈X.slots,s.id≠id)→PlaceRel first n bb P rs X i0 D X1 i1 D1 cd at_→cd≠0→PutRel first n bb P rs X i0 D id x st cd X1 i1 D1
 | new (X1:Pl) (i1:Nat) (D1:Dev) (at_:Nat):0≤id→id<X.pages→0≤st→PgOk x→(∀s∈X.slots,s.id≠id)→PlaceRel first n bb P rs X i0 D X1 i1 D1 0 at_ →
  PutRel first n bb P rs X i0 D id x st 0 {X1 with slots:=X1.slots.set at_ {id:=id,P:=x,st:=st,dirty:=true,warm:=true}} i1 D1
set_option maxRecDepth 100000 in
set_option maxHeartbeats 800000 in
theorem pl_put {w:World} {p lp dp first n bb:Nat} {P:ByteArray} {rs:List ByteArray} {i0:Nat} {X:Pl} {sv:Value} {S Sl Sd:List Nat} {D:Dev} (h:Pw w p lp dp first n bb P rs i0 X sv S Sl Sd D)
  (N:Nat) (hNb:N≤3000000000000) (hsoft:SoftB N D) (id:Int) (x:Pg) (hx:∀i,i<6→(x.dt i).size≤maxLen) (st:Int) (hst:st≤1152921504606846976) :
  Calls Tryz.prog 27 #[.pointer (some ⟨p,0,none⟩),.int .i64 id,pgV x,.int .i64 st] w fun e w'=>∃c i1 X' sv' S' Sd' D',e = .returned (.int .i64 c)∧PutRel first n bb P rs X i0 D id x st c X' i1 D' ∧
   Pw w' p lp dp first n bb P rs i1 X' sv' S' Sl Sd' D'∧Keeps (fun k=>k∈S∨k∈Sl∨k∈Sd) w w'∧(∀k∈S',k∈S∨w.heap.size≤k)∧∀k∈Sd',k∈Sd∨w.heap.size≤k:=by
 have hpw:Hid (∀w',Below w.heap.size w w'→Pw w' p lp dp first n bb P rs i0 X sv S Sl Sd D):=fun w' hb=>h.later hb
 have HWr:=Hd (fun w' (hb:Below w.heap.size w w')=>pl_wrong (hpw.out w' hb).pool id)
 have HF:=Hd (fun w' (hb:Below w.heap.size w w')=>pl_find (hpw.out w' hb).pool id)
 have HPl:=Hd (fun w' (hb:Below w.heap.size w w')=>pl_place (hpw.out w' hb) N hNb hsoft)
 have HCk:=Hd (fun w=>pg_check x hx w)
 have hlow:Hid (∀k,(k∈S∨k∈Sl∨k∈Sd)→k<w.heap.size):=fun k hk=>by
  rcases hk with hk | hk | hk
  · exact h.pool.lt k hk
  · exact h.ws.log.lt k hk
  · exact h.ws.dsk.lt k hk
 obtain⟨⟨o1,o2,o3,o4,o5,o6,o7,o8⟩,g1,g2,gS,gSn⟩:=h.pool
 have H1:=Hd g1
 have H2:=Hd g2
 replace gS:=Hd gS
 replace gSn:=Hd gSn
 replace o8:=Hd o8
 have hz0:Hid ((w.alloc (.cells (pgC x) 49)).heap[w.heap.size]? = some (.cells (pgC x) 49 (0,0))):=hN rfl
 clear h g1 g2
 unfold pgV at HCk ⊢
 go_enter Tryz.func27,Tryz.ntmps27
 go_wp2_with fail
 refine(HWr.out _ (bA bR)).mono ?_
 rintro e w2 ⟨rfl,hb⟩
 have HB2:=Hd (bT (bA bR) hb)
 have HR2:=Hd (hBs hb hz0.out)
 clear hb hz0 HWr
 by_cases hr:id<0∨(X.pages:Int)≤id
 ·have hb:(decide (id<0)||decide ((X.pages:Int)≤id))=true:=by simpa using hr
  rw[hb]
  replace hr:=Hd hr
  clear hb
  go_wp2_with fail
  go_ret
  exact⟨1,i0,X,sv,S,Sd,D,rfl,.bad (hr.out.imp_right .inl),hpw.out _ HB2.out,Keeps.of_below _ HB2.out,fun k hk => .inl hk,fun k hk => .inl hk⟩
 have hb:(decide (id<0)||decide ((X.pages:Int)≤id))=false:=by simp;omega
 rw[hb]
 clear hb
 by_cases hst0:st<0
 ·have hst0':=Hd hst0
  have hd0:decide (st<0)=true:=by simpa using hst0
  go_wp2_with fail
  go_ret
  exact⟨1,i0,X,sv,S,Sd,D,rfl,.bad (.inr (.inr (.inl hst0'.out))),hpw.out _ HB2.out,Keeps.of_below _ HB2.out,fun k hk => .inl hk,fun k hk => .inl hk⟩
 obtain⟨m,rfl⟩:∃m:Nat,id=m:=⟨id.toNat,by omega⟩
 have hm0:Hid ((0:Int)≤m∧(m:Int)<X.pages):=⟨by omega,by omega⟩
 have hst1:Hid (0≤st):=by show 0≤st;omega
 replace hr:=Hd hr
 have hd0:decide (st<0)=false:=by simpa using hst0
 go_wp2_with (refine wpList_load_want (by rfl) 49 _ rfl _ rfl 49 _ _ _ HR2.out Tryz.underlying49 rfl (by kernel_rfl) ?_)
 refine(HCk.out _).mono ?_
 rintro e w3 ⟨hck,hb⟩
 have HB3:=Hd (bT HB2.out hb)
 have HR3:=Hd (hBs hb HR2.out)
 clear hb HR2 HB2 HCk
 rcases hck with⟨rfl,hxok⟩ | ⟨rfl,hxok⟩
 rotate_left
 ·replace hxok:=Hd hxok
  go_wp2_with fail
  go_ret
  exact⟨1,i0,X,sv,S,Sd,D,rfl,.bad (.inr (.inr (.inr hxok.out))),hpw.out _ HB3.out,Keeps.of_below _ HB3.out,fun k hk => .inl hk,fun k hk => .inl hk⟩
 replace hxok:=Hd hxok
 go_wp2_with fail
 refine(HF.out _ HB3.out).mono ?_
 rintro e w4 ⟨h4,hb⟩
 have HB4:=Hd (bT HB3.out hb)
 have HR4:=Hd (hBs hb HR3.out)
 clear hb HR3 HB3 HF
 have hsl:Hid (SlOk X.pages {id:=m,P:=x,st:=st,dirty:=true,warm:=true}):=⟨hm0.out.1,hm0.out.2,hxok.out,hst1.out,hst⟩
 rcases h4 with⟨i,s,hs,hsid,-,rfl⟩ | ⟨hnone,rfl⟩
 ·have hat:i<X.slots.length:=(List.getElem?_eq_some_iff.1 hs).1
  obtain⟨sa,sc,hsv⟩:=H2.out.form
  subst hsv
  obtain⟨g,rfl⟩:=H2.out.addr (by omega)
  have hpg:Hid (p≠g∧g∈S∧p∈S):=by
   have h1:=gSn.out
   rw[gS.out]at h1 ⊢
   refine⟨?_,by simp[blk,Value.ownBlock],by simp⟩
   rintro rfl
   simp[blk,Value.ownBlock]at h1
  have hgw:Hid (w.heap.size≠g):=by
   have:=hlow.out g (.inl hpg.out.2.1)
   show w.heap.size≠g
   omega
  have H14:=Hd (hBs HB4.out H1.out)
  have H24:=Hd (H2.out.keep (Keeps.of_below (fun _=>False) HB4.out) (fun _ _ h=>h))
  have hatI:(i:Int)<X.slots.length:=by omega
  have hat0:(0:Int)≤i:=by omega
  replace hs:=Hd hs
  replace hsid:=Hd hsid
  go_wp2_with fail
  have hS0:GtS p w.heap.size (.slice (some ⟨g,0,none⟩) X.slots.length sc) x w4.drew:=⟨cell_at H14.out 5,HR4.out⟩
  refine wp_region_held_drew (S:=GtS p w.heap.size (.slice (some ⟨g,0,none⟩) X.slots.length sc) x) (by kernel_rfl) hS0 (fun hHeld=>?_)
  clear hS0
  refine tx2 0 hHeld ?_
  go_frame
  refine tx2 1 hHeld ?_
  go_frame
  refine tx2 2 hHeld ?_
  go_frame
  refine tx2 3 hHeld ?_
  go_frame
  refine tx2 4 hHeld ?_
  go_frame
  refine tx2 5 hHeld ?_
  go_frame
  refine tk 6 (v := .agg (pgC x)) rfl (yieldsIf_load_mid (by rfl) _ _ rfl w.heap.size 0 rfl (pgC x).toList _ (fun _ h=>range_of h.2) Tryz.underlying49 rfl (by kernel_rfl)) hHeld ?_
  go_frame
  refine tx2 7 hHeld ?_
  go_frame
  refine tk 8 (v := .agg (slC {id:=m,P:=x,st:=st,dirty:=true,warm:=true}).toArray) rfl (Or.inl ⟨by rfl,fun _ _=>by first | kernel_rfl | (go_simp;simp[pgC,slC])⟩) hHeld ?_
  go_frame
  refine tx2 9 (v := .pointer (some ⟨g,i*20,none⟩)) hHeld ?_
  go_frame
  refine rd 10 (fun K hK=>?_)
  refine step_store_slot rfl _ _ rfl g i sc X.slots.length X.slots {id:=m,P:=x,st:=st,dirty:=true,warm:=true} rfl rfl (OwnS.keep (w:=w4) H24.out ((Keeps.refl (fun _=>False) w4).drew) (fun _ _ h=>h)) hat (by omega) ?_
  intro w7 HO7 HK7
  refine hK.out _ _ ⟨(cell_at (HK7.out.keep (hDr H14.out) hpg.out.1) 5),HK7.out.keep (hDr HR4.out) hgw.out⟩ (fun hHeld=>?_)
  clear hK K hHeld
  try go_frame
  refine wpAnyH_done (by kernel_rfl) ?_ _
  refine ‹∀(a:Act) (w:World),Code.wp Tryz.prog _ _ a w→_› _ _ ?_
  go_wp2_with fail
  go_ret
  have hP7:=((hpw.out _ HB4.out).later (bD bR)).slots (g:=g) (by simp[blk,Value.ownBlock]) (l':=X.slots.set i {id:=m,P:=x,st:=st,dirty:=true,warm:=true}) (by rw[List.length_set]) (by rw[List.length_set];exact HO7.out) HK7.out (fun s' hs' hd'=>by
   rcases List.mem_or_eq_of_mem_set hs' with h | h
   · exact(hpw.out _ HB4.out).pool.1.2.2.2.2.2.2.2 s' h hd'
   · subst h;exact hsl.out)
  exact⟨0,i0,_,_,S,Sd,D,rfl,.over i s hm0.out.1 hm0.out.2 hst1.out hxok.out hs.out hsid.out,hP7,((Keeps.of_below _ HB4.out).drew).trans HK7.out (fun k _ e => .inl (by rw[e];exact hpg.out.2.1)),fun k hk => .inl hk,fun k hk => .inl hk⟩
 ·have HN:=Hd hnone
  clear hnone
  go_wp2_with fail
  refine(HPl.out _ HB4.out).mono ?_
  rintro e w6 ⟨cd,at_,i1,X1,sv1,S1,Sd1,D1,rfl,hpr,hp6,hk6,hS1,hSd1⟩
  have HPR:=Hd hpr
  have HP6:=Hd hp6
  have hb5:w.heap.size≤w4.heap.size:=HB4.out.size
  have HK6:Hid (Keeps (fun k=>k∈S∨k∈Sl∨k∈Sd) w w6):=(Keeps.of_below _ HB4.out).trans hk6 (fun k _ h=>h)
  have HS1:Hid (∀k∈S1,k∈S∨w4.heap.size≤k):=hS1
  have HSd1:Hid (∀k∈Sd1,k∈Sd∨w4.heap.size≤k):=hSd1
  have HR6:=Hd (hk6.keep HR4.out (fun h=>by have:=hlow.out _ h;omega))
  have hbl:Hid (w.heap.size<w4.heap.size):=block_lt HR4.out
  clear hpr hp6 hk6 hS1 hSd1 HPl HR4
  by_cases hcd:cd=0
  rotate_left
  ·have hcd':=Hd hcd
   go_wp2_with fail
   go_ret
   exact⟨cd,i1,X1,sv1,S1,Sd1,D1,rfl,.full X1 i1 D1 cd at_ hm0.out.1 hm0.out.2 hst1.out hxok.out HN.out HPR.out hcd'.out,HP6.out,HK6.out,fun k hk=>(HS1.out k hk).imp (fun h=>h) (fun h=>by omega),fun k hk=>(HSd1.out k hk).imp (fun h=>h) (fun h=>by omega)⟩
  subst hcd
  obtain⟨hat,hpgs,-,-⟩:=place_at HPR.out rfl
  replace hpgs:=Hd hpgs
  obtain⟨-,q1,q2,qS,qSn⟩:=HP6.out.pool
  obtain⟨sa1,sc1,hsv1⟩:=q2.form
  subst hsv1
  obtain⟨g,rfl⟩:=q2.addr (by omega)
  have hpg:Hid (p≠g∧g∈S1∧p∈S1):=by
   rw[qS]at qSn ⊢
   refine⟨?_,by simp[blk,Value.ownBlock],by simp⟩
   rintro rfl
   simp[blk,Value.ownBlock]at qSn
  have hgw:Hid (w.heap.size≠g):=by
   rcases HS1.out g hpg.out.2.1 with h | h
   ·have:=hlow.out g (.inl h)
    show w.heap.size≠g
    omega
   ·have:=hbl.out
    show w.heap.size≠g
    omega
  have Q1:=Hd q1
  have Q2:=Hd q2
  have hatI:(at_:Int)<X1.slots.length:=by omega
  have hat0:(0:Int)≤at_:=by omega
  clear q1 q2 qS qSn
  go_wp2_with fail
  have hS0:GtS p w.heap.size (.slice (some ⟨g,0,none⟩) X1.slots.length sc1) x w6.drew:=⟨cell_at Q1.out 5,HR6.out⟩
  refine wp_region_held_drew (S:=GtS p w.heap.size (.slice (some ⟨g,0,none⟩) X1.slots.length sc1) x) (by kernel_rfl) hS0 (fun hHeld=>?_)
  clear hS0
  refine tx2 0 hHeld ?_
  go_frame
  refine tx2 1 hHeld ?_
  go_frame
  refine tx2 2 hHeld ?_
  go_frame
  refine tx2 3 hHeld ?_
  go_frame
  refine tx2 4 hHeld ?_
  go_frame
  refine tx2 5 hHeld ?_
  go_frame
  refine tk 6 (v := .agg (pgC x)) rfl (yieldsIf_load_mid (by rfl) _ _ rfl w.heap.size 0 rfl (pgC x).toList _ (fun _ h=>range_of h.2) Tryz.underlying49 rfl (by kernel_rfl)) hHeld ?_
  go_frame
  refine tx2 7 hHeld ?_
  go_frame
  refine tk 8 (v := .agg (slC {id:=m,P:=x,st:=st,dirty:=true,warm:=true}).toArray) rfl (Or.inl ⟨by rfl,fun _ _=>by first | kernel_rfl | (go_simp;simp[pgC,slC])⟩) hHeld ?_
  go_frame
  refine tx2 9 (v := .pointer (some ⟨g,at_*20,none⟩)) hHeld ?_
  go_frame
  refine rd 10 (fun K hK=>?_)
  refine step_store_slot rfl _ _ rfl g at_ sc1 X1.slots.length X1.slots {id:=m,P:=x,st:=st,dirty:=true,warm:=true} rfl rfl (OwnS.keep (w:=w6) Q2.out ((Keeps.refl (fun _=>False) w6).drew) (fun _ _ h=>h)) hat (by omega) ?_
  intro w7 HO7 HK7
  refine hK.out _ _ ⟨(cell_at (HK7.out.keep (hDr Q1.out) hpg.out.1) 5),HK7.out.keep (hDr HR6.out) hgw.out⟩ (fun hHeld=>?_)
  clear hK K hHeld
  try go_frame
  refine wpAnyH_done (by kernel_rfl) ?_ _
  refine ‹∀(a:Act) (w:World),Code.wp Tryz.prog _ _ a w→_› _ _ ?_
  go_wp2_with fail
  go_ret
  have hP7:=(HP6.out.later (bD bR)).slots (g:=g) (by simp[blk,Value.ownBlock]) (l':=X1.slots.set at_ {id:=m,P:=x,st:=st,dirty:=true,warm:=true}) (by rw[List.length_set]) (by rw[List.length_set];exact HO7.out) HK7.out (fun s' hs' hd'=>by
   rcases List.mem_or_eq_of_mem_set hs' with h | h
   · exact HP6.out.pool.1.2.2.2.2.2.2.2 s' h hd'
   · subst h;exact hpgs.out ▸ hsl.out)
  exact⟨0,i1,_,_,S1,Sd1,D1,rfl,.new X1 i1 D1 at_ hm0.out.1 hm0.out.2 hst1.out hxok.out HN.out HPR.out,hP7,(HK6.out.drew).trans HK7.out (fun k hk e=>by
   have h1:=HS1.out g hpg.out.2.1
   rw[←e]at h1
   rcases h1 with h | h
   · exact .inl h
   · omega),fun k hk=>(HS1.out k hk).imp (fun h=>h) (fun h=>by omega),fun k hk=>(HSd1.out k hk).imp (fun h=>h) (fun h=>by omega)⟩
end Go.Proofs.YtimomjheanfbmaaGreatDoor
