import Derived.Test.YtimomjheanfbmaaGreatDoorQaa
import Derived.Test.YtimomjheanfbmaaGreatDoorRag
import Derived.ScopeJumps
import Derived.BigRegion
set_option linter.unusedSimpArgs false
set_option linter.unusedVariables false
namespace Go.Proofs.YtimomjheanfbmaaGreatDoor
open Go.RowKit
theorem least {p:Nat→Prop} (h:∃k,p k):∃k,p k∧∀k',p k'→k≤k':=by
 obtain⟨k,hk⟩:=h
 induction k using Nat.strongRecOn with
 | _ k ih =>
  by_cases hx:∃j,j<k∧p j
  ·obtain⟨j,hj,hp⟩:=hx
   exact ih j hj hp
  ·refine⟨k,hk,fun k' hk'=>?_⟩
   by_cases hlt:k'<k
   · exact absurd ⟨k',hlt,hk'⟩ hx
   · omega
theorem wp_scope_ghost {P:Program} {a:Act} {w:World} {Q:Exit→Act→World→Prop} {c X:Code} (l:Nat) (J:Nat→Act→World→Prop) (hf:findLabel c l=some (Code.skip.seq X))
  (pass:∀k a w,J k a w→X.wp P (Exit.jump l (fun a' w'=>∃k',k'<k∧J k' a' w') Q) a w)
  (first:Hid (∀a w,(∃k,J k a w)→X.wp P (Exit.jump l (fun a w=>∃k,J k a w) Q) a w)→c.wp P (Exit.jump l (fun a w=>∃k,J k a w) Q) a w):(Code.scope c).wp P Q a w:=by
 classical
 refine wp_scope_loop l (fun a w=>∃k,J k a w) (fun a w=>if h:∃k,J k a w then Classical.choose (least h) else 0) hf (fun a w hJ=>?_) first
 refine wp_mono (pass _ a w (Classical.choose_spec (least hJ)).1) fun e a' w' h=>?_
 cases e with
 | goto l' =>
  obtain⟨rfl,k',hlt,hJ'⟩:=h
  refine⟨rfl,⟨k',hJ'⟩,?_⟩
  rw[dif_pos hJ,dif_pos ⟨k',hJ'⟩]
  exact Nat.lt_of_le_of_lt ((Classical.choose_spec (least ⟨k',hJ'⟩)).2 k' hJ') hlt
 | _=>exact h
def cool (s:Slot):Slot:={s with warm:=false}
inductive PlaceRel (first n bb:Nat) (P:ByteArray) (rs:List ByteArray) (X:Pl) (i0:Nat) (D:Dev):Pl→Nat→Dev→Int→Nat→Prop
 | grow:X.slots.length<X.room→PlaceRel first n bb P rs X i0 D {X with slots:=X.slots++[slBlank]} i0 D 0 X.slots.length
 | keep (l:List Slot) (at_:Nat) (s:Slot) (h:Nat):X.slots.length=X.room→l.map cool=X.slots.map cool→l[at_]? = some s→s.dirty=false→PlaceRel first n bb P rs X i0 D {X with slots:=l.set at_ slBlank,hand:=h} i0 D 0 at_
 | wrote (l:List Slot) (at_:Nat) (s:Slot) (h:Nat) (i1:Nat) (D':Dev):X.slots.length=X.room→l.map cool=X.slots.map cool→l[at_]? = some s→s.dirty=true→WrRel first n bb P rs X.base s i0 D i1 D' 0→PlaceRel first n bb P rs X i0 D {X with slots:=l.set at_ slBlank,hand:=h} i1 D' 0 at_
 | fail (l:List Slot) (at_:Nat) (s:Slot) (h:Nat) (i1:Nat) (D':Dev):X.slots.length=X.room→l.map cool=X.slots.map cool→l[at_]? = some s→s.dirty=true→WrRel first n bb P rs X.base s i0 D i1 D' 20→PlaceRel first n bb P rs X i0 D {X with slots:=l,hand:=h} i1 D' 20 0
theorem Tryz.info_slot:(Tryz.prog.info? 166).map (fun i=>(i.zero,i.size,i.bytes))=some (some (.agg (slC {slBlank with id:=0}).toArray),20,200):=by kernel_rfl
theorem cells_new (w:World) (C:List Value) (T:TypeId) (f:Nat×Nat) (n:Nat) (hn:n=w.heap.size):∀(j:Nat) (u:Value),C[j]? = some u→(w.alloc (.cells C.toArray T f)).cell? ((⟨n,0,none⟩:Addr).add j)=some u:=by
 intro j u hj
 subst hn
 rw[Addr.add_mid,Nat.zero_add,cell_at (hN rfl)]
 simpa using hj
theorem slot_there {w:World} {g n c:Nat} {l:List Slot} (h:OwnS w 166 20 (.slice (some ⟨g,0,none⟩) n c) n (slV l)) (i:Nat) (s:Slot) (hi:l[i]? = some s) (hn:0<n):w.there g (i*20) 20:=fun j hj=>by
 refine⟨?_,slot_free h hn _⟩
 obtain⟨v,hv⟩:∃v,(slC s)[j]? = some v:=⟨_,List.getElem?_eq_getElem (by rw[slC_length];exact hj)⟩
 rw[slot_range h i s hi j v hv]
 rfl
theorem slC_cells (s:Slot):∀v∈slC s,v.oneCell'=true:=by
 intro v hv
 unfold slC at hv
 simp only[List.mem_cons,List.mem_append,List.not_mem_nil,or_false]at hv
 rcases hv with rfl | hv | rfl | rfl | rfl
 · rfl
 · exact pgC_one _ v hv
 · rfl
 · rfl
 · rfl
theorem slC_one (s:Slot):(slC s).toArray.all (·.oneCell')=true:=all_oneCell_toArray (slC_cells s)
theorem name_post {Q:Exit→Act→World→Prop} {e:Exit} {a:Act} {W:World} (F:World→Prop) (hF:F W) (h:∀W',F W'→Q e a W'):Q e a W:=h W hF
def warmN (l:List Slot):Nat:=l.countP (·.warm)
def TnOk (a:Act) (p:Nat):Prop:=a.defers=[]∧a.tmps.size=81∧a.tmps.getD 0 undef = .pointer (some ⟨p,0,none⟩)
theorem lits81 (V:Nat→Value):((List.range 81).map V).toArray = #[V 0,V 1,V 2,V 3,V 4,V 5,V 6,V 7,V 8,V 9,V 10,V 11,V 12,V 13,V 14,V 15,V 16,V 17,V 18,V 19,V 20,V 21,V 22,V 23,V 24,V 25,V 26,V 27,V 28,V 29,V 30,V 31,V 32,V 33,V 34,V 35,V 36,V 37,V 38,V 39,V 40,V 41,V 42,V 43,V 44,V 45,V 46,V 47,V 48,V 49,V 50,V 51,V 52,V 53,V 54,V 55,V 56,V 57,V 58,V 59,V 60,V 61,V 62,V 63,V 64,V 65,V 66,V 67,V 68,V 69,V 70,V 71,V 72,V 73,V 74,V 75,V 76,V 77,V 78,V 79,V 80]:=rfl
theorem TnOk.lit {a:Act} {p:Nat} (h:TnOk a p):∃V:Nat→Value,a={tmps := #[.pointer (some ⟨p,0,none⟩),V 1,V 2,V 3,V 4,V 5,V 6,V 7,V 8,V 9,V 10,V 11,V 12,V 13,V 14,V 15,V 16,V 17,V 18,V 19,V 20,V 21,V 22,V 23,V 24,V 25,V 26,V 27,V 28,V 29,V 30,V 31,V 32,V 33,V 34,V 35,V 36,V 37,V 38,V 39,V 40,V 41,V 42,V 43,V 44,V 45,V 46,V 47,V 48,V 49,V 50,V 51,V 52,V 53,V 54,V 55,V 56,V 57,V 58,V 59,V 60,V 61,V 62,V 63,V 64,V 65,V 66,V 67,V 68,V 69,V 70,V 71,V 72,V 73,V 74,V 75,V 76,V 77,V 78,V 79,V 80],defers:=[]}:=by
 obtain⟨T,d⟩:=a
 obtain⟨h1,h2,e0⟩:=h
 simp only at h1 h2 e0
 subst h1
 refine⟨fun j=>T.getD j undef,?_⟩
 have hT:=lits T
 rw[h2,lits81]at hT
 rw[e0]at hT
 exact congrArg (fun t=>({tmps:=t,defers:=[]}:Act)) hT
theorem Ws.keep {R:Nat→Prop} {w w':World} {p dp first n bb:Nat} {P:ByteArray} {rs:List ByteArray} {i0:Nat} {S Sd:List Nat} {D:Dev} (h:Ws w p dp first n bb P rs i0 S Sd D) (hk:Keeps R w w') (hl:∀k∈S,¬R k) (hd:∀k∈Sd,¬R k):Ws w' p dp first n bb P rs i0 S Sd D :=
 ⟨h.log.keep hk hl,h.dsk.keep hk hd,h.has,h.dis,h.rok,h.le,h.pre,h.bbs,h.soft⟩
theorem Pw.hand {w:World} {p lp dp first n bb:Nat} {P:ByteArray} {rs:List ByteArray} {i0:Nat} {X:Pl} {sv:Value} {S Sl Sd:List Nat} {D:Dev} (h:Pw w p lp dp first n bb P rs i0 X sv S Sl Sd D) (h':Nat) (hh:h'<X.room) :
  Pw (w.setCell ⟨p,6,none⟩ (.int .i64 h')) p lp dp first n bb P rs i0 {X with hand:=h'} sv S Sl Sd D:=by
 obtain⟨⟨o1,o2,o3,o4,o5,o6,o7,o8⟩,h1,h2,hS,hSn⟩:=h.pool
 have hk:Keeps (· = p) w (w.setCell ⟨p,6,none⟩ (.int .i64 h')):=(Keeps.refl _ _).setCell _ _ (.inl rfl)
 have hp:p∈S:=by rw[hS];simp
 refine⟨⟨⟨o1,o2,o3,o4,o5,o6,hh,o8⟩,heap_set h1 6 _,h2.keep hk (fun k hk' e=>?_),hS,hSn⟩,h.ws.keep hk (fun k hk' e=>h.dl p hp (e ▸ hk')) (fun k hk' e=>h.dd p hp (e ▸ hk')),h.dl,h.dd,h.ring,h.fit⟩
 subst e
 rw[hS]at hSn
 exact(List.nodup_cons.1 hSn).1 hk'
theorem cool_at {l m:List Slot} (h:l.map cool=m.map cool) {i:Nat} {s:Slot} (hs:l[i]? = some s):∃t,m[i]? = some t∧cool t=cool s:=by
 have h1:(l.map cool)[i]? = some (cool s):=by rw[List.getElem?_map,hs];rfl
 rw[h,List.getElem?_map]at h1
 cases hm:m[i]? with
 | none=>rw[hm]at h1;cases h1
 | some t=>rw[hm]at h1;exact⟨t,rfl,by simpa using h1⟩
theorem cool_set {l:List Slot} {i:Nat} {s s':Slot} (hs:l[i]? = some s) (he:cool s'=cool s):(l.set i s').map cool=l.map cool:=by
 rw[List.map_set,he]
 refine List.ext_getElem? (fun j=>?_)
 rw[List.getElem?_set]
 split
 ·rename_i hj
  subst hj
  have hl:=(List.getElem?_eq_some_iff.1 hs).1
  rw[if_pos (by rw[List.length_map];exact hl),List.getElem?_map,hs];rfl
 · rfl
theorem warm_less {l:List Slot} {i:Nat} {s:Slot} (hs:l[i]? = some s) (hw:s.warm=true):warmN (l.set i {s with warm:=false})<warmN l:=by
 have hl:=(List.getElem?_eq_some_iff.1 hs).1
 have hg:l[i]=s:=(List.getElem?_eq_some_iff.1 hs).2
 have e1:l=l.take i++(l[i]::l.drop (i+1)):=by rw[←List.drop_eq_getElem_cons hl,List.take_append_drop]
 have e2:l.set i {s with warm:=false}=l.take i++({s with warm:=false}::l.drop (i+1)):=by rw[List.set_eq_take_append_cons_drop,if_pos hl]
 unfold warmN
 rw[e2]
 conv=>rhs;rw[e1]
 rw[hg]
 simp[List.countP_append,List.countP_cons,hw]
theorem wpList_store_slot {ops:Array Oper} {rest:List Oper} {op:Oper} {a:Act} {w:World} {Q:Exit→Act→World→Prop} (hgd:op.guard=none) (x y:Operand) (ho:op.op = .store 166 x y)
  (g i c n:Nat) (l:List Slot) (s':Slot) (hx:a.eval x = .pointer (some ⟨g,i*20,none⟩)) (hy:a.eval y = .agg (slC s').toArray) (H:OwnS w 166 20 (.slice (some ⟨g,0,none⟩) n c) n (slV l)) (hi:i<l.length) (hn:0<n)
  (h:∀w',Hid (OwnS w' 166 20 (.slice (some ⟨g,0,none⟩) n c) n (slV (l.set i s')))→Hid (Keeps (· = g) w w')→wpList Tryz.prog ops Q rest (a.put op.dst undef) w'):wpList Tryz.prog ops Q (op::rest) a w:=by
 have h20:(slC s').toArray.size=20:=by rw[List.size_toArray,slC_length]
 refine wpList_store_mid hgd 166 x y ho g (i*20) (slC s').toArray hx hy (by rw[h20];exact slot_there H i l[i] (List.getElem?_eq_getElem hi) hn) (by rw[h20];kernel_rfl) (slC_one s') ?_
 refine h _ ?_ (Keeps.setCells (S:=fun x=>x=g) (a:=w) (b:=g) (.inl rfl) _ _ (Keeps.refl _ _))
 have h2:=OwnS.cells H (slC s') (i*20)
 rw[Nat.mul_comm i 20,slV_put l i s' hi]at h2
 rw[Nat.mul_comm i 20]
 exact h2
set_option maxRecDepth 100000 in
set_option maxHeartbeats 800000 in
theorem pl_place {w:World} {p lp dp first n bb:Nat} {P:ByteArray} {rs:List ByteArray} {i0:Nat} {X:Pl} {sv:Value} {S Sl Sd:List Nat} {D:Dev} (h:Pw w p lp dp first n bb P rs i0 X sv S Sl Sd D)
  (N:Nat) (hNb:N≤3000000000000) (hsoft:SoftB N D) :
  Calls Tryz.prog 78 #[.pointer (some ⟨p,0,none⟩)] w fun e w'=>∃cd at_ i1 X' sv' S' Sd' D',e = .returned (.tuple #[.int .i64 (at_:Nat),.int .i64 cd])∧PlaceRel first n bb P rs X i0 D X' i1 D' cd at_ ∧
   Pw w' p lp dp first n bb P rs i1 X' sv' S' Sl Sd' D'∧Keeps (fun k=>k∈S∨k∈Sl∨k∈Sd) w w'∧(∀k∈S',k∈S∨w.heap.size≤k)∧∀k∈Sd',k∈Sd∨w.heap.size≤k:=by
 obtain⟨hok,h1,h2,hS,hSn⟩:=id h.pool
 obtain⟨o1,o2,o3,o4,o5,o6,o7,o8⟩:=hok
 obtain⟨ji,hj,hy0,hy1,hy2⟩:=info_parts Tryz.info_slot
 have c5:w.cell? ⟨p,5,none⟩=some sv:=cell_at h1 5
 have f5:w.frozen? ⟨p,5,none⟩=false:=free_at h1 5
 have c4:w.cell? ⟨p,4,none⟩=some (.int .i64 X.room):=cell_at h1 4
 obtain⟨sa,sc,rfl⟩:=h2.form
 replace o8:=Hd o8
 replace hS:=Hd hS
 replace hSn:=Hd hSn
 have HH:=Hd h
 have H1:=Hd h1
 have H2:=Hd h2
 clear h h1 h2
 go_enter Tryz.func78,Tryz.ntmps78
 go_wp2_with fail
 refine wp_scope_ghost 0 (fun k a' wx=>TnOk a' p∧X.slots.length=X.room∧∃(l:List Slot) (hd:Nat),Hid (Pw wx p lp dp first n bb P rs i0 {X with slots:=l,hand:=hd} (.slice sa X.slots.length sc) S Sl Sd D)∧Hid (l.map cool=X.slots.map cool)∧Hid (warmN l=k)∧Hid (Keeps (· ∈ S) w wx)) rfl ?_ (fun hfirst=>?_)
 rotate_left
 ·by_cases hlen:X.slots.length<X.room
  ·have hlI:(X.slots.length:Int)<X.room:=by omega
   have hwl:IntKind.i64.wrap ((X.slots.length:Int)+1-1)=(X.slots.length:Int)+1-1:=by rw[IntKind.wrap_i64];omega
   have HOn:Hid (∀nq,OwnS ((w.drewN nq).alloc (.cells (slC slBlank).toArray 166)) 166 20 (.slice sa X.slots.length sc) X.slots.length (slV X.slots)):=fun nq=>OwnS.keep (w:=w) H2.out ((Keeps.of_below (fun _=>False) (bDN bR nq)).alloc _) (fun _ _ h=>h)
   have hpb:Hid (p∉blk (.slice sa X.slots.length sc)):=fun hm=>by
    have h1:=hSn.out
    rw[hS.out]at h1
    exact(List.nodup_cons.1 h1).1 hm
   go_wp2_with fail
   go_quiet (fail)
   go_wp2_with ((at_builtin;go_must (refine wpList_append_frame _ rfl _ _ 159 rfl 166 ji _ 20 200 Tryz.underlying159 hj hy0 hy1 hy2 rfl (by decide) _ _ _ rfl (HOn.out _) ⟨w.heap.size,0,none⟩ 1 1 (slC slBlank) rfl rfl (cells_new _ _ _ _ _ rfl) (slC_cells _) (by unfold maxLen;omega) (by omega) ?_));rintro v4 w4 ho4 hk4 hb4 hn4;(obtain⟨g4,c4',rfl⟩:=ho4.has (by omega));(have HK4:Hid (Keeps (· ∈ blk (.slice sa X.slots.length sc)) w w4):=((Keeps.of_below _ (bDN bR _)).alloc _).trans hk4 (fun _ _ h=>h));(have HP4:=Hd (HK4.out.keep H1.out hpb.out));(have C4:=cell_at HP4.out 5);(have F4:=free_at HP4.out 5);(have HO4:=Hd ho4);(have HB4:Hid (∀k∈blk (.slice (some ⟨g4,0,none⟩) (X.slots.length+1) c4'),k∈blk (.slice sa X.slots.length sc)∨w.heap.size≤k):=fun k hk=>(hb4 k hk).imp id (fun h=>Nat.le_trans (by simp) h));clear ho4 hk4 hb4 hn4 HOn)
   simp only[Exit.jump]
   go_ret2
   have hpS:p∈S:=by rw[hS.out];simp
   have hbS:∀k∈blk (.slice sa X.slots.length sc),k∈S:=fun k hk=>by rw[hS.out];simp[hk]
   have hp4:p∉blk (.slice (some ⟨g4,0,none⟩) (X.slots.length+1) c4'):=fun hm=>by
    rcases HB4.out p hm with h | h
    · exact hpb.out h
    · have:=block_lt H1.out;omega
   have hKS:Keeps (· ∈ S) w (w4.setCell ⟨p,5,none⟩ (.slice (some ⟨g4,0,none⟩) (X.slots.length+1) c4')):=(HK4.out.mono (fun k _ hk=>hbS k hk)).setCell _ _ (.inl hpS)
   have hfr:∀k∈p::blk (.slice (some ⟨g4,0,none⟩) (X.slots.length+1) c4'),k∈S∨w.heap.size≤k:=fun k hk=>by
    rcases List.mem_cons.1 hk with rfl | hk
    · exact .inl hpS
    · exact(HB4.out k hk).imp (hbS k) id
   refine⟨0,X.slots.length,i0,{X with slots:=X.slots++[slBlank]},.slice (some ⟨g4,0,none⟩) (X.slots.length+1) c4',p::blk (.slice (some ⟨g4,0,none⟩) (X.slots.length+1) c4'),Sd,D,rfl,.grow hlen,⟨⟨⟨o1,o2,o3,o4,o5,?_,o7,?_⟩,heap_set HP4.out 5 _,?_,rfl,List.nodup_cons.2 ⟨hp4,blk_nodup _⟩⟩,HH.out.ws.keep hKS (fun k hk h=>HH.out.dl k h hk) (fun k hk h=>HH.out.dd k h hk),fun k hk h=>?_,fun k hk h=>?_,HH.out.ring,HH.out.fit⟩,hKS.mono (fun k _ h => .inl h),hfr,fun k hk => .inl hk⟩
   ·show (X.slots++[slBlank]).length≤X.room
    rw[List.length_append,List.length_singleton];omega
   ·intro s hs hd
    rcases List.mem_append.1 hs with h | h
    · exact o8.out s h hd
    · rw[List.mem_singleton.1 h]at hd;cases hd
   ·show OwnS _ _ 20 _ (X.slots++[slBlank]).length (slV (X.slots++[slBlank]))
    rw[List.length_append,slV_append,slV,slV,List.append_nil]
    exact HO4.out.keep ((Keeps.refl (· = p) w4).setCell _ _ (.inl rfl)) (fun k hk e=>hp4 (e ▸ hk))
   ·rcases hfr k hk with h' | h'
    · exact HH.out.dl k h' h
    · have:=HH.out.ws.log.lt k h;omega
   ·rcases hfr k hk with h' | h'
    · exact HH.out.dd k h' h
    · have:=HH.out.ws.dsk.lt k h;omega
  ·have hlI:¬(X.slots.length:Int)<X.room:=by omega
   have hleq:X.slots.length=X.room:=by omega
   have hJ:Hid (∀nq,Pw (w.drewN nq) p lp dp first n bb P rs i0 {X with slots:=X.slots,hand:=X.hand} (.slice sa X.slots.length sc) S Sl Sd D):=fun nq=>HH.out.later (bDN bR nq)
   replace hleq:=Hd hleq
   go_wp2_with fail
   go_quiet (fail)
   go_wp2_with fail
   go_step3
   refine ‹∀(a:Act) (w:World),Code.wp Tryz.prog _ _ a w→_› _ _ ?_
   refine hfirst.out _ _ ?_
   exact⟨warmN X.slots,⟨rfl,rfl,rfl⟩,hleq.out,X.slots,X.hand,hJ.out _,rfl,rfl,Keeps.of_below _ (bDN bR _)⟩
 ·rintro k a' wx ⟨htn,hleq,l,hd,HPw,HC,HW,HK⟩
  obtain⟨V,rfl⟩:=htn.lit
  clear htn
  have hll:l.length=X.slots.length:=by
   have:=congrArg List.length HC.out
   rwa[List.length_map,List.length_map]at this
  obtain⟨⟨-,-,-,-,-,-,q7,q8⟩,p1,p2,-,-⟩:=id HPw.out.pool
  have q7:hd<X.room:=q7
  obtain⟨g,rfl⟩:∃g,sa=some ⟨g,0,none⟩:=by
   obtain⟨g,c',he⟩:=H2.out.has (by omega)
   exact⟨g,by simpa using congrArg (fun v=>match v with | .slice a _ _=>a | _=>none) he⟩
  have p2:OwnS wx 166 20 (.slice (some ⟨g,0,none⟩) X.slots.length sc) X.slots.length (slV l):=hll ▸ p2
  obtain⟨s,hs⟩:∃s,l[hd]? = some s:=⟨_,List.getElem?_eq_getElem (by omega)⟩
  obtain⟨-,-,-,r3,r4⟩:=slot_at p2 hd s hs
  have f4:=slot_free p2 (by omega) (hd*20+19)
  have x5:wx.cell? ⟨p,5,none⟩=some (.slice (some ⟨g,0,none⟩) X.slots.length sc):=cell_at p1 5
  have x6:wx.cell? ⟨p,6,none⟩=some (.int .i64 hd):=cell_at p1 6
  have y6:wx.frozen? ⟨p,6,none⟩=false:=free_at p1 6
  have hpg:Hid (p≠g∧g∈S∧p∈S):=by
   have h1:=hSn.out
   rw[hS.out]at h1 ⊢
   refine⟨?_,by simp[blk,Value.ownBlock],by simp⟩
   rintro rfl
   simp[blk,Value.ownBlock]at h1
  have hne:=hpg.out.1
  have hdI:(hd:Int)<X.slots.length:=by omega
  have hd0:(0:Int)≤hd:=by omega
  have hw1:IntKind.i64.wrap ((hd:Int)+1)=(hd:Int)+1:=by rw[IntKind.wrap_i64];omega
  have hnz:¬(X.slots.length:Int)=0:=by omega
  obtain⟨h',hh'⟩:∃h',(hd+1)%X.slots.length=h':=⟨_,rfl⟩
  have hh'r:Hid (h'<X.room):=by
   have:=Nat.mod_lt (hd+1) (show 0<X.slots.length by omega)
   show h'<X.room
   omega
  have htm:((hd:Int)+1).tmod X.slots.length=h':=by
   rw[Int.tmod_eq_emod_of_nonneg (by omega),←hh'];push_cast;rfl
  replace hh':=Hd hh'
  replace hs:=Hd hs
  replace q8:=Hd q8
  replace q7:=Hd q7
  replace hll:=Hd hll
  replace hleq:=Hd hleq
  clear c5 f5 c4 hj hy0 hy1 hy2 p1 p2
  go_wp2_with fail
  go_quiet (fail)
  go_wp2_with fail
  go_region
  refine name_post (fun W=>Pw W p lp dp first n bb P rs i0 {X with slots:=l,hand:=h'} (.slice (some ⟨g,0,none⟩) X.slots.length sc) S Sl Sd D∧Keeps (· ∈ S) w W) ⟨(HPw.out.later (bDN bR _)).hand h' hh'r.out,(HK.out.trans (Keeps.of_below _ (bDN bR _)) (fun _ _ h=>h)).setCell _ _ (.inl hpg.out.2.2)⟩ ?_
  rintro W1 ⟨hP1,hK1⟩
  obtain⟨-,p1,p2,-,-⟩:=id hP1.pool
  have p2:OwnS W1 166 20 (.slice (some ⟨g,0,none⟩) X.slots.length sc) X.slots.length (slV l):=hll.out ▸ p2
  obtain⟨-,-,-,r3,r4⟩:=slot_at p2 hd s hs.out
  have f4:=slot_free p2 (by have:=hdI;omega) (hd*20+19)
  have H21:=Hd p2
  have HP1:=Hd hP1
  have HK1:=Hd hK1
  clear hP1 hK1 p1 p2 HPw HK
  cases hwm:s.warm with
  | true =>
   rw[hwm]at r4
   have hwl:=Hd (warm_less hs.out hwm)
   replace hwm:=Hd hwm
   clear r3
   go_wp2_with fail
   go_step3
   have hkg:Keeps (· = g) W1 (W1.setCell ⟨g,hd*20+19,none⟩ (.bool false)):=(Keeps.refl _ _).setCell _ _ (.inl rfl)
   refine⟨rfl,warmN (l.set hd {s with warm:=false}),by rw[←HW.out];exact hwl.out,⟨rfl,rfl,rfl⟩,hleq.out,l.set hd {s with warm:=false},h',?_,(cool_set (s':={s with warm:=false}) hs.out rfl).trans HC.out,rfl,HK1.out.trans hkg (fun k _ e=>by rw[e];exact hpg.out.2.1)⟩
   refine HP1.out.slots (g:=g) (by simp[blk,Value.ownBlock]) (by rw[List.length_set]) ?_ hkg (fun s' hs' hd'=>?_)
   ·rw[List.length_set]
    have:=H21.out.set (hd*20+19) (.bool false)
    rw[Nat.mul_comm hd 20,slV_set l hd 19 s {s with warm:=false} (.bool false) hs.out (by omega) rfl]at this
    rw[Nat.mul_comm hd 20,hll.out]
    exact this
   ·rcases List.mem_or_eq_of_mem_set hs' with h | h
    · exact q8.out s' h hd'
    ·subst h
     exact q8.out s (List.mem_of_getElem? hs.out) hd'
  | false =>
   rw[hwm]at r4
   replace hwm:=Hd hwm
   cases hdr:s.dirty with
   | false =>
    rw[hdr]at r3
    replace hdr:=Hd hdr
    go_wp2_with (refine wpList_store_slot rfl _ _ rfl g hd sc X.slots.length l slBlank rfl rfl H21.out (by rw[hll.out];omega) (by omega) ?_;intro W2 HO2 HK2)
    simp only[Exit.jump]
    go_ret2
    refine⟨0,hd,i0,{X with slots:=l.set hd slBlank,hand:=h'},.slice (some ⟨g,0,none⟩) X.slots.length sc,S,Sd,D,rfl,.keep l hd s h' hleq.out HC.out hs.out hdr.out,HP1.out.slots (g:=g) (by simp[blk,Value.ownBlock]) (by rw[List.length_set]) ?_ HK2.out (fun s' hs' hd'=>?_),(HK1.out.trans HK2.out (fun k _ e=>by rw[e];exact hpg.out.2.1)).mono (fun k _ h => .inl h),fun k hk => .inl hk,fun k hk => .inl hk⟩
    · rw[List.length_set,hll.out];exact HO2.out
    ·rcases List.mem_or_eq_of_mem_set hs' with h | h
     · exact q8.out s' h hd'
     · subst h;cases hd'
   | true =>
    rw[hdr]at r3
    have HWr:=Hd (pl_write HP1.out hd s hs.out (q8.out s (List.mem_of_getElem? hs.out) hdr) N hNb hsoft g sc (by rw[hll.out]))
    replace hdr:=Hd hdr
    go_wp2_with fail
    refine(HWr.out).mono ?_
    rintro e W2 ⟨cd,i1,Sd2,D2,rfl,hwr,hp2,hk2,hs2⟩
    have HWR:=Hd hwr
    have HP2:=Hd hp2
    have HK2:Hid (Keeps (fun k=>k∈S∨k∈Sl∨k∈Sd) w W2):=(HK1.out.mono (fun k _ h => .inl h)).trans hk2 (fun k _ h=>h)
    have HS2:Hid (∀k∈Sd2,k∈Sd∨w.heap.size≤k):=fun k hk=>(hs2 k hk).imp id (fun h=>Nat.le_trans HK1.out.size h)
    clear hwr hp2 hk2 hs2 HWr
    by_cases hcd:cd=0
    ·subst hcd
     rw[if_pos rfl]at HP2
     obtain⟨-,-,p2,-,-⟩:=id HP2.out.pool
     have H22:Hid (OwnS W2 166 20 (.slice (some ⟨g,0,none⟩) X.slots.length sc) X.slots.length (slV (l.set hd {s with dirty:=false}))):=by
      have h2:OwnS W2 166 20 (.slice (some ⟨g,0,none⟩) X.slots.length sc) (l.set hd {s with dirty:=false}).length (slV (l.set hd {s with dirty:=false})):=p2
      rw[List.length_set,hll.out]at h2
      exact h2
     clear p2 r3 r4 f4
     go_wp2_with (refine wpList_store_slot rfl _ _ rfl g hd sc X.slots.length (l.set hd {s with dirty:=false}) slBlank rfl rfl H22.out (by rw[List.length_set,hll.out];omega) (by omega) ?_;intro W3 HO3 HK3)
     simp only[Exit.jump]
     go_ret2
     refine⟨0,hd,i1,{X with slots:=l.set hd slBlank,hand:=h'},.slice (some ⟨g,0,none⟩) X.slots.length sc,S,Sd2,D2,rfl,.wrote l hd s h' i1 D2 hleq.out HC.out hs.out hdr.out HWR.out,?_,HK2.out.trans HK3.out (fun k _ e => .inl (by rw[e];exact hpg.out.2.1)),fun k hk => .inl hk,HS2.out⟩
     have hset:(l.set hd {s with dirty:=false}).set hd slBlank=l.set hd slBlank:=by rw[List.set_set]
     have:=HP2.out.slots (g:=g) (by simp[blk,Value.ownBlock]) (l':=l.set hd slBlank) (by show (l.set hd slBlank).length=(l.set hd {s with dirty:=false}).length;rw[List.length_set,List.length_set]) (by rw[List.length_set,hll.out,←hset];exact HO3.out) HK3.out (fun s' hs' hd'=>by
      rcases List.mem_or_eq_of_mem_set hs' with h | h
      · exact q8.out s' h hd'
      · subst h;cases hd')
     exact this
    ·have h20:cd=20:=by
      rcases HWR.out.code with⟨h,_⟩ | ⟨h,_⟩
      · exact absurd h hcd
      · exact h
     subst h20
     rw[if_neg (by decide)]at HP2
     go_wp2_with fail
     simp only[Exit.jump]
     go_ret2
     exact⟨20,0,i1,{X with slots:=l,hand:=h'},.slice (some ⟨g,0,none⟩) X.slots.length sc,S,Sd2,D2,rfl,.fail l hd s h' i1 D2 hleq.out HC.out hs.out hdr.out HWR.out,HP2.out,HK2.out,fun k hk => .inl hk,HS2.out⟩
end Go.Proofs.YtimomjheanfbmaaGreatDoor
