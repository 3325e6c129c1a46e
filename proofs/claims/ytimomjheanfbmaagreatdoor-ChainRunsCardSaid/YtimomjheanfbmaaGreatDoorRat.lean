import Derived.Test.YtimomjheanfbmaaGreatDoorQaa
import Derived.Test.YtimomjheanfbmaaGreatDoorRas
import Derived.Laws.OwnMore
import Derived.Lib.SliceRun
import Derived.Test.YtimomjheanfbmaaGreatDoorRab
import Derived.Test.YtimomjheanfbmaaGreatDoorRan
set_option linter.unusedSimpArgs false
set_option linter.unusedVariables false
namespace Go.Proofs.YtimomjheanfbmaaGreatDoor.G
open Go.RowKit
theorem lvV_app (a b:List Lv):lvV (a++b)=lvV a++lvV b:=List.flatMap_append
theorem lvV_take:∀(l:List Lv) (i:Nat),(lvV l).take (i*3)=lvV (l.take i)
 | [],i=>by simp[lvV]
 | x::l,0=>by simp[lvV]
 | x::l,i+1=>by
  show (lvL x++lvV l).take ((i+1)*3)=lvL x++lvV (l.take i)
  rw[List.take_append,List.take_of_length_le (by show 3≤(i+1)*3;omega),show (i+1)*3-(lvL x).length=i*3 by show (i+1)*3-3=_;omega,lvV_take l i]
theorem own_head {w:World} {g n c i:Nat} {l:List Lv} (h:OwnS w 61 3 (.slice (some ⟨g,0,none⟩) n c) n (lvV l)) (hi:i≤n):OwnS w 61 3 (.slice (some ⟨g,0,none⟩) i c) i (lvV (l.take i)):=by
 obtain⟨hl,h2⟩:=h
 rw[lvV_length]at hl
 refine⟨by rw[lvV_length,List.length_take];omega,?_⟩
 rcases h2 with⟨he,_⟩ | ⟨g1,cap,cur,he,hb,hg,hnc,hcm,hcs,htake⟩
 · simp at he
 ·simp only[Value.slice.injEq,Option.some.injEq,Addr.mk.injEq,and_true,true_and]at he
  obtain⟨rfl,rfl⟩:=he
  refine .inr ⟨g,c,cur,rfl,hb,hg,by omega,hcm,hcs,?_⟩
  have e1:cur.toList.take (i*3)=(cur.toList.take (n*3)).take (i*3):=by rw[List.take_take,Nat.min_eq_left (by omega)]
  rw[e1,htake,lvV_take]
theorem own_cap {w:World} {e:TypeId} {size g n c:Nat} {xs:List Value} (h:OwnS w e size (.slice (some ⟨g,0,none⟩) n c) n xs):n≤c∧c≤maxLen:=by
 rcases h.2 with⟨he,_⟩ | ⟨g1,cap,cur,he,hb,hg,hnc,hcm,hcs,htake⟩
 · simp at he
 ·simp only[Value.slice.injEq,Option.some.injEq,Addr.mk.injEq,and_true,true_and]at he
  obtain⟨rfl,rfl⟩:=he
  exact⟨hnc,hcm⟩
theorem own_tail {w:World} {e:TypeId} {size g n c:Nat} {xs:List Value} (h:OwnS w e size (.slice (some ⟨g,0,none⟩) n c) n xs) (j:Nat) (hj:n*size≤j) (u:Value):OwnS (w.setCell ⟨g,j,none⟩ u) e size (.slice (some ⟨g,0,none⟩) n c) n xs:=by
 have h2:=h.set j u
 rwa[List.set_eq_of_length_le (by rw[h.1];exact hj)]at h2
theorem own_there {w:World} {e:TypeId} {size g n c:Nat} {xs:List Value} (h:OwnS w e size (.slice (some ⟨g,0,none⟩) n c) n xs) (j:Nat) (hj:j<c*size):(w.cell? ⟨g,j,none⟩).isSome=true:=by
 rcases h.2 with⟨he,_⟩ | ⟨g1,cap,cur,he,hb,hg,hnc,hcm,hcs,htake⟩
 · simp at he
 ·simp only[Value.slice.injEq,Option.some.injEq,Addr.mk.injEq,and_true,true_and]at he
  obtain⟨rfl,rfl⟩:=he
  rw[cell_at hg,Array.getElem?_eq_getElem (by omega)];rfl
theorem run_clear_alv (w:World) (ty:TypeId) (b o c:Nat) (hc:∀j,j<3→(w.cell? ⟨b,o+j,none⟩).isSome=true) (hf:∀j,j<3→w.frozen? ⟨b,o+j,none⟩=false) :
  (Builtin.clear_ #[58] ty #[.slice (some ⟨b,o,none⟩) 1 c]).run Tryz.prog w = .ok (.tuple #[]) (w.setCells b o [.int .i64 0,.int .i64 0,.int .i64 0]):=by
 have hv:∀w,(zeroValue 61).run Tryz.prog w = .ok (.agg #[.int .i64 0,.int .i64 0,.int .i64 0]) w:=fun w=>by kernel_rfl
 have hzc:(Builtin.zeroCells (Value.agg #[.int .i64 0,.int .i64 0,.int .i64 0]).cells 1).toList=[.int .i64 0,.int .i64 0,.int .i64 0]:=by kernel_rfl
 have hst:=run_storeCells_cells (P:=Tryz.prog) b o [.int .i64 0,.int .i64 0,.int .i64 0] 0 w (by simpa using hc) (by simpa using hf) (by intro v hv';simp at hv';rw[hv'];rfl)
 simp only[Nat.add_zero]at hst
 simp[Builtin.clear_,run_underlying Tryz.underlying58,hv,hzc,hst]
theorem step_append_run {P:Program} {ops:Array Oper} {o:Oper} {a:Act} {w:World} {K:Act→World→Prop} {Q:Exit→Act→World→Prop} {E:Prop} (hgd:o.guard=none) (s x:Operand) (t:TypeId)
  (ho:o.op = .call {callee := .builtin .append,args := #[s,x],argTypes := #[t,t]}) (vs vx v:Value) (w':World) (hs:a.eval s=vs) (hx:a.eval x=vx) (hr:(Builtin.append_ #[t,t] o.type #[vs,vx]).run P w = .ok v w')
  (h:K (a.put o.dst v) w'):if Region.wanted o (yielded ops a.tmps)=true then Oper.wp P o a w K Q else E:=by
 have hw:Region.wanted o (yielded ops a.tmps)=true:=by simp[Region.wanted,hgd]
 rw[if_pos hw]
 unfold Oper.wp execOp
 simp only[ho,resolve,invoke,builtin,Sem.run_bind,Sem.run_pure,Result.andThen_ok,List.map_toArray,List.map_cons,List.map_nil,hs,hx,hr]
 exact h
set_option maxRecDepth 100000 in
set_option maxHeartbeats 800000 in
theorem ch_delete {w:World} {g n c i:Nat} {l:List Lv} (h:OwnS w 61 3 (.slice (some ⟨g,0,none⟩) n c) n (lvV l)) (hn:l.length=n) (hi:i<n) (hn8:n≤8) :
  Calls Tryz.prog 130 #[.slice (some ⟨g,0,none⟩) n c,.int .i64 i,.int .i64 ((i:Int)+1)] w fun e w'=>e = .returned (.slice (some ⟨g,0,none⟩) (n-1) c)∧OwnS w' 61 3 (.slice (some ⟨g,0,none⟩) (n-1) c) (n-1) (lvV (l.eraseIdx i))∧Keeps (· = g) w w':=by
 obtain⟨hnc,hcm⟩:=own_cap h
 unfold maxLen at hcm
 obtain⟨m,hm⟩:∃m,n=i+1+m:=⟨n-(i+1),by omega⟩
 obtain⟨ji,hj,hy0,hy1,hy2⟩:=Tryz.info_alvp
 have H:=Hd h
 have hHead:=own_head h (i:=i) (by omega)
 have hdl:(lvV (l.drop (i+1))).length=m*3:=by rw[lvV_length,List.length_drop];omega
 have hnews:∀(j:Nat) (u:Value),(lvV (l.drop (i+1)))[j]? = some u→w.drew.cell? ((if c=i+1 then (⟨g,0,none⟩:Addr) else ⟨g,(i+1)*3,none⟩).add j)=some u:=fun j u hu=>by
  have hj3:=(List.getElem?_eq_some_iff.1 hu).1
  rw[if_neg (by omega)]
  have e1:lvV l=lvV (l.take (i+1))++lvV (l.drop (i+1)):=by rw[←lvV_app,List.take_append_drop]
  have e2:(lvV (l.take (i+1))).length=(i+1)*3:=by rw[lvV_length,List.length_take];omega
  have e3:(lvV l)[(i+1)*3+j]? = some u:=by rw[e1,List.getElem?_append_right (by omega),e2,show (i+1)*3+j-(i+1)*3=j by omega];exact hu
  have:=World.ownsRow.cells h (g:=g) rfl ((i+1)*3+j) u e3
  rw[Addr.add_mid,Nat.zero_add]at this
  rw[Addr.add_mid]
  exact this
 have hones:∀u∈lvV (l.drop (i+1)),u.oneCell'=true:=fun u hu=>by
  obtain⟨s,_,hs⟩:=List.mem_flatMap.1 hu
  exact lvL_cells s u hs
 obtain⟨w2,hrun,hown2,hgr⟩:=run_append_fits (P:=Tryz.prog) w.drew 0 58 58 61 ji 3 Tryz.underlying58 hj hy1 g i c (lvV (l.take i)) hHead (if c=i+1 then ⟨g,0,none⟩ else ⟨g,(i+1)*3,none⟩) m (c-(i+1)) (lvV (l.drop (i+1))) hdl hnews hones (by omega)
 have hk2:Keeps (· = g) w w2:=((Keeps.refl (fun q=>q=g) w).drew).trans ((Keeps.refl (fun q=>q=g) w.drew).grown hgr (fun j hj => .inl (by injection hj with hj;exact hj.symm))) (fun q _ h=>h)
 have e4:lvV (l.take i)++lvV (l.drop (i+1))=lvV (l.eraseIdx i):=by rw[←lvV_app,List.eraseIdx_eq_take_drop_succ]
 rw[e4]at hown2
 have hO2:Hid (OwnS w2 61 3 (.slice (some ⟨g,0,none⟩) (i+m) c) (i+m) (lvV (l.eraseIdx i))):=hown2
 have HK2:=Hd hk2
 have hcl:=run_clear_alv w2 0 g ((i+m)*3) (c-(i+m)) (fun j hj=>own_there hO2.out _ (by omega)) (fun j hj=>own_free hO2.out _)
 have hnm:=Hd hm
 have hi1N:(i:Int)+1≤(n:Int):=by omega
 have hi10:(0:Int)≤(i:Int)+1:=by omega
 have hin:(i:Int)<n:=by omega
 have hin1:(i:Int)+1≤n:=by omega
 have hi0:(0:Int)≤i:=by omega
 have hic:(i:Int)+1≤c:=by omega
 have hicn:i+1≤c:=by omega
 have hicn2:i≤c:=by omega
 have hinn:i+1≤n:=by omega
 have hne:((i:Int)==(i:Int)+1)=false:=by simp;omega
 have hi1n:((i:Int)+1).toNat=i+1:=by omega
 have hnmm:n-(i+1)=m:=by omega
 have HRun:=Hd hrun
 clear h hHead hnews hones hgr hown2 hk2 e4 hdl hm hrun
 go_enter Tryz.func130,Tryz.ntmps130
 go_upto_region 5 with fail
 refine wp_region_held_drew (S:=fun _=>True) (by kernel_rfl) trivial (fun hHeld=>?_)
 refine tc 0 hHeld ?_
 go_frame
 refine tc 1 hHeld ?_
 go_frame
 refine tc 2 (v := .slice (some ⟨g,0,none⟩) i c) hHeld ?_
 go_frame
 refine tc 3 hHeld ?_
 go_frame
 refine tc 4 hHeld ?_
 go_frame
 refine tk 5 (v := .slice (some (if c=i+1 then ⟨g,0,none⟩ else ⟨g,(i+1)*3,none⟩)) m (c-(i+1))) rfl (Or.inl ⟨by rfl,?_⟩) hHeld ?_
 ·intro w' hSw
  clear hSw
  go_simp
  try (split <;> rfl)
  try omega
 go_frame
 refine rd 6 (fun K hK=>?_)
 refine step_append_run rfl _ _ 58 rfl _ _ _ _ rfl rfl HRun.out ?_
 refine hK.out _ _ trivial (fun hHeld=>?_)
 clear hK K
 try go_frame
 refine tk 7 (v := .slice (some ⟨g,0,none⟩) (i+m) c) rfl (Or.inl ⟨by rfl,?_⟩) hHeld ?_
 ·intro w' hSw
  clear hSw
  go_simp
  try with_reducible rfl
 go_frame
 clear hHeld
 refine wpAnyH_done (by kernel_rfl) ?_ _
 obtain⟨q,hq⟩:∃q,i+m=q:=⟨_,rfl⟩
 rw[hq]at hO2 hcl ⊢
 have hqn:Hid (n=q+1):=by show n=q+1;have:=hnm.out;omega
 have k1:(q:Int)≤n:=by have:=hqn.out;omega
 have k2:q≤n:=by have:=hqn.out;omega
 have k3:n-q=1:=by have:=hqn.out;omega
 have k4:(n:Int)≤c:=by omega
 have k6:(0:Int)≤(q:Int):=by omega
 have k7:¬c=q:=by have:=hqn.out;omega
 have k8:¬c-q=0:=by have:=hqn.out;omega
 have k9:(0:Int)≤(n:Int):=by omega
 have hF:OwnS (w2.setCells g (q*3) [.int .i64 0,.int .i64 0,.int .i64 0]) 61 3 (.slice (some ⟨g,0,none⟩) (n-1) c) (n-1) (lvV (l.eraseIdx i))∧Keeps (· = g) w (w2.setCells g (q*3) [.int .i64 0,.int .i64 0,.int .i64 0])∧q=n-1:=by
  have hq1:q=n-1:=by have:=hqn.out;omega
  refine⟨?_,Keeps.setCells (S:=fun x=>x=g) (a:=w) (b:=g) (.inl rfl) _ _ HK2.out,hq1⟩
  rw[←hq1]
  exact own_tail (own_tail (own_tail hO2.out (q*3) (by omega) _) (q*3+1) (by omega) _) (q*3+1+1) (by omega) _
 have HF:=Hd hF
 clear hq hin hin1 hi0 hic hicn hicn2 hinn hne hi1n hnmm HRun hi1N hi10 hj hy0 hy1 hy2 hF
 go_wp2_with fail
 all_goals
  (try subst c)
  go_ret
  have hF:=HF.out
  obtain⟨f1,f2,f3⟩:=hF
  refine⟨?_,f1,f2⟩
  first
   | (rw[←f3];rfl)
   | (show Ending.returned _=_;rw[←f3])
def CS.ended (σ:CS) (i:Nat):CS:={σ with lives:=σ.lives.eraseIdx i}
def finR (kind x last:Int):Rc:={kind:=kind,xct:=x,prev:=last,next:=0,uk:=0,us:=0,up:=0,ul:=0,key:=⟨#[]⟩,bs:=0,bd:=⟨#[]⟩,fresh:=0,ims:=[],lvs:=[]}
theorem end_ok {kind x last:Int} (hk:kind=3∨kind=4) (hx:0≤x∧x≤2147483647) (hl:0≤last∧last≤100000000000):RcOk (finR kind x last):=by
 refine⟨⟨⟨by show (1:Int)≤kind;omega,by show kind≤6;omega⟩,⟨hx.1,hx.2⟩,⟨hl.1,by show last≤1099511627776;omega⟩,⟨Int.le_refl _,by show (0:Int)≤1099511627776;decide⟩,⟨Int.le_refl _,by show (0:Int)≤2147483647;decide⟩,⟨Int.le_refl _,by show (0:Int)≤3;decide⟩,⟨Int.le_refl _,by show (0:Int)≤6;decide⟩,⟨Int.le_refl _,by show (0:Int)≤1023;decide⟩,⟨Int.le_refl _,by show (0:Int)≤5;decide⟩,?_,⟨Int.le_refl _,by show (0:Int)≤2;decide⟩,?_,?_,?_⟩,(fun y hy=>by cases hy),(fun y hy=>by cases hy)⟩
 · show (ByteArray.size ⟨#[]⟩)≤8;decide
 · show (ByteArray.size ⟨#[]⟩)≤34;decide
 · show 0≤24;decide
 · show 0≤8;decide
theorem end_size {kind x last:Int} (h:RcOk (finR kind x last)):(rcS (finR kind x last)).size=37:=rcS_size h
end Go.Proofs.YtimomjheanfbmaaGreatDoor.G
namespace Go.Proofs.YtimomjheanfbmaaGreatDoor.G
open Go.RowKit
section
variable {w0 w w':World} {L:List Nat} {c lp p dp pg lb mb n:Nat} {lv:Value} {σ:CS}
def CS.last (σ:CS) (kind x:Int) (s:Lv):CS:=if s.2.1=0 then σ else {σ with recs:=σ.recs++[finR kind x s.2.2]}
def EndFits (σ:CS) (s:Lv):Prop:=s.2.1=0∨σ.used+39≤6912
set_option maxRecDepth 100000 in
set_option maxHeartbeats 1600000 in
theorem cx_end4 (h:Cx w0 w L c lp p dp pg lb mb n lv σ) (x:Int) (hx:1≤x∧x≤2147483647) (i:Nat) (s:Lv) (hi:σ.lives[i]? = some s∧s.1=x∧(∀j s',j<i→σ.lives[j]? = some s'→s'.1≠x)) (hl:0≤s.2.2∧s.2.2≤100000000000) :
  Calls Tryz.prog 88 #[.pointer (some ⟨c,0,none⟩),.int .i64 x,.int .i64 4] w fun e w'=>Keeps (Own w0 L) w w'∧((EndFits σ s∧e = .returned (.int .i64 0)∧∃lv',Cx w0 w' L c lp p dp pg lb mb n lv' ((σ.last 4 x s).ended i))∨(¬EndFits σ s∧e = .returned (.int .i64 70))):=by
 have H:=Hd h
 have HFi:=Hd (ch_find h.ch x)
 have hil:i<σ.lives.length:=(List.getElem?_eq_some_iff.1 hi.1).1
 obtain⟨sa,sc,hlv⟩:=h.ch.own.form
 subst hlv
 obtain⟨g,rfl⟩:=h.ch.own.spot (by omega)
 have hfin:=Hd hi
 have hxk:=Hd hx
 have hlN:=Hd hl
 clear h hi hx hl
 go_enter Tryz.func88,Tryz.ntmps88
 go_wp2_with fail
 refine(HFi.out).mono ?_
 rintro e w1 ⟨hr,hb1⟩
 obtain rfl:e = .returned (.int .i64 i):=by
  rcases hr with⟨j,s',e1,e2,e3,he⟩ | ⟨e1,_⟩
  ·have:j=i:=by
    rcases Nat.lt_trichotomy j i with h | h | h
    · exact absurd e2 (hfin.out.2.2 j s' h e1)
    · exact h
    · exact absurd hfin.out.2.1 (e3 i s h hfin.out.1)
   subst this;exact he
  · exact absurd hfin.out.2.1 (e1 s (List.mem_of_getElem? hfin.out.1))
 have HX1:=Hd (H.out.later hb1)
 have HK1:Hid (Keeps (Own w0 L) w w1):=Keeps.of_below _ hb1
 have hown:=HX1.out.ch.own
 have C3:w1.cell? ⟨c,3,none⟩=some (.slice (some ⟨g,0,none⟩) σ.lives.length sc):=cell_at HX1.out.ch.cell 3
 have hl1:=lv_range hown i s hfin.out.1 1 _ rfl
 have hl2:=lv_range hown i s hfin.out.1 2 _ rfl
 have hi0:¬(i:Int)<0:=by omega
 have hd0:decide ((i:Int)<0)=false:=decide_eq_false hi0
 have hi1:(i:Int)<σ.lives.length:=by omega
 have hn8:=HX1.out.ch.len
 have hiw:IntKind.i64.wrap ((i:Int)+1)=(i:Int)+1:=by rw[IntKind.wrap_i64];omega
 have hilN:=Hd hil
 obtain⟨m,hm⟩:∃m,σ.lives.length=m:=⟨_,rfl⟩
 rw[hm]at C3 hi1 hn8 hilN
 have hmN:=Hd hm
 have hn8N:=Hd hn8
 clear hr hb1 HFi hil hown hm hn8
 have hcut:Hid (∀(w4:World) (σ2:CS),Cx w0 w4 L c lp p dp pg lb mb n (.slice (some ⟨g,0,none⟩) σ.lives.length sc) σ2→σ2.lives=σ.lives→Calls Tryz.prog 130 #[.slice (some ⟨g,0,none⟩) m sc,.int .i64 i,.int .i64 ((i:Int)+1)] w4 fun e w'=>e = .returned (.slice (some ⟨g,0,none⟩) (m-1) sc)∧Keeps (Own w0 L) w4 w'∧w'.heap[c]? = some (.cells (chC lp p lb (.slice (some ⟨g,0,none⟩) σ.lives.length sc) σ2.fresh) 124 (0,0))∧Cx w0 (w'.setCell ⟨c,3,none⟩ (.slice (some ⟨g,0,none⟩) (m-1) sc)) L c lp p dp pg lb mb n (.slice (some ⟨g,0,none⟩) (m-1) sc) (σ2.ended i)):=fun w4 σ2 hx4 hlv2=>by
  have ho4:OwnS w4 61 3 (.slice (some ⟨g,0,none⟩) m sc) m (lvV σ.lives):=by
   have:=hx4.ch.own
   rw[hlv2]at this
   rw[←hmN.out]
   exact this
  refine(ch_delete ho4 hmN.out hilN.out hn8N.out).mono fun e w' ⟨he,ho,hk⟩=>?_
  have hgb:g∈blk (.slice (some ⟨g,0,none⟩) σ.lives.length sc):=by simp[blk,Value.ownBlock]
  have hgc:c≠g:=by
   have:=hx4.ch.nd
   simp only[List.nodup_cons,List.mem_cons,not_or]at this
   exact fun e=>this.1.2.2 (e ▸ hgb)
  refine⟨he,hk.mono (fun k _ e=>by subst e;exact hx4.owns (by simp[chL,hgb])),hk.keep hx4.ch.cell hgc,?_⟩
  refine hx4.setLives (l:=σ2.lives.eraseIdx i) ?_ (hk.mono (fun k _ e=>by subst e;exact hgb)) (fun k hk' => .inl (by simp[blk,Value.ownBlock]at hk' ⊢;exact hk')) ?_
  ·rw[hlv2,List.length_eraseIdx_of_lt (by rw[hmN.out];exact hilN.out),hmN.out]
   exact ho
  ·rw[hlv2,List.length_eraseIdx_of_lt (by rw[hmN.out];exact hilN.out),hmN.out]
   have:=hn8N.out;omega
 by_cases hfst:s.2.1=0
 ·have hdf:(s.2.1==0)=true:=by simpa using hfst
  have hdf2:(s.2.1 != 0)=false:=by simpa using hfst
  have hla:Hid (σ.last 4 x s=σ):=by show _=_;unfold CS.last;rw[if_pos hfst]
  replace hfst:=Hd hfst
  have HD:=Hd (hcut.out w1 σ HX1.out rfl)
  go_wp2_with fail
  refine(HD.out).mono ?_
  rintro e w2 ⟨rfl,hk2,hc2,hx2⟩
  have HX2:=Hd hx2
  have HK2:=Hd (HK1.out.trans hk2 (fun _ _ h=>h))
  have D3:=cell_at hc2 3
  have F3:=free_at hc2 3
  have hoc:Hid (Own w0 L c):=HX1.out.owns (by simp[chL])
  clear hx2 hk2 hc2 HD hcut HX1 HK1 hl1 hl2 C3
  go_wp2_with fail
  go_ret
  exact⟨HK2.out.setCell _ _ (.inl hoc.out),.inl ⟨.inl hfst.out,rfl,_,by rw[hla.out];exact HX2.out⟩⟩
 ·have hdf:(s.2.1==0)=false:=by simpa using hfst
  have hdf2:(s.2.1 != 0)=true:=by simpa using hfst
  have hla:Hid (σ.last 4 x s={σ with recs:=σ.recs++[finR 4 x s.2.2]}):=by show _=_;unfold CS.last;rw[if_neg hfst]
  have hoke:Hid (RcOk (finR 4 x s.2.2)):=end_ok (.inr rfl) ⟨by have:=hxk.out.1;omega,hxk.out.2⟩ hlN.out
  replace hfst:=Hd hfst
  have HW:=Hd (cx_write HX1.out (finR 4 x s.2.2) hoke.out (by show 0≤1;omega) (fun y hy=>by cases hy) nilS nilS (fun w' hk=>⟨⟨none,0,rfl,Nat.zero_le _,fun h=>absurd rfl h⟩,nil_sl w',by show 0≤maxLen;omega,by show 0≤maxLen;omega,fun y hy=>by cases hy⟩))
  go_wp2_with fail
  refine(HW.out).mono ?_
  rintro e w2 ⟨hres,hk2⟩
  have hsz:=end_size hoke.out
  have HK2:Hid (Keeps (Own w0 L) w w2):=HK1.out.trans hk2 (fun k _ h=>⟨h.1,fun h'=>h.2 (by simp[h'])⟩)
  rcases hres with⟨hf,rfl,hx2⟩ | ⟨hf,rfl,hx2⟩
  ·have hno:Hid (¬EndFits σ s):=fun h=>by
    have h1:6912<σ.used+(2+(rcS (finR 4 x s.2.2)).size):=hf
    rcases h with h | h
    · exact hfst.out h
    · omega
   clear hf hx2 hk2 HW hsz C3 hl1 hl2 HX1 HK1 hcut
   go_wp2_with fail
   go_ret
   exact⟨HK2.out,.inr ⟨hno.out,rfl⟩⟩
  have hT39:Hid (σ.used+39≤6912):=by
   have h1:¬6912<σ.used+(2+(rcS (finR 4 x s.2.2)).size):=hf
   show _≤_
   omega
  clear hf
  have HX2:Hid (Cx w0 w2 L c lp p dp pg lb mb n (.slice (some ⟨g,0,none⟩) σ.lives.length sc) {σ with recs:=σ.recs++[finR 4 x s.2.2]}):=hx2
  have HD:=Hd (hcut.out w2 _ HX2.out rfl)
  have E3:w2.cell? ⟨c,3,none⟩=some (.slice (some ⟨g,0,none⟩) m sc):=by have:=(chb_cells hx2.ch.cell).2.2.1;rw[hmN.out]at this;exact this
  obtain⟨fin,hfn⟩:∃f:Int,(σ.fin:Int)=f:=⟨_,rfl⟩
  rw[hfn]
  clear hx2 hk2 HW hsz C3 hl1 hl2 HX1 HK1 hcut hfn
  go_wp2_with fail
  refine(HD.out).mono ?_
  rintro e w3 ⟨rfl,hk3,hc3,hx3⟩
  have HX3:=Hd hx3
  have HK3:=Hd (HK2.out.trans hk3 (fun _ _ h=>h))
  have D3:=cell_at hc3 3
  have F3:=free_at hc3 3
  have hoc:Hid (Own w0 L c):=HX2.out.owns (by simp[chL])
  clear hx3 hk3 hc3 HD HX2 HK2 E3
  go_wp2_with fail
  go_ret
  exact⟨HK3.out.setCell _ _ (.inl hoc.out),.inl ⟨.inr hT39.out,rfl,_,by rw[hla.out];exact HX3.out⟩⟩
end
end Go.Proofs.YtimomjheanfbmaaGreatDoor.G
namespace Go.Proofs.YtimomjheanfbmaaGreatDoor.G
open Go.RowKit
theorem und_len {x:Int} {i:Nat} {σ σ':CS} {d:List (Int×Rc)} (h:Und x i σ d σ'):σ'.lives.length=σ.lives.length∧σ'.fresh=σ.fresh:=by
 induction h with
 | nil=>exact⟨rfl,rfl⟩
 | snoc h1 h2 h3 h4 ih=>exact⟨by show (List.set _ _ _).length=_;rw[List.length_set];exact ih.1,ih.2⟩
theorem und_other {x:Int} {i:Nat} {σ σ':CS} {d:List (Int×Rc)} (h:Und x i σ d σ'):(∀j,j≠i→σ'.lives[j]? = σ.lives[j]?)∧∀y,y≠x→σ'.B y=σ.B y:=by
 induction h with
 | nil=>exact⟨fun _ _=>rfl,fun _ _=>rfl⟩
 | snoc h1 h2 h3 h4 ih =>
  refine⟨fun j hj=>?_,fun y hy=>?_⟩
  ·show (List.set _ _ _)[j]? = _
   rw[List.getElem?_set_ne (fun e=>hj e.symm)]
   exact ih.1 j hj
  · exact(if_neg hy).trans (ih.2 y hy)
theorem und_self {x:Int} {i:Nat} {σ σ':CS} {d:List (Int×Rc)} (h:Und x i σ d σ') {s:Lv} (hs:σ.lives[i]? = some s):∃s',σ'.lives[i]? = some s'∧s'.1=s.1∧s'.2.1=s.2.1∧(d=[]→s'=s):=by
 induction h with
 | nil=>exact⟨s,hs,rfl,rfl,fun _=>rfl⟩
 | snoc h1 h2 h3 h4 ih =>
  obtain⟨s',e1,e2,e3,_⟩:=ih
  rw[e1]at h2
  injection h2 with h2
  subst h2
  have hi:=(List.getElem?_eq_some_iff.1 e1).1
  exact⟨_,List.getElem?_set_self hi,e2,e3,fun h=>by simp at h⟩
def stepF (f:Nat→Pg) (y:Int×Rc):Nat→Pg:=fun id=>if id=y.2.up.toNat then setCl (f id) y.2.ul.toNat y.2.bs y.2.bd else f id
def undoF (f:Nat→Pg) (l:List (Int×Rc)):Nat→Pg:=l.foldl stepF f
theorem undoF_app (f:Nat→Pg) (a b:List (Int×Rc)):undoF f (a++b)=undoF (undoF f a) b:=List.foldl_append
def PEq (f g:Nat→Pg):Prop:=∀id,pgC (f id)=pgC (g id)
theorem und_pages {x:Int} {i:Nat} {σ σ':CS} {d:List (Int×Rc)} (h:Und x i σ d σ') (hg:∀y∈d,GoodU y.2):PEq (fun id=>(σ'.M id).1) (undoF (fun id=>(σ.M id).1) d):=by
 induction h with
 | nil=>exact fun _=>rfl
 | @snoc σ1 l t R s P h1 h2 h3 h4 ih =>
  have ih2:=ih (fun y hy=>hg y (by simp[hy]))
  obtain⟨-,-,⟨g4,g5⟩,-⟩:=hg (t,R) (by simp)
  dsimp only at g4 g5
  intro id
  rw[undoF_app]
  have hM:(σ1.undone x i s R P).M=upd σ1.M R.up.toNat (P,(σ1.fin:Int)):=rfl
  dsimp only
  rw[hM]
  show pgC ((upd σ1.M R.up.toNat (P,(σ1.fin:Int))) id).1=pgC (stepF (undoF (fun id=>(σ.M id).1) l) (t,R) id)
  unfold upd stepF
  by_cases e:id=R.up.toNat
  ·rw[if_pos e,if_pos e,h4]
   subst e
   exact setCl_congr (ih2 _) _ (by omega) _ _
  ·rw[if_neg e,if_neg e]
   exact ih2 id
section
variable {w0 w w':World} {L:List Nat} {c lp p dp pg lb mb n:Nat} {lv:Value} {σ:CS}
structure Rev (σ:CS) (x:Int) (i:Nat) (s:Lv) (lo:Int) (l:List (Int×Rc)):Prop where
 find:σ.lives[i]? = some s∧s.1=x∧(∀j s',j<i→σ.lives[j]? = some s'→s'.1≠x)
 xs:1≤x∧x≤2147483647
 stk:Stk σ.org σ.recs lo s.2.2 l
 good:∀y∈l,GoodU y.2
 bk:320*l.length≤(σ.B x).1∧l.length≤(σ.B x).2
 len:l.length≤1000
 org:54≤σ.org
def AbortTo (w0 w:World) (L:List Nat) (c lp p dp pg lb mb:Nat) (x:Int) (i:Nat) (s:Lv) (l:List (Int×Rc)) (σ:CS) (e:Ending):Prop :=
 (BackFits σ 0 l∧∃σ' s',Und x i σ l σ'∧σ'.used=σ.used+267*l.length∧σ'.org=σ.org∧σ'.lives[i]? = some s'∧s'.1=s.1∧s'.2.1=s.2.1∧((EndFits σ' s'∧e = .returned (.int .i64 0)∧∃n' lv',Cx w0 w L c lp p dp pg lb mb n' lv' ((σ'.last 4 x s').ended i))∨(¬EndFits σ' s'∧e = .returned (.int .i64 70))))∨(¬BackFits σ 0 l∧e = .returned (.int .i64 70))
set_option maxRecDepth 100000 in
set_option maxHeartbeats 800000 in
theorem cx_abort (h:Cx w0 w L c lp p dp pg lb mb n lv σ) {x:Int} {i:Nat} {s:Lv} {lo:Int} {l:List (Int×Rc)} (hr:Rev σ x i s lo l) (hcnt:σ.cnt<10000000000) :
  Calls Tryz.prog 36 #[.pointer (some ⟨c,0,none⟩),.int .i64 x,kitV p] w fun e w'=>Keeps (Own w0 L) w w'∧AbortTo w0 w' L c lp p dp pg lb mb x i s l σ e:=by
 have HBk:=Hd (cx_back h x 0 hr.xs i s hr.find lo l hr.stk hr.good hr.bk hr.len hcnt)
 have HR:=Hd hr
 clear h hr hcnt
 unfold kitV at HBk ⊢
 go_enter Tryz.func36,Tryz.ntmps36
 go_wp2_with fail
 refine(HBk.out).mono ?_
 rintro e w1 ⟨hk1,hto⟩
 have HK1:=Hd hk1
 clear hk1 HBk
 rcases hto with⟨hfit,rfl,σ',n',next,rest,hx1,hb,hn⟩ | ⟨hfit,rfl⟩
 rotate_left
 ·have hf:=Hd hfit
  clear hfit
  go_wp2_with fail
  go_ret
  exact⟨HK1.out,.inr ⟨hf.out,rfl⟩⟩
 rw[show max (0:Int) 0=0 from rfl]at hb hn hfit
 have ho:=HR.out.org
 have hn0:next=0:=by have:=hb.stk.lo.1;omega
 subst hn0
 have hrest:rest=[]:=hb.stk.zero (by omega)
 subst hrest
 obtain⟨d,hu,hd,-,hus⟩:=hb.und
 rw[List.append_nil]at hd
 subst hd
 obtain⟨s',e1,e2,e3,-⟩:=und_self hu HR.out.find.1
 obtain⟨s2,f1,f2,f3,f4⟩:=hb.liv
 rw[e1]at f1
 injection f1 with f1
 subst f1
 have hfind:σ'.lives[i]? = some s'∧s'.1=x∧(∀j s',j<i→σ'.lives[j]? = some s'→s'.1≠x):=⟨e1,f2,fun j s3 hj h3=>by
  rw[(und_other hu).1 j (by omega)]at h3
  exact HR.out.find.2.2 j s3 hj h3⟩
 have HE:=Hd (cx_end4 hx1 x HR.out.xs i s' hfind ⟨f3,f4⟩)
 have horg:=hb.org
 have hfin:=Hd (And.intro hfit (And.intro hu (And.intro hus (And.intro horg (And.intro e1 (And.intro e2 e3))))))
 clear hx1 hb hn hu e1 e2 e3 f2 f3 f4 hfind hus hfit ho horg
 go_wp2_with fail
 refine(HE.out).mono ?_
 rintro e w2 ⟨hk2,hres⟩
 have HK2:=Hd (HK1.out.trans hk2 (fun _ _ h=>h))
 obtain⟨g1,g2,g3,g4,g5,g6,g7⟩:=hfin.out
 rcases hres with⟨hef,rfl,lv',hx2⟩ | ⟨hef,rfl⟩
 ·have HX2:=Hd hx2
  have HE2:=Hd hef
  clear hx2 hk2 HE hef g1 g2 g3 g4 g5 g6 g7
  go_wp2_with fail
  go_ret
  obtain⟨g1,g2,g3,g4,g5,g6,g7⟩:=hfin.out
  exact⟨HK2.out,.inl ⟨g1,σ',s',g2,g3,g4,g5,g6,g7,.inl ⟨HE2.out,rfl,n',lv',HX2.out⟩⟩⟩
 ·have HE2:=Hd hef
  clear hk2 HE hef g1 g2 g3 g4 g5 g6 g7
  go_wp2_with fail
  go_ret
  obtain⟨g1,g2,g3,g4,g5,g6,g7⟩:=hfin.out
  exact⟨HK2.out,.inl ⟨g1,σ',s',g2,g3,g4,g5,g6,g7,.inr ⟨HE2.out,rfl⟩⟩⟩
end
end Go.Proofs.YtimomjheanfbmaaGreatDoor.G
namespace Go.Proofs.YtimomjheanfbmaaGreatDoor.G
open Go.RowKit
theorem lvV_one (l:List Lv):∀u∈lvV l,u.oneCell'=true:=fun u hu=>by
 obtain⟨s,_,hs⟩:=List.mem_flatMap.1 hu
 exact lvL_cells s u hs
set_option maxRecDepth 100000 in
set_option maxHeartbeats 800000 in
theorem alv_clone (v:Value) (l:List Lv) (hL:l.length≤8) (w:World) (h:OwnS w 61 3 v l.length (lvV l)) :
  Calls Tryz.prog 60 #[v] w fun e w'=>∃v',OwnS w' 61 3 v' l.length (lvV l)∧(∀k∈blk v',w.heap.size≤k)∧e = .returned v'∧Below w.heap.size w w':=by
 obtain⟨i0,hj,hj0,hj1,hj2⟩:=Tryz.info_alvp
 obtain⟨a,c,rfl⟩:=h.form
 cases a with
 | none =>
  have hl:l=[]:=by
   cases l with
   | nil=>rfl
   | cons x l=>obtain⟨g,he⟩:=h.spot (by simp);cases he
  subst hl
  have hnil:(binOp .eql 58 (.slice none 0 c) (.slice none 0 0)).run Tryz.prog w = .ok (.bool true) w:=run_eql_nil_slice (P:=Tryz.prog) w 58 61 none 0 c 0 0 Tryz.underlying58
  clear h
  go_enter Tryz.func60,Tryz.ntmps60
  go_wp2_with fail
  go_ret
  exact⟨.slice none 0 0,OwnS.nil _ _ _,by simp[blk,Value.ownBlock],rfl,bR⟩
 | some a =>
  have hO:OwnS (w.alloc (.cells #[] 61)) 61 3 (.slice (some ⟨w.heap.size,0,none⟩) 0 0) 0 []:=⟨rfl,.inr ⟨w.heap.size,0,#[],rfl,Nat.zero_le _,hN rfl,Nat.le_refl _,by unfold maxLen;omega,rfl,rfl⟩⟩
  have hW:∀a',some a=some a'→∀j u,(lvV l)[j]? = some u→(w.alloc (.cells #[] 61)).cell? (a'.add j)=some u:=fun a' ha j u hj=>by
   have hpos:0<l.length:=by
    cases l with
    | nil=>simp[lvV]at hj
    | cons x l=>simp
   obtain⟨g,he⟩:=h.spot hpos
   obtain rfl:=Option.some.inj ha
   obtain rfl:=Option.some.inj he
   rw[Addr.add_mid]
   have:=World.ownsRow.cells h (g:=g) rfl j u hj
   rw[Addr.add_mid]at this
   exact(cell_below (bA bR) (h.lt (by simp[blk,Value.ownBlock]))).trans this
  have hlen:=lvV_length l
  have hnil:(binOp .eql 58 (.slice (some a) l.length c) (.slice none 0 0)).run Tryz.prog w = .ok (.bool false) w:=run_eql_nil_slice (P:=Tryz.prog) w 58 61 (some a) l.length c 0 0 Tryz.underlying58
  clear h
  go_enter Tryz.func60,Tryz.ntmps60
  go_wp2_with (at_builtin;(refine wpList_append_seg rfl _ _ 58 rfl 61 i0 (.agg #[.int .i64 0,.int .i64 0,.int .i64 0]) 3 24 Tryz.underlying58 hj hj0 hj1 hj2 rfl (by decide) _ _ _ rfl hO _ l.length _ (lvV l) rfl hlen hW (fun _=>rfl) (lvV_one l) (by unfold maxLen;omega) (by omega) ?_);intro v5 w5 ho5 hk5 hb5)
  go_ret
  refine⟨v5,by simpa using ho5,fun k hk=>?_,rfl,?_⟩
  ·rcases hb5 k hk with h' | h'
   ·have:k=w.heap.size:=by simpa[blk,Value.ownBlock,Act.eval]using h'
    omega
   · simp at h';omega
  · exact bK (bA bR) hk5 (fun k hk=>by
    have:k=w.heap.size:=by simpa[blk,Value.ownBlock,Act.eval]using hk
    omega)
def CS.init (fresh:Int):CS:={bb:=1,P:=P0,recs:=[],M:=M0,lives:=[],fresh:=fresh,B:=fun _=>(0,0),T:=(0,0),cnt:=0}
theorem Gx.of {w0 w:World} {L:List Nat} {p lp dp:Nat} {M:Nat→Pg×Int} {F:Pl→Prop} (h:Kx w0 w L p lp dp [] M 0 F) (hF:∀X,F X→X.pages=6):Gx w0 w L p lp dp 1 P0 [] M 54:=by
 obtain⟨i0,X,sv,S,Sl,Sd,D,h1,h2⟩:=h
 have h3:Gx w0 w L p lp dp 1 P0 [] M 0:=⟨i0,X,sv,S,Sl,Sd,D,⟨h1.pw,h1.inv,h1.up,h1.pot,Nat.zero_le _,by omega,h1.fr,h1.loc,h1.bel,h1.b128,hF X h2⟩⟩
 exact h3.mono (by omega) (by show 54≤54*1+0+lenL [];rw[lenL];omega)
section
variable {w0 w w':World} {L:List Nat} {c lp p dp pg lb mb n:Nat} {lv:Value} {σ:CS}
set_option maxRecDepth 100000 in
theorem cx_lives (h:Cx w0 w L c lp p dp pg lb mb n lv σ) :
  Calls Tryz.prog 16 #[.pointer (some ⟨c,0,none⟩)] w fun e w'=>∃v',OwnS w' 61 3 v' σ.lives.length (lvV σ.lives)∧(∀k∈blk v',w.heap.size≤k)∧e = .returned v'∧Below w.heap.size w w':=by
 have HC:=Hd (alv_clone lv σ.lives h.ch.len w h.ch.own)
 have C3:w.cell? ⟨c,3,none⟩=some lv:=cell_at h.ch.cell 3
 clear h
 go_enter Tryz.func16,Tryz.ntmps16
 go_wp2_with fail
 refine(HC.out).mono ?_
 rintro e w1 ⟨v',ho,hb,rfl,hbl⟩
 have HF:=Hd (And.intro ho (And.intro hb hbl))
 clear ho hb hbl HC C3
 go_wp2_with fail
 go_ret
 exact⟨v',HF.out.1,HF.out.2.1,rfl,HF.out.2.2⟩
set_option maxRecDepth 100000 in
theorem cx_new (h:Gx w0 w L p lp dp 1 P0 [] M0 54) (fresh:Int) (hf:1≤fresh) :
  Calls Tryz.prog 52 #[.pointer (some ⟨lp,0,none⟩),.pointer (some ⟨p,0,none⟩),.int .i64 fresh] w fun e w'=>∃c lb mb,e = .returned (.tuple #[.pointer (some ⟨c,0,none⟩),.int .i64 0])∧Cx w0 w' L c lp p dp pg lb mb 0 (.slice none 0 0) (CS.init fresh)∧Below w.heap.size w w':=by
 have HL:=Hd (lg_new w)
 have hd:decide (fresh<1)=false:=decide_eq_false (by omega)
 have H:=Hd h
 clear h hf
 go_enter Tryz.func52,Tryz.ntmps52
 go_wp2_with fail
 refine(HL.out).mono ?_
 rintro e w1 ⟨lb,mb,rfl,hl,hb,h1,h2⟩
 have HLg:=Hd hl
 have HB:=Hd hb
 have hlm:=Hd (And.intro h1 h2)
 clear hl hb h1 h2 HL
 go_wp2_with fail
 go_ret2
 have hlt:=HLg.out.lt
 have hb2:Below w.heap.size w (w1.alloc (.cells (chC lp p lb (.slice none 0 0) fresh) 124)):=bA HB.out
 have hsz:=HB.out.size
 refine⟨w1.heap.size,lb,mb,rfl,⟨⟨hN rfl,OwnS.nil _ _ _,HLg.out.keep ((Keeps.refl (fun _=>False) w1).alloc _) (fun h=>h) (fun h=>h),Nat.zero_le _,?_⟩,?_,fun q hq=>?_,⟨Nat.zero_le _,Nat.zero_le _⟩,(fun R hR=>by cases hR),Nat.le_refl _⟩,hb2⟩
 ·have:=HLg.out.2.2
  simp[blk,Value.ownBlock]
  omega
 ·refine H.out.more hb2 _ (fun k hk=>?_) (fun k hk=>?_)
  ·simp only[chL,List.cons_append,List.mem_cons,List.mem_append]at hk
   have hs2:(w1.alloc (.cells (chC lp p lb (.slice none 0 0) fresh) 124)).heap.size=w1.heap.size+1:=by simp
   rcases hk with rfl | rfl | rfl | hk | hk
   · omega
   · omega
   · omega
   · simp[blk,Value.ownBlock]at hk
   · have:=H.out.loc k hk;omega
  ·simp only[chL,List.cons_append,List.mem_cons,List.mem_append]at hk
   rcases hk with rfl | rfl | rfl | hk | hk
   · exact .inr hsz
   · exact .inr hlm.out.1
   · exact .inr hlm.out.2
   · simp[blk,Value.ownBlock]at hk
   · exact .inl hk
 ·simp only[chL,List.mem_cons]at hq
  have hb0:=H.out.bel.size
  have hfr:w.heap.size≤q→w0.heap.size≤q∧q∉L:=fun h=>⟨by omega,fun h'=>by have:=H.out.loc q h';omega⟩
  rcases hq with rfl | rfl | rfl | hq
  · exact hfr hsz
  · exact hfr hlm.out.1
  · exact hfr hlm.out.2
  · simp[blk,Value.ownBlock]at hq
end
theorem results_tmp4 {fn:Func} {t u v x:Tmp} (h:fn.results = #[.tmp t,.tmp u,.tmp v,.tmp x]) (tmps:Array Value) (P:Program) (w:World) :
  (results fn tmps).run P w = .ok (.tuple #[tmps.getD t undef,tmps.getD u undef,tmps.getD v undef,tmps.getD x undef]) w:=by
 simp[results,h]
set_option maxRecDepth 100000 in
theorem cx_made (w0 w:World) (L:List Nat) (hL:∀k∈L,k<w.heap.size) (hb0:Below w0.heap.size w0 w) (fresh:Int) (hf:1≤fresh) :
  Calls Tryz.prog 10 #[.int .i64 fresh] w fun e w'=>∃c lp p dp lb mb,e = .returned (.tuple #[.pointer (some ⟨lp,0,none⟩),.pointer (some ⟨p,0,none⟩),.pointer (some ⟨c,0,none⟩),.int .i64 0])∧Cx w0 w' L c lp p dp 6 lb mb 0 (.slice none 0 0) (CS.init fresh)∧Keeps (Own w0 L) w w':=by
 have HN:=Hd (dsk_new 152 (by omega) (by omega) w)
 rw[show ((152:Nat):Int)=152 from rfl]at HN
 have hLN:=Hd hL
 have HB0:=Hd hb0
 have hfN:=Hd hf
 clear hL hb0 hf
 go_enter Tryz.func10,Tryz.ntmps10
 go_wp2_with fail
 refine(HN.out).mono ?_
 rintro e w2 ⟨dp,Sd,rfl,hd,hb,hS⟩
 have HC:=Hd (lk_create (w0:=w0) (L:=L) (by omega) (by omega) hd (fun k hk=>⟨Nat.le_trans HB0.out.size (hS k hk),fun h'=>by have:=hLN.out k h';have:=hS k hk;omega⟩) (fun k hk=>Nat.lt_of_lt_of_le (hLN.out k hk) hb.size) (bT HB0.out hb))
 have HK2:Hid (Keeps (Own w0 L) w w2):=Keeps.of_below _ hb
 clear HN hd hb hS
 go_wp2_with fail
 refine(HC.out).mono ?_
 rintro e w3 ⟨lp,Sl,Sd2,rfl,hlk,hk3⟩
 have HP:=Hd (kx_pool hlk 6 4 (by omega) (by omega) (by omega) (by omega) (by omega))
 rw[show ((6:Nat):Int)=6 from rfl,show ((4:Nat):Int)=4 from rfl]at HP
 have HK3:=Hd (HK2.out.trans hk3 (fun _ _ h=>h))
 clear HC hlk hk3
 go_wp2_with fail
 refine(HP.out).mono ?_
 rintro e w4 ⟨p,rfl,hq,hk4⟩
 have hq2:Gx w0 w4 L p lp dp 1 P0 [] M0 54:=Gx.of hq (fun X hX=>hX.1)
 have HCn:=Hd (cx_new (pg:=6) hq2 fresh hfN.out)
 have HK4:=Hd (HK3.out.trans hk4 (fun _ _ h=>h))
 clear HP hq hq2 hk4
 go_wp2_with fail
 refine(HCn.out).mono ?_
 rintro e w5 ⟨c,lb,mb,rfl,hx,hb5⟩
 have HX:=Hd hx
 have HK5:Hid (Keeps (Own w0 L) w w5):=HK4.out.trans (Keeps.of_below (fun _=>False) hb5) (fun _ _ h=>h.elim)
 clear hx hb5 HCn
 go_wp2_with fail
 refine bodyPost_ret (results_tmp4 Tryz.results10 _ _ _) rfl ?_
 exact⟨c,lp,p,dp,lb,mb,rfl,HX.out,HK5.out⟩
end Go.Proofs.YtimomjheanfbmaaGreatDoor.G
