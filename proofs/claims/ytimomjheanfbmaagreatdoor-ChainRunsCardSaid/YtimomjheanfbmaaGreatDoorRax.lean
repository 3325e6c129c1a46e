import Derived.Test.YtimomjheanfbmaaGreatDoorQaa
import Derived.Test.YtimomjheanfbmaaGreatDoorRaw
import Derived.Test.YtimomjheanfbmaaGreatDoorRan
import Derived.Test.YtimomjheanfbmaaGreatDoorRah
import Derived.Test.YtimomjheanfbmaaGreatDoorRad
set_option linter.unusedSimpArgs false
set_option linter.unusedVariables false
namespace Go.Proofs.YtimomjheanfbmaaGreatDoor.G
open Go.RowKit
theorem Tryz.info_recw:(Tryz.prog.info? 65).map (fun i=>(i.zero,i.size,i.bytes))=some (some (.agg #[.int .i64 0,.int .i64 0,.int .i64 0,.int .i64 0,.int .i64 0,.int .i64 0,.int .i64 0,.int .i64 0,.string ⟨#[]⟩,.int .i64 0,.string ⟨#[]⟩,.slice none 0 0,.slice none 0 0,.int .i64 0]),14,160):=by kernel_rfl
theorem Tryz.info_intG:(Tryz.prog.info? 3).map (fun i=>(i.zero,i.size,i.bytes))=some (some (.int .i64 0),1,8):=by kernel_rfl
section
variable {w w':World} {m g:Nat} {B:RB} {ρ:RS}
theorem Rr.pushR (h:Rr w m g B ρ) {v':Value} (R:Rc) (iv lw:Value) (hsl:RcSl w R iv lw) (hE:∀k∈blk iv++blk lw,k<w.heap.size∧k∉rOwn m g B) (ho:OwnO w' 65 14 v' (B.Q.length+1) (B.Q.flatMap rrL++rrL (R,iv,lw))) (hk:Keeps (· ∈ blk B.rv) w w') (hb:∀k∈blk v',k∈blk B.rv∨w.heap.size≤k) :
  Rr (w'.setCell ⟨m,2,none⟩ v') m g {B with rv:=v',Q:=B.Q++[(R,iv,lw)]} {ρ with recs:=ρ.recs++[R]}:=by
 obtain⟨h1,h2,h3⟩:=h.rowKeep (.inr (.inl rfl)) hk
 have hlt:=h.lt
 have hmlt:=h.mlt
 have hr':∀k∈blk v',k≠m∧k≠g∧k∉blk B.av:=fun k hk'=>by
  rcases hb k hk' with h4 | h4
  · exact h.nr k h4
  · exact⟨by omega,by have:=hlt g own_g;omega,fun h5=>by have:=hlt k (own_a h5);omega⟩
 have hx':∀k∈blk B.xv,k≠m∧k≠g∧k∉blk v'∧k∉blk B.av:=fun k hk'=>⟨(h.nx k hk').1,(h.nx k hk').2.1,fun h5=>by
  rcases hb k h5 with h6 | h6
  · exact(h.nx k hk').2.2.1 h6
  · have:=hlt k (own_x hk');omega,(h.nx k hk').2.2.2⟩
 have hkm:Keeps (· = m) w' (w'.setCell ⟨m,2,none⟩ v'):=(Keeps.refl _ _).setCell _ _ (.inl rfl)
 have hslk:RcSl (w'.setCell ⟨m,2,none⟩ v') R iv lw:=RcSl.keepS (RcSl.keepS hsl hk (fun k hk' hkr=>(hE k hk').2 (own_r hkr))) hkm (fun k hk' e=>(hE k hk').2 (e ▸ own_m))
 have himN:∀k,k<w.heap.size→k∉rOwn m g B→k∉rOwn m g {B with rv:=v',Q:=B.Q++[(R,iv,lw)]}:=fun k h4 h5 h6=>by
  rcases own_cases h6 with h7 | h7 | h7 | h7 | h7
  · exact h5 (h7 ▸ own_m)
  · exact h5 (h7 ▸ own_g)
  · exact h5 (own_x h7)
  ·rcases hb k h7 with h8 | h8
   · exact h5 (own_r h8)
   · omega
  · exact h5 (own_a h7)
 have hsz:w.heap.size≤(w'.setCell ⟨m,2,none⟩ v').heap.size:=Nat.le_trans hk.size hkm.size
 refine⟨(heap_set h1 2 v').trans rfl,(h.xs.keep hk (fun q hq hq'=>(h.nx q hq).2.2.1 hq')).keep hkm (fun q hq e=>(h.nx q hq).1 e),?_,(h.ats.keep hk (fun q hq hq'=>(h.nr q hq').2.2 hq)).keep hkm (fun q hq e=>(h.na q hq).1 e),h2.keep hkm (fun q hq e=>by simp[blk,Value.ownBlock]at hq;exact h.mg (by rw[←e,hq])),fun t ht=>?_,h.mg,hx',hr',h.na,fun k hk'=>?_,?_⟩
 ·show OwnO _ _ _ _ (List.length (B.Q++[(R,iv,lw)])) ((B.Q++[(R,iv,lw)]).flatMap rrL)
  rw[List.length_append,List.length_singleton,show (B.Q++[(R,iv,lw)]).flatMap rrL=B.Q.flatMap rrL++rrL (R,iv,lw) by rw[List.flatMap_append];simp]
  exact ho.keep hkm (fun q hq e=>(hr' q hq).1 e)
 ·rcases List.mem_append.1 ht with ht | ht
  · exact RcSl.keepS (h3 t ht) hkm (fun k hk' e=>(h.im k (List.mem_flatMap.2 ⟨t,ht,hk'⟩)).2 (e ▸ own_m))
  ·obtain rfl:=List.mem_singleton.1 ht
   exact hslk
 ·obtain⟨t,ht,hkt⟩:=List.mem_flatMap.1 hk'
  rcases List.mem_append.1 ht with ht | ht
  ·have h4:=h.im k (List.mem_flatMap.2 ⟨t,ht,hkt⟩)
   exact⟨Nat.lt_of_lt_of_le h4.1 hsz,himN k h4.1 h4.2⟩
  ·obtain rfl:=List.mem_singleton.1 ht
   have h4:=hE k hkt
   exact⟨Nat.lt_of_lt_of_le h4.1 hsz,himN k h4.1 h4.2⟩
 ·show (B.Q++[(R,iv,lw)]).map (·.1)=ρ.recs++[R]
  rw[List.map_append,h.rq];rfl
theorem Rr.pushA (h:Rr w m g B ρ) {v':Value} (a:Int) (ho:OwnO w' 3 1 v' (ρ.ats.length+1) (intV ρ.ats++[.int .i64 a])) (hk:Keeps (· ∈ blk B.av) w w') (hb:∀k∈blk v',k∈blk B.av∨w.heap.size≤k) :
  Rr (w'.setCell ⟨m,3,none⟩ v') m g {B with av:=v'} {ρ with ats:=ρ.ats++[a]}:=by
 obtain⟨h1,h2,h3⟩:=h.rowKeep (.inr (.inr rfl)) hk
 have hlt:=h.lt
 have hmlt:=h.mlt
 have ha':∀k∈blk v',k≠m∧k≠g:=fun k hk'=>by
  rcases hb k hk' with h4 | h4
  · exact h.na k h4
  · exact⟨by omega,by have:=hlt g own_g;omega⟩
 have hnot:∀k,k<w.heap.size→k∉blk B.av→k∉blk v':=fun k h4 h5 h6=>by
  rcases hb k h6 with h7 | h7
  · exact h5 h7
  · omega
 have hkm:Keeps (· = m) w' (w'.setCell ⟨m,3,none⟩ v'):=(Keeps.refl _ _).setCell _ _ (.inl rfl)
 have hsz:w.heap.size≤(w'.setCell ⟨m,3,none⟩ v').heap.size:=Nat.le_trans hk.size hkm.size
 refine⟨(heap_set h1 3 v').trans rfl,(h.xs.keep hk (fun q hq hq'=>(h.nx q hq).2.2.2 hq')).keep hkm (fun q hq e=>(h.nx q hq).1 e),(h.rs.keep hk (fun q hq hq'=>(h.nr q hq).2.2 hq')).keep hkm (fun q hq e=>(h.nr q hq).1 e),?_,h2.keep hkm (fun q hq e=>by simp[blk,Value.ownBlock]at hq;exact h.mg (by rw[←e,hq])),fun t ht=>RcSl.keepS (h3 t ht) hkm (fun k hk' e=>(h.im k (List.mem_flatMap.2 ⟨t,ht,hk'⟩)).2 (e ▸ own_m)),h.mg,fun k hk'=>⟨(h.nx k hk').1,(h.nx k hk').2.1,(h.nx k hk').2.2.1,hnot k (hlt k (own_x hk')) (h.nx k hk').2.2.2⟩,fun k hk'=>⟨(h.nr k hk').1,(h.nr k hk').2.1,hnot k (hlt k (own_r hk')) (h.nr k hk').2.2⟩,ha',fun k hk'=>⟨Nat.lt_of_lt_of_le (h.im k hk').1 hsz,fun h6=>?_⟩,h.rq⟩
 ·show OwnO _ _ _ _ (List.length (ρ.ats++[a])) (intV (ρ.ats++[a]))
  rw[List.length_append,List.length_singleton,intV_snoc]
  exact ho.keep hkm (fun q hq e=>(ha' q hq).1 e)
 ·have h4:=h.im k hk'
  rcases own_cases h6 with h7 | h7 | h7 | h7 | h7
  · exact h4.2 (h7 ▸ own_m)
  · exact h4.2 (h7 ▸ own_g)
  · exact h4.2 (own_x h7)
  · exact h4.2 (own_r h7)
  · exact hnot k h4.1 (fun h8=>h4.2 (own_a h8)) h7
def putF (f:Nat→Pg) (ims:List (Int×Pg)):Nat→Pg:=ims.foldl (fun f y=>fun k=>if k=y.1.toNat then y.2 else f k) f
theorem putF_take {f:Nat→Pg} {l:List (Int×Pg)} {j:Nat} {y:Int×Pg} (h:l[j]? = some y):putF f (l.take (j+1))=fun k=>if k=y.1.toNat then y.2 else putF f (l.take j) k:=by
 unfold putF
 rw[List.take_add_one,h,List.foldl_append];rfl
def RS.wrote (ρ:RS) (R:Rc):RS:={ρ with recs:=ρ.recs++[R],ats:=ρ.ats++[ρ.fin],fin:=ρ.fin+((rcS R).size+2),room:=ρ.room-((rcS R).size+2),f:=putF ρ.f R.ims}
theorem Rr.setF (h:Rr w m g B ρ) (hk:Keeps (· = g) w w') {f':Nat→Pg} (ho:OwnS w' 49 16 (.slice (some ⟨g,0,none⟩) 6 6) 6 (pgRow f' 6)):Rr w' m g B {ρ with f:=f'}:=by
 refine⟨hk.keep h.cell h.mg,h.xs.keep hk (fun q hq e=>(h.nx q hq).2.1 e),h.rs.keep hk (fun q hq e=>(h.nr q hq).2.1 e),h.ats.keep hk (fun q hq e=>(h.na q hq).2 e),ho,fun t ht=>RcSl.keepS (h.sl t ht) hk (fun k hk' e=>(h.im k (List.mem_flatMap.2 ⟨t,ht,hk'⟩)).2 (e ▸ own_g)),h.mg,h.nx,h.nr,h.na,fun k hk'=>⟨Nat.lt_of_lt_of_le (h.im k hk').1 hk.size,(h.im k hk').2⟩,h.rq⟩
def WrS (m g rb ib off pi:Nat) (iv:Value) (Q:Pg) (w:World):Prop:=w.cell? ⟨m,6,none⟩=some (.slice (some ⟨g,0,none⟩) 6 6)∧w.cell? ⟨rb,11,none⟩=some iv∧w.cell? ⟨ib,off,none⟩=some (.int .i64 pi)∧w.rangeAt ib (off+1) (pgC Q).toList
theorem cut_ways {T:Prop} {Rel G:World→Nat→Nat→Nat→Prop} (h1:(∀W a b c,Rel W a b c→G W a b c)→T) (h2:∀W a b c,Rel W a b c→G W a b c):T:=h1 h2
theorem cell_keepS {a b:World} {S:Nat→Prop} {q j:Nat} {v:Value} (hk:Keeps S a b) (hq:¬S q) (hc:a.cell? ⟨q,j,none⟩=some v):b.cell? ⟨q,j,none⟩=some v:=by
 have hlt:q<a.heap.size:=World.block_lt_of_cell? a ⟨q,j,none⟩ (by rw[hc])
 unfold World.cell? at hc ⊢
 rw[hk.block q hlt hq]
 exact hc
theorem WrS.keep {m g rb ib off pi:Nat} {iv:Value} {Q:Pg} {S:Nat→Prop} (h:WrS m g rb ib off pi iv Q w) (hk:Keeps S w w') (h1:¬S m) (h2:¬S rb) (h3:¬S ib):WrS m g rb ib off pi iv Q w' :=
 ⟨cell_keepS hk h1 h.1,cell_keepS hk h2 h.2.1,cell_keepS hk h3 h.2.2.1,fun j v hj=>cell_keepS hk h3 (h.2.2.2 j v hj)⟩
set_option maxRecDepth 100000 in
set_option maxHeartbeats 8000000 in
theorem rr_write (h:Rr w m g B ρ) (R:Rc) (iv lw:Value) (hok:RcOk R) (hsl:RcSl w R iv lw) (hE:∀k∈blk iv++blk lw,k<w.heap.size∧k∉rOwn m g B) (hi1:R.ims.length≤1) (hpg:∀y∈R.ims,y.1<6) (hlen:B.Q.length≤1000000∧ρ.ats.length≤1000000) (hfin:0≤ρ.fin∧ρ.fin≤100000000000) (hroom : -100000000000≤ρ.room∧ρ.room≤100000000000) :
  Calls Tryz.prog 46 #[.pointer (some ⟨m,0,none⟩),.agg (rcC R iv lw)] w fun e w' =>
   (
    (ρ.room<((rcS R).size:Int)+2∧e = .returned (.bool false)∧Below w.heap.size w w') ∨
    (¬ρ.room<((rcS R).size:Int)+2∧e = .returned (.bool true)∧∃B',Rr w' m g B' (ρ.wrote R)∧Stp w w' m g B B' (blk iv++blk lw)∧B'.xv=B.xv)):=by
 have HE:=Hd (rr_encode_ok R iv lw (w.alloc (.cells (rcC R iv lw) 65)) (hsl.later (bA bR)) hok)
 have hsz:=rc_sizes hok
 have H:=Hd h
 have HSL:=Hd hsl
 have hEN:=Hd hE
 have hpgN:=Hd hpg
 have hokN:=Hd hok
 obtain⟨k,hk⟩:∃k,R.ims.length=k:=⟨_,rfl⟩
 obtain⟨ia,ik,ic,hiv,hik,-,hisl⟩:=sl_open hsl.1
 rw[List.length_map]at hik
 have hkk:ik=k:=by omega
 subst hkk
 subst hiv
 have hkN:=Hd hk
 have hk1:Hid (ik≤1):=by show _≤_;omega
 obtain⟨S,hS⟩:∃S,(rcS R).size=S:=⟨_,rfl⟩
 have hSb:S≤65535:=by omega
 have hSN:=Hd hS
 have HRS:Hid (∃T:ByteArray,rcS R=T∧T.size=S):=⟨_,rfl,hS⟩
 obtain⟨T,hT,hTS⟩:=HRS.out
 rw[hT]at HE
 rw[hS]
 obtain⟨rm,hrm⟩:∃r,ρ.room=r:=⟨_,rfl⟩
 obtain⟨fi,hfi⟩:∃r,ρ.fin=r:=⟨_,rfl⟩
 rw[hrm]
 rw[hrm]at hroom
 rw[hfi]at hfin
 have hrmN:=Hd hrm
 have hfiN:=Hd hfi
 have hTN:=Hd hT
 have hTSN:=Hd hTS
 have hlenN:=Hd hlen
 have hw1:IntKind.i64.wrap ((S:Int)+2)=(S:Int)+2:=by rw[IntKind.wrap_i64];omega
 have hw2:IntKind.i64.wrap (fi+((S:Int)+2))=fi+((S:Int)+2):=by rw[IntKind.wrap_i64];omega
 have hw3:IntKind.i64.wrap (rm-((S:Int)+2))=rm-((S:Int)+2):=by rw[IntKind.wrap_i64];omega
 have HQ:Hid ((w.alloc (.cells (rcC R (.slice ia ik ic) lw) 65)).heap[w.heap.size]? = some (.cells (rcC R (.slice ia ik ic) lw) 65 (0,0))):=hN rfl
 have hil:=Hd (And.intro hi1 (And.intro hfin hroom))
 clear h hsl hE hpg hok hsz hk hik hisl hS hT hrm hfi hi1 hlen hSb hfin hroom HRS
 go_enter Tryz.func46,Tryz.ntmps46
 go_wp2_with (refine wpList_load_row rfl 65 _ rfl _ rfl 65 _ _ _ HQ.out Tryz.underlying65 rfl (by kernel_rfl) ?_)
 refine(HE.out).mono ?_
 rintro e w1 ⟨rfl,hb1⟩
 have HB1:Hid (Below w.heap.size w w1):=bT (bA bR) hb1
 have HQ1:=Hd (hBs hb1 HQ.out)
 have H1:=Hd (H.out.later HB1.out)
 have C5:w1.cell? ⟨m,5,none⟩=some (.int .i64 rm):=by have:=cell_at H1.out.cell 5;rw[←hrmN.out];exact this
 have hTz:T.size=S:=hTSN.out
 clear hb1 HE HQ hTS
 by_cases hrl:rm<(S:Int)+2
 ·have hd:decide (rm<(S:Int)+2)=true:=decide_eq_true hrl
  have hrN:=Hd hrl
  clear hrl
  go_wp2_with fail
  go_ret
  exact .inl ⟨hrN.out,rfl,HB1.out⟩
 have hd:decide (rm<(S:Int)+2)=false:=decide_eq_false hrl
 have hrN:=Hd hrl
 clear hrl
 obtain⟨ra,rc,hrv⟩:=H1.out.rs.form
 obtain⟨n,hn⟩:∃n,B.Q.length=n:=⟨_,rfl⟩
 rw[hn]at hrv
 have C2:w1.cell? ⟨m,2,none⟩=some (.slice ra n rc):=by have:=cell_at H1.out.cell 2;rw[←hrv];exact this
 have F2:=free_at H1.out.cell 2
 have hown:OwnO w1 65 14 (.slice ra n rc) n (B.Q.flatMap rrL):=by have:=H1.out.rs;rw[hrv,hn]at this;exact this
 have HOn:Hid (OwnO (w1.drew.alloc (.cells (rcC R (.slice ia ik ic) lw) 65)) 65 14 (.slice ra n rc) n (B.Q.flatMap rrL)):=OwnO.keep (w:=w1) hown ((Keeps.refl (fun _=>False) w1).drew.alloc _) (fun _ _ h=>h)
 have hml:=H1.out.mlt
 have cg2:(w1.drew.alloc (.cells (rcC R (.slice ia ik ic) lw) 65)).cell? ⟨m,2,none⟩=some (.slice ra n rc):=by
  rw[←C2]
  unfold World.cell?
  rw[Below.heap_alloc _ _ _ (by exact hml)]
  rfl
 have cd2:w1.drew.cell? ⟨m,2,none⟩=some (.slice ra n rc):=C2
 have fd2:w1.drew.frozen? ⟨m,2,none⟩=false:=F2
 have hmx:Hid (m∉blk (.slice ra n rc)):=fun hq=>(H1.out.nr m (by rw[hrv];exact hq)).1 rfl
 have hrvN:=Hd hrv
 have hnN:=Hd hn
 have hnl:Hid (n≤1000000):=by show _≤_;rw[←hn];exact hlenN.out.1
 obtain⟨ji,hj,hy0,hy1,hy2⟩:=info_parts Tryz.info_recw
 have hone:Hid (∀v∈rrL (R,.slice ia ik ic,lw),v.oneCell'=true):=rcC_one rfl (by obtain⟨a',m',c',rfl,_⟩:=sl_open HSL.out.2.1;rfl)
 obtain⟨la,lm,lc,hlw,-,-,-⟩:=sl_open HSL.out.2.1
 subst hlw
 clear hrv hn hown
 go_upto_region 4 with fail
 clear C5
 unfold rcC at HOn cg2
 have q0:w1.cell? ⟨w.heap.size,0,none⟩=some (.int .i64 R.kind):=cell_at HQ1.out 0
 have q1:w1.cell? ⟨w.heap.size,1,none⟩=some (.int .i64 R.xct):=cell_at HQ1.out 1
 have q2:w1.cell? ⟨w.heap.size,2,none⟩=some (.int .i64 R.prev):=cell_at HQ1.out 2
 have q3:w1.cell? ⟨w.heap.size,3,none⟩=some (.int .i64 R.next):=cell_at HQ1.out 3
 have q4:w1.cell? ⟨w.heap.size,4,none⟩=some (.int .i64 R.uk):=cell_at HQ1.out 4
 have q5:w1.cell? ⟨w.heap.size,5,none⟩=some (.int .i64 R.us):=cell_at HQ1.out 5
 have q6:w1.cell? ⟨w.heap.size,6,none⟩=some (.int .i64 R.up):=cell_at HQ1.out 6
 have q7:w1.cell? ⟨w.heap.size,7,none⟩=some (.int .i64 R.ul):=cell_at HQ1.out 7
 have q8:w1.cell? ⟨w.heap.size,8,none⟩=some (.string R.key):=cell_at HQ1.out 8
 have q9:w1.cell? ⟨w.heap.size,9,none⟩=some (.int .i64 R.bs):=cell_at HQ1.out 9
 have q10:w1.cell? ⟨w.heap.size,10,none⟩=some (.string R.bd):=cell_at HQ1.out 10
 have q11:w1.cell? ⟨w.heap.size,11,none⟩=some (.slice ia ik ic):=cell_at HQ1.out 11
 have q12:w1.cell? ⟨w.heap.size,12,none⟩=some (.slice la lm lc):=cell_at HQ1.out 12
 have q13:w1.cell? ⟨w.heap.size,13,none⟩=some (.int .i64 R.fresh):=cell_at HQ1.out 13
 have hpush:Hid (∀(w7:World) (g7 f7 c7:Nat),OwnO w7 65 14 (.slice (some ⟨g7,f7,none⟩) (n+1) c7) (n+1) (B.Q.flatMap rrL++rrL (R,.slice ia ik ic,.slice la lm lc))→Keeps (· ∈ blk (.slice ra n rc)) w1 w7→(∀q∈blk (.slice (some ⟨g7,f7,none⟩) (n+1) c7),q∈blk (.slice ra n rc)∨w1.heap.size≤q)→Rr (w7.setCell ⟨m,2,none⟩ (.slice (some ⟨g7,f7,none⟩) (n+1) c7)) m g {B with rv := .slice (some ⟨g7,f7,none⟩) (n+1) c7,Q:=B.Q++[(R,.slice ia ik ic,.slice la lm lc)]} {ρ with recs:=ρ.recs++[R]}∧Stp w (w7.setCell ⟨m,2,none⟩ (.slice (some ⟨g7,f7,none⟩) (n+1) c7)) m g B {B with rv := .slice (some ⟨g7,f7,none⟩) (n+1) c7,Q:=B.Q++[(R,.slice ia ik ic,.slice la lm lc)]} (blk (.slice ia ik ic)++blk (.slice la lm lc))∧(w7.setCell ⟨m,2,none⟩ (.slice (some ⟨g7,f7,none⟩) (n+1) c7)).heap[w.heap.size]? = some (.cells (rcC R (.slice ia ik ic) (.slice la lm lc)) 65 (0,0))∧w.heap.size∉rOwn m g {B with rv := .slice (some ⟨g7,f7,none⟩) (n+1) c7,Q:=B.Q++[(R,.slice ia ik ic,.slice la lm lc)]}):=by
  intro w7 g7 f7 c7 hO7 hK7 hB7
  have hEw1:∀q∈blk (.slice ia ik ic)++blk (.slice la lm lc),q<w1.heap.size∧q∉rOwn m g B:=fun q hq=>⟨Nat.lt_of_lt_of_le (hEN.out q hq).1 HB1.out.size,(hEN.out q hq).2⟩
  have hP:=H1.out.pushR (w':=w7) (v' := .slice (some ⟨g7,f7,none⟩) (n+1) c7) R (.slice ia ik ic) (.slice la lm lc) (HSL.out.later HB1.out) hEw1 (by rw[hnN.out];exact hO7) (by rw[hrvN.out];exact hK7) (by
   rw[hrvN.out]
   intro q hq
   rcases hB7 q hq with h | h
   · exact .inl h
   · exact .inr h)
  have hmo:Keeps (· ∈ rOwn m g B) w1 (w7.setCell ⟨m,2,none⟩ (.slice (some ⟨g7,f7,none⟩) (n+1) c7)):=(hK7.mono (fun q _ hq=>own_r (by rw[hrvN.out];exact hq))).setCell _ _ (.inl own_m)
  have hst:Stp w (w7.setCell ⟨m,2,none⟩ (.slice (some ⟨g7,f7,none⟩) (n+1) c7)) m g B {B with rv := .slice (some ⟨g7,f7,none⟩) (n+1) c7,Q:=B.Q++[(R,.slice ia ik ic,.slice la lm lc)]} (blk (.slice ia ik ic)++blk (.slice la lm lc)):=by
   refine⟨(Keeps.of_below _ HB1.out).trans hmo (fun _ _ h=>h),fun q hq=>?_,fun q hq=>?_⟩
   ·
     rcases own_cases hq with rfl | rfl | hq | hq | hq
     · exact .inl own_m
     · exact .inl own_g
     · exact .inl (own_x hq)
     ·rcases hB7 q hq with h | h
      · exact .inl (own_r (by rw[hrvN.out];exact h))
      · exact .inr (Nat.le_trans HB1.out.size h)
     · exact .inl (own_a hq)
   ·
     obtain⟨t,ht,hkt⟩:=List.mem_flatMap.1 hq
     rcases List.mem_append.1 ht with ht | ht
     · exact .inl (List.mem_flatMap.2 ⟨t,ht,hkt⟩)
     ·obtain rfl:=List.mem_singleton.1 ht
      exact .inr (.inl hkt)
  have hrb:w.heap.size∉rOwn m g B:=fun h=>by have:=H.out.lt _ h;omega
  have hrb7:w.heap.size∉rOwn m g {B with rv := .slice (some ⟨g7,f7,none⟩) (n+1) c7,Q:=B.Q++[(R,.slice ia ik ic,.slice la lm lc)]}:=fun h=>by
   have hl1:w.heap.size<w1.heap.size:=by
     obtain⟨hlt,-⟩:=Array.getElem?_eq_some_iff.1 HQ1.out
     exact hlt
   rcases own_cases h with h' | h' | h' | h' | h'
   · exact hrb (h' ▸ own_m)
   · exact hrb (h' ▸ own_g)
   · exact hrb (own_x h')
   ·
     rcases hB7 _ h' with h'' | h''
     · exact hrb (own_r (by rw[hrvN.out];exact h''))
     · omega
   · exact hrb (own_a h')
  exact⟨hP,hst,hmo.keep HQ1.out hrb,hrb7⟩
 refine' cut_ways (Rel:=fun W g7 f7 c7=>Rr W m g {B with rv := .slice (some ⟨g7,f7,none⟩) (n+1) c7,Q:=B.Q++[(R,.slice ia ik ic,.slice la lm lc)]} {ρ with recs:=ρ.recs++[R]}∧Stp w W m g B {B with rv := .slice (some ⟨g7,f7,none⟩) (n+1) c7,Q:=B.Q++[(R,.slice ia ik ic,.slice la lm lc)]} (blk (.slice ia ik ic)++blk (.slice la lm lc))∧W.heap[w.heap.size]? = some (.cells (rcC R (.slice ia ik ic) (.slice la lm lc)) 65 (0,0))∧w.heap.size∉rOwn m g {B with rv := .slice (some ⟨g7,f7,none⟩) (n+1) c7,Q:=B.Q++[(R,.slice ia ik ic,.slice la lm lc)]}) ?ways ?rest
 case ways =>
  intro key
  go_region_law (first
   | (refine step_append_frameO rfl (.tmp 25) (.tmp 27) 53 rfl 65 ji _ 14 160 Tryz.underlying53 hj hy0 hy1 hy2 rfl (by decide) _ _ _ rfl HOn.out ⟨w1.heap.size,0,none⟩ 1 1 (rrL (R,.slice ia ik ic,.slice la lm lc)) rfl rfl (cells_newR w1.drew _ _ rfl) hone.out (by have:=hnl.out;unfold maxLen;omega) (by have:=hnl.out;omega) (by omega) ?_;rintro g7 f7 c7 w7 ho7 hk7 hb7;(have HK7:Hid (Keeps (· ∈ blk (.slice ra n rc)) w1 w7):=(((Keeps.refl _ w1).drew).alloc _).trans hk7 (fun _ _ h=>h));(have hq7:=HK7.out.keep H1.out.cell hmx.out);(have C7:w7.cell? ⟨m,2,none⟩=some B.rv:=cell_at hq7 2);(have F7:=free_at hq7 2);(have HO7:=Hd ho7);(have HB7:=Hd hb7);clear ho7 hk7 hb7 hq7))
  all_goals
   have hh:=hpush.out _ _ _ _ HO7.out HK7.out (fun q hq=>(HB7.out q hq).imp (fun h=>h) (fun h=>Nat.le_trans (by simp) h))
   revert hh
   generalize w7.setCell ⟨m,2,none⟩ (.slice (some ⟨g7,f7,none⟩) (n+1) c7)=W
   intro hh
   exact key W g7 f7 c7 hh
 case rest =>
  intro W8 g7 f7 c7 hrel
  obtain⟨h8,hs8,hq8,hr8⟩:=hrel
  have hQ8':(R,.slice ia ik ic,.slice la lm lc)∈({B with rv := .slice (some ⟨g7,f7,none⟩) (n+1) c7,Q:=B.Q++[(R,.slice ia ik ic,.slice la lm lc)]}:RB).Q:=List.mem_append_right _ (List.mem_singleton.2 rfl)
  obtain⟨B8,hB8⟩:∃b:RB,({B with rv := .slice (some ⟨g7,f7,none⟩) (n+1) c7,Q:=B.Q++[(R,.slice ia ik ic,.slice la lm lc)]}:RB)=b:=⟨_,rfl⟩
  have hxv8:B8.xv=B.xv:=by rw[←hB8]
  rw[hB8]at h8 hs8 hr8 hQ8'
  have hxv8N:=Hd hxv8
  have hQ8:=Hd hQ8'
  clear hQ8'
  have hav:B8.av=B.av:=by rw[←hB8]
  have H8:=Hd h8
  have HS8:=Hd hs8
  have HQ8:=Hd hq8
  have hrb8N:=Hd hr8
  clear hxv8 hpush hB8 h8 hs8 hq8 hr8 cd2 cg2 C2 fd2 F2 HOn q0 q1 q2 q3 q4 q5 q6 q7 q8 q9 q10 q11 q12 q13 hmx hrvN hnN hnl hj hy0 hy1 hy2 hone H1 HQ1
  go_upto_region 5 with fail
  obtain⟨aa,ac,hav2⟩:=H8.out.ats.form
  obtain⟨n2,hn2⟩:∃n,ρ.ats.length=n:=⟨_,rfl⟩
  rw[show ({ρ with recs:=ρ.recs++[R]}:RS).ats.length=n2 from hn2]at hav2
  have C3:W8.cell? ⟨m,3,none⟩=some (.slice aa n2 ac):=by have:=cell_at H8.out.cell 3;rw[←hav2];exact this
  have C4:W8.cell? ⟨m,4,none⟩=some (.int .i64 fi):=by have:=cell_at H8.out.cell 4;rw[←hfiN.out];exact this
  have F3:=free_at H8.out.cell 3
  have hown2:OwnO W8 3 1 (.slice aa n2 ac) n2 (intV ρ.ats):=by have:=H8.out.ats;rw[hav2,show ({ρ with recs:=ρ.recs++[R]}:RS).ats.length=n2 from hn2]at this;exact this
  have HOn2:Hid (OwnO (W8.drew.alloc (.cells #[.int .i64 fi] 3)) 3 1 (.slice aa n2 ac) n2 (intV ρ.ats)):=OwnO.keep (w:=W8) hown2 ((Keeps.refl (fun _=>False) W8).drew.alloc _) (fun _ _ h=>h)
  have hml8:=H8.out.mlt
  have ck3:(W8.drew.alloc (.cells #[.int .i64 fi] 3)).cell? ⟨m,3,none⟩=some (.slice aa n2 ac):=by
   rw[←C3]
   unfold World.cell?
   rw[Below.heap_alloc _ _ _ (by exact hml8)]
   rfl
  have ck4:(W8.drew.alloc (.cells #[.int .i64 fi] 3)).cell? ⟨m,4,none⟩=some (.int .i64 fi):=by
   rw[←C4]
   unfold World.cell?
   rw[Below.heap_alloc _ _ _ (by exact hml8)]
   rfl
  have cd3:W8.drew.cell? ⟨m,3,none⟩=some (.slice aa n2 ac):=C3
  have cd4:W8.drew.cell? ⟨m,4,none⟩=some (.int .i64 fi):=C4
  have fd3:W8.drew.frozen? ⟨m,3,none⟩=false:=F3
  have hmx2:Hid (m∉blk (.slice aa n2 ac)):=fun hq=>(H8.out.na m (by rw[hav2];exact hq)).1 rfl
  have hav2N:=Hd hav2
  have hn2N:=Hd hn2
  have hnl2:Hid (n2≤1000000):=by show _≤_;rw[←hn2];exact hlenN.out.2
  obtain⟨ji,hj,hy0,hy1,hy2⟩:=info_parts Tryz.info_intG
  clear hav2 hn2 hown2
  have hpush:Hid (∀(wa:World) (ga fa ca:Nat),OwnO wa 3 1 (.slice (some ⟨ga,fa,none⟩) (n2+1) ca) (n2+1) (intV ρ.ats++[.int .i64 fi])→Keeps (· ∈ blk (.slice aa n2 ac)) W8 wa→(∀q∈blk (.slice (some ⟨ga,fa,none⟩) (n2+1) ca),q∈blk (.slice aa n2 ac)∨W8.heap.size≤q)→Rr (wa.setCell ⟨m,3,none⟩ (.slice (some ⟨ga,fa,none⟩) (n2+1) ca)) m g {B8 with av := .slice (some ⟨ga,fa,none⟩) (n2+1) ca} {ρ with recs:=ρ.recs++[R],ats:=ρ.ats++[fi]}∧Stp w (wa.setCell ⟨m,3,none⟩ (.slice (some ⟨ga,fa,none⟩) (n2+1) ca)) m g B {B8 with av := .slice (some ⟨ga,fa,none⟩) (n2+1) ca} (blk (.slice ia ik ic)++blk (.slice la lm lc))∧(wa.setCell ⟨m,3,none⟩ (.slice (some ⟨ga,fa,none⟩) (n2+1) ca)).heap[w.heap.size]? = some (.cells (rcC R (.slice ia ik ic) (.slice la lm lc)) 65 (0,0))∧w.heap.size∉rOwn m g {B8 with av := .slice (some ⟨ga,fa,none⟩) (n2+1) ca}):=by
   intro wa ga fa ca hOa hKa hBa
   have hP:=H8.out.pushA (w':=wa) (v' := .slice (some ⟨ga,fa,none⟩) (n2+1) ca) fi (by rw[show ({ρ with recs:=ρ.recs++[R]}:RS).ats.length=n2 from hn2N.out];exact hOa) (by rw[hav2N.out];exact hKa) (by
     rw[hav2N.out]
     intro q hq
     rcases hBa q hq with h | h
     · exact .inl h
     · exact .inr h)
   have hmo:Keeps (· ∈ rOwn m g B8) W8 (wa.setCell ⟨m,3,none⟩ (.slice (some ⟨ga,fa,none⟩) (n2+1) ca)):=(hKa.mono (fun q _ hq=>own_a (by rw[hav2N.out];exact hq))).setCell _ _ (.inl own_m)
   have hst:Stp W8 (wa.setCell ⟨m,3,none⟩ (.slice (some ⟨ga,fa,none⟩) (n2+1) ca)) m g B8 {B8 with av := .slice (some ⟨ga,fa,none⟩) (n2+1) ca} []:=by
     refine⟨hmo,fun q hq=>?_,fun q hq => .inl hq⟩
     rcases own_cases hq with rfl | rfl | hq | hq | hq
     · exact .inl own_m
     · exact .inl own_g
     · exact .inl (own_x hq)
     · exact .inl (own_r hq)
     ·rcases hBa q hq with h | h
      · exact .inl (own_a (by rw[hav2N.out];exact h))
      · exact .inr h
   have hst2:=(HS8.out.trans hst).wide (E':=blk (.slice ia ik ic)++blk (.slice la lm lc)) (fun q hq => .inl (by simpa using hq))
   have hrb9:w.heap.size∉rOwn m g {B8 with av := .slice (some ⟨ga,fa,none⟩) (n2+1) ca}:=fun h=>by
     rcases hst.own _ h with h' | h'
     · exact hrb8N.out h'
     ·obtain⟨hlt,-⟩:=Array.getElem?_eq_some_iff.1 HQ8.out
      omega
   exact⟨hP,hst2,hmo.keep HQ8.out hrb8N.out,hrb9⟩
  refine' cut_ways (Rel:=fun W ga fa ca=>Rr W m g {B8 with av := .slice (some ⟨ga,fa,none⟩) (n2+1) ca} {ρ with recs:=ρ.recs++[R],ats:=ρ.ats++[fi]}∧Stp w W m g B {B8 with av := .slice (some ⟨ga,fa,none⟩) (n2+1) ca} (blk (.slice ia ik ic)++blk (.slice la lm lc))∧W.heap[w.heap.size]? = some (.cells (rcC R (.slice ia ik ic) (.slice la lm lc)) 65 (0,0))∧w.heap.size∉rOwn m g {B8 with av := .slice (some ⟨ga,fa,none⟩) (n2+1) ca}) ?ways ?rest
  case ways =>
   intro key
   go_region_law (first
     | (refine step_append_frameO rfl (.tmp 35) (.tmp 40) 54 rfl 3 ji _ 1 8 Tryz.underlying54 hj hy0 hy1 hy2 rfl (by decide) _ _ _ rfl HOn2.out ⟨W8.heap.size,0,none⟩ 1 1 [.int .i64 fi] rfl rfl (cells_newR W8.drew _ _ rfl) (by simp[Value.oneCell']) (by have:=hnl2.out;unfold maxLen;omega) (by have:=hnl2.out;omega) (by omega) ?_;rintro ga fa ca wa hoa hka hba;(have HKa:Hid (Keeps (· ∈ blk (.slice aa n2 ac)) W8 wa):=(((Keeps.refl _ W8).drew).alloc _).trans hka (fun _ _ h=>h));(have hqa:=HKa.out.keep H8.out.cell hmx2.out);(have Ca:wa.cell? ⟨m,3,none⟩=some B8.av:=cell_at hqa 3);(have Fa:=free_at hqa 3);(have HOa:=Hd hoa);(have HBa:=Hd hba);clear hoa hka hba hqa))
   all_goals
     have hh:=hpush.out _ _ _ _ HOa.out HKa.out (fun q hq=>(HBa.out q hq).imp (fun h=>h) (fun h=>Nat.le_trans (by simp) h))
     revert hh
     generalize wa.setCell ⟨m,3,none⟩ (.slice (some ⟨ga,fa,none⟩) (n2+1) ca)=W
     intro hh
     exact key W ga fa ca hh
  case rest =>
   intro Wb ga fa ca hrel
   obtain⟨hb',hsb,hqb,hrb9⟩:=hrel
   have hQm:(R,.slice ia ik ic,.slice la lm lc)∈({B8 with av := .slice (some ⟨ga,fa,none⟩) (n2+1) ca}:RB).Q:=hQ8.out
   obtain⟨B9,hB9⟩:∃b:RB,({B8 with av := .slice (some ⟨ga,fa,none⟩) (n2+1) ca}:RB)=b:=⟨_,rfl⟩
   have hxv9:B9.xv=B.xv:=by rw[←hB9];exact hxv8N.out
   rw[hB9]at hb' hsb hrb9 hQm
   have hxv9N:=Hd hxv9
   have HB:=Hd hb'
   have HSB:=Hd hsb
   have HQB:=Hd hqb
   have hrbN:=Hd hrb9
   have hQN:=Hd hQm
   have C4:Wb.cell? ⟨m,4,none⟩=some (.int .i64 fi):=by have:=cell_at hb'.cell 4;rw[←hfiN.out];exact this
   have C5:Wb.cell? ⟨m,5,none⟩=some (.int .i64 rm):=by have:=cell_at hb'.cell 5;rw[←hrmN.out];exact this
   have F4:=free_at hb'.cell 4
   have F5:=free_at hb'.cell 5
   clear hxv9 hxv8N hpush hB9 hb' hsb hqb hrb9 hQm HOn2 ck3 ck4 cd3 cd4 C3 F3 fd3 hmx2 hav2N hn2N hnl2 hj hy0 hy1 hy2 HQ8 HS8 H8 hrb8N hav hQ8
   go_upto_region 6 with fail
   go_upto_region 8 with fail
   have hP1:=(HB.out.setM 4 (.int .i64 (fi+((S:Int)+2))) {ρ with recs:=ρ.recs++[R],ats:=ρ.ats++[fi],fin:=fi+((S:Int)+2)} rfl rfl rfl rfl rfl)
   have hP2:=(hP1.1.setM 5 (.int .i64 (rm-((S:Int)+2))) {ρ with recs:=ρ.recs++[R],ats:=ρ.ats++[fi],fin:=fi+((S:Int)+2),room:=rm-((S:Int)+2)} rfl rfl rfl rfl rfl)
   have hkm:Keeps (· = m) Wb _:=hP1.2.trans hP2.2 (fun _ _ h=>h)
   have hst3:Stp Wb _ m g B9 B9 []:=⟨hkm.mono (fun q _ e=>e ▸ own_m),fun q hq => .inl hq,fun q hq => .inl hq⟩
   have hst4:=(HSB.out.trans hst3).wide (E':=blk (.slice ia ik ic)++blk (.slice la lm lc)) (fun q hq => .inl (by simpa using hq))
   refine name_world (fun W=>Rr W m g B9 {ρ with recs:=ρ.recs++[R],ats:=ρ.ats++[fi],fin:=fi+((S:Int)+2),room:=rm-((S:Int)+2)}∧Stp w W m g B B9 (blk (.slice ia ik ic)++blk (.slice la lm lc))∧W.heap[w.heap.size]? = some (.cells (rcC R (.slice ia ik ic) (.slice la lm lc)) 65 (0,0))) ⟨hP2.1,hst4,hkm.keep HQB.out (fun e=>hrbN.out (e ▸ own_m))⟩ ?_
   rintro Wc ⟨hc',hsc,hqc⟩
   have HC:=Hd hc'
   have HSC:=Hd hsc
   have HQC:=Hd hqc
   clear hc' hsc hqc hP1 hP2 hkm hst3 hst4 C4 C5 F4 F5 HB HSB HQB
   go_wp2_with fail
   go_loopw [7] (fun x wr=>∃j:Nat,j≤ik∧x = .int .i64 j∧Hid (Rr wr m g B9 {ρ with recs:=ρ.recs++[R],ats:=ρ.ats++[fi],fin:=fi+((S:Int)+2),room:=rm-((S:Int)+2),f:=putF ρ.f (R.ims.take j)})∧Hid (Stp w wr m g B B9 (blk (.slice ia ik ic)++blk (.slice la lm lc)))∧Hid (wr.heap[w.heap.size]? = some (.cells (rcC R (.slice ia ik ic) (.slice la lm lc)) 65 (0,0)))) (fun x _=>ik-(intOf x).toNat)
   case atStart=>exact⟨0,Nat.zero_le _,rfl,HC,HSC,HQC⟩
   case round =>
     obtain⟨j,hj,rfl,HR,HS,HK⟩:=hrel
     have K11:wr.cell? ⟨w.heap.size,11,none⟩=some (.slice ia ik ic):=cell_at HK.out 11
     by_cases hji:j<ik
     rotate_left
     ·obtain rfl:j=ik:=by omega
      have hjI:¬(j:Int)<j:=by omega
      clear hji hj
      go_wp2_with fail
      go_ret
      refine .inr ⟨hrN.out,rfl,_,?_,HS.out,hxv9N.out⟩
      have:=HR.out
      rw[List.take_of_length_le (by rw[hkN.out];exact Nat.le_refl _),←hfiN.out,←hrmN.out]at this
      unfold RS.wrote
      rw[hTN.out,hTSN.out]
      exact this
     obtain⟨y,hy⟩:∃y,R.ims[j]? = some y:=⟨_,List.getElem?_eq_getElem (by rw[hkN.out];exact hji)⟩
     have hym:=List.mem_of_getElem? hy
     obtain⟨pi,hpi⟩:∃q:Nat,y.1=q:=⟨y.1.toNat,by have:=(hokN.out.2.1 y hym).1.1;omega⟩
     have hpl:Hid (pi<6):=by have:=hpgN.out y hym;rw[hpi]at this;show _<_;omega
     have hsl2:=HR.out.sl _ hQN.out
     obtain⟨_,_,_,heq,-,-,hat⟩:=sl_open hsl2.1
     cases heq
     obtain⟨ib,off,rfl,hibl,hrg⟩:=hat.elem (f:=imL) (fun _=>rfl) (k:=j) (by rw[hkN.out];exact hji)
     rw[show R.ims[j]'(by rw[hkN.out];exact hji)=y from(List.getElem?_eq_some_iff.1 hy).2]at hrg
     have hibn:ib∉rOwn m g B9:=(HR.out.im ib (List.mem_flatMap.2 ⟨_,hQN.out,List.mem_append_left _ (by simp[blk,Value.ownBlock])⟩)).2
     have hig:Hid (ib≠g):=fun e=>hibn (e ▸ own_g)
     have hrg':Hid (w.heap.size≠g):=fun e=>hrbN.out (e ▸ own_g)
     have hmg:Hid (m≠g):=HR.out.mg
     obtain⟨P,hP⟩:∃P,y.2=P:=⟨_,rfl⟩
     obtain⟨o7,ho7⟩:∃o,off+j*17=o:=⟨_,rfl⟩
     rw[ho7]at hrg
     have hw0:wr.cell? ⟨ib,o7,none⟩=some (.int .i64 pi):=by have:=hrg 0 _ rfl;rw[hpi]at this;exact this
     have hw1:wr.rangeAt ib (o7+1) (pgC P).toList:=fun i v hv=>by
      have:=hrg (i+1) v (by rw[←hP]at hv;exact hv)
      rw[show o7+1+i=o7+(i+1) by omega];exact this
     have C6:wr.cell? ⟨m,6,none⟩=some (.slice (some ⟨g,0,none⟩) 6 6):=cell_at HR.out.cell 6
     have hS0:WrS m g w.heap.size ib o7 pi (.slice (some ⟨ib,off,none⟩) ik ic) P wr.drew:=⟨C6,K11,hw0,hw1⟩
     have hRd:Hid (Rr wr.drew m g B9 {ρ with recs:=ρ.recs++[R],ats:=ρ.ats++[fi],fin:=fi+((S:Int)+2),room:=rm-((S:Int)+2),f:=putF ρ.f (R.ims.take j)}):=HR.out.later (bD bR)
     have hSd:Hid (Stp w wr.drew m g B B9 (blk (.slice (some ⟨ib,off,none⟩) ik ic)++blk (.slice la lm lc))):=(HS.out.trans (Stp.later (bD bR))).wide (fun q hq => .inl (by simpa using hq))
     have hKd:Hid (wr.drew.heap[w.heap.size]? = some (.cells (rcC R (.slice (some ⟨ib,off,none⟩) ik ic) (.slice la lm lc)) 65 (0,0))):=hDr HK.out
     have hjI:(j:Int)<ik:=by omega
     have hj0:(0:Int)≤j:=by omega
     have hpI:(pi:Int)<6:=by have:=hpl.out;omega
     have hp0:(0:Int)≤pi:=by omega
     have hjw:IntKind.i64.wrap ((j:Int)+1)=(j:Int)+1:=by have:=hk1.out;rw[IntKind.wrap_i64];omega
     have hpt:=Hd (putF_take (f:=ρ.f) hy)
     rw[hpi,hP]at hpt
     have hjiN:=Hd hji
     have ho7N:=Hd ho7
     have hpgr:=Hd hRd.out.pg
     clear hibl hibn hrg hw0 hw1 hsl2 hat hym hji hj hy hpi hP HR HS HK C6
     go_upto_region 11 with fail
     clear K11
     refine wp_region_held_drew (S:=WrS m g w.heap.size ib o7 pi (.slice (some ⟨ib,off,none⟩) ik ic) P) (by kernel_rfl) hS0 (fun hHeld=>?_)
     clear hS0
     refine tx4 0 hHeld ?_
     go_frame
     refine tx4 1 hHeld ?_
     go_frame
     refine tx4 2 hHeld ?_
     go_frame
     refine tx4 3 hHeld ?_
     go_frame
     refine tx4 4 hHeld ?_
     go_frame
     refine tx4 5 hHeld ?_
     go_frame
     refine tx4 6 hHeld ?_
     go_frame
     refine tk 7 (v := .pointer (some ⟨ib,o7,none⟩)) rfl (Or.inl ⟨by rfl,fun w' hSw=>by rw[←ho7N.out];obtain⟨s0,s1,s2,s3⟩:=hSw;go_simp;try with_reducible rfl⟩) hHeld ?_
     go_frame
     refine tx4 8 hHeld ?_
     go_frame
     refine tx4 9 hHeld ?_
     go_frame
     refine tx4 10 hHeld ?_
     go_frame
     refine tx4 11 hHeld ?_
     go_frame
     refine tx4 12 hHeld ?_
     go_frame
     refine tk 13 (v := .pointer (some ⟨ib,o7,none⟩)) rfl (Or.inl ⟨by rfl,fun w' hSw=>by rw[←ho7N.out];obtain⟨s0,s1,s2,s3⟩:=hSw;go_simp;try with_reducible rfl⟩) hHeld ?_
     go_frame
     refine tk 14 (v := .pointer (some ⟨ib,o7+1,none⟩)) rfl (Or.inl ⟨by rfl,fun w' hSw=>by obtain⟨s0,s1,s2,s3⟩:=hSw;go_simp;try with_reducible rfl⟩) hHeld ?_
     go_frame
     refine tk 15 (v := .agg (pgC P)) rfl (yieldsIf_load_mid (by rfl) _ _ rfl ib (o7+1) rfl (pgC P).toList _ (fun _ h=>h.2.2.2) Tryz.underlying49 rfl (by kernel_rfl)) hHeld ?_
     go_frame
     refine tx4 16 hHeld ?_
     go_frame
     refine rd 17 (fun K hK=>?_)
     refine step_store_row rfl _ _ rfl 49 g pi 6 6 (putF ρ.f (R.ims.take j)) P rfl rfl hpgr.out hpl.out ?_
     intro wz HRz Kz
     refine hK.out _ _ (hHeld.keep Kz.out (fun e=>hmg.out e) (fun e=>hrg'.out e) (fun e=>hig.out e)) (fun hHeld=>?_)
     clear hK K
     try go_frame
     clear hHeld
     refine wpAnyH_done (by kernel_rfl) ?_ _
     have HRn:Hid (Rr wz m g B9 {ρ with recs:=ρ.recs++[R],ats:=ρ.ats++[fi],fin:=fi+((S:Int)+2),room:=rm-((S:Int)+2),f:=putF ρ.f (R.ims.take (j+1))}):=by
      rw[hpt.out]
      exact hRd.out.setF Kz.out HRz.out
     have HSn:Hid (Stp w wz m g B B9 (blk (.slice (some ⟨ib,off,none⟩) ik ic)++blk (.slice la lm lc))):=(hSd.out.trans (⟨Kz.out.mono (fun q _ e=>e ▸ own_g),fun q hq => .inl hq,fun q hq => .inl hq⟩:Stp wr.drew wz m g B9 B9 [])).wide (fun q hq => .inl (by simpa using hq))
     have HKn:Hid (wz.heap[w.heap.size]? = some (.cells (rcC R (.slice (some ⟨ib,off,none⟩) ik ic) (.slice la lm lc)) 65 (0,0))):=Kz.out.keep hKd.out (fun e=>hrg'.out e)
     clear hRd hSd hKd hpgr HRz Kz hpt
     go_wp2_with fail
     go_roundw
     case rel=>exact⟨j+1,hjiN.out,rfl,HRn,HSn,HKn⟩
     case measure=>have:=hjiN.out;simp[intOf];omega
end
end Go.Proofs.YtimomjheanfbmaaGreatDoor.G
