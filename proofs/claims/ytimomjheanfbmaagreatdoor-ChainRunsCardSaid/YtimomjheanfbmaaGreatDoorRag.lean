import Derived.Test.YtimomjheanfbmaaGreatDoorQaa
import Derived.Test.YtimomjheanfbmaaGreatDoorRaf
import Derived.Deep.MidRow
set_option linter.unusedSimpArgs false
set_option linter.unusedVariables false
namespace Go.Proofs.YtimomjheanfbmaaGreatDoor
open Go.RowKit
theorem wpList_load_arr {P:Program} {ops:Array Oper} {rest:List Oper} {op:Oper} {a:Act} {w:World} {Q:Exit→Act→World→Prop} (hgd:op.guard=none) (ty:TypeId) (x:Operand) (ho:op.op = .load ty x)
  (b o:Nat) (hx:a.eval x = .pointer (some ⟨b,o,none⟩)) (C:Array Value) (d:TypeDesc) (hc:w.rangeAt b o C.toList)
  (hu:P.underlying ty=some d) (hd:d.isRow=true) (hi:(P.info? ty).map (·.size)=some C.size)
  (h:wpList P ops Q rest (a.put op.dst (.agg C)) w):wpList P ops Q (op::rest) a w :=
 wpList_load_mid hgd ty x ho b o hx C.toList d hc hu hd (by rw[hi,Array.length_toList]) (by rw[Array.toArray_toList];exact h)
theorem slot_at {w:World} {g n c:Nat} {l:List Slot} (h:OwnS w 166 20 (.slice (some ⟨g,0,none⟩) n c) n (slV l)) (i:Nat) (s:Slot) (hi:l[i]? = some s) :
  w.cell? ⟨g,i*20,none⟩=some (.int .i64 s.id)∧w.rangeAt g (i*20+1) (pgC s.P).toList∧w.cell? ⟨g,i*20+17,none⟩=some (.int .i64 s.st)∧w.cell? ⟨g,i*20+18,none⟩=some (.bool s.dirty)∧w.cell? ⟨g,i*20+19,none⟩=some (.bool s.warm):=by
 have hr:=slot_range h i s hi
 refine⟨hr 0 _ rfl,fun j v hj=>?_,hr 17 _ rfl,hr 18 _ rfl,hr 19 _ rfl⟩
 have hjl:j<16:=(List.getElem?_eq_some_iff.1 hj).1
 have:=hr (j+1) v (by
  unfold slC
  rw[List.getElem?_cons_succ,List.getElem?_append_left (show j<(pgC s.P).toList.length from hjl)]
  exact hj)
 rw[show i*20+1+j=i*20+(j+1) by omega]
 exact this
theorem slot_free {w:World} {g n c:Nat} {l:List Slot} (h:OwnS w 166 20 (.slice (some ⟨g,0,none⟩) n c) n (slV l)) (hn:0<n) (j:Nat):w.frozen? ⟨g,j,none⟩=false:=by
 rcases h.2 with⟨he,_⟩ | ⟨g1,cap,cur,he,hb,hg,hnc,hcm,hcs,htake⟩
 · simp at he
 ·simp only[Value.slice.injEq,Option.some.injEq,Addr.mk.injEq,and_true,true_and]at he
  obtain⟨rfl,rfl⟩:=he
  exact free_at hg j
theorem index4 (f:Nat→ByteArray) (k:Nat) (hk:k<4) (w:World):(Instr.index 221 (.agg #[.string (f 0),.string (f 1),.string (f 2),.string (f 3)]) (.int .i64 k)).run Tryz.prog w = .ok (.string (f k)) w:=by
 match k,hk with
 | 0,_=>simp[Instr.index,asIntOf,go_sem]
 | 1,_=>simp[Instr.index,asIntOf,go_sem]
 | 2,_=>simp[Instr.index,asIntOf,go_sem]
 | 3,_=>simp[Instr.index,asIntOf,go_sem]
theorem Pw.go {w w1 w2:World} {p lp dp first n bb:Nat} {P:ByteArray} {rs:List ByteArray} {i0 i1:Nat} {X:Pl} {sv:Value} {S Sl Sd Sd1 Sd2:List Nat} {D D1 D2:Dev} (h:Pw w p lp dp first n bb P rs i0 X sv S Sl Sd D)
  (hw1:Ws w1 lp dp first n bb P rs i1 Sl Sd1 D1) (hk1:Keeps (fun k=>k∈Sl∨k∈Sd) w w1) (hs1:∀k∈Sd1,k∈Sd∨w.heap.size≤k) (hl1:D1.firm.length=D.firm.length)
  (hd2:DiskAt w2 dp D2 Sd2) (hk2:Keeps (· ∈ Sd1) w1 w2) (hs2:∀k∈Sd2,k∈Sd1∨w1.heap.size≤k) {m:Nat} {Pp:Pg} {st:Int} {k:Nat} {c:Int} (hlaw:WrLaw D1 (X.base+4*m) Pp st k D2 c) (hk:k≤4) (hP:PgOk Pp) (hsf:SoftOk D2) :
  Pw w2 p lp dp first n bb P rs i1 X sv S Sl Sd2 D2∧Keeps (fun k=>k∈S∨k∈Sl∨k∈Sd) w w2∧∀k∈Sd2,k∈Sd∨w.heap.size≤k:=by
 have hb1:w.heap.size≤w1.heap.size:=hk1.size
 have hfr:∀k∈Sd2,k∈Sd∨w.heap.size≤k:=fun k hk=>by
  rcases hs2 k hk with h' | h'
  · exact hs1 k h'
  · exact .inr (by omega)
 have hn:=hw1.len
 have hp1:PoolAt w1 p dp lp X sv S:=h.pool.keep hk1 (fun k hk h'=>h'.elim (h.dl k hk) (h.dd k hk))
 have hd1:∀k∈S,k∉Sd1:=fun k hk h'=>by
  rcases hs1 k h' with h2 | h2
  · exact h.dd k hk h2
  · have:=h.pool.lt k hk;omega
 refine⟨⟨hp1.keep hk2 (fun k hk h'=>hd1 k hk h'),⟨hw1.log.keep hk2 (fun k hk h'=>hw1.dis k hk h'),hd2,⟨hlaw.ok,by rw[hlaw.len];exact hw1.has.2.1,hlaw.all _ hw1.has.2.2 (fun j hj=>⟨page_sec_size (pageS_size hP) st (by omega),fun j' hj' he=>?_⟩)⟩,fun k hk h'=>?_,hw1.rok,hw1.le,hw1.pre,hw1.bbs,hsf⟩,h.dl,fun k hk h'=>?_,h.ring,by rw[hlaw.len,hl1];exact h.fit⟩,?_,hfr⟩
 ·have:=place_lt (first:=first) (k:=bb+j') (n:=n) (by omega)
  have:=h.ring
  omega
 ·rcases hs2 k h' with h2 | h2
  · exact hw1.dis k hk h2
  · have:=hw1.log.lt k hk;omega
 ·rcases hfr k h' with h2 | h2
  · exact h.dd k hk h2
  · have:=h.pool.lt k hk;omega
 ·refine(hk1.mono (fun k _ h' => .inr h')).trans hk2 (fun k hk h'=>?_)
  rcases hs1 k h' with h2 | h2
  · exact .inr (.inr h2)
  · omega
theorem wr_stuck_le {D:Dev} {b:Nat} {P:Pg} {st:Int} {i:Nat} (h:(D.wr b P st i).2≠0):∀j,i≤j→D.wr b P st j=D.wr b P st i:=by
 intro j hj
 obtain⟨d,rfl⟩:∃d,j=i+d:=⟨j-i,by omega⟩
 clear hj
 induction d with
 | zero=>rfl
 | succ d ih=>rw[←ih]at h;rw[show i+(d+1)=i+d+1 by omega,wr_stuck h,ih]
theorem Pw.slots {w w':World} {p lp dp first n bb:Nat} {P:ByteArray} {rs:List ByteArray} {i0:Nat} {X:Pl} {sv:Value} {S Sl Sd:List Nat} {D:Dev} (h:Pw w p lp dp first n bb P rs i0 X sv S Sl Sd D)
  {g:Nat} (hg:g∈blk sv) {l':List Slot} (hl:l'.length=X.slots.length) (ho:OwnS w' 166 20 sv l'.length (slV l')) (hk:Keeps (· = g) w w') (hd:∀s∈l',s.dirty=true→SlOk X.pages s) :
  Pw w' p lp dp first n bb P rs i0 {X with slots:=l'} sv S Sl Sd D:=by
 obtain⟨⟨o1,o2,o3,o4,o5,o6,o7,o8⟩,h1,h2,hS,hSn⟩:=h.pool
 have hgS:g∈S:=by rw[hS];simp[hg]
 have hpg:p≠g:=by
  rintro rfl
  rw[hS]at hSn
  exact(List.nodup_cons.1 hSn).1 hg
 exact⟨⟨⟨o1,o2,o3,o4,o5,by show l'.length≤X.room;omega,o7,hd⟩,hk.keep h1 hpg,ho,hS,hSn⟩,⟨h.ws.log.keep hk (fun k hk e=>h.dl g hgS (e ▸ hk)),h.ws.dsk.keep hk (fun k hk e=>h.dd g hgS (e ▸ hk)),h.ws.has,h.ws.dis,h.ws.rok,h.ws.le,h.ws.pre,h.ws.bbs,h.ws.soft⟩,h.dl,h.dd,h.ring,h.fit⟩
def Cs2 (a:Addr) (u:Value) (b:Addr) (v:Value) (w:World):Prop:=w.cell? a=some u∧w.cell? b=some v
def Cs3 (a:Addr) (u:Value) (b:Addr) (v:Value) (c:Addr) (x:Value) (w:World):Prop:=w.cell? a=some u∧w.cell? b=some v∧w.cell? c=some x
set_option maxRecDepth 100000 in
set_option maxHeartbeats 800000 in
theorem pl_write {w:World} {p lp dp first n bb:Nat} {P:ByteArray} {rs:List ByteArray} {i0:Nat} {X:Pl} {sv:Value} {S Sl Sd:List Nat} {D:Dev} (h:Pw w p lp dp first n bb P rs i0 X sv S Sl Sd D)
  (i:Nat) (s:Slot) (hs:X.slots[i]? = some s) (hk:SlOk X.pages s) (N:Nat) (hN:N≤3000000000000) (hsoft:SoftB N D) (g c:Nat) (hsv:sv = .slice (some ⟨g,0,none⟩) X.slots.length c) :
  Calls Tryz.prog 82 #[.pointer (some ⟨p,0,none⟩),.pointer (some ⟨g,i*20,none⟩)] w fun e w'=>∃cd i1 Sd' D',e = .returned (.int .i64 cd)∧WrRel first n bb P rs X.base s i0 D i1 D' cd ∧
   Pw w' p lp dp first n bb P rs i1 (if cd=0 then {X with slots:=X.slots.set i {s with dirty:=false}} else X) sv S Sl Sd' D'∧Keeps (fun k=>k∈S∨k∈Sl∨k∈Sd) w w'∧∀k∈Sd',k∈Sd∨w.heap.size≤k:=by
 subst hsv
 obtain⟨hok,h1,h2,hS,hSn⟩:=id h.pool
 have hil:i<X.slots.length:=(List.getElem?_eq_some_iff.1 hs).1
 have hfit:=h.fit
 obtain⟨o1,o2,o3,o4,o5,o6,o7,o8⟩:=hok
 obtain⟨k1,k2,k3,k4,k5⟩:=hk
 obtain⟨m,hm⟩:∃m:Nat,s.id=(m:Int):=⟨s.id.toNat,by omega⟩
 have hm2:m<X.pages:=by omega
 have c1:w.cell? ⟨p,1,none⟩=some (.pointer (some ⟨lp,0,none⟩)):=cell_at h1 1
 obtain⟨-,-,cst,-,-⟩:=slot_at h2 i s hs
 have HF:=Hd (ws_flush2 (h.ws.later (bD bR)) s.st)
 replace h1:=Hd h1
 replace h2:=Hd h2
 replace o8:=Hd o8
 obtain⟨st,hst⟩:∃b,s.st=b:=⟨_,rfl⟩
 rw[hst]at cst HF k4 k5
 have hpS:Hid (p∈S∧g∈S∧p≠g):=by
  rw[hS]at hSn ⊢
  refine⟨by simp,by simp[blk,Value.ownBlock],?_⟩
  rintro rfl
  simp[blk,Value.ownBlock]at hSn
 have HH:=Hd h
 replace hS:=Hd hS
 replace hst:=Hd hst
 replace hm:=Hd hm
 replace hs:=Hd hs
 clear h hSn
 go_enter Tryz.func82,Tryz.ntmps82
 go_wp2_with fail
 refine wp_region_held_drew (S:=Cs2 ⟨p,1,none⟩ (.pointer (some ⟨lp,0,none⟩)) ⟨g,i*20+17,none⟩ (.int .i64 st)) (by kernel_rfl) ⟨c1,cst⟩ (fun hHeld=>?_)
 refine tx2 0 hHeld ?_
 go_frame
 refine tx2 1 hHeld ?_
 go_frame
 refine tx2 2 hHeld ?_
 go_frame
 refine tx2 3 hHeld ?_
 go_frame
 refine tx2 4 hHeld ?_
 go_frame
 refine tx2 5 hHeld ?_
 go_frame
 refine tx2 6 hHeld ?_
 go_frame
 refine tx2 7 hHeld ?_
 go_frame
 refine rd 8 (fun K hK=>?_)
 go_simp
 go_at_call 122
 refine(HF.out).mono ?_
 rintro e w1 ⟨c0,i1,Sd1,D1,rfl,hw1,hk1,hs1,hfl⟩
 have HW1:=Hd hw1
 have HK1:Hid (Keeps (fun k=>k∈Sl∨k∈Sd) w w1):=((Keeps.refl _ w).drew).trans hk1 (fun _ _ h=>h)
 have HS1:Hid (∀k∈Sd1,k∈Sd∨w.heap.size≤k):=hs1
 have HFL:=Hd hfl
 clear hw1 hk1 hs1 hfl HF c1 cst
 have hk1S:∀k∈S,¬(k∈Sl∨k∈Sd):=fun k hk h'=>h'.elim (HH.out.dl k hk) (HH.out.dd k hk)
 have H11:=Hd (HK1.out.keep h1.out (hk1S p hpS.out.1))
 have H21:=Hd (h2.out.keep HK1.out (fun k hk=>hk1S k (by rw[hS.out];simp[hk])))
 replace hk1S:=Hd hk1S
 clear hHeld
 go_wp2_with fail
 refine hK.out _ _ ⟨cell_at H11.out 1,hst.out ▸ (slot_at H21.out i s hs.out).2.2.1⟩ (fun hHeld=>?_)
 clear hK K
 try go_frame
 refine tx2 9 hHeld ?_
 go_frame
 clear hHeld
 refine wpAnyH_done (by kernel_rfl) ?_ _
 by_cases hc0:c0=0
 rotate_left
 ·have hc20:c0=20:=by
   rcases HFL.out.code with⟨h,_⟩ | ⟨h,_⟩
   · exact absurd h hc0
   · exact h
  subst hc20
  go_wp2_with fail
  go_ret
  obtain⟨f1,f2,f3⟩:=HH.out.go (D2:=D1) (w2:=w1) (Sd2:=Sd1) (k:=0) (c:=0) (m:=m) (Pp:=s.P) (st:=st) HW1.out HK1.out HS1.out HFL.out.off.len HW1.out.dsk (Keeps.refl _ _) (fun k hk => .inl hk) (wr_law st HW1.out.dsk.1 k3 0 (by omega) (by rw[HFL.out.off.len];omega)) (by omega) k3 HW1.out.soft
  exact⟨20,i1,Sd1,D1,rfl,.inl ⟨hst.out ▸ HFL.out,rfl⟩,by rw[if_neg (by decide)];exact f1,f2,f3⟩
 subst hc0
 obtain⟨sid1,sp1,sst1,-,-⟩:=slot_at H21.out i s hs.out
 rw[hst.out]at sst1
 have HR1:=Hd sp1
 clear sp1 sid1
 have HE:=Hd (fun w=>pg_encode_ok s.P k3 w)
 have hPs:Hid ((Tryz.prog.info? 49).map (·.size)=some (pgC s.P).size):=by show _=_;kernel_rfl
 unfold pgV at HE
 obtain⟨C,hC⟩:∃C,pgC s.P=C:=⟨_,rfl⟩
 obtain⟨B,hB⟩:∃B,pageS s.P=B:=⟨_,rfl⟩
 have hB224:B.size=224:=by rw[←hB];exact pageS_size k3
 rw[hC]at HR1 hPs HE
 rw[hB]at HE
 replace hC:=Hd hC
 have HSe:=Hd (fun w=>frm_seal_ok B st hB224 k4 w)
 have hu64:IntKind.u64.wrap st=st:=wrap_u64_in st k4 (by omega)
 have hsz:Hid (∀k,k<4→(sec B st k).size=64):=fun k hk=>page_sec_size hB224 st hk
 obtain⟨F,hF⟩:∃F:Nat→ByteArray,(fun k=>sec B st k)=F:=⟨_,rfl⟩
 have hF':∀k,sec B st k=F k:=fun k=>by rw[←hF]
 simp only[hF']at HSe hsz
 replace hF':=Hd hF'
 replace hB:=Hd hB
 clear hF
 go_wp2_with (refine wpList_load_arr rfl 49 _ rfl g (i*20+1) rfl C _ HR1.out Tryz.underlying49 rfl hPs.out ?_)
 refine(HE.out _).mono ?_
 rintro e w2 ⟨rfl,hb2⟩
 have H12:=Hd (hBs hb2 H11.out)
 have H22:=Hd (h2.out.keep (HK1.out.trans (Keeps.of_below _ hb2) (fun _ _ h=>h)) (fun k hk=>hk1S.out k (by rw[hS.out];simp[hk])))
 have sst2:=(slot_at H22.out i s hs.out).2.2.1
 rw[hst.out]at sst2
 have HB2:=Hd hb2
 clear hb2 HE sst1 HR1
 go_wp2_with fail
 refine(HSe.out _).mono ?_
 rintro e w3 ⟨rfl,hb3⟩
 have HB3:=Hd (bT HB2.out hb3)
 clear hb3 HSe sst2 H12 H22 HB2
 go_wp2_with fail
 have hd1S:Hid (∀k∈S,k∉Sd1):=fun k hk h'=>by
  rcases HS1.out k h' with h2 | h2
  · exact HH.out.dd k hk h2
  · have:=HH.out.pool.lt k hk;omega
 have hnn:Hid (∀k,k<4→X.base+4*m+k<D1.firm.length):=fun k hk=>by rw[HFL.out.off.len];omega
 have hsb1:Hid (SoftB N D1):=HFL.out.softB hsoft
 have hB3:Hid (Below w1.heap.size w1 (w3.alloc (.cells #[.string (F 0),.string (F 1),.string (F 2),.string (F 3)] 221))):=bA HB3.out
 have HD3:=Hd (HW1.out.dsk.later hB3.out)
 have hw4:IntKind.i64.wrap ((m:Int)*4)=(m:Int)*4:=by rw[IntKind.wrap_i64];omega
 have hw5:IntKind.i64.wrap ((X.base:Int)+(m:Int)*4)=(X.base:Int)+(m:Int)*4:=by rw[IntKind.wrap_i64];omega
 replace hm2:=Hd hm2
 replace hfit:=Hd hfit
 replace hil:=Hd hil
 go_loopw [47] (fun x wr=>∃(k:Nat) (D':Dev) (Sd':List Nat),k≤4∧x = .int .i64 k∧Hid (D1.wr (X.base+4*m) s.P st k=(D',0))∧Hid (DiskAt wr dp D' Sd')∧Hid (Keeps (· ∈ Sd1) w1 wr)∧Hid (∀q∈Sd',q∈Sd1∨w1.heap.size≤q)) (fun x _=>4-(intOf x).toNat)
 case atStart=>exact⟨0,D1,Sd1,by omega,rfl,rfl,HD3,Keeps.of_below _ hB3.out,fun q hq => .inl hq⟩
 case round =>
  obtain⟨k,D',Sd',hk4,rfl,HWR,HD,HK,HS⟩:=hrel
  have H1r:=Hd (HK.out.keep H11.out (hd1S.out p hpS.out.1))
  have H2r:=Hd (H21.out.keep HK.out (fun k hk=>hd1S.out k (by rw[hS.out];simp[hk])))
  obtain⟨r0,-,-,r3,-⟩:=slot_at H2r.out i s hs.out
  rw[hm.out]at r0
  have P0:wr.cell? ⟨p,0,none⟩=some (.pointer (some ⟨dp,0,none⟩)):=cell_at H1r.out 0
  have P2:wr.cell? ⟨p,2,none⟩=some (.int .i64 X.base):=cell_at H1r.out 2
  by_cases hk:k<4
  ·have hkI:(k:Int)<4:=by omega
   have hk0:(0:Int)≤k:=by omega
   have hw6:IntKind.i64.wrap ((X.base:Int)+(m:Int)*4+(k:Int))=(X.base:Int)+(m:Int)*4+(k:Int):=by have:=hm2.out;rw[IntKind.wrap_i64];omega
   have hidx:=fun w=>index4 F k hk w
   have hwk:=wr_law (D:=D1) (b:=X.base+4*m) (P:=s.P) st HW1.out.dsk.1 k3 k (by omega) (by have:=hnn.out 3 (by omega);omega)
   rw[HWR.out]at hwk
   have hsf:D'.soft.length≤9000000000000:=by
    have h1:=hwk.soft
    have h2:D1.soft.length≤N+5000:=by
     rcases hsb1.out with h | ⟨_,h⟩ <;> omega
    show D'.soft.length≤_
    dsimp only at h1
    omega
   have hnx:Hid (D1.wr (X.base+4*m) s.P st (k+1)=D'.write ((X.base:Int)+(m:Int)*4+(k:Int)) (F k)):=by
    show _=_
    rw[wr_next (by rw[HWR.out]),HWR.out,hB.out,hF'.out k]
    congr 1
    push_cast
    omega
   have HWx:=Hd (dsk_write dp ((X.base:Int)+(m:Int)*4+(k:Int)) (F k) (by rw[hsz.out k hk];unfold maxLen;omega) D' Sd' hsf wr.drew HD.out)
   replace hsf:=Hd hsf
   replace hk4:=Hd hk4
   replace hk:=Hd hk
   clear hwk r3
   go_wp2_with fail
   refine wp_region_held_drew (S:=Cs3 ⟨p,0,none⟩ (.pointer (some ⟨dp,0,none⟩)) ⟨p,2,none⟩ (.int .i64 X.base) ⟨g,i*20,none⟩ (.int .i64 (m:Int))) (by kernel_rfl) ⟨P0,P2,r0⟩ (fun hHeld=>?_)
   refine tx3 0 hHeld ?_
   go_frame
   refine tx3 1 hHeld ?_
   go_frame
   refine tx3 2 hHeld ?_
   go_frame
   refine tx3 3 hHeld ?_
   go_frame
   refine tx3 4 hHeld ?_
   go_frame
   refine tx3 5 hHeld ?_
   go_frame
   refine tx3 6 hHeld ?_
   go_frame
   refine tx3 7 hHeld ?_
   go_frame
   refine tx3 8 hHeld ?_
   go_frame
   refine tx3 9 hHeld ?_
   go_frame
   refine tx3 10 hHeld ?_
   go_frame
   refine tx3 11 hHeld ?_
   go_frame
   refine tx3 12 (v := .int .i64 ((m:Int)*4)) hHeld ?_
   go_frame
   refine tx3 13 (v := .int .i64 ((X.base:Int)+(m:Int)*4)) hHeld ?_
   go_frame
   refine tx3 14 hHeld ?_
   go_frame
   refine tx3 15 (v := .int .i64 ((X.base:Int)+(m:Int)*4+(k:Int))) hHeld ?_
   go_frame
   refine tx3 16 hHeld ?_
   go_frame
   refine rd 17 (fun K hK=>?_)
   go_simp
   go_at_call 72
   refine(HWx.out).mono ?_
   rintro e w5 ⟨rfl,S5,hd5,hk5,hs5⟩
   have HD5:=Hd hd5
   have HK5:Hid (Keeps (· ∈ Sd1) w1 w5):=(HK.out.drew).trans hk5 (fun q hq h=>(HS.out q h).resolve_right (by omega))
   have HS5:Hid (∀q∈S5,q∈Sd1∨w1.heap.size≤q):=fun q hq=>by
    rcases hs5 q hq with h | h
    · exact HS.out q h
    ·have h2:wr.heap.size≤q:=h
     have:=HK.out.size;exact .inr (by omega)
   have H15:=Hd (HK5.out.keep H11.out (hd1S.out p hpS.out.1))
   have H25:=Hd (H21.out.keep HK5.out (fun k hk=>hd1S.out k (by rw[hS.out];simp[hk])))
   clear hd5 hk5 hs5 HWx HD HK HS H1r H2r P0 P2 r0
   clear hHeld
   go_wp2_with fail
   refine hK.out _ _ ⟨cell_at H15.out 0,cell_at H15.out 2,hm.out ▸ (slot_at H25.out i s hs.out).1⟩ (fun hHeld=>?_)
   clear hK K
   try go_frame
   refine tx3 18 hHeld ?_
   go_frame
   clear hHeld
   refine wpAnyH_done (by kernel_rfl) ?_ _
   obtain⟨E,hE⟩:∃E,D'.write ((X.base:Int)+(m:Int)*4+(k:Int)) (F k)=E:=⟨_,rfl⟩
   rw[hE]at hnx HD5 ⊢
   replace hE:=Hd hE
   obtain⟨E,ce⟩:=E
   dsimp only at HD5 ⊢
   by_cases hce:ce=0
   ·subst hce
    go_wp2_with fail
    go_roundw
    case rel=>exact⟨k+1,E,S5,by have:=hk.out;omega,rfl,hnx,HD5,HK5,HS5⟩
    case measure=>have:=hk.out;simp[intOf];omega
   ·have h4:Hid (D1.wr (X.base+4*m) s.P st 4=(E,ce)):=by
     show _=_
     rw[←hnx.out]
     exact wr_stuck_le (by rw[hnx.out];exact hce) 4 (by have:=hk.out;omega)
    have hce':=Hd hce
    go_wp2_with fail
    go_ret
    have hlaw:=wr_law (D:=D1) (b:=X.base+4*m) (P:=s.P) st HW1.out.dsk.1 k3 4 (by omega) (by have:=hnn.out 3 (by omega);omega)
    rw[h4.out]at hlaw
    obtain⟨f1,f2,f3⟩:=HH.out.go (D2:=E) (w2:=w5) (Sd2:=S5) (k:=4) (c:=ce) (m:=m) (Pp:=s.P) (st:=st) HW1.out HK1.out HS1.out HFL.out.off.len HD5.out HK5.out HS5.out hlaw (by omega) k3 ((hlaw.softB hsb1.out).ok (by omega))
    refine⟨ce,i1,S5,E,rfl,.inr ⟨D1,hst.out ▸ HFL.out,?_⟩,by rw[if_neg hce'.out];exact f1,f2,f3⟩
    rw[hm.out,Int.toNat_natCast,hst.out]
    exact hlaw
  ·obtain rfl:k=4:=by omega
   have r4:=slot_free H2r.out (by have:=hil.out;omega) (i*20+18)
   clear hk
   go_wp2_with fail
   go_ret
   have hlaw:=wr_law (D:=D1) (b:=X.base+4*m) (P:=s.P) st HW1.out.dsk.1 k3 4 (by omega) (by have:=hnn.out 3 (by omega);omega)
   rw[HWR.out]at hlaw
   obtain⟨f1,f2,f3⟩:=HH.out.go (D2:=D') (w2:=wr) (Sd2:=Sd') (k:=4) (c:=0) (m:=m) (Pp:=s.P) (st:=st) HW1.out HK1.out HS1.out HFL.out.off.len HD.out HK.out HS.out hlaw (by omega) k3 ((hlaw.softB hsb1.out).ok (by omega))
   have hgb:g∈blk (.slice (some ⟨g,0,none⟩) X.slots.length c):=by simp[blk,Value.ownBlock]
   have hkg:Keeps (· = g) wr (wr.setCell ⟨g,i*20+18,none⟩ (.bool false)):=(Keeps.refl _ _).setCell _ _ (.inl rfl)
   refine⟨0,i1,Sd',D',rfl,.inr ⟨D1,hst.out ▸ HFL.out,?_⟩,?_,f2.trans hkg (fun k hk e => .inl (by rw[e];exact hpS.out.2.1)),f3⟩
   ·rw[hm.out,Int.toNat_natCast,hst.out]
    exact hlaw
   ·rw[if_pos rfl]
    refine f1.slots hgb (by rw[List.length_set]) ?_ hkg (fun s' hs' hd'=>?_)
    ·rw[List.length_set]
     have:=H2r.out.set (i*20+18) (.bool false)
     rw[Nat.mul_comm i 20,slV_set X.slots i 18 s {s with dirty:=false} (.bool false) hs.out (by omega) rfl]at this
     rw[Nat.mul_comm i 20]
     exact this
    ·rcases List.mem_or_eq_of_mem_set hs' with h | h
     · exact o8.out s' h hd'
     · subst h;cases hd'
end Go.Proofs.YtimomjheanfbmaaGreatDoor
namespace Go.Proofs.YtimomjheanfbmaaGreatDoor
open Go.RowKit
def Dev.at (D:Dev) (b:Nat):ByteArray:=D.seen.getD b ⟨#[]⟩
def LdRel (D:Dev) (b:Nat) (Q:Pg) (t c:Int):Prop:=(D.down=true∧c=20)∨(D.down=false ∧
 (
  ((frOpen (D.at b) (D.at (b+1)) (D.at (b+2)) (D.at (b+3))).2.2≠0∧c=(frOpen (D.at b) (D.at (b+1)) (D.at (b+2)) (D.at (b+3))).2.2) ∨
  ((frOpen (D.at b) (D.at (b+1)) (D.at (b+2)) (D.at (b+3))).2.2=0∧t=IntKind.i64.wrap (frOpen (D.at b) (D.at (b+1)) (D.at (b+2)) (D.at (b+3))).2.1 ∧
   (
    (DecOk (frOpen (D.at b) (D.at (b+1)) (D.at (b+2)) (D.at (b+3))).1∧Q=decP (frOpen (D.at b) (D.at (b+1)) (D.at (b+2)) (D.at (b+3))).1∧c=0) ∨
    (¬DecOk (frOpen (D.at b) (D.at (b+1)) (D.at (b+2)) (D.at (b+3))).1∧c=40)))))
theorem LdRel.bad {D:Dev} {b:Nat} {Q:Pg} {t:Int} {s0 s1 s2 s3:ByteArray} {o:ByteArray×Int×Int} (hd:D.down=false) (e0:D.at b=s0) (e1:D.at (b+1)=s1) (e2:D.at (b+2)=s2) (e3:D.at (b+3)=s3) (ho:frOpen s0 s1 s2 s3=o) (h:o.2.2≠0):LdRel D b Q t o.2.2:=by
 subst e0 e1 e2 e3 ho
 exact .inr ⟨hd,.inl ⟨h,rfl⟩⟩
theorem LdRel.none {D:Dev} {b:Nat} {Q:Pg} {t:Int} {s0 s1 s2 s3:ByteArray} {ob:ByteArray} {os:Int} (hd:D.down=false) (e0:D.at b=s0) (e1:D.at (b+1)=s1) (e2:D.at (b+2)=s2) (e3:D.at (b+3)=s3) (ho:frOpen s0 s1 s2 s3=(ob,os,0)) (ht:t=IntKind.i64.wrap os) (h:¬DecOk ob):LdRel D b Q t 40:=by
 subst e0 e1 e2 e3
 refine .inr ⟨hd,.inr ⟨by rw[ho],by rw[ho];exact ht,.inr ⟨by rw[ho];exact h,rfl⟩⟩⟩
theorem LdRel.got {D:Dev} {b:Nat} {t:Int} {s0 s1 s2 s3:ByteArray} {ob:ByteArray} {os:Int} (hd:D.down=false) (e0:D.at b=s0) (e1:D.at (b+1)=s1) (e2:D.at (b+2)=s2) (e3:D.at (b+3)=s3) (ho:frOpen s0 s1 s2 s3=(ob,os,0)) (ht:t=IntKind.i64.wrap os) (h:DecOk ob):LdRel D b (decP ob) t 0:=by
 subst e0 e1 e2 e3
 refine .inr ⟨hd,.inr ⟨by rw[ho],by rw[ho];exact ht,.inl ⟨by rw[ho];exact h,by rw[ho],rfl⟩⟩⟩
def arr4 (f:Nat→ByteArray) (k:Nat):Array Value := #[.string (if 0<k then f 0 else ⟨#[]⟩),.string (if 1<k then f 1 else ⟨#[]⟩),.string (if 2<k then f 2 else ⟨#[]⟩),.string (if 3<k then f 3 else ⟨#[]⟩)]
theorem arr4_next (f:Nat→ByteArray) (k:Nat) (hk:k<4):(arr4 f k).setIfInBounds k (.string (f k))=arr4 f (k+1):=by
 match k,hk with
 | 0,_=>rfl
 | 1,_=>rfl
 | 2,_=>rfl
 | 3,_=>rfl
theorem arr4_cell (f:Nat→ByteArray) (k:Nat) (hk:k<4):∃v,(arr4 f k)[k]? = some v:=by
 match k,hk with
 | 0,_=>exact⟨_,rfl⟩
 | 1,_=>exact⟨_,rfl⟩
 | 2,_=>exact⟨_,rfl⟩
 | 3,_=>exact⟨_,rfl⟩
theorem results_row_two {P:Program} {fn:Func} {p k m:Tmp} {ty:TypeId} (h:fn.results = #[.cell p ty,.tmp k,.tmp m]) (tmps:Array Value) (w:World) (g:Nat) (t:TypeId) (cs:Array Value) (fr:Nat×Nat) (d:TypeDesc)
  (hp:tmps.getD p undef = .pointer (some ⟨g,0,none⟩)) (hg:w.heap[g]? = some (.cells cs t fr))
  (hu:P.underlying ty=some d) (hd:(match d with | .struct _ | .array _ _=>true | _=>false)=true) (hi:(P.info? ty).map (·.size)=some cs.size) :
  (results fn tmps).run P w = .ok (.tuple #[.agg cs,tmps.getD k undef,tmps.getD m undef]) w:=by
 have hp':tmps[p]?.getD undef = .pointer (some ⟨g,0,none⟩):=by simpa using hp
 simp[results,h,hp',asAddr,run_loadVar_row w g t ty cs fr d hg hu hd hi]
set_option maxRecDepth 100000 in
set_option maxHeartbeats 800000 in
theorem pl_load {w:World} {p dp lp:Nat} {X:Pl} {sv:Value} {S Sd:List Nat} {D:Dev} (h:PoolAt w p dp lp X sv S) (hd:DiskAt w dp D Sd) (id:Nat) (hid:id<X.pages) (hfit:X.base+4*X.pages≤D.firm.length) :
  Calls Tryz.prog 77 #[.pointer (some ⟨p,0,none⟩),.int .i64 id] w fun e w'=>∃Q t c,e = .returned (.tuple #[pgV Q,.int .i64 t,.int .i64 c])∧LdRel D (X.base+4*id) Q t c∧Below w.heap.size w w':=by
 obtain⟨hok,h1,-⟩:=h
 obtain⟨o1,o2,o3,-⟩:=hok
 have hlen:D.seen.length=D.firm.length:=hd.1.2.2.1
 have hsz64:∀j,j<4→(D.at (X.base+4*id+j)).size=64:=fun j hj=>by
  unfold Dev.at
  rw[List.getD_eq_getElem?_getD,List.getElem?_eq_getElem (by omega)]
  exact hd.1.2.2.2.2.2.2.1 _ (List.getElem_mem _)
 obtain⟨base,hbase⟩:∃b,X.base=b:=⟨_,rfl⟩
 have H1:=Hd h1
 have HD:=Hd hd
 replace hlen:=Hd hlen
 clear h1 hd
 rw[hbase]at o1 hsz64 hfit ⊢
 have hw4:IntKind.i64.wrap ((id:Int)*4)=(id:Int)*4:=by rw[IntKind.wrap_i64];omega
 have hw5:IntKind.i64.wrap ((base:Int)+(id:Int)*4)=(base:Int)+(id:Int)*4:=by rw[IntKind.wrap_i64];omega
 have HB0:Hid (Below w.heap.size w ((w.alloc (.cells (pgC pageZ) 49)).alloc (.cells (arr4 (fun j=>D.at (base+4*id+j)) 0) 221))):=bA (bA bR)
 have HZ0:Hid (((w.alloc (.cells (pgC pageZ) 49)).alloc (.cells (arr4 (fun j=>D.at (base+4*id+j)) 0) 221)).heap[w.heap.size]? = some (.cells (pgC pageZ) 49 (0,0))):=hO (hN rfl)
 have HA0:Hid (((w.alloc (.cells (pgC pageZ) 49)).alloc (.cells (arr4 (fun j=>D.at (base+4*id+j)) 0) 221)).heap[w.heap.size+1]? = some (.cells (arr4 (fun j=>D.at (base+4*id+j)) 0) 221 (0,0))):=hN (by simp)
 go_enter Tryz.func77,Tryz.ntmps77
 go_wp2_with fail
 go_loopw [15] (fun x wr=>∃k:Nat,k≤4∧x = .int .i64 k∧(0<k→D.down=false)∧Hid (wr.heap[w.heap.size]? = some (.cells (pgC pageZ) 49 (0,0)))∧Hid (wr.heap[w.heap.size+1]? = some (.cells (arr4 (fun j=>D.at (base+4*id+j)) k) 221 (0,0)))∧Hid (Below w.heap.size w wr)) (fun x _=>4-(intOf x).toNat)
 case atStart=>exact⟨0,by omega,rfl,fun h=>by omega,HZ0,HA0,HB0⟩
 case round =>
  obtain⟨k,hk4,rfl,hup,HZ,HA,HB⟩:=hrel
  clear HB0 HZ0 HA0
  have P0:wr.cell? ⟨p,0,none⟩=some (.pointer (some ⟨dp,0,none⟩)):=cell_at (hBs HB.out H1.out) 0
  have P2:wr.cell? ⟨p,2,none⟩=some (.int .i64 base):=by rw[cell_at (hBs HB.out H1.out) 2,←hbase];rfl
  by_cases hk:k<4
  ·have hkI:(k:Int)<4:=by omega
   have hw6:IntKind.i64.wrap ((base:Int)+(id:Int)*4+(k:Int))=(base:Int)+(id:Int)*4+(k:Int):=by rw[IntKind.wrap_i64];omega
   have HR:=Hd (fun nq=>(dsk_read dp ((base:Int)+(id:Int)*4+(k:Int)) D Sd (wr.drewN nq) (HD.out.later (bDN HB.out nq))).mono (fun e w' ⟨he,hw⟩=>(⟨he,hw.symm⟩:e=_∧wr.drewN nq=w')))
   obtain⟨r,hr⟩:∃r,D.read ((base:Int)+(id:Int)*4+(k:Int))=r:=⟨_,rfl⟩
   rw[hr]at HR
   cases hdn:D.down with
   | true =>
    obtain rfl:r=(⟨#[]⟩,20):=by
     rw[←hr];unfold Dev.read;rw[if_pos hdn]
    clear hr
    rw[hdn]at hup
    replace hdn:=Hd hdn
    replace hk4:=Hd hk4
    have HZn:=Hd (fun nq=>(show (wr.drewN nq).heap[w.heap.size]? = some (.cells (pgC pageZ) 49 (0,0)) from HZ.out))
    go_wp2_with fail
    go_quiet ((go_at_call 120;exact quiet_same (HR.out _)))
    clear HR
    go_wp2_with (refine wpList_store_whole rfl 49 _ _ rfl _ (pgC pageZ) rfl rfl _ (pgC pageZ) (HZn.out _) rfl (by kernel_rfl) (pgC_one _) ?_;intro wz HRz KZ)
    refine bodyPost_ret (results_row_two Tryz.results77 _ _ _ _ _ _ _ rfl HRz.out Tryz.underlying49 rfl (by kernel_rfl)) rfl ?_
    exact⟨pageZ,0,20,rfl,.inl ⟨hdn.out,rfl⟩,bK (bDN HB.out _) KZ.out (fun j hj=>by omega)⟩
   | false =>
    obtain rfl:r=(D.at (base+4*id+k),0):=by
     rw[←hr,up_read hdn _ (by omega) (by have:=hlen.out;omega)]
     unfold Dev.at
     rw[show ((base:Int)+(id:Int)*4+(k:Int)).toNat=base+4*id+k by omega]
    clear hr
    rw[hdn]at hup
    replace hdn:=Hd hdn
    obtain⟨v,hv⟩:=arr4_cell (fun j=>D.at (base+4*id+j)) k hk
    have A1:=(cell_at HA.out k).trans hv
    have A2:=free_at HA.out k
    have hnx:=Hd (arr4_next (fun j=>D.at (base+4*id+j)) k hk)
    replace hk4:=Hd hk4
    clear hv
    go_wp2_with fail
    go_quiet ((go_at_call 120;exact quiet_same (HR.out _)))
    clear HR
    go_wp2_with fail
    go_roundw
    case rel=>exact⟨k+1,by omega,rfl,fun _=>(by first | exact hdn.out | trivial),hSO HZ.out (by simp),heap_set_eq (w:=wr.drewN _) HA.out hnx.out,bS (bDN HB.out _) (by simp)⟩
    case measure=>simp[intOf];omega
  ·obtain rfl:k=4:=by omega
   replace hup:=Hd (hup (by omega))
   have hA4:arr4 (fun j=>D.at (base+4*id+j)) 4 = #[.string (D.at (base+4*id)),.string (D.at (base+4*id+1)),.string (D.at (base+4*id+2)),.string (D.at (base+4*id+3))]:=rfl
   rw[hA4]at HA
   clear hA4
   have z0:=hsz64 0 (by omega)
   have z1:=hsz64 1 (by omega)
   have z2:=hsz64 2 (by omega)
   have z3:=hsz64 3 (by omega)
   rw[Nat.add_zero]at z0
   have HO:=Hd (fun w=>frm_open (D.at (base+4*id)) (D.at (base+4*id+1)) (D.at (base+4*id+2)) (D.at (base+4*id+3)) (by unfold maxLen;omega) (by unfold maxLen;omega) (by unfold maxLen;omega) (by unfold maxLen;omega) w)
   obtain⟨s0,e0⟩:∃s,D.at (base+4*id)=s:=⟨_,rfl⟩
   obtain⟨s1,e1⟩:∃s,D.at (base+4*id+1)=s:=⟨_,rfl⟩
   obtain⟨s2,e2⟩:∃s,D.at (base+4*id+2)=s:=⟨_,rfl⟩
   obtain⟨s3,e3⟩:∃s,D.at (base+4*id+3)=s:=⟨_,rfl⟩
   rw[e0,e1,e2,e3]at HO HA
   rw[e0]at z0
   rw[e1]at z1
   rw[e2]at z2
   rw[e3]at z3
   replace e0:=Hd e0
   replace e1:=Hd e1
   replace e2:=Hd e2
   replace e3:=Hd e3
   have hso:(frOpen s0 s1 s2 s3).1.size≤1000:=by
    unfold frOpen
    repeat' split
    all_goals simp[hd,ByteArray.size_append,ByteArray.size_extract]
    all_goals first | omega | exact Nat.zero_le _ | decide
   obtain⟨o,ho⟩:∃o,frOpen s0 s1 s2 s3=o:=⟨_,rfl⟩
   rw[ho]at HO hso
   replace ho:=Hd ho
   obtain⟨ob,os,oc⟩:=o
   dsimp only at HO hso
   clear hk z0 z1 z2 z3 hsz64
   go_wp2_with (refine wpList_load_row rfl 221 _ rfl _ rfl 221 _ _ _ HA.out Tryz.underlying221 rfl (by kernel_rfl) ?_)
   refine(HO.out _).mono ?_
   rintro e w5 ⟨rfl,hb5⟩
   have HB5:=Hd (bT HB.out hb5)
   have HZ5:=Hd (hBs hb5 HZ.out)
   clear hb5 HO HB HZ HA
   by_cases hoc:oc=0
   rotate_left
   ·have hoc':=Hd hoc
    go_wp2_with (refine wpList_store_whole rfl 49 _ _ rfl _ (pgC pageZ) rfl rfl _ (pgC pageZ) HZ5.out rfl (by kernel_rfl) (pgC_one _) ?_;intro wz HRz KZ)
    refine bodyPost_ret (results_row_two Tryz.results77 _ _ _ _ _ _ _ rfl HRz.out Tryz.underlying49 rfl (by kernel_rfl)) rfl ?_
    exact⟨pageZ,0,oc,rfl,LdRel.bad hup.out e0.out e1.out e2.out e3.out ho.out hoc'.out,bK HB5.out KZ.out (fun j hj=>by omega)⟩
   ·subst hoc
    have HDe:=Hd (fun w=>pg_decode ob (by unfold maxLen;omega) w)
    unfold pgV at HDe
    go_wp2_with fail
    refine(HDe.out _).mono ?_
    rintro e w6 ⟨h,hb6⟩
    have HB6:=Hd (bT HB5.out hb6)
    have HZ6:=Hd (hBs hb6 HZ5.out)
    have HN6:Hid ((w6.alloc (.cells (pgC pageZ) 49)).heap[w6.heap.size]? = some (.cells (pgC pageZ) 49 (0,0))):=hN rfl
    have hzl:Hid (w.heap.size<w6.heap.size):=block_lt HZ6.out
    clear hb6 HDe HB5 HZ5
    obtain⟨Q,c,hQ,hfin,rfl⟩:∃Q c,Hid (∀i,i<6→True)∧Hid (LdRel D (base+4*id) Q (IntKind.i64.wrap os) c)∧e = .returned (.tuple #[.agg (pgC Q),.int .i64 c]):=by
     rcases h with⟨rfl,hok⟩ | ⟨rfl,hno⟩
     · exact⟨decP ob,0,fun _ _=>trivial,LdRel.got hup.out e0.out e1.out e2.out e3.out ho.out rfl hok,rfl⟩
     · exact⟨pageZ,40,fun _ _=>trivial,LdRel.none hup.out e0.out e1.out e2.out e3.out ho.out rfl hno,rfl⟩
    clear h hQ
    go_wp2_with (first
     | (refine wpList_store_whole rfl 49 _ _ rfl _ (pgC Q) rfl rfl _ (pgC pageZ) HN6.out rfl (by kernel_rfl) (pgC_one _) ?_;intro w7 HR7 K7;(have HZ7:=Hd (K7.keep (hO HZ6.out) (by have:=hzl.out;omega)));(have HB7:=Hd (bK (bA HB6.out) K7 (fun j hj=>by have:=hzl.out;omega)));clear HN6 HZ6 HB6)
     | (refine wpList_load_row rfl 49 _ rfl _ rfl 49 _ _ _ HR7.out Tryz.underlying49 rfl (by kernel_rfl) ?_)
     | (refine wpList_store_whole rfl 49 _ _ rfl _ (pgC Q) rfl rfl _ (pgC pageZ) HZ7.out rfl (by kernel_rfl) (pgC_one _) ?_;intro wz HRz KZ))
    refine bodyPost_ret (results_row_two Tryz.results77 _ _ _ _ _ _ _ rfl HRz.out Tryz.underlying49 rfl (by kernel_rfl)) rfl ?_
    exact⟨Q,wrap64 os,c,rfl,(show IntKind.i64.wrap os=wrap64 os from by unfold wrap64;exact IntKind.wrap_i64 os) ▸ hfin.out,bK HB7.out KZ.out (fun j hj=>by omega)⟩
end Go.Proofs.YtimomjheanfbmaaGreatDoor
