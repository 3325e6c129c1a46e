import Derived.Test.YtimomjheanfbmaaGreatDoorQaa
import Derived.Test.YtimomjheanfbmaaGreatDoorRap
set_option linter.unusedSimpArgs false
set_option linter.unusedVariables false
namespace Go.Proofs.YtimomjheanfbmaaGreatDoor.G
open Go.RowKit
theorem flB_gi:flB 1073741824=4742290407621132288:=by decide +kernel
theorem flB_one:flB 1=4607182418800017408:=by decide +kernel
theorem flB_clr:flB 320=4644337115725824000:=by decide +kernel
theorem flB_end:flB 128=4638707616191610880:=by decide +kernel
set_option maxRecDepth 100000 in
theorem ch_size (R:Rc) (iv lw:Value) (w:World) (h:∀w',Below w.heap.size w w'→RcSl w' R iv lw) (hok:RcOk R):Calls Tryz.prog 59 #[.agg (rcC R iv lw)] w fun e w'=>e = .returned (.int .i64 (((rcS R).size+2:Nat):Int))∧Below w.heap.size w w':=by
 have hsz:=rc_sizes hok
 have HQ:Hid ((w.alloc (.cells (rcC R iv lw) 65)).heap[w.heap.size]? = some (.cells (rcC R iv lw) 65 (0,0))):=hN rfl
 have HE:=Hd (rc_encode_ok R iv lw _ (h (w.alloc (.cells (rcC R iv lw) 65)) (bA bR)) hok)
 obtain⟨S,hS⟩:∃S,rcS R=S:=⟨_,rfl⟩
 rw[hS]at HE hsz ⊢
 have hw:IntKind.i64.wrap ((S.size:Int)+2)=((S.size+2:Nat):Int):=by rw[IntKind.wrap_i64];omega
 clear h hS
 go_enter Tryz.func59,Tryz.ntmps59
 go_wp2_with (refine wpList_load_row rfl 65 _ rfl _ rfl 65 _ _ _ HQ.out Tryz.underlying65 rfl (by kernel_rfl) ?_)
 refine(HE.out).mono ?_
 rintro e w1 ⟨rfl,hb⟩
 have HB:=Hd (bT (bA bR) hb)
 clear hb HE HQ
 go_wp2_with fail
 go_ret
 exact⟨by first | rfl | simp,HB.out⟩
section
variable {w0 w w':World} {L:List Nat} {c lp p dp pg lb mb n:Nat} {lv:Value} {σ:CS}
theorem Cx.room (h:Cx w0 w L c lp p dp pg lb mb n lv σ):Calls Tryz.prog 50 #[.pointer (some ⟨lp,0,none⟩)] w fun e w'=>e = .returned (.int .i64 (6912-(σ.used:Int)))∧Below w.heap.size w w':=by
 obtain⟨i0,X,sv,S,Sl,Sd,D,hk⟩:=h.kx
 have:=wal_room lp dp _ Sl w hk.pw.ws.log
 rw[roomOf]at this
 exact this
def CS.free (σ:CS) (bytes:Nat):Nat:=6912-σ.used-bytes
set_option maxRecDepth 100000 in
theorem cx_free (h:Cx w0 w L c lp p dp pg lb mb n lv σ) (bytes:Nat) (hb:bytes≤70000) :
  Calls Tryz.prog 54 #[.pointer (some ⟨c,0,none⟩),.int .i64 bytes] w fun e w'=>e = .returned (.complex .f64 (flB (σ.free bytes)) (flB 1073741824))∧Below w.heap.size w w':=by
 have HR:=Hd h.room
 have C0:w.cell? ⟨c,0,none⟩=some (.pointer (some ⟨lp,0,none⟩)):=cell_at h.ch.cell 0
 have hl:=h.count.2.1
 obtain⟨k,hk⟩:∃k,σ.free bytes=k:=⟨_,rfl⟩
 obtain⟨v,hv⟩:∃v:Int,6912-(σ.used:Int)-(bytes:Int)=v:=⟨_,rfl⟩
 have hwr:IntKind.i64.wrap (6912-(σ.used:Int)-(bytes:Int))=v:=by rw[IntKind.wrap_i64];omega
 have hkv:max (0:Int) v=(k:Int):=by unfold CS.free at hk;omega
 have hkv2:(if (0:Int)<v then v else 0)=(k:Int):=by unfold CS.free at hk;split <;> omega
 have hfo:=fl_of_int k (by unfold CS.free at hk;omega)
 have hfo2:FloatKind.f64.nearest (k:Int)=flB k:=hfo
 rw[hk,flB_gi]
 obtain⟨x,hx⟩:∃x:Int,6912-(σ.used:Int)=x:=⟨_,rfl⟩
 rw[hx]at HR hwr
 clear h hk hv hl hx
 go_enter Tryz.func54,Tryz.ntmps54
 go_wp2_with fail
 refine(HR.out).mono ?_
 rintro e w1 ⟨rfl,hb1⟩
 have HB:=Hd hb1
 clear hb1 HR
 go_wp2_with fail
 go_ret
 exact⟨rfl,HB.out⟩
set_option maxRecDepth 100000 in
theorem cx_reserved (h:Cx w0 w L c lp p dp pg lb mb n lv σ) :
  Calls Tryz.prog 33 #[.pointer (some ⟨c,0,none⟩)] w fun e w'=>e = .returned (.complex .f64 (flB σ.T.1) (flB σ.T.2))∧Below w.heap.size w w':=by
 obtain⟨m1,m2⟩:=h.most
 have HS:=Hd (lg_sum h.ch.lg ⟨by omega,by omega⟩)
 have C2:w.cell? ⟨c,2,none⟩=some (.pointer (some ⟨lb,0,none⟩)):=cell_at h.ch.cell 2
 clear h m1 m2
 go_enter Tryz.func33,Tryz.ntmps33
 go_wp2_with fail
 refine(HS.out).mono ?_
 rintro e w1 ⟨rfl,hb1⟩
 have HB:=Hd hb1
 clear hb1 HS
 go_wp2_with fail
 go_ret
 exact⟨rfl,HB.out⟩
theorem Cx.book (h:Cx w0 w L c lp p dp pg lb mb n lv σ) {n':Nat} {B':Int→Nat×Nat} {T':Nat×Nat} {q:Nat} (hl:LgAt w' lb mb n' B' T') (hk:Keeps (· = mb) w w') (hT:MostOk T') (hn:n'≤q):Cx w0 w' L c lp p dp pg lb mb n' lv {σ with B:=B',T:=T',cnt:=q}:=by
 obtain⟨d1,d2,d3⟩:c≠mb∧lb≠mb∧mb∉blk lv:=by
  have:=h.ch.nd
  simp only[List.nodup_cons,List.mem_cons,not_or]at this
  exact⟨this.1.2.1,this.2.1.1,this.2.2.1⟩
 refine⟨⟨hk.keep h.ch.cell d1,h.ch.own.keep hk (fun q hq e=>d3 (e ▸ hq)),hl,h.ch.len,h.ch.nd⟩,?_,h.hi,hT,h.ok,hn⟩
 exact h.kx.keep3 hk (fun k e=>by subst e;exact⟨by simp[chL],(h.hi _ (by simp[chL])).1⟩)
set_option maxRecDepth 100000 in
theorem cx_drop (h:Cx w0 w L c lp p dp pg lb mb n lv σ) (x:Int) (hx:RngK x) :
  Calls Tryz.prog 34 #[.pointer (some ⟨c,0,none⟩),.int .i64 x] w fun e w'=>e = .returned (.tuple #[]) ∧
   (
    ((∃s∈σ.lives,s.1=x)∨x=0)∧Cx w0 w' L c lp p dp pg lb mb n lv σ∧Keeps (Own w0 L) w w' ∨
    ((∀s∈σ.lives,s.1≠x)∧x≠0)∧Cx w0 w' L c lp p dp pg lb mb n lv {σ with B:=delB σ.B x,T:=(σ.T.1-(σ.B x).1,σ.T.2-(σ.B x).2)}∧Keeps (Own w0 L) w w'):=by
 have HF:=Hd (ch_find h.ch x)
 have H:=Hd h
 have hx':=Hd hx
 clear h hx
 go_enter Tryz.func34,Tryz.ntmps34
 go_wp2_with fail
 refine(HF.out).mono ?_
 rintro e w1 ⟨hr,hb⟩
 have HK1:Hid (Keeps (Own w0 L) w w1):=Keeps.of_below _ hb
 have HX1:=Hd (H.out.later hb)
 clear hb HF H
 rcases hr with⟨i,s,e1,e2,e3,rfl⟩ | ⟨e1,rfl⟩
 ·have hfin:Hid (∃s∈σ.lives,s.1=x):=⟨s,List.mem_of_getElem? e1,e2⟩
  have hi0:¬(i:Int)<0:=by omega
  have hd:decide ((i:Int)<0)=false:=decide_eq_false hi0
  clear e1 e2 e3
  go_wp2_with fail
  exact bodyPost_end (results_none Tryz.results34 _ _ _) rfl ⟨rfl,.inl ⟨.inl hfin.out,HX1.out,HK1.out⟩⟩
 ·have hfin:=Hd e1
  clear e1
  by_cases h0:x=0
  ·have hd:(x==0)=true:=by simpa using h0
   have hd2:(x != 0)=false:=by simpa using h0
   replace h0:=Hd h0
   go_wp2_with fail
   exact bodyPost_end (results_none Tryz.results34 _ _ _) rfl ⟨rfl,.inl ⟨.inr h0.out,HX1.out,HK1.out⟩⟩
  ·have hd:(x==0)=false:=by simpa using h0
   have hd2:(x != 0)=true:=by simpa using h0
   replace h0:=Hd h0
   have C2:w1.cell? ⟨c,2,none⟩=some (.pointer (some ⟨lb,0,none⟩)):=cell_at HX1.out.ch.cell 2
   have HD:=Hd (lg_drop HX1.out.ch.lg x hx'.out)
   go_wp2_with fail
   refine(HD.out).mono ?_
   rintro e w2 ⟨rfl,hl,hk⟩
   have HX2:=Hd (HX1.out.book hl hk ⟨by have:=HX1.out.most.1;show _-_≤_;omega,by have:=HX1.out.most.2;show _-_≤_;omega⟩ HX1.out.cn)
   have HK2:Hid (Keeps (Own w0 L) w w2):=HK1.out.trans hk (fun k _ e=>⟨by subst e;exact(HX1.out.hi _ (by simp[chL])).1,fun h'=>(HX1.out.hi k (by subst e;simp[chL])).2 h'⟩)
   clear hl hk HD C2 HX1
   go_wp2_with fail
   exact bodyPost_end (results_none Tryz.results34 _ _ _) rfl ⟨rfl,.inr ⟨⟨hfin.out,h0.out⟩,HX2.out,HK2.out⟩⟩
end
end Go.Proofs.YtimomjheanfbmaaGreatDoor.G
namespace Go.Proofs.YtimomjheanfbmaaGreatDoor.G
open Go.RowKit
theorem Gx.turn {w0 w w':World} {L:List Nat} {p lp dp bb:Nat} {P:ByteArray} {rs:List ByteArray} {M:Nat→Pg×Int} {N:Nat} {R:Nat→Prop} (h:Gx w0 w L p lp dp bb P rs M N) (hk:Keeps R w w') (hR:∀k,R k→k∈L∧w0.heap.size≤k) (L':List Nat) (hl:∀k∈L',k<w'.heap.size) (hn:∀k∈L',k∈L∨w.heap.size≤k):Gx w0 w' L' p lp dp bb P rs M N :=
 let ⟨i0,X,sv,S,Sl,Sd,D,h1⟩:=h
 ⟨i0,X,sv,S,Sl,Sd,D,(h1.keep3 hk hR).relist L' hl (fun k hk=>(hn k hk).imp (fun h=>h) (fun h=>⟨fun h'=>by have:=h1.pw.pool.lt k h';omega,fun h'=>by have:=h1.pw.ws.log.lt k h';omega,fun h'=>by have:=h1.pw.ws.dsk.lt k h';omega⟩))⟩
section
variable {w0 w w':World} {L:List Nat} {c lp p dp pg lb mb n:Nat} {lv:Value} {σ:CS}
theorem Cx.setFresh (h:Cx w0 w L c lp p dp pg lb mb n lv σ) (f:Int):Cx w0 (w.setCell ⟨c,4,none⟩ (.int .i64 f)) L c lp p dp pg lb mb n lv {σ with fresh:=f}:=by
 have hk:Keeps (· = c) w (w.setCell ⟨c,4,none⟩ (.int .i64 f)):=(Keeps.refl _ _).setCell _ _ (.inl rfl)
 obtain⟨d1,d2⟩:c≠lb∧c≠mb:=by
  have:=h.ch.nd
  simp only[List.nodup_cons,List.mem_cons,not_or]at this
  exact⟨this.1.1,this.1.2.1⟩
 have d3:c∉blk lv:=by
  have:=h.ch.nd
  simp only[List.nodup_cons,List.mem_cons,not_or]at this
  exact this.1.2.2
 refine⟨⟨?_,h.ch.own.keep hk (fun q hq e=>d3 (e ▸ hq)),h.ch.lg.keep hk (fun e=>d1 e.symm) (fun e=>d2 e.symm),h.ch.len,h.ch.nd⟩,h.kx.keep3 hk (fun k e=>by subst e;exact⟨by simp[chL],(h.hi _ (by simp[chL])).1⟩),h.hi,h.most,h.ok,h.cn⟩
 exact(heap_set h.ch.cell 4 _).trans rfl
theorem Cx.setLives (h:Cx w0 w L c lp p dp pg lb mb n lv σ) {lv':Value} {l:List Lv} (ho:OwnS w' 61 3 lv' l.length (lvV l)) (hk:Keeps (· ∈ blk lv) w w') (hb:∀k∈blk lv',k∈blk lv∨w.heap.size≤k) (hl:l.length≤8):Cx w0 (w'.setCell ⟨c,3,none⟩ lv') L c lp p dp pg lb mb n lv' {σ with lives:=l}:=by
 have hnd:=h.ch.nd
 simp only[List.nodup_cons,List.mem_cons,not_or]at hnd
 obtain⟨⟨d1,d2,d3⟩,⟨d4,d5⟩,d6,d7⟩:=hnd
 have hlt:=h.ch.lt
 have hcl:c<w.heap.size:=hlt c (by simp[chL])
 have hlbl:lb<w.heap.size:=hlt lb (by simp[chL])
 have hmbl:mb<w.heap.size:=hlt mb (by simp[chL])
 have n1:c∉blk lv':=fun hq=>by rcases hb c hq with h2 | h2;exact d3 h2;omega
 have n2:lb∉blk lv':=fun hq=>by rcases hb lb hq with h2 | h2;exact d5 h2;omega
 have n3:mb∉blk lv':=fun hq=>by rcases hb mb hq with h2 | h2;exact d6 h2;omega
 have hk2:Keeps (fun q=>q∈blk lv∨q=c) w (w'.setCell ⟨c,3,none⟩ lv'):=(hk.mono (fun q _ hq => .inl hq)).setCell _ _ (.inl (.inr rfl))
 have hkc:Keeps (· = c) w' (w'.setCell ⟨c,3,none⟩ lv'):=(Keeps.refl _ _).setCell _ _ (.inl rfl)
 refine⟨⟨(heap_set (hk.keep h.ch.cell d3) 3 _).trans rfl,ho.keep hkc (fun q hq e=>n1 (e ▸ hq)),h.ch.lg.keep hk2 (fun e=>by rcases e with e | e;exact d5 e;exact d1 e.symm) (fun e=>by rcases e with e | e;exact d6 e;exact d2 e.symm),hl,?_⟩,?_,fun q hq=>?_,h.most,h.ok,h.cn⟩
 ·simp only[List.nodup_cons,List.mem_cons,not_or]
  refine⟨⟨d1,d2,n1⟩,⟨d4,n2⟩,n3,?_⟩
  unfold blk
  cases lv'.ownBlock <;> simp
 ·refine h.kx.turn hk2 (fun q e=>?_) _ (fun k hk'=>?_) (fun k hk'=>?_)
  ·rcases e with e | e
   · exact⟨by simp[chL,e],(h.hi q (by simp[chL,e])).1⟩
   · subst e;exact⟨by simp[chL],(h.hi _ (by simp[chL])).1⟩
  ·have hsz:w.heap.size≤(w'.setCell ⟨c,3,none⟩ lv').heap.size:=hk2.size
   simp only[chL,List.cons_append,List.mem_cons,List.mem_append]at hk'
   rcases hk' with rfl | rfl | rfl | hk' | hk'
   · omega
   · omega
   · omega
   ·have:=ho.lt hk'
    show k<(w'.heap.modify c _).size
    rw[Array.size_modify];exact this
   · have:=h.kx.loc k (List.mem_append_right _ hk');omega
  ·simp only[chL,List.cons_append,List.mem_cons,List.mem_append]at hk'
   rcases hk' with rfl | rfl | rfl | hk' | hk'
   · exact .inl (by simp[chL])
   · exact .inl (by simp[chL])
   · exact .inl (by simp[chL])
   ·rcases hb k hk' with h2 | h2
    · exact .inl (by simp[chL,h2])
    · exact .inr h2
   · exact .inl (by simp[chL,hk'])
 ·simp only[chL,List.mem_cons]at hq
  rcases hq with rfl | rfl | rfl | hq
  · exact h.hi _ (by simp[chL])
  · exact h.hi _ (by simp[chL])
  · exact h.hi _ (by simp[chL])
  ·rcases hb q hq with h2 | h2
   · exact h.hi q (by simp[chL,h2])
   · exact⟨Nat.le_trans h.bel.size h2,fun h3=>by have:=h.kx.loc q (List.mem_append_right _ h3);omega⟩
end
end Go.Proofs.YtimomjheanfbmaaGreatDoor.G
namespace Go.Proofs.YtimomjheanfbmaaGreatDoor.G
open Go.RowKit
def CS.begun (σ:CS):CS:={σ with lives:=σ.lives++[(σ.fresh,0,0)],fresh:=σ.fresh+1,B:=addB σ.B σ.fresh 128 0,T:=(σ.T.1+128,σ.T.2+0),cnt:=σ.cnt+1}
def Fits (a b:Nat) (T:Nat×Nat) (fa fb:Nat):Prop:=a+T.1≤fa∧b+T.2≤fb
def ChB (c lp p lb:Nat) (lv:Value) (fresh:Int) (w:World):Prop:=w.heap[c]? = some (.cells (chC lp p lb lv fresh) 124 (0,0))
theorem chb_cells {c lp p lb:Nat} {lv:Value} {fresh:Int} {w:World} (h:ChB c lp p lb lv fresh w):w.cell? ⟨c,0,none⟩=some (.pointer (some ⟨lp,0,none⟩))∧w.cell? ⟨c,2,none⟩=some (.pointer (some ⟨lb,0,none⟩))∧w.cell? ⟨c,3,none⟩=some lv∧w.cell? ⟨c,4,none⟩=some (.int .i64 fresh) :=
 ⟨(cell_at h 0).trans rfl,(cell_at h 2).trans rfl,(cell_at h 3).trans rfl,(cell_at h 4).trans rfl⟩
theorem lvL_cells (s:Lv):∀u∈lvL s,u.oneCell'=true:=fun u hu=>by
 simp only[lvL,List.mem_cons,List.not_mem_nil,or_false]at hu
 rcases hu with rfl | rfl | rfl <;> rfl
theorem Tryz.info_alvp:∃i,Tryz.prog.info? 61=some i∧i.zero=some (.agg #[.int .i64 0,.int .i64 0,.int .i64 0])∧i.size=3∧i.bytes=24:=info_parts Tryz.info_alv
section
variable {w0 w w':World} {L:List Nat} {c lp p dp pg lb mb n:Nat} {lv:Value} {σ:CS}
theorem Cx.owns (h:Cx w0 w L c lp p dp pg lb mb n lv σ) {q:Nat} (hq:q∈chL c lb mb lv):Own w0 L q:=h.hi q hq
set_option maxRecDepth 100000 in
set_option maxHeartbeats 1600000 in
theorem cx_begin (h:Cx w0 w L c lp p dp pg lb mb n lv σ) (hf:1≤σ.fresh∧σ.fresh≤2000000000) (hcnt:σ.cnt<100000000000) :
  Calls Tryz.prog 12 #[.pointer (some ⟨c,0,none⟩)] w fun e w'=>Keeps (Own w0 L) w w' ∧
   (
    (σ.lives.length=8∧e = .returned (.tuple #[.int .i64 0,.int .i64 192])∧Cx w0 w' L c lp p dp pg lb mb n lv σ) ∨
    (σ.lives.length<8∧¬Fits 128 0 σ.T (σ.free 0) 1073741824∧e = .returned (.tuple #[.int .i64 0,.int .i64 70])∧Cx w0 w' L c lp p dp pg lb mb n lv σ) ∨
    (σ.lives.length<8∧Fits 128 0 σ.T (σ.free 0) 1073741824∧e = .returned (.tuple #[.int .i64 σ.fresh,.int .i64 0])∧∃n' lv',Cx w0 w' L c lp p dp pg lb mb n' lv' σ.begun)):=by
 have H:=Hd h
 have hB0:ChB c lp p lb lv σ.fresh w:=h.ch.cell
 obtain⟨C0,C2,C3,C4⟩:=chb_cells hB0
 obtain⟨sa,sc,hlv⟩:=h.ch.own.form
 have hl8:=h.ch.len
 obtain⟨m,hm⟩:∃m,σ.lives.length=m:=⟨_,rfl⟩
 rw[hm]at hl8 ⊢
 obtain⟨fr,hfr⟩:∃f,σ.fresh=f:=⟨_,rfl⟩
 rw[hfr]at hf C4 ⊢
 rw[hlv,hm]at C3
 have hfw:IntKind.i64.wrap (fr+1)=fr+1:=by rw[IntKind.wrap_i64];omega
 have hfk:Hid (RngK fr):=⟨by omega,by omega⟩
 have HF:=Hd (fun w' (hx:Cx w0 w' L c lp p dp pg lb mb n lv σ)=>cx_free hx 0 (by omega))
 have hmT:=Hd h.most
 have hcn:=Hd (show n<1000000000000 by have:=h.cn;omega)
 have hcn2:=Hd h.cn
 have hfree:Hid (σ.free 0≤6912):=by show _≤_;unfold CS.free;omega
 have HM:=Hd hm
 have HFR:=Hd hfr
 clear h hB0 hf hcnt
 by_cases hm8:m=8
 ·have hd:((m:Int)==8)=true:=by simp[hm8]
  replace hm8:=Hd hm8
  go_enter Tryz.func12,Tryz.ntmps12
  go_wp2_with fail
  go_ret2
  exact⟨Keeps.refl _ _,.inl ⟨hm8.out,rfl,H.out⟩⟩
 have hd:((m:Int)==8)=false:=by simp;omega
 have hml:Hid (m<8):=by show m<8;omega
 clear hm8 hl8
 go_enter Tryz.func12,Tryz.ntmps12
 go_upto_region 5 with fail
 have hS0:ChB c lp p lb lv fr w.drew:=by have:=H.out.ch.cell;rw[hfr]at this;exact this
 have HD:=Hd (H.out.later (bD bR))
 have HKd:Hid (Keeps (Own w0 L) w w.drew):=(Keeps.refl _ _).drew
 refine wp_region_held_drew (S:=ChB c lp p lb lv fr) (by kernel_rfl) hS0 (fun hHeld=>?_)
 refine tk 0 (v:=?_) rfl (Or.inl ⟨by rfl,?_⟩) hHeld ?_
 rotate_left
 ·intro w' hSw
  obtain⟨s1,s2,s3,s4⟩:=chb_cells hSw
  go_simp
  try with_reducible rfl
  try omega
 go_frame
 refine tk 1 (v:=?_) rfl (Or.inl ⟨by rfl,?_⟩) hHeld ?_
 rotate_left
 ·intro w' hSw
  obtain⟨s1,s2,s3,s4⟩:=chb_cells hSw
  go_simp
  try with_reducible rfl
  try omega
 go_frame
 refine tk 2 (v:=?_) rfl (Or.inl ⟨by rfl,?_⟩) hHeld ?_
 rotate_left
 ·intro w' hSw
  obtain⟨s1,s2,s3,s4⟩:=chb_cells hSw
  go_simp
  try with_reducible rfl
  try omega
 go_frame
 refine tk 3 (v:=?_) rfl (Or.inl ⟨by rfl,?_⟩) hHeld ?_
 rotate_left
 ·intro w' hSw
  obtain⟨s1,s2,s3,s4⟩:=chb_cells hSw
  go_simp
  try with_reducible rfl
  try omega
 go_frame
 refine tk 4 (v:=?_) rfl (Or.inl ⟨by rfl,?_⟩) hHeld ?_
 rotate_left
 ·intro w' hSw
  obtain⟨s1,s2,s3,s4⟩:=chb_cells hSw
  go_simp
  try with_reducible rfl
  try omega
 go_frame
 refine tk 5 (v:=?_) rfl (Or.inl ⟨by rfl,?_⟩) hHeld ?_
 rotate_left
 ·intro w' hSw
  obtain⟨s1,s2,s3,s4⟩:=chb_cells hSw
  go_simp
  try with_reducible rfl
  try omega
 go_frame
 refine tk 6 (v:=?_) rfl (Or.inl ⟨by rfl,?_⟩) hHeld ?_
 rotate_left
 ·intro w' hSw
  obtain⟨s1,s2,s3,s4⟩:=chb_cells hSw
  go_simp
  try with_reducible rfl
  try omega
 go_frame
 refine tk 7 (v:=?_) rfl (Or.inl ⟨by rfl,?_⟩) hHeld ?_
 rotate_left
 ·intro w' hSw
  obtain⟨s1,s2,s3,s4⟩:=chb_cells hSw
  go_simp
  try with_reducible rfl
  try omega
 go_frame
 refine tk 8 (v:=?_) rfl (Or.inl ⟨by rfl,?_⟩) hHeld ?_
 rotate_left
 ·intro w' hSw
  obtain⟨s1,s2,s3,s4⟩:=chb_cells hSw
  go_simp
  try with_reducible rfl
  try omega
 go_frame
 refine rd 9 (fun K hK=>?_)
 go_simp
 go_at_call 54
 refine(HF.out _ HD.out).mono ?_
 rintro e w1 ⟨rfl,hb1⟩
 have HX1:=Hd (HD.out.later hb1)
 have HK1:Hid (Keeps (Own w0 L) w w1):=HKd.out.trans (Keeps.of_below (fun _=>False) hb1) (fun _ _ h=>h.elim)
 have hS1:Hid (ChB c lp p lb lv fr w1):=by have:=HX1.out.ch.cell;rw[HFR.out]at this;exact this
 clear hb1 HD HKd hS0 HF
 go_wp2_with fail
 refine hK.out _ _ hS1.out (fun hHeld=>?_)
 clear hK K
 try go_frame
 refine rd 10 (fun K hK=>?_)
 go_simp
 go_at_call 53
 have HT:=Hd (lg_take HX1.out.ch.lg hmT.out hcn.out fr hfk.out 128 0 (σ.free 0) 1073741824 ⟨by decide,by decide⟩ ⟨by have:=hfree.out;show _≤_;omega,by show 1073741824≤1099511627776;decide⟩)
 rw[flB_end,show flB 0=0 from rfl]at HT
 refine(HT.out).mono ?_
 rintro e w2 hres
 clear HT
 rcases hres with⟨hno,rfl,hl,hb2⟩ | ⟨hyes,rfl,hl,hk2⟩
 ·have HX2:=Hd (HX1.out.later hb2)
  have HK2:Hid (Keeps (Own w0 L) w w2):=HK1.out.trans (Keeps.of_below (fun _=>False) hb2) (fun _ _ h=>h.elim)
  have hS2:Hid (ChB c lp p lb lv fr w2):=by have:=HX2.out.ch.cell;rw[HFR.out]at this;exact this
  have hno2:Hid (¬Fits 128 0 σ.T (σ.free 0) 1073741824):=hno
  clear hb2 hl hno HX1 HK1 hS1
  go_wp2_with fail
  refine hK.out _ _ hS2.out (fun hHeld=>?_)
  clear hK K
  try go_frame
  refine tk 11 (v:=?_) rfl (Or.inl ⟨by rfl,?_⟩) hHeld ?_
  rotate_left
  ·intro w' hSw
   obtain⟨s1,s2,s3,s4⟩:=chb_cells hSw
   go_simp
   try with_reducible rfl
   try omega
  go_frame
  refine tk 12 (v:=?_) rfl (Or.inl ⟨by rfl,?_⟩) hHeld ?_
  rotate_left
  ·intro w' hSw
   obtain⟨s1,s2,s3,s4⟩:=chb_cells hSw
   go_simp
   try with_reducible rfl
   try omega
  go_frame
  refine tk 13 (v:=?_) rfl (Or.inl ⟨by rfl,?_⟩) hHeld ?_
  rotate_left
  ·intro w' hSw
   obtain⟨s1,s2,s3,s4⟩:=chb_cells hSw
   go_simp
   try with_reducible rfl
   try omega
  go_frame
  refine tk 14 (v:=?_) rfl (Or.inl ⟨by rfl,?_⟩) hHeld ?_
  rotate_left
  ·intro w' hSw
   obtain⟨s1,s2,s3,s4⟩:=chb_cells hSw
   go_simp
   try with_reducible rfl
   try omega
  go_frame
  refine tk 15 (v:=?_) rfl (Or.inl ⟨by rfl,?_⟩) hHeld ?_
  rotate_left
  ·intro w' hSw
   obtain⟨s1,s2,s3,s4⟩:=chb_cells hSw
   go_simp
   try with_reducible rfl
   try omega
  go_frame
  clear hHeld
  refine wpAnyH_done (by kernel_rfl) ?_ _
  go_wp2_with fail
  go_ret2
  exact⟨HK2.out,.inr (.inl ⟨hml.out,hno2.out,rfl,HX2.out⟩)⟩
 ·have hyes2:Hid (Fits 128 0 σ.T (σ.free 0) 1073741824):=hyes
  have HX2:=Hd (HX1.out.book (q:=σ.cnt+1) hl hk2 ⟨by have:=hyes.1;have:=hfree.out;show _+_≤_;omega,by have:=hyes.2;show _+_≤_;omega⟩ (by have:=hcn2.out;omega))
  have HK2:Hid (Keeps (Own w0 L) w w2):=HK1.out.trans hk2 (fun k _ e=>by subst e;exact HX1.out.owns (by simp[chL]))
  have hS2:Hid (ChB c lp p lb lv fr w2):=by have:=HX2.out.ch.cell;rw[HFR.out]at this;exact this
  clear hk2 hl hyes HX1 HK1 hS1
  go_wp2_with fail
  refine hK.out _ _ hS2.out (fun hHeld=>?_)
  clear hK K
  try go_frame
  refine tk 11 (v:=?_) rfl (Or.inl ⟨by rfl,?_⟩) hHeld ?_
  rotate_left
  ·intro w' hSw
   obtain⟨s1,s2,s3,s4⟩:=chb_cells hSw
   go_simp
   try with_reducible rfl
   try omega
  go_frame
  refine tk 12 (v:=?_) rfl (Or.inl ⟨by rfl,?_⟩) hHeld ?_
  rotate_left
  ·intro w' hSw
   obtain⟨s1,s2,s3,s4⟩:=chb_cells hSw
   go_simp
   try with_reducible rfl
   try omega
  go_frame
  refine tk 13 (v:=?_) rfl (Or.inl ⟨by rfl,?_⟩) hHeld ?_
  rotate_left
  ·intro w' hSw
   obtain⟨s1,s2,s3,s4⟩:=chb_cells hSw
   go_simp
   try with_reducible rfl
   try omega
  go_frame
  refine tk 14 (v:=?_) rfl (Or.inl ⟨by rfl,?_⟩) hHeld ?_
  rotate_left
  ·intro w' hSw
   obtain⟨s1,s2,s3,s4⟩:=chb_cells hSw
   go_simp
   try with_reducible rfl
   try omega
  go_frame
  refine tk 15 (v:=?_) rfl (Or.inl ⟨by rfl,?_⟩) hHeld ?_
  rotate_left
  ·intro w' hSw
   obtain⟨s1,s2,s3,s4⟩:=chb_cells hSw
   go_simp
   try with_reducible rfl
   try omega
  go_frame
  clear hHeld
  refine wpAnyH_done (by kernel_rfl) ?_ _
  obtain⟨D0,D2,D3,D4⟩:=chb_cells hS2.out
  have F4:=free_at hS2.out 4
  rw[hlv,hm]at D3
  clear C0 C2 C3 C4
  go_upto_region 10 with fail
  refine name_world (fun W=>Cx w0 W L c lp p dp pg lb mb (n+1) lv {{σ with B:=addB σ.B fr 128 0,T:=(σ.T.1+128,σ.T.2+0),cnt:=σ.cnt+1} with fresh:=fr+1}∧Keeps (Own w0 L) w W) ⟨HX2.out.setFresh _,HK2.out.setCell _ _ (.inl (HX2.out.owns (by simp[chL])))⟩ ?_
  rintro W3 ⟨hx3,hk3⟩
  obtain⟨ji,hj,hy0,hy1,hy2⟩:=Tryz.info_alvp
  have HX3:=Hd hx3
  have HK3:=Hd hk3
  have E3:W3.cell? ⟨c,3,none⟩=some (.slice sa m sc):=by have:=(chb_cells hx3.ch.cell).2.2.1;rw[hlv,hm]at this;exact this
  have hown:=hx3.ch.own
  have HOn:Hid (∀o,OwnS (W3.alloc o) 61 3 (.slice sa m sc) m (lvV σ.lives)):=fun o=>by
   have:=hown.keep (w:=W3) ((Keeps.refl (fun _=>False) W3).alloc o) (fun _ _ h=>h)
   show OwnS _ _ _ _ _ _
   have e1:({{σ with B:=addB σ.B fr 128 0,T:=(σ.T.1+128,σ.T.2+0),cnt:=σ.cnt+1} with fresh:=fr+1}:CS).lives.length=m:=HM.out
   rw[e1,hlv,hm]at this
   exact this
  have hml8:=hml.out
  have hpb:Hid (c∉blk (.slice sa m sc)):=by
   have:=hx3.ch.nd
   simp only[List.nodup_cons,List.mem_cons,not_or]at this
   rw[hlv,hm]at this
   exact this.1.2.2
  have hlen:Hid ((σ.lives++[(fr,0,0)]).length=m+1):=by show _=_;rw[List.length_append,List.length_singleton,HM.out]
  clear hx3 hk3 hown D0 D2 D3 D4 F4 HX2 HK2 hS2
  go_wp2_with ((at_builtin;go_must (refine wpList_append_frame _ rfl _ _ 58 rfl 61 ji _ 3 24 Tryz.underlying58 hj hy0 hy1 hy2 rfl (by decide) _ _ _ rfl (HOn.out _) ⟨W3.heap.size,0,none⟩ 1 1 (lvL (fr,0,0)) rfl rfl (cells_newR _ _ _ rfl) (lvL_cells _) (by unfold maxLen;omega) (by omega) ?_));rintro v4 w4 ho4 hk4 hb4 hn4;(obtain⟨g4,c4',rfl⟩:=ho4.has (by omega));(have HK4:Hid (Keeps (· ∈ blk (.slice sa m sc)) W3 w4):=((Keeps.refl _ _).alloc _).trans hk4 (fun _ _ h=>h));(have HC4:=HK4.out.keep HX3.out.ch.cell hpb.out);(have C4:=cell_at HC4 3);(have F4:=free_at HC4 3);(have HO4:=Hd ho4);(have HB4:Hid (∀k∈blk (.slice (some ⟨g4,0,none⟩) (m+1) c4'),k∈blk (.slice sa m sc)∨W3.heap.size≤k):=fun k hk=>(hb4 k hk).imp (fun h=>h) (fun h=>Nat.le_trans (by simp) h));clear ho4 hk4 hb4 hn4 HC4)
  go_ret2
  refine⟨?_,.inr (.inr ⟨hml.out,hyes2.out,rfl,n+1,.slice (some ⟨g4,0,none⟩) (m+1) c4',?_⟩)⟩
  · exact(HK3.out.trans HK4.out (fun k _ h=>HX3.out.owns (by rw[hlv,hm];simp[chL,h]))).setCell _ _ (.inl (HX3.out.owns (by simp[chL])))
  ·have e1:σ.begun={{{σ with B:=addB σ.B fr 128 0,T:=(σ.T.1+128,σ.T.2+0),cnt:=σ.cnt+1} with fresh:=fr+1} with lives:=σ.lives++[(fr,0,0)]}:=by unfold CS.begun;rw[HFR.out]
   rw[e1]
   have hk4:=HK4.out
   have hb4:=HB4.out
   have hx3:=HX3.out
   have ho4:=HO4.out
   rw[←hm]at hk4 hb4
   rw[←hlv]at hk4 hb4
   refine hx3.setLives (l:=σ.lives++[(fr,0,0)]) ?_ hk4 ?_ (by rw[hlen.out];have:=hml.out;omega)
   ·
     rw[hlen.out]
     have e2:lvV (σ.lives++[(fr,0,0)])=lvV σ.lives++lvL (fr,0,0):=append_flat lvL _ _
     rw[e2];exact ho4
   · rw[←hm];exact hb4
end
end Go.Proofs.YtimomjheanfbmaaGreatDoor.G
