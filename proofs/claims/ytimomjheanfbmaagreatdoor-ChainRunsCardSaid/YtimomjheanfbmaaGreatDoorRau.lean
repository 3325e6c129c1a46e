import Derived.Test.YtimomjheanfbmaaGreatDoorQaa
import Derived.Test.YtimomjheanfbmaaGreatDoorRat
import Derived.Test.YtimomjheanfbmaaGreatDoorRab
import Derived.Deep.RegionLawGrows
import Derived.Great.BuildSlice
set_option linter.unusedSimpArgs false
set_option linter.unusedVariables false
namespace Go.Proofs.YtimomjheanfbmaaGreatDoor.G
open Go.RowKit
theorem cx_flush {w0 w:World} {L:List Nat} {c lp p dp pg lb mb n:Nat} {lv:Value} {σ:CS} (h:Cx w0 w L c lp p dp pg lb mb n lv σ) (at_:Int) :
  Calls Tryz.prog 122 #[.pointer (some ⟨lp,0,none⟩),.int .i64 at_] w fun e w'=>e = .returned (.int .i64 0)∧Cx w0 w' L c lp p dp pg lb mb n lv σ∧Keeps (Own w0 (chL c lb mb lv++L)) w w' :=
 (gx_lflush h.kx at_).mono fun e w' ⟨he,hx,hk,_⟩=>⟨he,⟨h.ch.keep hk (fun q hq=>own_ch hq),hx,h.hi,h.most,h.ok,h.cn⟩,hk⟩
section
variable {w0 w w':World} {L:List Nat} {c lp p dp pg lb mb n:Nat} {lv:Value} {σ:CS}
set_option maxRecDepth 100000 in
set_option maxHeartbeats 1600000 in
theorem cx_end3 (h:Cx w0 w L c lp p dp pg lb mb n lv σ) (x:Int) (hx:1≤x∧x≤2147483647) (i:Nat) (s:Lv) (hi:σ.lives[i]? = some s∧s.1=x∧(∀j s',j<i→σ.lives[j]? = some s'→s'.1≠x)) (hl:0≤s.2.2∧s.2.2≤100000000000) :
  Calls Tryz.prog 88 #[.pointer (some ⟨c,0,none⟩),.int .i64 x,.int .i64 3] w fun e w'=>Keeps (Own w0 L) w w'∧((EndFits σ s∧e = .returned (.int .i64 0)∧∃lv',Cx w0 w' L c lp p dp pg lb mb n lv' ((σ.last 3 x s).ended i))∨(¬EndFits σ s∧e = .returned (.int .i64 70))):=by
 have H:=Hd h
 have HFi:=Hd (ch_find h.ch x)
 have hil:i<σ.lives.length:=(List.getElem?_eq_some_iff.1 hi.1).1
 obtain⟨sa,sc,hlv⟩:=h.ch.own.form
 subst hlv
 obtain⟨g,rfl⟩:=h.ch.own.spot (by omega)
 have hfin:=Hd hi
 have hxk:=Hd hx
 have hlN:=Hd hl
 clear h hi hx hl
 go_enter Tryz.func88,Tryz.ntmps88
 go_wp2_with fail
 refine(HFi.out).mono ?_
 rintro e w1 ⟨hr,hb1⟩
 obtain rfl:e = .returned (.int .i64 i):=by
  rcases hr with⟨j,s',e1,e2,e3,he⟩ | ⟨e1,_⟩
  ·have:j=i:=by
    rcases Nat.lt_trichotomy j i with h | h | h
    · exact absurd e2 (hfin.out.2.2 j s' h e1)
    · exact h
    · exact absurd hfin.out.2.1 (e3 i s h hfin.out.1)
   subst this;exact he
  · exact absurd hfin.out.2.1 (e1 s (List.mem_of_getElem? hfin.out.1))
 have HX1:=Hd (H.out.later hb1)
 have HK1:Hid (Keeps (Own w0 L) w w1):=Keeps.of_below _ hb1
 have hown:=HX1.out.ch.own
 have C3:w1.cell? ⟨c,3,none⟩=some (.slice (some ⟨g,0,none⟩) σ.lives.length sc):=cell_at HX1.out.ch.cell 3
 have hl1:=lv_range hown i s hfin.out.1 1 _ rfl
 have hl2:=lv_range hown i s hfin.out.1 2 _ rfl
 have hi0:¬(i:Int)<0:=by omega
 have hd0:decide ((i:Int)<0)=false:=decide_eq_false hi0
 have hi1:(i:Int)<σ.lives.length:=by omega
 have hn8:=HX1.out.ch.len
 have hiw:IntKind.i64.wrap ((i:Int)+1)=(i:Int)+1:=by rw[IntKind.wrap_i64];omega
 have hilN:=Hd hil
 obtain⟨m,hm⟩:∃m,σ.lives.length=m:=⟨_,rfl⟩
 rw[hm]at C3 hi1 hn8 hilN
 have hmN:=Hd hm
 have hn8N:=Hd hn8
 clear hr hb1 HFi hil hown hm hn8
 have hcut:Hid (∀(w4:World) (σ2:CS),Cx w0 w4 L c lp p dp pg lb mb n (.slice (some ⟨g,0,none⟩) σ.lives.length sc) σ2→σ2.lives=σ.lives→Calls Tryz.prog 130 #[.slice (some ⟨g,0,none⟩) m sc,.int .i64 i,.int .i64 ((i:Int)+1)] w4 fun e w'=>e = .returned (.slice (some ⟨g,0,none⟩) (m-1) sc)∧Keeps (Own w0 L) w4 w'∧w'.heap[c]? = some (.cells (chC lp p lb (.slice (some ⟨g,0,none⟩) σ.lives.length sc) σ2.fresh) 124 (0,0))∧Cx w0 (w'.setCell ⟨c,3,none⟩ (.slice (some ⟨g,0,none⟩) (m-1) sc)) L c lp p dp pg lb mb n (.slice (some ⟨g,0,none⟩) (m-1) sc) (σ2.ended i)):=fun w4 σ2 hx4 hlv2=>by
  have ho4:OwnS w4 61 3 (.slice (some ⟨g,0,none⟩) m sc) m (lvV σ.lives):=by
   have:=hx4.ch.own
   rw[hlv2]at this
   rw[←hmN.out]
   exact this
  refine(ch_delete ho4 hmN.out hilN.out hn8N.out).mono fun e w' ⟨he,ho,hk⟩=>?_
  have hgb:g∈blk (.slice (some ⟨g,0,none⟩) σ.lives.length sc):=by simp[blk,Value.ownBlock]
  have hgc:c≠g:=by
   have:=hx4.ch.nd
   simp only[List.nodup_cons,List.mem_cons,not_or]at this
   exact fun e=>this.1.2.2 (e ▸ hgb)
  refine⟨he,hk.mono (fun k _ e=>by subst e;exact hx4.owns (by simp[chL,hgb])),hk.keep hx4.ch.cell hgc,?_⟩
  refine hx4.setLives (l:=σ2.lives.eraseIdx i) ?_ (hk.mono (fun k _ e=>by subst e;exact hgb)) (fun k hk' => .inl (by simp[blk,Value.ownBlock]at hk' ⊢;exact hk')) ?_
  ·rw[hlv2,List.length_eraseIdx_of_lt (by rw[hmN.out];exact hilN.out),hmN.out]
   exact ho
  ·rw[hlv2,List.length_eraseIdx_of_lt (by rw[hmN.out];exact hilN.out),hmN.out]
   have:=hn8N.out;omega
 by_cases hfst:s.2.1=0
 ·have hdf:(s.2.1==0)=true:=by simpa using hfst
  have hdf2:(s.2.1 != 0)=false:=by simpa using hfst
  have hla:Hid (σ.last 3 x s=σ):=by show _=_;unfold CS.last;rw[if_pos hfst]
  replace hfst:=Hd hfst
  have HD:=Hd (hcut.out w1 σ HX1.out rfl)
  go_wp2_with fail
  refine(HD.out).mono ?_
  rintro e w2 ⟨rfl,hk2,hc2,hx2⟩
  have HX2:=Hd hx2
  have HK2:=Hd (HK1.out.trans hk2 (fun _ _ h=>h))
  have D3:=cell_at hc2 3
  have F3:=free_at hc2 3
  have hoc:Hid (Own w0 L c):=HX1.out.owns (by simp[chL])
  clear hx2 hk2 hc2 HD hcut HX1 HK1 hl1 hl2 C3
  go_wp2_with fail
  go_ret
  exact⟨HK2.out.setCell _ _ (.inl hoc.out),.inl ⟨.inl hfst.out,rfl,_,by rw[hla.out];exact HX2.out⟩⟩
 ·have hdf:(s.2.1==0)=false:=by simpa using hfst
  have hdf2:(s.2.1 != 0)=true:=by simpa using hfst
  have hla:Hid (σ.last 3 x s={σ with recs:=σ.recs++[finR 3 x s.2.2]}):=by show _=_;unfold CS.last;rw[if_neg hfst]
  have hoke:Hid (RcOk (finR 3 x s.2.2)):=end_ok (.inl rfl) ⟨by have:=hxk.out.1;omega,hxk.out.2⟩ hlN.out
  replace hfst:=Hd hfst
  have HW:=Hd (cx_write HX1.out (finR 3 x s.2.2) hoke.out (by show 0≤1;omega) (fun y hy=>by cases hy) nilS nilS (fun w' hk=>⟨⟨none,0,rfl,Nat.zero_le _,fun h=>absurd rfl h⟩,nil_sl w',by show 0≤maxLen;omega,by show 0≤maxLen;omega,fun y hy=>by cases hy⟩))
  go_wp2_with fail
  refine(HW.out).mono ?_
  rintro e w2 ⟨hres,hk2⟩
  have hsz:=end_size hoke.out
  have HK2:Hid (Keeps (Own w0 L) w w2):=HK1.out.trans hk2 (fun k _ h=>⟨h.1,fun h'=>h.2 (by simp[h'])⟩)
  rcases hres with⟨hf,rfl,hx2⟩ | ⟨hf,rfl,hx2⟩
  ·have hno:Hid (¬EndFits σ s):=fun h=>by
    have h1:6912<σ.used+(2+(rcS (finR 3 x s.2.2)).size):=hf
    rcases h with h | h
    · exact hfst.out h
    · omega
   clear hf hx2 hk2 HW hsz C3 hl1 hl2 HX1 HK1 hcut
   go_wp2_with fail
   go_ret
   exact⟨HK2.out,.inr ⟨hno.out,rfl⟩⟩
  have hT39:Hid (σ.used+39≤6912):=by
   have h1:¬6912<σ.used+(2+(rcS (finR 3 x s.2.2)).size):=hf
   show _≤_
   omega
  clear hf
  have HX2:Hid (Cx w0 w2 L c lp p dp pg lb mb n (.slice (some ⟨g,0,none⟩) σ.lives.length sc) {σ with recs:=σ.recs++[finR 3 x s.2.2]}):=hx2
  obtain⟨fin,hfn⟩:∃f:Int,(σ.fin:Int)=f:=⟨_,rfl⟩
  rw[hfn]
  have HFl:=Hd (cx_flush HX2.out fin)
  have E0:w2.cell? ⟨c,0,none⟩=some (.pointer (some ⟨lp,0,none⟩)):=cell_at HX2.out.ch.cell 0
  clear hx2 hk2 HW hsz C3 hl1 hl2 HX1 HK1 hfn
  go_wp2_with fail
  refine(HFl.out).mono ?_
  rintro e wf ⟨rfl,hxf,hkf⟩
  have HXf:=Hd hxf
  have HKf:Hid (Keeps (Own w0 L) w wf):=HK2.out.trans hkf (fun k _ h=>⟨h.1,fun h'=>h.2 (List.mem_append_right _ h')⟩)
  have HD:=Hd (hcut.out wf _ HXf.out rfl)
  have E3:wf.cell? ⟨c,3,none⟩=some (.slice (some ⟨g,0,none⟩) m sc):=by have:=(chb_cells HXf.out.ch.cell).2.2.1;rw[hmN.out]at this;exact this
  clear hxf hkf HFl hcut HX2 HK2 E0
  go_wp2_with fail
  refine(HD.out).mono ?_
  rintro e w3 ⟨rfl,hk3,hc3,hx3⟩
  have HX3:=Hd hx3
  have HK3:=Hd (HKf.out.trans hk3 (fun _ _ h=>h))
  have D3:=cell_at hc3 3
  have F3:=free_at hc3 3
  have hoc:Hid (Own w0 L c):=HXf.out.owns (by simp[chL])
  clear hx3 hk3 hc3 HD HXf HKf E3
  go_wp2_with fail
  go_ret
  exact⟨HK3.out.setCell _ _ (.inl hoc.out),.inl ⟨.inr hT39.out,rfl,_,by rw[hla.out];exact HX3.out⟩⟩
set_option maxRecDepth 100000 in
theorem cx_commit (h:Cx w0 w L c lp p dp pg lb mb n lv σ) (x:Int) (hx:1≤x∧x≤2147483647) (i:Nat) (s:Lv) (hi:σ.lives[i]? = some s∧s.1=x∧(∀j s',j<i→σ.lives[j]? = some s'→s'.1≠x)) (hl:0≤s.2.2∧s.2.2≤100000000000) :
  Calls Tryz.prog 35 #[.pointer (some ⟨c,0,none⟩),.int .i64 x] w fun e w'=>Keeps (Own w0 L) w w'∧((EndFits σ s∧e = .returned (.int .i64 0)∧∃lv',Cx w0 w' L c lp p dp pg lb mb n lv' ((σ.last 3 x s).ended i))∨(¬EndFits σ s∧e = .returned (.int .i64 70))):=by
 have HE:=Hd (cx_end3 h x hx i s hi hl)
 clear h hx hi hl
 go_enter Tryz.func35,Tryz.ntmps35
 go_wp2_with fail
 refine(HE.out).mono ?_
 rintro e w2 ⟨hk,hres⟩
 have HF:=Hd hk
 rcases hres with⟨h1,rfl,h2⟩ | ⟨h1,rfl⟩
 ·have H1:=Hd h1
  have H2:=Hd h2
  clear hk HE h1 h2
  go_wp2_with fail
  go_ret
  exact⟨HF.out,.inl ⟨H1.out,rfl,H2.out⟩⟩
 ·have H1:=Hd h1
  clear hk HE h1
  go_wp2_with fail
  go_ret
  exact⟨HF.out,.inr ⟨H1.out,rfl⟩⟩
end
end Go.Proofs.YtimomjheanfbmaaGreatDoor.G
namespace Go.Proofs.YtimomjheanfbmaaGreatDoor.G
open Go.RowKit
def OwnO (w:World) (e:TypeId) (size:Nat) (v:Value) (n:Nat) (xs:List Value):Prop :=
 xs.length=n*size∧((v = .slice none 0 0∧n=0)∨∃g off cap cur,v = .slice (some ⟨g,off,none⟩) n cap∧w.heap[g]? = some (.cells cur e (0,0))∧n≤cap∧cap≤maxLen∧off+cap*size≤cur.size∧∀j u,xs[j]? = some u→cur[off+j]? = some u)
theorem OwnO.of {w:World} {e:TypeId} {size:Nat} {v:Value} {n:Nat} {xs:List Value} (h:OwnS w e size v n xs):OwnO w e size v n xs:=by
 refine⟨h.1,?_⟩
 rcases h.2 with h2 | ⟨g,cap,cur,rfl,-,hg,hnc,hcm,hcs,ht⟩
 · exact .inl h2
 ·refine .inr ⟨g,0,cap,cur,rfl,hg,hnc,hcm,by omega,fun j u hu=>?_⟩
  rw[←ht,List.getElem?_take]at hu
  split at hu
  · rw[Nat.zero_add];simpa using hu
  · cases hu
theorem OwnO.lt {w:World} {e:TypeId} {size:Nat} {v:Value} {n:Nat} {xs:List Value} (h:OwnO w e size v n xs) {k:Nat} (hk:k∈blk v):k<w.heap.size:=by
 rcases h.2 with⟨rfl,-⟩ | ⟨g,off,cap,cur,rfl,hg,-⟩
 · simp[blk,Value.ownBlock]at hk
 ·have:k=g:=by simpa[blk,Value.ownBlock,eq_comm]using hk
  subst this
  exact block_lt hg
theorem OwnO.keep {S:Nat→Prop} {w w':World} {e:TypeId} {size:Nat} {v:Value} {n:Nat} {xs:List Value} (h:OwnO w e size v n xs) (hk:Keeps S w w') (hS:∀k∈blk v,¬S k):OwnO w' e size v n xs:=by
 refine⟨h.1,?_⟩
 rcases h.2 with h2 | ⟨g,off,cap,cur,rfl,hg,r⟩
 · exact .inl h2
 · exact .inr ⟨g,off,cap,cur,rfl,hk.keep hg (hS g (by simp[blk,Value.ownBlock])),r⟩
theorem OwnO.form {w:World} {e:TypeId} {size:Nat} {v:Value} {n:Nat} {xs:List Value} (h:OwnO w e size v n xs):∃a c,v = .slice a n c:=by
 rcases h.2 with⟨rfl,rfl⟩ | ⟨g,off,cap,cur,rfl,-⟩
 · exact⟨_,_,rfl⟩
 · exact⟨_,_,rfl⟩
theorem OwnO.spot {w:World} {e:TypeId} {size:Nat} {a:Option Addr} {n c:Nat} {xs:List Value} (h:OwnO w e size (.slice a n c) n xs) (hn:0<n):∃g off,a=some ⟨g,off,none⟩:=by
 rcases h.2 with⟨-,h2⟩ | ⟨g,off,cap,cur,e,-⟩
 · omega
 ·simp only[Value.slice.injEq]at e
  exact⟨g,off,e.1⟩
theorem OwnO.cells {w:World} {e:TypeId} {size:Nat} {g off n c:Nat} {xs:List Value} (h:OwnO w e size (.slice (some ⟨g,off,none⟩) n c) n xs):w.rangeAt g off xs:=fun j u hu=>by
 rcases h.2 with⟨h2,-⟩ | ⟨g',off',cap,cur,e,hg,-,-,-,hc⟩
 · simp at h2
 ·simp only[Value.slice.injEq,Option.some.injEq,Addr.mk.injEq,and_true,true_and]at e
  obtain⟨⟨rfl,rfl⟩,rfl⟩:=e
  rw[cell_at hg]
  exact hc j u hu
theorem OwnO.cap {w:World} {e:TypeId} {size:Nat} {a:Option Addr} {n c:Nat} {xs:List Value} (h:OwnO w e size (.slice a n c) n xs):n≤c∧c≤maxLen:=by
 rcases h.2 with⟨h2,h3⟩ | ⟨g',off',cap,cur,e,hg,h3,h4,-⟩
 ·simp only[Value.slice.injEq]at h2
  exact⟨by omega,by unfold maxLen;omega⟩
 ·simp only[Value.slice.injEq]at e
  obtain⟨-,-,rfl⟩:=e
  exact⟨h3,h4⟩
theorem OwnO.tail {w:World} {e:TypeId} {size:Nat} {g off n c:Nat} {x xs:List Value} (h:OwnO w e size (.slice (some ⟨g,off,none⟩) (n+1) c) (n+1) (x++xs)) (hx:x.length=size):OwnO w e size (.slice (some ⟨g,off+size,none⟩) n (c-1)) n xs:=by
 have hl:=h.1
 rw[List.length_append,hx,Nat.succ_mul]at hl
 refine⟨by omega,?_⟩
 rcases h.2 with⟨h2,-⟩ | ⟨g',off',cap,cur,e,hg,h3,h4,h5,hc⟩
 · simp at h2
 ·simp only[Value.slice.injEq,Option.some.injEq,Addr.mk.injEq,and_true,true_and]at e
  obtain⟨⟨rfl,rfl⟩,rfl⟩:=e
  refine .inr ⟨g,off+size,c-1,cur,rfl,hg,by omega,by omega,?_,fun j u hu=>?_⟩
  ·obtain⟨c',rfl⟩:∃c',c=c'+1:=⟨c-1,by omega⟩
   rw[Nat.succ_mul]at h5
   rw[Nat.add_sub_cancel];omega
  ·rw[show off+size+j=off+(size+j) by omega]
   refine hc (size+j) u ?_
   rw[List.getElem?_append_right (by omega),hx,Nat.add_sub_cancel_left];exact hu
def setA (cur:Array Value):Nat→List Value→Array Value
 | _,[]=>cur
 | o,v::r=>setA (cur.setIfInBounds o v) (o+1) r
theorem setA_size:∀(l:List Value) (cur:Array Value) (o:Nat),(setA cur o l).size=cur.size
 | [],_,_=>rfl
 | v::r,cur,o=>by show (setA _ _ r).size=_;rw[setA_size r,Array.size_setIfInBounds]
theorem setA_out:∀(l:List Value) (cur:Array Value) (o j:Nat),j<o∨o+l.length≤j→(setA cur o l)[j]? = cur[j]?
 | [],_,_,_,_=>rfl
 | v::r,cur,o,j,h=>by
  rw[List.length_cons]at h
  show (setA _ _ r)[j]? = _
  rw[setA_out r _ _ j (by omega),Array.getElem?_setIfInBounds_ne (by omega)]
theorem setA_in:∀(l:List Value) (cur:Array Value) (o j:Nat) (u:Value),o+l.length≤cur.size→l[j]? = some u→(setA cur o l)[o+j]? = some u
 | [],_,_,_,_,_,h=>by simp at h
 | v::r,cur,o,j,u,hs,h=>by
  rw[List.length_cons]at hs
  show (setA _ _ r)[o+j]? = _
  cases j with
  | zero =>
   simp only[List.getElem?_cons_zero,Option.some.injEq]at h
   subst h
   rw[setA_out r _ _ _ (by omega),Nat.add_zero,Array.getElem?_setIfInBounds_self_of_lt (by omega)]
  | succ j =>
   rw[show o+(j+1)=o+1+j by omega]
   exact setA_in r _ _ j u (by rw[Array.size_setIfInBounds];omega) (by simpa using h)
theorem heap_setCells {g:Nat} {e:TypeId}:∀(l:List Value) (o:Nat) (w:World) (cur:Array Value),w.heap[g]? = some (.cells cur e (0,0))→(w.setCells g o l).heap[g]? = some (.cells (setA cur o l) e (0,0))
 | [],_,_,_,h=>h
 | v::r,o,w,cur,h=>heap_setCells r (o+1) _ _ (heap_set h o v)
theorem step_append_frameO {P:Program} {w:World} {ops:Array Oper} {o:Oper} {a:Act} {K:Act→World→Prop} {Q:Exit→Act→World→Prop} {E:Prop} (hgd:o.guard=none) (s x:Operand) (t:TypeId)
  (ho:o.op = .call {callee := .builtin .append,args := #[s,x],argTypes := #[t,t]})
  (e:TypeId) (i:TypeInfo) (z:Value) (size bytes:Nat) (ht:P.underlying t=some (.slice e)) (hi:P.info? e=some i) (hz:i.zero=some z)
  (hsize:i.size=size) (hby:i.bytes=bytes) (hzs:z.cells.size=size) (hsz:0<size)
  (v:Value) (n:Nat) (xs:List Value) (hs:a.eval s=v) (hown:OwnO w e size v n xs)
  (ad:Addr) (m c:Nat) (news:List Value) (hx:a.eval x = .slice (some ad) m c) (hl:news.length=m*size) (hnews:∀j u,news[j]? = some u→w.cell? (ad.add j)=some u) (h1:∀u∈news,u.oneCell'=true)
  (h63:n+m≤maxLen) (hbytes:(n+m)*bytes≤140737488355328) (hpos:0<n+m)
  (h:∀g off cap w',OwnO w' e size (.slice (some ⟨g,off,none⟩) (n+m) cap) (n+m) (xs++news)→Keeps (· ∈ blk v) w w'→(∀k∈blk (.slice (some ⟨g,off,none⟩) (n+m) cap),k∈blk v∨w.heap.size≤k)→K (a.put o.dst (.slice (some ⟨g,off,none⟩) (n+m) cap)) w') :
  if Region.wanted o (yielded ops a.tmps)=true then Oper.wp P o a w K Q else E:=by
 have hxl:=hown.1
 have grow:∀(ao:Option Addr) (cap:Nat),a.eval s = .slice ao n cap→(ao=none→n=0∧cap=0)→(∀b,ao=some b→∀j u,xs[j]? = some u→w.cell? (b.add j)=some u)→cap<n+m→if Region.wanted o (yielded ops a.tmps)=true then Oper.wp P o a w K Q else E:=fun ao cap hev hno hol hfull=>by
  refine step_append_grows hgd s x t ho e i z size bytes ht hi hz hsize hby hzs hsz ao n cap xs hev hno hxl hol ad m c news hx hl hnews h1 hfull h63 hbytes (fun v' w' ho' hg'=>?_)
  have hO:OwnS w' e size v' (n+m) (xs++news):=OwnS.of ho'
  obtain⟨g,cap',rfl⟩:=hO.has hpos
  exact h g 0 cap' w' (OwnO.of hO) ((Keeps.refl _ _).grown hg' (fun k hk=>by cases hk)) (fun k hk => .inr (World.ownsRow.lt ho' k (mem_blk.1 hk)).1)
 rcases hown.2 with⟨hv,hn0⟩ | ⟨g,off,cap,cur,hv,hg,hnc,hcm,hcs,hc⟩
 · exact grow none 0 (by rw[hs,hv,hn0]) (fun _=>⟨hn0,rfl⟩) (fun b hb=>by cases hb) hpos
 ·by_cases hroom:n+m≤cap
  ·have hmul:(n+m)*size≤cap*size:=Nat.mul_le_mul_right _ hroom
   rw[Nat.add_mul]at hmul
   refine step_append_room hgd s x t ho e i size ht hi hsize g off n cap (by rw[hs,hv]) ad m c news hx hl hnews h1 hroom (fun j hj=>⟨?_,free_at hg _⟩) (h g off cap _ ⟨?_,?_⟩ ?_ ?_)
   · rw[cell_at hg,Array.getElem?_eq_getElem (by omega)];rfl
   · rw[List.length_append,hxl,hl,Nat.add_mul]
   ·refine .inr ⟨g,off,cap,_,rfl,heap_setCells news _ w cur hg,hroom,hcm,by rw[setA_size];exact hcs,fun j u hu=>?_⟩
    rcases Nat.lt_or_ge j xs.length with hj | hj
    ·rw[List.getElem?_append_left hj]at hu
     rw[setA_out _ _ _ _ (by omega)]
     exact hc j u hu
    ·rw[List.getElem?_append_right hj]at hu
     have:=setA_in news cur (off+n*size) (j-xs.length) u (by omega) hu
     rw[show off+n*size+(j-xs.length)=off+j by omega]at this
     exact this
   ·refine Keeps.setCells (.inl ?_) _ _ (Keeps.refl _ _)
    rw[hv];simp[blk,Value.ownBlock]
   ·intro k hk
    rw[hv]
    exact .inl (by simpa[blk,Value.ownBlock]using hk)
  ·refine grow (some ⟨g,off,none⟩) cap (by rw[hs,hv]) (fun h=>by cases h) (fun b hb j u hu=>?_) (by omega)
   cases hb
   rw[Addr.add_mid]
   have:=cell_at hg (off+j)
   rw[this]
   exact hc j u hu
end Go.Proofs.YtimomjheanfbmaaGreatDoor.G
namespace Go.Proofs.YtimomjheanfbmaaGreatDoor.G
open Go.RowKit
structure Xc where
 num:Int
 first:Int
 last:Int
 bytes:Nat
 pages:Nat
 over:Bool
def xcL (x:Xc):List Value:=[.int .i64 x.num,.int .i64 x.first,.int .i64 x.last,.int .i64 x.bytes,.int .i64 x.pages,.bool x.over]
theorem xcL_length (x:Xc):(xcL x).length=6:=rfl
theorem xcL_cells (x:Xc):∀v∈xcL x,v.oneCell'=true:=fun v hv=>by
 simp only[xcL,List.mem_cons,List.not_mem_nil,or_false]at hv
 rcases hv with h | h | h | h | h | h <;> (subst h;rfl)
def xcV (l:List Xc):List Value:=l.flatMap xcL
def intV (l:List Int):List Value:=l.map (Value.int .i64)
theorem intV_snoc (l:List Int) (a:Int):intV (l++[a])=intV l++[.int .i64 a]:=by unfold intV;rw[List.map_append];rfl
theorem intV_get {l:List Int} {i:Nat} {a:Int} (h:l[i]? = some a):(intV l)[i]? = some (.int .i64 a):=by unfold intV;rw[List.getElem?_map,h];rfl
theorem flat_get {α:Type} (f:α→List Value) (n:Nat) (hf:∀x,(f x).length=n):∀(l:List α) (i j:Nat) (s:α),l[i]? = some s→j<n→(l.flatMap f)[i*n+j]? = (f s)[j]?
 | [],i,j,s,h,_=>by simp at h
 | x::l,i,j,s,h,hj=>by
  rw[List.flatMap_cons]
  cases i with
  | zero =>
   simp only[List.getElem?_cons_zero,Option.some.injEq]at h
   subst h
   rw[List.getElem?_append_left (by rw[hf];omega)]
   simp
  | succ i =>
   rw[List.getElem?_append_right (by rw[hf,Nat.succ_mul];omega),hf,show (i+1)*n+j-n=i*n+j by rw[Nat.succ_mul];omega]
   exact flat_get f n hf l i j s (by simpa using h) hj
theorem flat_set {α:Type} (f:α→List Value) (n:Nat) (hf:∀x,(f x).length=n):∀(l:List α) (i j:Nat) (s s':α) (u:Value),l[i]? = some s→j<n→(f s).set j u=f s'→(l.flatMap f).set (i*n+j) u=(l.set i s').flatMap f
 | [],i,j,s,s',u,h,_,_=>by simp at h
 | x::l,i,j,s,s',u,h,hj,he=>by
  rw[List.flatMap_cons]
  cases i with
  | zero =>
   simp only[List.getElem?_cons_zero,Option.some.injEq]at h
   subst h
   rw[List.set_append_left _ _ (by rw[hf];omega),Nat.zero_mul,Nat.zero_add,he]
   simp
  | succ i =>
   rw[List.set_append_right _ _ (by rw[hf,Nat.succ_mul];omega),hf,show (i+1)*n+j-n=i*n+j by rw[Nat.succ_mul];omega,flat_set f n hf l i j s s' u (by simpa using h) hj he]
   simp
theorem flat_range {α:Type} (f:α→List Value) (n:Nat) (hf:∀x,(f x).length=n) {w:World} {e:TypeId} {g m c:Nat} {l:List α} (h:OwnS w e n (.slice (some ⟨g,0,none⟩) m c) m (l.flatMap f)) (i:Nat) (s:α) (hi:l[i]? = some s):w.rangeAt g (i*n) (f s):=fun j v hj=>by
 have hjl:j<n:=by have:=(List.getElem?_eq_some_iff.1 hj).1;rw[hf]at this;exact this
 have h2:(l.flatMap f)[i*n+j]? = some v:=by rw[flat_get f n hf l i j s hi hjl];exact hj
 have:=World.ownsRow.cells h (g:=g) rfl (i*n+j) v h2
 rw[Addr.add_mid,Nat.zero_add]at this
 exact this
theorem flat_rangeO {α:Type} (f:α→List Value) (n:Nat) (hf:∀x,(f x).length=n) {w:World} {e:TypeId} {g off m c:Nat} {l:List α} (h:OwnO w e n (.slice (some ⟨g,off,none⟩) m c) m (l.flatMap f)) (i:Nat) (s:α) (hi:l[i]? = some s):w.rangeAt g (off+i*n) (f s):=fun j v hj=>by
 have hjl:j<n:=by have:=(List.getElem?_eq_some_iff.1 hj).1;rw[hf]at this;exact this
 have h2:(l.flatMap f)[i*n+j]? = some v:=by rw[flat_get f n hf l i j s hi hjl];exact hj
 have:=h.cells (i*n+j) v h2
 rw[Nat.add_assoc];exact this
structure RB where
 xv:Value
 rv:Value
 av:Value
 Q:List (Rc×Value×Value)
structure RS where
 xs:List Xc
 fresh:Int
 ats:List Int
 fin:Int
 room:Int
 f:Nat→Pg
 recs:List Rc
def rrL (t:Rc×Value×Value):List Value:=(rcC t.1 t.2.1 t.2.2).toList
theorem rrL_length (t:Rc×Value×Value):(rrL t).length=14:=rfl
def rOwn (m g:Nat) (B:RB):List Nat:=m::g::(blk B.xv++blk B.rv++blk B.av)
def rIm (B:RB):List Nat:=B.Q.flatMap (fun t=>blk t.2.1++blk t.2.2)
def rCells (g:Nat) (B:RB) (ρ:RS):Array Value := #[B.xv,.int .i64 ρ.fresh,B.rv,B.av,.int .i64 ρ.fin,.int .i64 ρ.room,.slice (some ⟨g,0,none⟩) 6 6]
structure Rr (w:World) (m g:Nat) (B:RB) (ρ:RS):Prop where
 cell:w.heap[m]? = some (.cells (rCells g B ρ) 57 (0,0))
 xs:OwnS w 112 6 B.xv ρ.xs.length (xcV ρ.xs)
 rs:OwnO w 65 14 B.rv B.Q.length (B.Q.flatMap rrL)
 ats:OwnO w 3 1 B.av ρ.ats.length (intV ρ.ats)
 pg:OwnS w 49 16 (.slice (some ⟨g,0,none⟩) 6 6) 6 (pgRow ρ.f 6)
 sl:∀t∈B.Q,RcSl w t.1 t.2.1 t.2.2
 mg:m≠g
 nx:∀k∈blk B.xv,k≠m∧k≠g∧k∉blk B.rv∧k∉blk B.av
 nr:∀k∈blk B.rv,k≠m∧k≠g∧k∉blk B.av
 na:∀k∈blk B.av,k≠m∧k≠g
 im:∀k∈rIm B,k<w.heap.size∧k∉rOwn m g B
 rq:B.Q.map (·.1)=ρ.recs
theorem Sl.keepS {S:Nat→Prop} {w w':World} {v:Value} {n:Nat} {ll:List (List Value)} (h:Sl w v n ll) (hk:Keeps S w w') (hS:∀k∈blk v,¬S k):Sl w' v n ll:=by
 obtain⟨a,cap,rfl,h1,h2⟩:=h
 refine⟨a,cap,rfl,h1,fun hne=>?_⟩
 obtain⟨b,off,rfl,hb,hc⟩:=h2 hne
 refine⟨b,off,rfl,Nat.lt_of_lt_of_le hb hk.size,fun i hi j hj=>?_⟩
 rw[←hc i hi j hj]
 unfold World.cell?
 rw[hk.block b hb (hS b (by simp[blk,Value.ownBlock]))]
theorem RcSl.keepS {S:Nat→Prop} {w w':World} {R:Rc} {iv lv:Value} (h:RcSl w R iv lv) (hk:Keeps S w w') (hS:∀k∈blk iv++blk lv,¬S k):RcSl w' R iv lv :=
 ⟨Sl.keepS h.1 hk (fun k hk'=>hS k (List.mem_append_left _ hk')),Sl.keepS h.2.1 hk (fun k hk'=>hS k (List.mem_append_right _ hk')),h.2.2⟩
section
variable {w w':World} {m g:Nat} {B:RB} {ρ:RS}
theorem Rr.lt (h:Rr w m g B ρ):∀k∈rOwn m g B,k<w.heap.size:=fun k hk=>by
 simp only[rOwn,List.mem_cons,List.mem_append]at hk
 rcases hk with rfl | rfl | (hk | hk) | hk
 · exact block_lt h.cell
 · exact h.pg.lt (by simp[blk,Value.ownBlock])
 · exact h.xs.lt hk
 · exact h.rs.lt hk
 · exact h.ats.lt hk
theorem Rr.keep {S:Nat→Prop} (h:Rr w m g B ρ) (hk:Keeps S w w') (hS:∀k∈rOwn m g B++rIm B,¬S k):Rr w' m g B ρ:=by
 have h1:∀k∈rOwn m g B,¬S k:=fun k hk'=>hS k (List.mem_append_left _ hk')
 refine⟨hk.keep h.cell (h1 m (by simp[rOwn])),h.xs.keep hk (fun q hq=>h1 q (by simp[rOwn,hq])),h.rs.keep hk (fun q hq=>h1 q (by simp[rOwn,hq])),h.ats.keep hk (fun q hq=>h1 q (by simp[rOwn,hq])),h.pg.keep hk (fun q hq=>h1 q (by simp[blk,Value.ownBlock]at hq;simp[rOwn,hq])),fun t ht=>RcSl.keepS (h.sl t ht) hk (fun k hk'=>hS k (List.mem_append_right _ (List.mem_flatMap.2 ⟨t,ht,hk'⟩))),h.mg,h.nx,h.nr,h.na,fun k hk'=>⟨Nat.lt_of_lt_of_le (h.im k hk').1 hk.size,(h.im k hk').2⟩,h.rq⟩
theorem Rr.later (h:Rr w m g B ρ) (hb:Below w.heap.size w w'):Rr w' m g B ρ:=h.keep (Keeps.of_below (fun _=>False) hb) (fun _ _ h=>h)
def xSum (l:List Xc):Nat×Nat:=((l.map (·.bytes)).sum,(l.map (·.pages)).sum)
theorem xSum_next {l:List Xc} {i:Nat} {x:Xc} (h:l[i]? = some x):xSum (l.take (i+1))=((xSum (l.take i)).1+x.bytes,(xSum (l.take i)).2+x.pages):=by
 unfold xSum
 rw[List.take_add_one,h]
 simp
theorem xSum_le (l:List Xc) (i:Nat):(xSum (l.take i)).1≤(xSum l).1∧(xSum (l.take i)).2≤(xSum l).2:=by
 have h:xSum l=((xSum (l.take i)).1+(xSum (l.drop i)).1,(xSum (l.take i)).2+(xSum (l.drop i)).2):=by
  unfold xSum
  conv=>lhs;rw[←List.take_append_drop i l]
  simp only[List.map_append,List.sum_append]
 rw[h];exact⟨Nat.le_add_right _ _,Nat.le_add_right _ _⟩
set_option maxRecDepth 100000 in
set_option maxHeartbeats 400000 in
theorem rr_reserved (h:Rr w m g B ρ) (hs:(xSum ρ.xs).1≤1000000000000∧(xSum ρ.xs).2≤1000000000000) (hl:ρ.xs.length≤1000000) :
  Calls Tryz.prog 47 #[.pointer (some ⟨m,0,none⟩)] w fun e w'=>e = .returned (.tuple #[.int .i64 ((xSum ρ.xs).1:Int),.int .i64 ((xSum ρ.xs).2:Int)])∧Below w.heap.size w w':=by
 obtain⟨xa,xc,hxv⟩:=h.xs.form
 have C0:w.cell? ⟨m,0,none⟩=some B.xv:=cell_at h.cell 0
 rw[hxv]at C0
 have hx:=h.xs
 rw[hxv]at hx
 obtain⟨n,hn⟩:∃n,ρ.xs.length=n:=⟨_,rfl⟩
 rw[hn]at C0 hx hl
 have HX:=Hd hx
 have hnN:=Hd hn
 have hsN:=Hd hs
 have hlN:=Hd hl
 clear h hxv hx hn hs hl
 go_enter Tryz.func47,Tryz.ntmps47
 go_wp2_with fail
 go_loop [4,5,6] (fun x y z=>∃i:Nat,i≤n∧x = .int .i64 ((xSum (ρ.xs.take i)).1:Int)∧y = .int .i64 ((xSum (ρ.xs.take i)).2:Int)∧z = .int .i64 i) (fun _ _ z=>n-(intOf z).toNat)
 case atStart=>exact⟨0,Nat.zero_le _,rfl,rfl,rfl⟩
 case round =>
  obtain⟨i,hi,rfl,rfl,rfl⟩:=hrel
  by_cases hin:i<n
  ·obtain⟨x,hx⟩:∃x,ρ.xs[i]? = some x:=⟨_,List.getElem?_eq_getElem (by rw[hnN.out];exact hin)⟩
   obtain⟨gx,rfl⟩:=HX.out.spot (by omega)
   have hr:=flat_range xcL 6 xcL_length HX.out i x hx
   have c3:w.cell? ⟨gx,i*6+3,none⟩=some (.int .i64 x.bytes):=hr 3 _ rfl
   have c4:w.cell? ⟨gx,i*6+4,none⟩=some (.int .i64 x.pages):=hr 4 _ rfl
   have hnx:=Hd (xSum_next hx)
   have hle:=xSum_le ρ.xs i
   have hle2:=xSum_le ρ.xs (i+1)
   rw[hnx.out]at hle2
   obtain⟨a,ha⟩:∃a,(xSum (ρ.xs.take i)).1=a:=⟨_,rfl⟩
   obtain⟨b,hb⟩:∃b,(xSum (ρ.xs.take i)).2=b:=⟨_,rfl⟩
   rw[ha,hb]at hle2 hnx
   rw[ha,hb]
   have hiI:(i:Int)<n:=by omega
   have hi0:(0:Int)≤i:=by omega
   have hiw:IntKind.i64.wrap ((i:Int)+1)=(i:Int)+1:=by have:=hlN.out;rw[IntKind.wrap_i64];omega
   have haw:IntKind.i64.wrap ((a:Int)+(x.bytes:Int))=(a:Int)+(x.bytes:Int):=by have:=hsN.out;rw[IntKind.wrap_i64];dsimp only at hle2;omega
   have hbw:IntKind.i64.wrap ((b:Int)+(x.pages:Int))=(b:Int)+(x.pages:Int):=by have:=hsN.out;rw[IntKind.wrap_i64];dsimp only at hle2;omega
   have hinN:=Hd hin
   clear hr hle hle2 ha hb hin hi hx
   go_wp2_with fail
   exact⟨⟨i+1,hinN.out,by rw[hnx.out];push_cast;rfl,by rw[hnx.out];push_cast;rfl,rfl⟩,by have:=hinN.out;simp[intOf];omega⟩
  ·obtain rfl:i=n:=by omega
   have hiI:¬(i:Int)<i:=by omega
   rw[List.take_of_length_le (by rw[hnN.out];exact Nat.le_refl _)]
   go_wp2_with fail
   go_ret2
   exact⟨rfl,bR⟩
def xFind (l:List Xc) (x:Int):Option Nat:=l.findIdx? (fun y=>y.num==x && !y.over)
theorem xFind_none {l:List Xc} {x:Int} (h:∀(i:Nat) (y:Xc),l[i]? = some y→(y.num==x && !y.over)=false):xFind l x=none:=by
 unfold xFind
 rw[List.findIdx?_eq_none_iff]
 intro y hy
 obtain⟨i,hi⟩:=List.mem_iff_getElem?.1 hy
 exact h i y hi
theorem xFind_some {l:List Xc} {x:Int} {i:Nat} {y:Xc} (hi:l[i]? = some y) (hy:(y.num==x && !y.over)=true) (h:∀(j:Nat) (z:Xc),j<i→l[j]? = some z→(z.num==x && !z.over)=false):xFind l x=some i:=by
 unfold xFind
 have hl:=(List.getElem?_eq_some_iff.1 hi).1
 rw[List.findIdx?_eq_some_iff_getElem]
 refine⟨hl,by rw[(List.getElem?_eq_some_iff.1 hi).2];exact hy,fun j hj=>?_⟩
 have:=h j _ hj (List.getElem?_eq_getElem (by omega))
 rw[this]
 simp
def idxI (o:Option Nat):Int:=match o with | some i=>(i:Int) | none => -1
set_option maxRecDepth 100000 in
set_option maxHeartbeats 400000 in
theorem rr_find (h:Rr w m g B ρ) (x:Int) (hl:ρ.xs.length≤1000000) :
  Calls Tryz.prog 41 #[.pointer (some ⟨m,0,none⟩),.int .i64 x] w fun e w'=>e = .returned (.int .i64 (idxI (xFind ρ.xs x)))∧Below w.heap.size w w':=by
 obtain⟨xa,xc,hxv⟩:=h.xs.form
 have C0:w.cell? ⟨m,0,none⟩=some B.xv:=cell_at h.cell 0
 rw[hxv]at C0
 have hx:=h.xs
 rw[hxv]at hx
 obtain⟨n,hn⟩:∃n,ρ.xs.length=n:=⟨_,rfl⟩
 rw[hn]at C0 hx hl
 have HX:=Hd hx
 have hnN:=Hd hn
 have hlN:=Hd hl
 clear h hxv hx hn hl
 go_enter Tryz.func41,Tryz.ntmps41
 go_wp2_with fail
 go_loop [5] (fun z=>∃i:Nat,i≤n∧z = .int .i64 i∧Hid (∀(j:Nat) (y:Xc),j<i→ρ.xs[j]? = some y→(y.num==x && !y.over)=false)) (fun z=>n-(intOf z).toNat)
 case atStart=>exact⟨0,Nat.zero_le _,rfl,fun j y hj=>by omega⟩
 case round =>
  obtain⟨i,hi,rfl,HN⟩:=hrel
  by_cases hin:i<n
  ·obtain⟨y,hy⟩:∃y,ρ.xs[i]? = some y:=⟨_,List.getElem?_eq_getElem (by rw[hnN.out];exact hin)⟩
   obtain⟨gx,rfl⟩:=HX.out.spot (by omega)
   have hr:=flat_range xcL 6 xcL_length HX.out i y hy
   have c0:w.cell? ⟨gx,i*6+0,none⟩=some (.int .i64 y.num):=hr 0 _ rfl
   rw[Nat.add_zero]at c0
   have c5:w.cell? ⟨gx,i*6+5,none⟩=some (.bool y.over):=hr 5 _ rfl
   have hiI:(i:Int)<n:=by omega
   have hi0:(0:Int)≤i:=by omega
   have hiw:IntKind.i64.wrap ((i:Int)+1)=(i:Int)+1:=by have:=hlN.out;rw[IntKind.wrap_i64];omega
   have hinN:=Hd hin
   have HY:=Hd hy
   clear hr hin hi hy
   have hnext:Hid ((y.num==x && !y.over)=false→∀(j:Nat) (z:Xc),j<i+1→ρ.xs[j]? = some z→(z.num==x && !z.over)=false):=fun hf j z hj hz=>by
    by_cases e:j=i
    ·subst e
     rw[HY.out]at hz
     rw[←Option.some.inj hz];exact hf
    · exact HN.out j z (by omega) hz
   cases h1:(y.num==x) with
   | false =>
    have hf:Hid ((y.num==x && !y.over)=false):=by show _=_;rw[h1];rfl
    go_wp2_with fail
    exact⟨⟨i+1,hinN.out,rfl,hnext.out hf.out⟩,by have:=hinN.out;simp[intOf];omega⟩
   | true =>
    cases h2:y.over with
    | true =>
     have hf:Hid ((y.num==x && !y.over)=false):=by show _=_;rw[h2];simp
     rw[h2]at c5
     clear h2
     go_wp2_with fail
     exact⟨⟨i+1,hinN.out,rfl,hnext.out hf.out⟩,by have:=hinN.out;simp[intOf];omega⟩
    | false =>
     have hfd:Hid (xFind ρ.xs x=some i):=xFind_some HY.out (by rw[h1,h2];rfl) HN.out
     rw[h2]at c5
     clear h2
     go_wp2_with fail
     go_ret
     exact⟨by rw[hfd.out];rfl,bR⟩
  ·obtain rfl:i=n:=by omega
   have hiI:¬(i:Int)<i:=by omega
   have hfd:Hid (xFind ρ.xs x=none):=xFind_none (fun j y hy=>HN.out j y (by have:=(List.getElem?_eq_some_iff.1 hy).1;have:=hnN.out;omega) hy)
   go_wp2_with fail
   go_ret
   exact⟨by rw[hfd.out];rfl,bR⟩
end
end Go.Proofs.YtimomjheanfbmaaGreatDoor.G
