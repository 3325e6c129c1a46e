import Derived.Test.YtimomjheanfbmaaGreatDoorQaa
import Derived.Test.YtimomjheanfbmaaGreatDoorRau
set_option linter.unusedSimpArgs false
set_option linter.unusedVariables false
namespace Go.Proofs.YtimomjheanfbmaaGreatDoor.G
open Go.RowKit
theorem nil_sl17 (w:World):Sl w nilS 17 (([]:List (Int×Pg)).map imL):=⟨none,0,rfl,Nat.zero_le _,fun h=>absurd rfl h⟩
def sysR (ims:List (Int×Pg)):Rc:={kind:=6,xct:=0,prev:=0,next:=0,uk:=0,us:=0,up:=0,ul:=0,key:=⟨#[]⟩,bs:=0,bd:=⟨#[]⟩,fresh:=0,ims:=ims,lvs:=[]}
def chkR (lives:List Lv) (fresh:Int):Rc:={kind:=5,xct:=0,prev:=0,next:=0,uk:=0,us:=0,up:=0,ul:=0,key:=⟨#[]⟩,bs:=0,bd:=⟨#[]⟩,fresh:=fresh,ims:=[],lvs:=lives}
def oldF (l:List Lv):Int×Bool:=l.foldl (fun a s=>if s.2.1≠0∧(a.2=false∨s.2.1<a.1) then (s.2.1,true) else a) (0,false)
theorem oldF_next {l:List Lv} {i:Nat} {s:Lv} (h:l[i]? = some s):oldF (l.take (i+1))=if s.2.1≠0∧((oldF (l.take i)).2=false∨s.2.1<(oldF (l.take i)).1) then (s.2.1,true) else oldF (l.take i):=by
 unfold oldF
 rw[List.take_add_one,h,List.foldl_append];rfl
theorem flB_chk:flB 384=4645463015632666624:=by decide +kernel
theorem delB_addB (B:Int→Nat×Nat) (x:Int) (a b:Nat) (h:B x=(0,0)):delB (addB B x a b) x=B:=by
 funext y
 unfold delB addB
 by_cases e:y=x
 · rw[if_pos e,e,h]
 · rw[if_neg e,if_neg e]
def Cf (w0 w:World) (L:List Nat) (c lp p dp pg lb mb n:Nat) (lv:Value) (σ:CS):Prop:=Cx w0 w L c lp p dp pg lb mb n lv σ∧Gf w0 w (chL c lb mb lv++L) p lp dp σ.bb σ.P σ.rs σ.M σ.fin
def CS.cut (σ:CS) (k:Nat):CS:={σ with bb:=cutB σ.bb σ.P σ.rs k,P:=cutP σ.bb σ.P σ.rs k,recs:=σ.recs.drop k}
theorem CS.cut_fin (σ:CS) {k:Nat} (hk:k≤σ.recs.length):(σ.cut k).fin=σ.fin∧(σ.cut k).org=σ.org+lenL (σ.rs.take k):=by
 have hcb:cutB σ.bb σ.P σ.rs k=(54*σ.bb+σ.P.size+lenL (σ.rs.take k))/54:=rfl
 have hcp:=cutP_size σ.bb σ.P σ.rs k
 have e2:lenL σ.rs=lenL (σ.rs.take k)+lenL (σ.rs.drop k):=by
  have:=lenL_append (σ.rs.take k) (σ.rs.drop k)
  rwa[List.take_append_drop]at this
 have e3:(σ.cut k).rs=σ.rs.drop k:=by unfold CS.rs CS.cut;rw[List.map_drop]
 have e4:(σ.cut k).org=σ.org+lenL (σ.rs.take k):=by
  unfold CS.org
  show 54*cutB σ.bb σ.P σ.rs k+(cutP σ.bb σ.P σ.rs k).size=_
  omega
 refine⟨?_,e4⟩
 show (σ.cut k).org+lenL (σ.cut k).rs=σ.org+lenL σ.rs
 rw[e3,e4]
 omega
section
variable {w0 w w':World} {L:List Nat} {c lp p dp pg lb mb n:Nat} {lv:Value} {σ:CS}
theorem Cf.later (h:Cf w0 w L c lp p dp pg lb mb n lv σ) (hb:Below w.heap.size w w'):Cf w0 w' L c lp p dp pg lb mb n lv σ:=⟨h.1.later hb,h.2.later hb⟩
theorem Cx.loc (h:Cx w0 w L c lp p dp pg lb mb n lv σ) {S:Nat→Prop} (hk:Keeps S w w') (hS:∀q,S q→q∈L∧w0.heap.size≤q):Cx w0 w' L c lp p dp pg lb mb n lv σ :=
 ⟨h.ch.keep hk (fun q hq hs=>(h.hi q hq).2 (hS q hs).1),h.kx.keep3 hk (fun q hq=>⟨List.mem_append_right _ (hS q hq).1,(hS q hq).2⟩),h.hi,h.most,h.ok,h.cn⟩
theorem Gf.turn {bb:Nat} {P:ByteArray} {rs:List ByteArray} {M:Nat→Pg×Int} {N:Nat} {R:Nat→Prop} (h:Gf w0 w L p lp dp bb P rs M N) (hk:Keeps R w w') (hR:∀k,R k→k∈L∧w0.heap.size≤k) (L':List Nat) (hl:∀k∈L',k<w'.heap.size) (hn:∀k∈L',k∈L∨w.heap.size≤k):Gf w0 w' L' p lp dp bb P rs M N :=
 let ⟨X,sv,S,Sl,Sd,D,h1⟩:=h
 ⟨X,sv,S,Sl,Sd,D,(h1.keep3 hk hR).relist L' hl (fun k hk=>(hn k hk).imp (fun h=>h) (fun h=>⟨fun h'=>by have:=h1.pw.pool.lt k h';omega,fun h'=>by have:=h1.pw.ws.log.lt k h';omega,fun h'=>by have:=h1.pw.ws.dsk.lt k h';omega⟩))⟩
theorem Cx.swap (h:Cx w0 w L c lp p dp pg lb mb n lv σ) {S:Nat→Prop} (hk:Keeps S w w') (hS:∀q,S q→q∈L∧w0.heap.size≤q) (L':List Nat) (hl:∀k∈L',k<w'.heap.size) (hn:∀k∈L',k∈L∨w.heap.size≤k):Cx w0 w' L' c lp p dp pg lb mb n lv σ:=by
 have h1:=h.loc hk hS
 refine⟨h1.ch,h.kx.turn hk (fun q hq=>⟨List.mem_append_right _ (hS q hq).1,(hS q hq).2⟩) _ (fun k hk'=>?_) (fun k hk'=>?_),fun q hq=>⟨(h.hi q hq).1,fun h'=>?_⟩,h1.most,h1.ok,h1.cn⟩
 ·rcases List.mem_append.1 hk' with h' | h'
  · exact h1.ch.lt k h'
  · exact hl k h'
 ·rcases List.mem_append.1 hk' with h' | h'
  · exact .inl (List.mem_append_left _ h')
  · exact(hn k h').imp (fun h=>List.mem_append_right _ h) (fun h=>h)
 ·rcases hn q h' with h2 | h2
  · exact(h.hi q hq).2 h2
  · have:=h.ch.lt q hq;omega
theorem Cf.swap (h:Cf w0 w L c lp p dp pg lb mb n lv σ) {S:Nat→Prop} (hk:Keeps S w w') (hS:∀q,S q→q∈L∧w0.heap.size≤q) (L':List Nat) (hl:∀k∈L',k<w'.heap.size) (hn:∀k∈L',k∈L∨w.heap.size≤k):Cf w0 w' L' c lp p dp pg lb mb n lv σ:=by
 have h1:=h.1.swap hk hS L' hl hn
 refine⟨h1,h.2.turn hk (fun q hq=>⟨List.mem_append_right _ (hS q hq).1,(hS q hq).2⟩) _ (fun k hk'=>?_) (fun k hk'=>?_)⟩
 ·rcases List.mem_append.1 hk' with h' | h'
  · exact h1.ch.lt k h'
  · exact hl k h'
 ·rcases List.mem_append.1 hk' with h' | h'
  · exact .inl (List.mem_append_left _ h')
  · exact(hn k h').imp (fun h=>List.mem_append_right _ h) (fun h=>h)
set_option maxRecDepth 100000 in
set_option maxHeartbeats 800000 in
theorem cx_system (h:Cx w0 w L c lp p dp pg lb mb n lv σ) (ims:List (Int×Pg)) (hi1:ims.length≤1) (hpg:∀y∈ims,y.1<6) (hdt:∀y∈ims,∀i,i<6→(y.2.dt i).size≤maxLen) (iv:Value)
  (hiv:∀w',Keeps (Own w0 L) w w'→Sl w' iv 17 (ims.map imL)) :
  Calls Tryz.prog 44 #[.pointer (some ⟨c,0,none⟩),iv] w fun e w'=>Keeps (Own w0 L) w w' ∧
   (
    (¬RcOk (sysR ims)∧e = .returned (.int .i64 1)∧Cx w0 w' L c lp p dp pg lb mb n lv σ) ∨
    (RcOk (sysR ims)∧Full σ.used (rcS (sysR ims))∧e = .returned (.int .i64 70)∧Cx w0 w' L c lp p dp pg lb mb n lv σ) ∨
    (RcOk (sysR ims)∧¬Full σ.used (rcS (sysR ims))∧e = .returned (.int .i64 0)∧Cx w0 w' L c lp p dp pg lb mb n lv (σ.wrote (sysR ims)))):=by
 obtain⟨ia,im,ic,rfl,-,-,-⟩:=sl_open (hiv w (Keeps.refl _ _))
 have H:=Hd h
 have HIV:=Hd (fun (w':World) (hk:Keeps (Own w0 L) w w')=>(show RcSl w' (sysR ims) (.slice ia im ic) nilS from⟨hiv w' hk,nil_sl w',by show 0≤maxLen;omega,by show 0≤maxLen;omega,hdt⟩))
 have HZ:Hid ((w.alloc (.cells (rcC rcZ nilS nilS) 65)).heap[w.heap.size]? = some (.cells (rcC rcZ nilS nilS) 65 (0,0))):=hN rfl
 have hones:Hid (∀v∈(rcC (sysR ims) (.slice ia im ic) nilS).toList,v.oneCell'=true):=rcC_one rfl rfl
 have hpg':=Hd hpg
 have hi1':=Hd hi1
 clear h hiv hdt hpg hi1
 go_enter Tryz.func44,Tryz.ntmps44
 go_upto_region 4 with(refine wpList_store_whole rfl 65 _ _ rfl _ (rcC (sysR ims) (.slice ia im ic) nilS) rfl rfl _ (rcC rcZ nilS nilS) HZ.out rfl (by kernel_rfl) hones.out ?_;intro w3 HR3 K3;(have hk3:Hid (Keeps (fun _=>False) w w3):=((Keeps.refl (fun _=>False) w).alloc _).trans K3.out (fun q hq e=>by omega));clear K3 HZ)
 have HK3:Hid (Keeps (Own w0 L) w w3):=hk3.out.mono (fun _ _ h=>h.elim)
 have HX3:=Hd (H.out.push hk3.out.below w.heap.size (Nat.le_refl _) (block_lt HR3.out))
 have HCk:=Hd (rc_check _ _ _ _ (HIV.out w3 HK3.out))
 clear hk3
 go_wp2_with (refine wpList_load_row rfl 65 _ rfl _ rfl 65 _ _ _ HR3.out Tryz.underlying65 rfl (by kernel_rfl) ?_)
 refine(HCk.out).mono ?_
 rintro e w4 ⟨hc,hb4⟩
 have HR4:=Hd (hBs hb4 HR3.out)
 have HX4:=Hd (HX3.out.later hb4)
 have HK4:Hid (Keeps (Own w0 L) w w4):=HK3.out.trans (Keeps.of_below (fun _=>False) hb4) (fun _ _ h=>h.elim)
 clear hb4 HCk HX3 HK3 HR3
 rcases hc with⟨rfl,hok⟩ | ⟨rfl,hno⟩
 rotate_left
 ·have hno2:=Hd hno
  clear hno
  go_wp2_with fail
  go_ret
  exact⟨HK4.out,.inl ⟨hno2.out,rfl,HX4.out.pop⟩⟩
 have hok2:=Hd hok
 clear hok
 have HW:=Hd (cx_write HX4.out (sysR ims) hok2.out hi1'.out hpg'.out (.slice ia im ic) nilS (fun w' hk=>HIV.out w' (HK4.out.trans hk (fun k _ h=>⟨h.1,fun h'=>h.2 (by simp[h'])⟩))))
 go_wp2_with (refine wpList_load_row rfl 65 _ rfl _ rfl 65 _ _ _ HR4.out Tryz.underlying65 rfl (by kernel_rfl) ?_)
 refine(HW.out).mono ?_
 rintro e w5 ⟨hres,hk5⟩
 have HK5:Hid (Keeps (Own w0 L) w w5):=HK4.out.trans hk5 (fun k _ h=>⟨h.1,fun h'=>h.2 (by simp[h'])⟩)
 clear hk5 HW HX4 HK4 HR4
 obtain⟨fin,hfn⟩:∃f:Int,(σ.fin:Int)=f:=⟨_,rfl⟩
 rw[hfn]at hres
 rcases hres with⟨hf,rfl,hx⟩ | ⟨hf,rfl,hx⟩
 ·have HX5:=Hd hx
  have hf2:=Hd hf
  clear hx hf hfn
  go_wp2_with fail
  go_ret
  exact⟨HK5.out,.inr (.inl ⟨hok2.out,hf2.out,rfl,HX5.out.pop⟩)⟩
 ·have HX5:=Hd hx
  have hf2:=Hd hf
  clear hx hf hfn
  go_wp2_with fail
  go_ret
  exact⟨HK5.out,.inr (.inr ⟨hok2.out,hf2.out,rfl,HX5.out.pop⟩)⟩
set_option maxRecDepth 100000 in
set_option maxHeartbeats 800000 in
theorem cx_oldest (h:Cx w0 w L c lp p dp pg lb mb n lv σ) :
  Calls Tryz.prog 133 #[.pointer (some ⟨c,0,none⟩)] w fun e w'=>e = .returned (.tuple #[.int .i64 (oldF σ.lives).1,.bool (oldF σ.lives).2])∧Below w.heap.size w w':=by
 have H:=Hd h.ch
 obtain⟨sa,sc,hlv⟩:=h.ch.own.form
 subst hlv
 have hn8:=h.ch.len
 obtain⟨m,hm⟩:∃m,σ.lives.length=m:=⟨_,rfl⟩
 have C3:w.cell? ⟨c,3,none⟩=some (.slice sa m sc):=by have:=cell_at h.ch.cell 3;rw[←hm];exact this
 rw[hm]at H hn8
 have hmN:=Hd hm
 have hn8N:=Hd hn8
 clear h hm hn8
 go_enter Tryz.func133,Tryz.ntmps133
 go_wp2_with fail
 go_loopw [13,4,5] (fun x y z wr=>∃i:Nat,i≤m∧x = .int .i64 i∧y = .int .i64 (oldF (σ.lives.take i)).1∧z = .bool (oldF (σ.lives.take i)).2∧Hid (Below w.heap.size w wr)) (fun x _ _ _=>m-(intOf x).toNat)
 case atStart=>exact⟨0,Nat.zero_le _,rfl,rfl,rfl,bR⟩
 case round =>
  clear C3
  obtain⟨i,hi,rfl,rfl,rfl,HB⟩:=hrel
  by_cases him:i<m
  rotate_left
  ·obtain rfl:i=m:=by omega
   have hiI:¬(i:Int)<i:=by omega
   rw[List.take_of_length_le (by rw[hmN.out];exact Nat.le_refl _)]
   go_wp2_with fail
   go_ret2
   exact⟨rfl,HB.out⟩
  obtain⟨s,hs⟩:∃s,σ.lives[i]? = some s:=⟨_,List.getElem?_eq_getElem (by rw[hmN.out];exact him)⟩
  have hnx:=oldF_next hs
  obtain⟨a,ha⟩:∃a,oldF (σ.lives.take i)=a:=⟨_,rfl⟩
  rw[ha]at hnx ⊢
  obtain⟨av,ab⟩:=a
  dsimp only at hnx ⊢
  have how:OwnS wr 61 3 (.slice sa m sc) σ.lives.length (lvV σ.lives):=(H.out.later HB.out).own
  rw[hmN.out]at how
  obtain⟨g,hg⟩:∃g,sa=some ⟨g,0,none⟩:=how.spot (by omega)
  subst hg
  have HRg:=Hd (lv_range how i s hs)
  have HN:Hid ((wr.alloc (.cells #[.int .i64 0,.int .i64 0,.int .i64 0] 61)).heap[wr.heap.size]? = some (.cells #[.int .i64 0,.int .i64 0,.int .i64 0] 61 (0,0))):=hN rfl
  have hiI:(i:Int)<m:=by omega
  have hi0:(0:Int)≤i:=by omega
  have hiw:IntKind.i64.wrap ((i:Int)+1)=(i:Int)+1:=by have:=hn8N.out;rw[IntKind.wrap_i64];omega
  have hnxN:=Hd hnx
  have himN:=Hd him
  have hlc:Hid (∀v∈(lvL s).toArray.toList,v.oneCell'=true):=fun v hv=>lvL_cells s v (by simpa using hv)
  clear how hs hnx him hi ha
  go_upto_region 5 with(first
   | (refine wpList_load_mid rfl 61 _ rfl g (i*3) rfl (lvL s) _ HRg.out Tryz.underlying61 rfl (by kernel_rfl) ?_)
   | (refine wpList_store_whole rfl 61 _ _ rfl _ (lvL s).toArray rfl rfl _ _ HN.out rfl (by kernel_rfl) hlc.out ?_;intro w5 HC5 K5;(have HK5:Hid (Keeps (fun _=>False) wr w5):=((Keeps.refl (fun _=>False) wr).alloc _).trans K5.out (fun q hq e=>by omega));clear HN K5))
  have HB5:Hid (Below w.heap.size w w5):=bT HB.out HK5.out.below
  have c1:w5.cell? ⟨wr.heap.size,1,none⟩=some (.int .i64 s.2.1):=cell_at HC5.out 1
  clear HC5 HK5 HRg HB
  by_cases h0:s.2.1=0
  ·have d0:(s.2.1==0)=true:=by simpa using h0
   have d1:(s.2.1 != 0)=false:=by simpa using h0
   have hnx:=hnxN.out
   rw[if_neg (fun h=>h.1 h0)]at hnx
   replace hnx:=Hd hnx
   replace h0:=Hd h0
   go_wp2_with fail
   go_roundw
   case rel=>exact⟨i+1,himN.out,rfl,by rw[hnx.out],by rw[hnx.out],HB5⟩
   case measure=>have:=himN.out;simp[intOf];omega
  have d0:(s.2.1==0)=false:=by simpa using h0
  have d1:(s.2.1 != 0)=true:=by simpa using h0
  replace h0:=Hd h0
  cases ab with
  | false =>
   have hnx:=hnxN.out
   rw[if_pos ⟨h0.out,.inl rfl⟩]at hnx
   replace hnx:=Hd hnx
   go_wp2_with fail
   go_roundw
   case rel=>exact⟨i+1,himN.out,rfl,by rw[hnx.out],by rw[hnx.out],HB5⟩
   case measure=>have:=himN.out;simp[intOf];omega
  | true =>
   by_cases h1:s.2.1<av
   ·have d2:decide (s.2.1<av)=true:=decide_eq_true h1
    have hnx:=hnxN.out
    rw[if_pos ⟨h0.out,.inr h1⟩]at hnx
    replace hnx:=Hd hnx
    replace h1:=Hd h1
    go_wp2_with fail
    go_roundw
    case rel=>exact⟨i+1,himN.out,rfl,by rw[hnx.out],by rw[hnx.out],HB5⟩
    case measure=>have:=himN.out;simp[intOf];omega
   ·have d2:decide (s.2.1<av)=false:=decide_eq_false h1
    have hnx:=hnxN.out
    rw[if_neg (fun h=>by rcases h.2 with h | h;cases h;exact h1 h)]at hnx
    replace hnx:=Hd hnx
    replace h1:=Hd h1
    go_wp2_with fail
    go_roundw
    case rel=>exact⟨i+1,himN.out,rfl,by rw[hnx.out],by rw[hnx.out],HB5⟩
    case measure=>have:=himN.out;simp[intOf];omega
theorem cx_pflush (h:Cx w0 w L c lp p dp pg lb mb n lv σ) :
  Calls Tryz.prog 29 #[.pointer (some ⟨p,0,none⟩)] w fun e w'=>e = .returned (.int .i64 0)∧Cx w0 w' L c lp p dp pg lb mb n lv σ∧Keeps (Own w0 (chL c lb mb lv++L)) w w' :=
 (gx_flush h.kx).mono fun e w' ⟨he,hx,hk⟩=>⟨he,⟨h.ch.keep hk (fun q hq=>own_ch hq),hx,h.hi,h.most,h.ok,h.cn⟩,hk⟩
theorem cx_lflush (h:Cx w0 w L c lp p dp pg lb mb n lv σ) (at_:Int) (ha:∀i1,i1≤σ.rs.length→at_<((σ.org+lenL (σ.rs.take i1):Nat):Int)→i1=σ.rs.length) :
  Calls Tryz.prog 122 #[.pointer (some ⟨lp,0,none⟩),.int .i64 at_] w fun e w'=>e = .returned (.int .i64 0)∧Cf w0 w' L c lp p dp pg lb mb n lv σ∧Keeps (Own w0 (chL c lb mb lv++L)) w w' :=
 (gx_lflush h.kx at_).mono fun e w' ⟨he,hx,hk,hf⟩=>⟨he,⟨⟨h.ch.keep hk (fun q hq=>own_ch hq),hx,h.hi,h.most,h.ok,h.cn⟩,hf ha⟩,hk⟩
theorem cx_span (h:Cx w0 w L c lp p dp pg lb mb n lv σ) :
  Calls Tryz.prog 97 #[.pointer (some ⟨lp,0,none⟩)] w fun e w'=>(∃a b:Int,e = .returned (.tuple #[.int .i64 a,.int .i64 (σ.fin:Int),.int .i64 b]))∧Below w.heap.size w w':=by
 obtain⟨i0,X,sv,S,Sl,Sd,D,hk⟩:=h.kx
 exact(wal_span lp dp _ Sl w hk.pw.ws.log).mono fun e w' ⟨he,hb⟩=>⟨⟨_,_,he⟩,hb⟩
def CheckTo (w0 w:World) (L:List Nat) (c lp p dp pg lb mb n:Nat) (lv:Value) (σ:CS) (e:Ending):Prop :=
 ((oldF σ.lives).2=false∧e = .returned (.tuple #[.int .i64 (σ.fin:Int),.int .i64 (σ.fin:Int),.int .i64 0])∧Cf w0 w L c lp p dp pg lb mb n lv σ) ∨
 ((oldF σ.lives).2=true∧¬Fits 384 0 σ.T (σ.free 0) 1073741824∧e = .returned (.tuple #[.int .i64 0,.int .i64 0,.int .i64 70])∧Cx w0 w L c lp p dp pg lb mb n lv σ) ∨
 ((oldF σ.lives).2=true∧Fits 384 0 σ.T (σ.free 0) 1073741824∧e = .returned (.tuple #[.int .i64 (σ.fin:Int),.int .i64 (oldF σ.lives).1,.int .i64 0])∧∃n',Cf w0 w L c lp p dp pg lb mb n' lv ({σ with cnt:=σ.cnt+1}.wrote (chkR σ.lives σ.fresh)))
set_option maxRecDepth 100000 in
set_option maxHeartbeats 1600000 in
theorem cx_check (h:Cx w0 w L c lp p dp pg lb mb n lv σ) (hcnt:σ.cnt<100000000000) (hB0:σ.B 0=(0,0)) (hck:RcOk (chkR σ.lives σ.fresh)) (hsz:(rcS (chkR σ.lives σ.fresh)).size≤300) :
  Calls Tryz.prog 92 #[.pointer (some ⟨c,0,none⟩)] w fun e w'=>Keeps (Own w0 L) w w'∧CheckTo w0 w' L c lp p dp pg lb mb n lv σ e:=by
 obtain⟨la,lc,hlv⟩:=h.ch.own.form
 subst hlv
 have HO:=Hd (cx_oldest h)
 have H:=Hd h
 have hmT:=Hd h.most
 have hcn:=Hd (show n<1000000000000 by have:=h.cn;omega)
 have hcn2:=Hd h.cn
 have hB0N:=Hd hB0
 have hckN:=Hd hck
 have hszN:=Hd hsz
 have hfree:Hid (σ.free 0≤6912):=by show _≤_;unfold CS.free;omega
 have hHF:=Hd (fun w' (hx:Cx w0 w' L c lp p dp pg lb mb n (.slice la σ.lives.length lc) σ)=>cx_free hx 0 (by omega))
 obtain⟨af,bf⟩:Int×Bool:=oldF σ.lives
 obtain⟨a,ha⟩:∃a,(oldF σ.lives).1=a:=⟨_,rfl⟩
 obtain⟨b,hb⟩:∃b,(oldF σ.lives).2=b:=⟨_,rfl⟩
 rw[ha,hb]at HO
 have HA:=Hd ha
 have HBb:=Hd hb
 obtain⟨fin,hfin⟩:∃f:Nat,σ.fin=f:=⟨_,rfl⟩
 have HFn:=Hd hfin
 obtain⟨fr,hfr⟩:∃f,σ.fresh=f:=⟨_,rfl⟩
 have HFR:=Hd hfr
 clear h hcnt hB0 hck hsz ha hb hfin hfr
 go_enter Tryz.func92,Tryz.ntmps92
 go_wp2_with fail
 refine(HO.out).mono ?_
 rintro e w1 ⟨rfl,hb1⟩
 have HX1:=Hd (H.out.later hb1)
 have HK1:Hid (Keeps (Own w0 L) w w1):=Keeps.of_below _ hb1
 clear hb1 HO H
 cases b with
 | false =>
  have HPf:=Hd (cx_pflush HX1.out)
  have C1:w1.cell? ⟨c,1,none⟩=some (.pointer (some ⟨p,0,none⟩)):=cell_at HX1.out.ch.cell 1
  go_wp2_with fail
  refine(HPf.out).mono ?_
  rintro e w2 ⟨rfl,hx2,hk2⟩
  have HX2:=Hd hx2
  have HK2:Hid (Keeps (Own w0 L) w w2):=HK1.out.trans hk2 (fun k _ h=>⟨h.1,fun h'=>h.2 (List.mem_append_right _ h')⟩)
  have HSp:=Hd (cx_span hx2)
  have C0:w2.cell? ⟨c,0,none⟩=some (.pointer (some ⟨lp,0,none⟩)):=cell_at hx2.ch.cell 0
  rw[HFn.out]at HSp
  clear hx2 hk2 HPf C1 HX1 HK1
  go_wp2_with fail
  refine(HSp.out).mono ?_
  rintro e w3 ⟨⟨x1,x2,rfl⟩,hb3⟩
  have HX3:=Hd (HX2.out.later hb3)
  have HK3:Hid (Keeps (Own w0 L) w w3):=HK2.out.trans (Keeps.of_below (fun _=>False) hb3) (fun _ _ h=>h.elim)
  have HLf:=Hd (cx_lflush HX3.out (fin:Int) (fun i1 h1 h2=>by
   have h3:=lenL_take_le σ.rs i1
   have h4:=HFn.out
   unfold CS.fin at h4
   omega))
  have D0:w3.cell? ⟨c,0,none⟩=some (.pointer (some ⟨lp,0,none⟩)):=cell_at HX3.out.ch.cell 0
  clear hb3 HSp C0 HX2 HK2
  go_wp2_with fail
  refine(HLf.out).mono ?_
  rintro e w4 ⟨rfl,hx4,hk4⟩
  have HX4:=Hd hx4
  have HK4:Hid (Keeps (Own w0 L) w w4):=HK3.out.trans hk4 (fun k _ h=>⟨h.1,fun h'=>h.2 (List.mem_append_right _ h')⟩)
  clear hx4 hk4 HLf D0 HX3 HK3
  go_wp2_with fail
  refine bodyPost_ret (results_tmp3 Tryz.results92 _ _ _) rfl ?_
  exact⟨HK4.out,.inl ⟨HBb.out,by rw[HFn.out];rfl,HX4.out⟩⟩
 | true =>
  go_upto_region 5 with fail
  have hS0:ChB c lp p lb (.slice la σ.lives.length lc) fr w1.drew:=by have:=HX1.out.ch.cell;rw[HFR.out]at this;exact this
  have HD:=Hd (HX1.out.later (bD bR))
  have HKd:Hid (Keeps (Own w0 L) w w1.drew):=HK1.out.drew
  clear HX1 HK1
  refine wp_region_held_drew (S:=ChB c lp p lb (.slice la σ.lives.length lc) fr) (by kernel_rfl) hS0 (fun hHeld=>?_)
  refine tk 0 (v:=?_) rfl (Or.inl ⟨by rfl,?_⟩) hHeld ?_
  rotate_left
  ·intro w' hSw
   obtain⟨s1,s2,s3,s4⟩:=chb_cells hSw
   go_simp
   try with_reducible rfl
   try omega
  go_frame
  refine tk 1 (v:=?_) rfl (Or.inl ⟨by rfl,?_⟩) hHeld ?_
  rotate_left
  ·intro w' hSw
   obtain⟨s1,s2,s3,s4⟩:=chb_cells hSw
   go_simp
   try with_reducible rfl
   try omega
  go_frame
  refine tk 2 (v:=?_) rfl (Or.inl ⟨by rfl,?_⟩) hHeld ?_
  rotate_left
  ·intro w' hSw
   obtain⟨s1,s2,s3,s4⟩:=chb_cells hSw
   go_simp
   try with_reducible rfl
   try omega
  go_frame
  refine tk 3 (v:=?_) rfl (Or.inl ⟨by rfl,?_⟩) hHeld ?_
  rotate_left
  ·intro w' hSw
   obtain⟨s1,s2,s3,s4⟩:=chb_cells hSw
   go_simp
   try with_reducible rfl
   try omega
  go_frame
  refine tk 4 (v:=?_) rfl (Or.inl ⟨by rfl,?_⟩) hHeld ?_
  rotate_left
  ·intro w' hSw
   obtain⟨s1,s2,s3,s4⟩:=chb_cells hSw
   go_simp
   try with_reducible rfl
   try omega
  go_frame
  refine rd 5 (fun K hK=>?_)
  go_simp
  go_at_call 54
  refine(hHF.out _ HD.out).mono ?_
  rintro e w2 ⟨rfl,hb2⟩
  have HX2:=Hd (HD.out.later hb2)
  have HK2:Hid (Keeps (Own w0 L) w w2):=HKd.out.trans (Keeps.of_below (fun _=>False) hb2) (fun _ _ h=>h.elim)
  have hS2:Hid (ChB c lp p lb (.slice la σ.lives.length lc) fr w2):=by have:=HX2.out.ch.cell;rw[HFR.out]at this;exact this
  clear hb2 HD HKd hS0 hHF
  go_wp2_with fail
  refine hK.out _ _ hS2.out (fun hHeld=>?_)
  clear hK K
  try go_frame
  refine rd 6 (fun K hK=>?_)
  go_simp
  go_at_call 53
  have HT:=Hd (lg_take HX2.out.ch.lg hmT.out hcn.out 0 ⟨by omega,by omega⟩ 384 0 (σ.free 0) 1073741824 ⟨by decide,by decide⟩ ⟨by have:=hfree.out;show _≤_;omega,by show 1073741824≤1099511627776;decide⟩)
  rw[flB_chk,show flB 0=0 from rfl]at HT
  refine(HT.out).mono ?_
  rintro e w3 hres
  clear HT
  rcases hres with⟨hno,rfl,hl,hb3⟩ | ⟨hyes,rfl,hl,hk3⟩
  ·have HX3:=Hd (HX2.out.later hb3)
   have HK3:Hid (Keeps (Own w0 L) w w3):=HK2.out.trans (Keeps.of_below (fun _=>False) hb3) (fun _ _ h=>h.elim)
   have hS3:Hid (ChB c lp p lb (.slice la σ.lives.length lc) fr w3):=by have:=HX3.out.ch.cell;rw[HFR.out]at this;exact this
   have hno2:Hid (¬Fits 384 0 σ.T (σ.free 0) 1073741824):=hno
   clear hb3 hl hno HX2 HK2 hS2
   go_wp2_with fail
   refine hK.out _ _ hS3.out (fun hHeld=>?_)
   clear hK K
   try go_frame
   refine tc 7 hHeld ?_
   go_frame
   refine tc 8 hHeld ?_
   go_frame
   refine tc 9 hHeld ?_
   go_frame
   refine tc 10 hHeld ?_
   go_frame
   refine tc 11 hHeld ?_
   go_frame
   clear hHeld
   refine wpAnyH_done (by kernel_rfl) ?_ _
   go_wp2_with fail
   refine bodyPost_ret (results_tmp3 Tryz.results92 _ _ _) rfl ?_
   exact⟨HK3.out,.inr (.inl ⟨HBb.out,hno2.out,rfl,HX3.out⟩)⟩
  have HX3:=Hd (HX2.out.book (q:=σ.cnt+1) hl hk3 ⟨by have:=hyes.1;have:=hfree.out;show _+_≤_;omega,by have:=hyes.2;show _+_≤_;omega⟩ (by have:=hcn2.out;omega))
  have HK3:Hid (Keeps (Own w0 L) w w3):=HK2.out.trans hk3 (fun k _ e=>by subst e;exact HX2.out.owns (by simp[chL]))
  have hS3:Hid (ChB c lp p lb (.slice la σ.lives.length lc) fr w3):=by have:=HX3.out.ch.cell;have h2:ChB c lp p lb (.slice la σ.lives.length lc) σ.fresh w3:=this;rw[HFR.out]at h2;exact h2
  have hyes2:Hid (Fits 384 0 σ.T (σ.free 0) 1073741824):=hyes
  clear hl hk3 hyes HX2 HK2 hS2
  go_wp2_with fail
  refine hK.out _ _ hS3.out (fun hHeld=>?_)
  clear hK K
  try go_frame
  refine tc 7 hHeld ?_
  go_frame
  refine tc 8 hHeld ?_
  go_frame
  refine tc 9 hHeld ?_
  go_frame
  refine tc 10 hHeld ?_
  go_frame
  refine tc 11 hHeld ?_
  go_frame
  clear hHeld
  refine wpAnyH_done (by kernel_rfl) ?_ _
  have HDr:=Hd (lg_drop HX3.out.ch.lg 0 ⟨by omega,by omega⟩)
  have C2:w3.cell? ⟨c,2,none⟩=some (.pointer (some ⟨lb,0,none⟩)):=cell_at HX3.out.ch.cell 2
  clear hS3
  go_wp2_with fail
  refine(HDr.out).mono ?_
  rintro e w4 ⟨rfl,hl4,hk4⟩
  have hx4:=HX3.out.book (q:=σ.cnt+1) hl4 hk4 ⟨by have h5:σ.T.1+384≤1099511627776:=HX3.out.most.1;show σ.T.1+384-_≤1099511627776;omega,by have h5:σ.T.2+0≤1099511627776:=HX3.out.most.2;show σ.T.2+0-_≤1099511627776;omega⟩ HX3.out.cn
  have hσ:({({σ with B:=addB σ.B 0 384 0,T:=(σ.T.1+384,σ.T.2+0),cnt:=σ.cnt+1}:CS) with B:=delB (addB σ.B 0 384 0) 0,T:=(σ.T.1+384-(addB σ.B 0 384 0 0).1,σ.T.2+0-(addB σ.B 0 384 0 0).2),cnt:=σ.cnt+1}:CS)={σ with cnt:=σ.cnt+1}:=by
   have e0:addB σ.B 0 384 0 0=(384,0):=by unfold addB;rw[if_pos rfl,hB0N.out]
   rw[e0,delB_addB σ.B 0 384 0 hB0N.out]
   simp
  have HX4:Hid (Cx w0 w4 L c lp p dp pg lb mb (n+1) (.slice la σ.lives.length lc) {σ with cnt:=σ.cnt+1}):=by
   have h5:=hx4
   dsimp only at h5
   rw[hσ]at h5
   exact h5
  have HK4:Hid (Keeps (Own w0 L) w w4):=HK3.out.trans hk4 (fun k _ e=>by subst e;exact HX3.out.owns (by simp[chL]))
  have HPf:=Hd (cx_pflush HX4.out)
  have C1:w4.cell? ⟨c,1,none⟩=some (.pointer (some ⟨p,0,none⟩)):=cell_at HX4.out.ch.cell 1
  clear hx4 hσ hl4 hk4 HX3 HK3 HDr C2
  go_wp2_with fail
  refine(HPf.out).mono ?_
  rintro e w5 ⟨rfl,hx5,hk5⟩
  have HX5:=Hd hx5
  have HK5:Hid (Keeps (Own w0 L) w w5):=HK4.out.trans hk5 (fun k _ h=>⟨h.1,fun h'=>h.2 (List.mem_append_right _ h')⟩)
  have HSp:=Hd (cx_span hx5)
  have C0:w5.cell? ⟨c,0,none⟩=some (.pointer (some ⟨lp,0,none⟩)):=cell_at hx5.ch.cell 0
  rw[show ({σ with cnt:=σ.cnt+1}:CS).fin=fin from HFn.out]at HSp
  clear hx5 hk5 HPf C1 HX4 HK4
  go_wp2_with fail
  refine(HSp.out).mono ?_
  rintro e w6 ⟨⟨x1,x2,rfl⟩,hb6⟩
  have HX6:=Hd (HX5.out.later hb6)
  have HK6:Hid (Keeps (Own w0 L) w w6):=HK5.out.trans (Keeps.of_below (fun _=>False) hb6) (fun _ _ h=>h.elim)
  clear hb6 HSp C0 HX5 HK5
  go_upto_region 18 with fail
  have hS0:ChB c lp p lb (.slice la σ.lives.length lc) fr w6.drew:=by have:=HX6.out.ch.cell;have h2:ChB c lp p lb (.slice la σ.lives.length lc) σ.fresh w6:=this;rw[HFR.out]at h2;exact h2
  have HD:=Hd (HX6.out.later (bD bR))
  have HKd:Hid (Keeps (Own w0 L) w w6.drew):=HK6.out.drew
  clear HX6 HK6
  refine wp_region_held_drew (S:=ChB c lp p lb (.slice la σ.lives.length lc) fr) (by kernel_rfl) hS0 (fun hHeld=>?_)
  refine tk 0 (v:=?_) rfl (Or.inl ⟨by rfl,?_⟩) hHeld ?_
  rotate_left
  ·intro w' hSw
   obtain⟨s1,s2,s3,s4⟩:=chb_cells hSw
   go_simp
   try with_reducible rfl
   try omega
  go_frame
  refine tk 1 (v:=?_) rfl (Or.inl ⟨by rfl,?_⟩) hHeld ?_
  rotate_left
  ·intro w' hSw
   obtain⟨s1,s2,s3,s4⟩:=chb_cells hSw
   go_simp
   try with_reducible rfl
   try omega
  go_frame
  refine tk 2 (v:=?_) rfl (Or.inl ⟨by rfl,?_⟩) hHeld ?_
  rotate_left
  ·intro w' hSw
   obtain⟨s1,s2,s3,s4⟩:=chb_cells hSw
   go_simp
   try with_reducible rfl
   try omega
  go_frame
  refine tk 3 (v:=?_) rfl (Or.inl ⟨by rfl,?_⟩) hHeld ?_
  rotate_left
  ·intro w' hSw
   obtain⟨s1,s2,s3,s4⟩:=chb_cells hSw
   go_simp
   try with_reducible rfl
   try omega
  go_frame
  refine tk 4 (v:=?_) rfl (Or.inl ⟨by rfl,?_⟩) hHeld ?_
  rotate_left
  ·intro w' hSw
   obtain⟨s1,s2,s3,s4⟩:=chb_cells hSw
   go_simp
   try with_reducible rfl
   try omega
  go_frame
  refine tk 5 (v:=?_) rfl (Or.inl ⟨by rfl,?_⟩) hHeld ?_
  rotate_left
  ·intro w' hSw
   obtain⟨s1,s2,s3,s4⟩:=chb_cells hSw
   go_simp
   try with_reducible rfl
   try omega
  go_frame
  refine tk 6 (v:=?_) rfl (Or.inl ⟨by rfl,?_⟩) hHeld ?_
  rotate_left
  ·intro w' hSw
   obtain⟨s1,s2,s3,s4⟩:=chb_cells hSw
   go_simp
   try with_reducible rfl
   try omega
  go_frame
  refine tk 7 (v:=?_) rfl (Or.inl ⟨by rfl,?_⟩) hHeld ?_
  rotate_left
  ·intro w' hSw
   obtain⟨s1,s2,s3,s4⟩:=chb_cells hSw
   go_simp
   try with_reducible rfl
   try omega
  go_frame
  refine tk 8 (v:=?_) rfl (Or.inl ⟨by rfl,?_⟩) hHeld ?_
  rotate_left
  ·intro w' hSw
   obtain⟨s1,s2,s3,s4⟩:=chb_cells hSw
   go_simp
   try with_reducible rfl
   try omega
  go_frame
  refine tk 9 (v := .agg (rcC (chkR σ.lives fr) nilS (.slice la σ.lives.length lc))) rfl (Or.inl ⟨by rfl,?_⟩) hHeld ?_
  ·intro w' hSw
   clear hSw
   go_simp
   try rfl
   try omega
  go_frame
  refine rd 10 (fun K hK=>?_)
  go_simp
  go_at_call 57
  have HW:=Hd (cx_write HD.out (chkR σ.lives fr) (by have:=hckN.out;rw[HFR.out]at this;exact this) (by show 0≤1;omega) (fun y hy=>by cases hy) nilS (.slice la σ.lives.length lc) (fun w' hk=>⟨nil_sl17 w',own_sl lvL lvL_length σ.lives (HD.out.ch.own.keep hk (fun q hq h=>h.2 (List.mem_append_left _ (by simp[chL,hq])))) rfl (by have:=HD.out.ch.len;unfold maxLen;show σ.lives.length≤_;have h2:σ.lives.length≤8:=this;omega) (by omega),by show 0≤maxLen;omega,by show 0≤maxLen;omega,fun y hy=>by cases hy⟩))
  refine(HW.out).mono ?_
  rintro e w7 ⟨hres,hk7⟩
  have HK7:Hid (Keeps (Own w0 L) w w7):=HKd.out.trans hk7 (fun k _ h=>⟨h.1,fun h'=>h.2 (List.mem_append_right _ h')⟩)
  obtain⟨rfl,hx7⟩:e = .returned (.tuple #[.int .i64 (fin:Int),.int .i64 0])∧Cx w0 w7 L c lp p dp pg lb mb (n+1) (.slice la σ.lives.length lc) (({σ with cnt:=σ.cnt+1}:CS).wrote (chkR σ.lives fr)):=by
   rcases hres with⟨hf,-,-⟩ | ⟨-,he,hx⟩
   ·exfalso
    have h1:6912<σ.used+(2+(rcS (chkR σ.lives fr)).size):=hf
    have h2:=hyes2.out.1
    unfold CS.free at h2
    have h3:=hszN.out
    rw[HFR.out]at h3
    omega
   · exact⟨by rw[he];show Ending.returned (.tuple #[.int .i64 ((σ.fin:Nat):Int),.int .i64 0])=_;rw[HFn.out],hx⟩
  have HX7:=Hd hx7
  have hS7:Hid (ChB c lp p lb (.slice la σ.lives.length lc) fr w7):=by have:=HX7.out.ch.cell;have h2:ChB c lp p lb (.slice la σ.lives.length lc) σ.fresh w7:=this;rw[HFR.out]at h2;exact h2
  clear hres hk7 hx7 HW HD HKd hS0
  go_wp2_with fail
  refine hK.out _ _ hS7.out (fun hHeld=>?_)
  clear hK K
  try go_frame
  refine tc 11 hHeld ?_
  go_frame
  refine tc 12 hHeld ?_
  go_frame
  refine tc 13 hHeld ?_
  go_frame
  refine tc 14 hHeld ?_
  go_frame
  refine tc 15 hHeld ?_
  go_frame
  clear hHeld
  refine wpAnyH_done (by kernel_rfl) ?_ _
  have HLf:=Hd (cx_lflush HX7.out (fin:Int) (fun i1 h1 h2=>by
   have e1:(({σ with cnt:=σ.cnt+1}:CS).wrote (chkR σ.lives fr)).rs=σ.rs++[rcS (chkR σ.lives fr)]:=by unfold CS.rs CS.wrote;rw[List.map_append];rfl
   have e2:(({σ with cnt:=σ.cnt+1}:CS).wrote (chkR σ.lives fr)).org=σ.org:=rfl
   rw[e1,e2]at h2
   rw[e1]at h1 ⊢
   rcases Nat.lt_or_ge i1 (σ.rs++[rcS (chkR σ.lives fr)]).length with h3 | h3
   ·rw[List.length_append,List.length_singleton]at h3
    rw[List.take_append_of_le_length (by omega)]at h2
    have h4:=lenL_take_le σ.rs i1
    have h5:=HFn.out
    unfold CS.fin at h5
    omega
   · omega))
  have D0:w7.cell? ⟨c,0,none⟩=some (.pointer (some ⟨lp,0,none⟩)):=cell_at HX7.out.ch.cell 0
  clear hS7
  go_wp2_with fail
  refine(HLf.out).mono ?_
  rintro e w8 ⟨rfl,hx8,hk8⟩
  have HX8:=Hd hx8
  have HK8:Hid (Keeps (Own w0 L) w w8):=HK7.out.trans hk8 (fun k _ h=>⟨h.1,fun h'=>h.2 (List.mem_append_right _ h')⟩)
  clear hx8 hk8 HLf D0 HX7 HK7
  go_wp2_with fail
  refine bodyPost_ret (results_tmp3 Tryz.results92 _ _ _) rfl ?_
  exact⟨HK8.out,.inr (.inr ⟨HBb.out,hyes2.out,by rw[HFn.out,HA.out];rfl,n+1,by have h:=HX8.out;rw[←HFR.out]at h;exact h⟩)⟩
theorem cx_fresh (h:Cx w0 w L c lp p dp pg lb mb n lv σ) :
  Calls Tryz.prog 93 #[.pointer (some ⟨c,0,none⟩)] w fun e w'=>e = .returned (.int .i64 σ.fresh)∧Below w.heap.size w w':=by
 have C4:w.cell? ⟨c,4,none⟩=some (.int .i64 σ.fresh):=cell_at h.ch.cell 4
 clear h
 go_enter Tryz.func93,Tryz.ntmps93
 go_wp2_with fail
 go_ret
 exact⟨rfl,bR⟩
theorem cx_cut (h:Cf w0 w L c lp p dp pg lb mb n lv σ) (k:Nat) (hk:k≤σ.recs.length) (hf:σ.fin≤50000000000) (at_:Int) (hat:at_=((σ.org+lenL (σ.rs.take k):Nat):Int)) :
  Calls Tryz.prog 94 #[.pointer (some ⟨c,0,none⟩),.int .i64 at_] w fun e w'=>e = .returned (.int .i64 0)∧Keeps (Own w0 L) w w'∧Cx w0 w' L c lp p dp pg lb mb n lv (σ.cut k):=by
 have HC:=Hd (gx_cut h.2 k (by unfold CS.rs;rw[List.length_map];exact hk) (by unfold CS.fin CS.org at hf;exact hf))
 rw[show 54*σ.bb+σ.P.size+lenL (σ.rs.take k)=σ.org+lenL (σ.rs.take k) from rfl,←hat]at HC
 have C0:w.cell? ⟨c,0,none⟩=some (.pointer (some ⟨lp,0,none⟩)):=cell_at h.1.ch.cell 0
 have H:=Hd h.1
 have hcf:=Hd (σ.cut_fin hk)
 clear h hk hf hat
 go_enter Tryz.func94,Tryz.ntmps94
 go_wp2_with fail
 refine(HC.out).mono ?_
 rintro e w1 ⟨rfl,hg,hkp⟩
 have HG:=Hd hg
 have HKp:=Hd hkp
 clear hg hkp HC C0
 go_wp2_with fail
 go_ret
 have e3:(σ.cut k).rs=σ.rs.drop k:=by unfold CS.rs CS.cut;rw[List.map_drop]
 refine⟨rfl,HKp.out.mono (fun q _ hq=>⟨hq.1,fun h'=>hq.2 (List.mem_append_right _ h')⟩),H.out.ch.keep HKp.out (fun q hq=>own_ch hq),?_,H.out.hi,H.out.most,fun R hR=>H.out.ok R (List.mem_of_mem_drop hR),H.out.cn⟩
 rw[hcf.out.1,e3]
 exact HG.out.any
end
end Go.Proofs.YtimomjheanfbmaaGreatDoor.G
