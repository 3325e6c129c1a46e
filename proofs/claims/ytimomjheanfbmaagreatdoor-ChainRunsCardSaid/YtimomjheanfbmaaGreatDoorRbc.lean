import Derived.Test.YtimomjheanfbmaaGreatDoorQaa
import Derived.Test.YtimomjheanfbmaaGreatDoorRba
import Derived.Test.YtimomjheanfbmaaGreatDoorRam
import Derived.Test.YtimomjheanfbmaaGreatDoorRan
import Derived.BigRegion
import Derived.BigQuiet
import Derived.Great.BuildSlice
import Derived.Test.YtimomjheanfbmaaGreatDoorRab
import Derived.WideShapes
set_option linter.unusedSimpArgs false
set_option linter.unusedVariables false
namespace Go.Proofs.YtimomjheanfbmaaGreatDoor.G
open Go.RowKit
set_option maxRecDepth 100000 in
set_option maxHeartbeats 800000 in
theorem rr_sameL (l:List Lv) (hl:l.length≤100) (v v':Value) (w:World) (h:OwnS w 61 3 v l.length (lvV l)) (h':OwnS w 61 3 v' l.length (lvV l)) :
  Calls Tryz.prog 48 #[v,v'] w fun e w'=>e = .returned (.bool true)∧Below w.heap.size w w':=by
 obtain⟨n,hn⟩:∃n,l.length=n:=⟨_,rfl⟩
 rw[hn]at h h' hl
 obtain⟨a,c,rfl⟩:=h.form
 obtain⟨a',c',rfl⟩:=h'.form
 have HO:=Hd h
 have HO':=Hd h'
 have hnN:=Hd hn
 have hlN:=Hd hl
 clear h h' hn hl
 go_enter Tryz.func48,Tryz.ntmps48
 go_wp2_with fail
 go_loopw [5] (fun t wr=>∃j:Nat,j≤n∧t = .int .i64 j∧Hid (Below w.heap.size w wr)) (fun t _=>n-(intOf t).toNat)
 case atStart=>exact⟨0,Nat.zero_le _,rfl,bR⟩
 case round =>
  obtain⟨j,hj,rfl,HB⟩:=hrel
  by_cases hjn:j<n
  rotate_left
  ·obtain rfl:j=n:=by omega
   have hjI:¬(j:Int)<j:=by omega
   go_wp2_with fail
   go_ret
   exact⟨rfl,HB.out⟩
  obtain⟨s,hs⟩:∃s,l[j]? = some s:=⟨_,List.getElem?_eq_getElem (by rw[hnN.out];exact hjn)⟩
  have ho:OwnS wr 61 3 (.slice a n c) n (lvV l):=HO.out.keep (Keeps.of_below (fun _=>False) HB.out) (fun _ _ h=>h)
  have ho':OwnS wr 61 3 (.slice a' n c') n (lvV l):=HO'.out.keep (Keeps.of_below (fun _=>False) HB.out) (fun _ _ h=>h)
  obtain⟨g,rfl⟩:=ho.spot (by omega)
  obtain⟨g',rfl⟩:=ho'.spot (by omega)
  have HR:=Hd (lv_range ho j s hs)
  have HR':=Hd (lv_range ho' j s hs)
  have hjI:(j:Int)<n:=by omega
  have hj0:(0:Int)≤j:=by omega
  have hjw:IntKind.i64.wrap ((j:Int)+1)=(j:Int)+1:=by have:=hlN.out;rw[IntKind.wrap_i64];omega
  have hjnN:=Hd hjn
  have hbb:Hid ((!eqLv s s)=false):=by show (!eqLv s s)=false;rw[(eqLv_iff s s).2 rfl];rfl
  clear ho ho' hs hj hjn
  go_upto_region 6 with fail
  refine wp_region_held_drew (S:=fun w'=>w'.rangeAt g (j*3) (lvL s)∧w'.rangeAt g' (j*3) (lvL s)) (by kernel_rfl) ⟨HR.out,HR'.out⟩ (fun hHeld=>?_)
  refine tc 0 hHeld ?_
  go_frame
  refine tc 1 hHeld ?_
  go_frame
  refine tc 2 (v := .pointer (some ⟨g,j*3,none⟩)) hHeld ?_
  go_frame
  refine tk 3 (v := .agg ((lvL s).toArray)) rfl (yieldsIf_load_mid (by rfl) 61 _ rfl g (j*3) rfl (lvL s) _ (fun _ h=>h.1) Tryz.underlying61 rfl (by kernel_rfl)) hHeld ?_
  go_frame
  refine tc 4 hHeld ?_
  go_frame
  refine tc 5 hHeld ?_
  go_frame
  refine tc 6 (v := .pointer (some ⟨g',j*3,none⟩)) hHeld ?_
  go_frame
  refine tk 7 (v := .agg ((lvL s).toArray)) rfl (yieldsIf_load_mid (by rfl) 61 _ rfl g' (j*3) rfl (lvL s) _ (fun _ h=>h.2) Tryz.underlying61 rfl (by kernel_rfl)) hHeld ?_
  go_frame
  refine tk 8 (v := .bool false) rfl (yieldsIf_ne_lv (by rfl) _ _ _ rfl s s false hbb.out rfl rfl) hHeld ?_
  go_frame
  refine wpAnyH_done (by kernel_rfl) ?_ _
  clear hHeld
  have HBd:=Hd (bD HB.out)
  go_wp2_with fail
  go_roundw
  case rel=>exact⟨j+1,hjnN.out,rfl,HBd⟩
  case measure=>have:=hjnN.out;simp[intOf];omega
def freeI (x:Int) (l:List Xc) (i:Nat):List Xc:=(l.take i).map (freeX x)++l.drop i
theorem freeI_len (x:Int) (l:List Xc) (i:Nat):(freeI x l i).length=l.length:=by unfold freeI;rw[List.length_append,List.length_map,List.length_take,List.length_drop];omega
theorem freeI_at (x:Int) {l:List Xc} {i:Nat} {y:Xc} (h:l[i]? = some y):(freeI x l i)[i]? = some y:=by
 unfold freeI
 have hi:=(List.getElem?_eq_some_iff.1 h).1
 rw[List.getElem?_append_right (by rw[List.length_map,List.length_take];omega),List.length_map,List.length_take,List.getElem?_drop,show i+(i-min i l.length)=i by omega]
 exact h
theorem freeI_next (x:Int) {l:List Xc} {i:Nat} {y:Xc} (h:l[i]? = some y):(freeI x l i).set i (freeX x y)=freeI x l (i+1):=by
 have hi:=(List.getElem?_eq_some_iff.1 h).1
 have hd:l.drop i=y::l.drop (i+1):=by rw[List.drop_eq_getElem_cons hi,(List.getElem?_eq_some_iff.1 h).2]
 unfold freeI
 rw[List.set_append_right _ _ (by rw[List.length_map,List.length_take];omega),List.length_map,List.length_take,show i-min i l.length=0 by omega,hd,List.set_cons_zero,List.take_add_one,h,List.map_append,List.append_assoc]
 rfl
theorem freeI_end (x:Int) {l:List Xc} {i:Nat} (h:l.length≤i):freeI x l i=l.map (freeX x):=by unfold freeI;rw[List.take_of_length_le h,List.drop_eq_nil_of_le h,List.append_nil]
section
variable {w w':World} {m g:Nat} {B:RB} {ρ:RS}
set_option maxRecDepth 100000 in
set_option maxHeartbeats 1600000 in
theorem rr_free (h:Rr w m g B ρ) (x:Int) (hxl:ρ.xs.length≤1000000) :
  Calls Tryz.prog 42 #[.pointer (some ⟨m,0,none⟩),.int .i64 x] w fun e w'=>e = .returned (.tuple #[])∧Rr w' m g B (ρ.freed x)∧Stp w w' m g B B []:=by
 obtain⟨xa,xc,hxv⟩:=h.xs.form
 obtain⟨n,hn⟩:∃n,ρ.xs.length=n:=⟨_,rfl⟩
 rw[hn]at hxv
 have H:=Hd h
 have hxvN:=Hd hxv
 have hnN:=Hd hn
 have hxlN:=Hd hxl
 clear h hxv hn hxl
 go_enter Tryz.func42,Tryz.ntmps42
 go_wp2_with fail
 go_loopw [4] (fun t wr=>∃i:Nat,i≤n∧t = .int .i64 i∧Hid (Rr wr m g B {ρ with xs:=freeI x ρ.xs i})∧Hid (Stp w wr m g B B [])) (fun t _=>n-(intOf t).toNat)
 case atStart=>exact⟨0,Nat.zero_le _,rfl,by show Rr _ _ _ _ _;unfold freeI;simpa using H.out,Stp.refl w m g B⟩
 case round =>
  clear H
  obtain⟨i,hi,rfl,H,HS⟩:=hrel
  have C0:wr.cell? ⟨m,0,none⟩=some (.slice xa n xc):=by have:=cell_at H.out.cell 0;rw[←hxvN.out];exact this
  by_cases hin:i<n
  rotate_left
  ·obtain rfl:i=n:=by omega
   have hiI:¬(i:Int)<i:=by omega
   have hfin:Hid (Rr wr m g B (ρ.freed x)):=by
    have:=H.out
    rw[freeI_end x (by rw[hnN.out];exact Nat.le_refl _)]at this
    exact this
   clear H
   go_wp2_with fail
   exact bodyPost_end (results_none Tryz.results42 _ _ _) rfl ⟨rfl,hfin.out,HS.out⟩
  obtain⟨y,hy⟩:∃y,ρ.xs[i]? = some y:=⟨_,List.getElem?_eq_getElem (by rw[hnN.out];exact hin)⟩
  have hyi:=Hd (freeI_at x hy)
  have hnx:=Hd (freeI_next x hy)
  have hox:OwnS wr 112 6 (.slice xa n xc) n (xcV (freeI x ρ.xs i)):=by have:=H.out.xs;rw[hxvN.out,show (freeI x ρ.xs i).length=n by rw[freeI_len];exact hnN.out]at this;exact this
  obtain⟨gx,rfl⟩:=hox.spot (by omega)
  have hr:=flat_range xcL 6 xcL_length hox i y hyi.out
  have c0:wr.cell? ⟨gx,i*6+0,none⟩=some (.int .i64 y.num):=hr 0 _ rfl
  rw[Nat.add_zero]at c0
  have c5:wr.cell? ⟨gx,i*6+5,none⟩=some (.bool y.over):=hr 5 _ rfl
  have c3:wr.cell? ⟨gx,i*6+3,none⟩=some (.int .i64 y.bytes):=hr 3 _ rfl
  have F3:=own_free hox (i*6+3)
  have hgxo:Hid (gx∈rOwn m g B):=own_x (by rw[hxvN.out];simp[blk,Value.ownBlock])
  have hiI:(i:Int)<n:=by omega
  have hi0:(0:Int)≤i:=by omega
  have hiw:IntKind.i64.wrap ((i:Int)+1)=(i:Int)+1:=by have:=hxlN.out;have:=hnN.out;rw[IntKind.wrap_i64];omega
  have hinN:=Hd hin
  have hyN:=Hd hy
  clear hr hox hi hin hy
  by_cases hc:y.num=x∧y.over=true
  rotate_left
  ·have hsame:Hid (freeI x ρ.xs (i+1)=freeI x ρ.xs i):=by
    show _=_
    rw[←hnx.out]
    unfold freeX
    rw[if_neg hc]
    exact set_at hyi.out
   have Hn:Hid (Rr wr m g B {ρ with xs:=freeI x ρ.xs (i+1)}):=by show Rr _ _ _ _ _;rw[hsame.out];exact H.out
   obtain⟨ov,hov⟩:∃b,y.over=b:=⟨_,rfl⟩
   obtain⟨nu,hnu⟩:∃b,y.num=b:=⟨_,rfl⟩
   rw[hov]at c5 hc
   rw[hnu]at c0 hc
   clear hov hnu H hsame hnx hyi c3 F3
   by_cases hx:nu=x
   ·have hov:ov=false:=by
     cases ov with
     | false=>rfl
     | true=>exact absurd ⟨hx,rfl⟩ hc
    subst hov
    subst hx
    have hd:(nu==nu)=true:=by simp
    clear hc
    go_wp2_with fail
    go_roundw
    case rel=>exact⟨i+1,hinN.out,rfl,Hn,HS⟩
    case measure=>have:=hinN.out;simp[intOf];omega
   ·have hd:(nu==x)=false:=by simpa using hx
    clear hc hx
    go_wp2_with fail
    go_roundw
    case rel=>exact⟨i+1,hinN.out,rfl,Hn,HS⟩
    case measure=>have:=hinN.out;simp[intOf];omega
  obtain⟨hc1,hc2⟩:=hc
  have hfx:Hid (freeX x y={y with bytes:=0,pages:=0}):=by show _=_;unfold freeX;rw[if_pos ⟨hc1,hc2⟩]
  rw[hc1]at c0
  rw[hc2]at c5
  have hd:(x==x)=true:=by simp
  clear hc1 hc2
  go_upto_region 5 with fail
  obtain⟨hP,hkP⟩:=H.out.setX hxvN.out i 3 y {y with bytes:=0} (.int .i64 0) hyi.out (by omega) rfl
  refine name_world (fun W=>Rr W m g B {ρ with xs:=(freeI x ρ.xs i).set i {y with bytes:=0}}∧Stp w W m g B B []) ⟨hP,HS.out.on hkP (fun q e=>e ▸ hgxo.out)⟩ ?_
  rintro W ⟨h3,hst3⟩
  have H3:=Hd h3
  have HS3:=Hd hst3
  have hlen:(freeI x ρ.xs i).length=n:=by rw[freeI_len];exact hnN.out
  have hy3:Hid (((freeI x ρ.xs i).set i {y with bytes:=0})[i]? = some {y with bytes:=0}):=by show _=_;rw[List.getElem?_set_self (by rw[hlen];exact hinN.out)]
  have hox:OwnS W 112 6 (.slice (some ⟨gx,0,none⟩) n xc) n (xcV ((freeI x ρ.xs i).set i {y with bytes:=0})):=by have:=h3.xs;rw[hxvN.out,show ((freeI x ρ.xs i).set i {y with bytes:=0}).length=n by rw[List.length_set];exact hlen]at this;exact this
  have C0':W.cell? ⟨m,0,none⟩=some (.slice (some ⟨gx,0,none⟩) n xc):=by have:=cell_at h3.cell 0;rw[←hxvN.out];exact this
  have c4:W.cell? ⟨gx,i*6+4,none⟩=some (.int .i64 y.pages):=flat_range xcL 6 xcL_length hox i _ hy3.out 4 _ rfl
  have F4:=own_free hox (i*6+4)
  clear h3 hst3 hox hP hkP C0 c0 c3 c5 F3 H HS hlen
  go_upto_region 2 with fail
  obtain⟨hP,hkP⟩:=H3.out.setX hxvN.out i 4 {y with bytes:=0} {y with bytes:=0,pages:=0} (.int .i64 0) hy3.out (by omega) rfl
  rw[List.set_set,←hfx.out,hnx.out]at hP
  refine name_world (fun W=>Rr W m g B {ρ with xs:=freeI x ρ.xs (i+1)}∧Stp w W m g B B []) ⟨hP,HS3.out.on hkP (fun q e=>e ▸ hgxo.out)⟩ ?_
  rintro W6 ⟨h6,hst6⟩
  have H6:=Hd h6
  have HS6:=Hd hst6
  clear h6 hst6 hP hkP C0' c4 F4 H3 HS3 hy3 hfx hnx hyi
  go_wp2_with fail
  go_roundw
  case rel=>exact⟨i+1,hinN.out,rfl,H6,HS6⟩
  case measure=>have:=hinN.out;simp[intOf];omega
end
end Go.Proofs.YtimomjheanfbmaaGreatDoor.G
namespace Go.Proofs.YtimomjheanfbmaaGreatDoor.G
open Go.RowKit
structure Mx (w:World) (m g:Nat) (f:Nat→Pg):Prop where
 blkm:∃C,w.heap[m]? = some (.cells C 57 (0,0))∧C[6]? = some (.slice (some ⟨g,0,none⟩) 6 6)
 row:OwnS w 49 16 (.slice (some ⟨g,0,none⟩) 6 6) 6 (pgRow f 6)
 nd:m≠g
theorem Mx.cell {w:World} {m g:Nat} {f:Nat→Pg} (h:Mx w m g f):w.cell? ⟨m,6,none⟩=some (.slice (some ⟨g,0,none⟩) 6 6):=by
 obtain⟨C,h1,h2⟩:=h.blkm
 rw[cell_at h1,h2]
theorem Mx.keep {S:Nat→Prop} {w w':World} {m g:Nat} {f:Nat→Pg} (h:Mx w m g f) (hk:Keeps S w w') (hS:∀q∈[m,g],¬S q):Mx w' m g f :=
 ⟨by obtain⟨C,h1,h2⟩:=h.blkm;exact⟨C,hk.keep h1 (hS m (by simp)),h2⟩,h.row.keep hk (fun q hq=>hS q (by simp[blk,Value.ownBlock]at hq;simp[hq])),h.nd⟩
theorem Mx.later {w w':World} {m g:Nat} {f:Nat→Pg} (h:Mx w m g f) (hb:Below w.heap.size w w'):Mx w' m g f:=h.keep (Keeps.of_below (fun _=>False) hb) (fun _ _ h=>h)
theorem kp_set (w:World) (b j:Nat) (v:Value):Keeps (· = b) w (w.setCell ⟨b,j,none⟩ v):=(Keeps.refl _ _).setCell _ _ (.inl rfl)
theorem Rr.mx {w:World} {m g:Nat} {B:RB} {ρ:RS} (h:Rr w m g B ρ):Mx w m g ρ.f:=⟨⟨_,h.cell,rfl⟩,h.pg,h.mg⟩
def RB.none:RB:=⟨nilS,nilS,nilS,[]⟩
def RS.none (fin room fresh:Int):RS:={xs:=[],fresh:=fresh,ats:=[],fin:=fin,room:=room,f:=fun _=>pageZ,recs:=[]}
set_option maxRecDepth 100000 in
set_option maxHeartbeats 400000 in
theorem rr_new (a b c:Int) (w:World):Calls Tryz.prog 11 #[.int .i64 a,.int .i64 b,.int .i64 c,.int .i64 6] w fun e w'=>∃m g,e = .returned (.pointer (some ⟨m,0,none⟩))∧Rr w' m g RB.none (RS.none a b c)∧Below w.heap.size w w'∧w.heap.size≤m∧w.heap.size≤g:=by
 obtain⟨i0,hi,hz0,hz1,hz2⟩:=info_parts Tryz.info_page
 go_enter Tryz.func11,Tryz.ntmps11
 go_wp2_with (at_make;refine wpList_make_full _ rfl _ _ 55 rfl w.heap.size 49 i0 (.agg (pgC pageZ)) 16 Tryz.underlying55 hi hz0 hz1 _ _ _ _ 6 rfl rfl rfl rfl (by rw[hz2];omega) (by unfold maxLen;omega) (Nat.le_refl _) ?_;rintro w1 hown hg;(have HO:Hid (OwnS w1 49 16 (.slice (some ⟨w.heap.size,0,none⟩) 6 6) 6 (pgRow (fun i=>(M0 i).1) 6)):=(by rw[←made_row 6];exact OwnS.of hown));(have HB2:Hid (Below w.heap.size w w1):=(bR).grown hg (Nat.le_refl _) (by simp));clear hown hg)
 go_ret
 have hlt:=HO.out.lt (k:=w.heap.size) (by simp[blk,Value.ownBlock])
 refine⟨w1.heap.size,w.heap.size,rfl,⟨hN rfl,OwnS.nil _ _ _,OwnO.of (OwnS.nil _ _ _),OwnO.of (OwnS.nil _ _ _),HO.out.keep ((Keeps.refl (fun _=>False) w1).alloc _) (fun _ _ h=>h),(fun t ht=>by cases ht),(by omega),(fun k hk=>by simp[RB.none,nilS,blk,Value.ownBlock]at hk),(fun k hk=>by simp[RB.none,nilS,blk,Value.ownBlock]at hk),(fun k hk=>by simp[RB.none,nilS,blk,Value.ownBlock]at hk),(fun k hk=>by simp[rIm,RB.none]at hk),rfl⟩,bA HB2.out,HB2.out.size,Nat.le_refl _⟩
def ImS (ub pb:Nat) (U:Array Value) (Q:Pg) (w:World):Prop:=w.heap[ub]? = some (.cells U 42 (0,0))∧w.heap[pb]? = some (.cells (pgC Q) 49 (0,0))
structure LCall where
 kind:Int
 x:Int
 page:Int
 slot:Int
 st:Int
 dt:ByteArray
 more:Int
 n:Int
def lcL (c:LCall):List Value:=[.int .i64 c.kind,.int .i64 c.x,.int .i64 c.page,.int .i64 c.slot,.int .i64 c.st,.string c.dt,.int .i64 c.more,.int .i64 c.n]
def pos6 (v:Int):Nat:=((wrap64 (v.tmod 6+6)).tmod 6).toNat
theorem pos6_eq (v:Int):(wrap64 (v.tmod 6+6)).tmod 6=(pos6 v:Int)∧pos6 v<6:=by
 have h1 : -6<v.tmod 6∧v.tmod 6<6:=⟨Int.lt_tmod_of_pos v (by omega),Int.tmod_lt_of_pos v (by omega)⟩
 have h2:wrap64 (v.tmod 6+6)=v.tmod 6+6:=by unfold wrap64;omega
 unfold pos6
 rw[h2,Int.tmod_eq_emod_of_nonneg (by omega)]
 omega
def kindC (P:Pg):Pg:={P with kind:=3}
def imgU (f:Nat→Pg) (c:LCall):Un:={uk:=1,us:=0,up:=pos6 c.page,ul:=pos6 c.slot,key:=⟨#[]⟩,bs:=(f (pos6 c.page)).st (pos6 c.slot),bd:=(f (pos6 c.page)).dt (pos6 c.slot)}
def imgP (f:Nat→Pg) (c:LCall):Pg:=setCl (kindC (f (pos6 c.page))) (pos6 c.slot) c.st c.dt
theorem pg_cell (P:Pg) (k:Nat) (hk:k<6) {w:World} {b:Nat} {T:TypeId} (h:w.heap[b]? = some (.cells (pgC P) T (0,0))):w.rangeAt b (4+k*2) [.int .i64 (P.st k),.string (P.dt k)]:=fun j v hj=>by
 rw[cell_at h]
 match k,hk with
 | 0,_=>match j with | 0=>exact hj | 1=>exact hj | j+2=>simp at hj
 | 1,_=>match j with | 0=>exact hj | 1=>exact hj | j+2=>simp at hj
 | 2,_=>match j with | 0=>exact hj | 1=>exact hj | j+2=>simp at hj
 | 3,_=>match j with | 0=>exact hj | 1=>exact hj | j+2=>simp at hj
 | 4,_=>match j with | 0=>exact hj | 1=>exact hj | j+2=>simp at hj
 | 5,_=>match j with | 0=>exact hj | 1=>exact hj | j+2=>simp at hj
set_option maxRecDepth 100000 in
set_option maxHeartbeats 400000 in
theorem mx_image {w:World} {m g:Nat} {f:Nat→Pg} (h:Mx w m g f) (c:LCall) :
  Calls Tryz.prog 14 #[.pointer (some ⟨m,0,none⟩),.agg (lcL c).toArray] w fun e w'=>∃ib,e = .returned (.tuple #[.agg (unL (imgU f c)).toArray,.slice (some ⟨ib,0,none⟩) 1 1]) ∧
   w'.heap[ib]? = some (.cells (imA ((pos6 c.page:Int),imgP f c)) 51 (0,0))∧Below w.heap.size w w'∧w.heap.size≤ib:=by
 obtain⟨ck,cx,cp,cs,cst,cdt,cm,cn⟩:=c
 unfold imgU imgP lcL
 dsimp only
 obtain⟨e1,l1⟩:=pos6_eq cp
 obtain⟨e2,l2⟩:=pos6_eq cs
 generalize pos6 cp=pi at *
 generalize pos6 cs=ki at *
 have HM:=Hd h
 clear h
 obtain⟨P,hP⟩:∃P,f pi=P:=⟨_,rfl⟩
 rw[hP]
 replace hP:=Hd hP
 go_enter Tryz.func14,Tryz.ntmps14
 go_upto_region 1 with fail
 go_quiet (fail)
 obtain⟨w1,hw1⟩:∃x,World.drewN ((w.alloc (.cells #[.int .i64 ck,.int .i64 cx,.int .i64 cp,.int .i64 cs,.int .i64 cst,.string cdt,.int .i64 cm,.int .i64 cn] 35)).alloc (.cells #[.int .i64 0,.int .i64 0,.int .i64 0,.int .i64 0,.string ⟨#[]⟩,.int .i64 0,.string ⟨#[]⟩] 42)) nq=x:=⟨_,rfl⟩
 rw[hw1]
 have HC1:Hid (w1.heap[w.heap.size]? = some (.cells #[.int .i64 ck,.int .i64 cx,.int .i64 cp,.int .i64 cs,.int .i64 cst,.string cdt,.int .i64 cm,.int .i64 cn] 35 (0,0))):=hw1 ▸ (show (World.drewN _ nq).heap[w.heap.size]? = _ from hO (hN rfl))
 have HU1:Hid (w1.heap[w.heap.size+1]? = some (.cells #[.int .i64 0,.int .i64 0,.int .i64 0,.int .i64 0,.string ⟨#[]⟩,.int .i64 0,.string ⟨#[]⟩] 42 (0,0))):=hw1 ▸ (show (World.drewN _ nq).heap[w.heap.size+1]? = _ from hN (by simp))
 have HB1:Hid (Below w.heap.size w w1):=hw1 ▸ bDN (bA (bA bR)) nq
 have hs1:Hid (w.heap.size+1<w1.heap.size):=block_lt HU1.out
 clear hw1
 have HM1:=Hd (HM.out.later HB1.out)
 have C6:=HM1.out.cell
 have HR1:=Hd (row_at HM1.out.row pi l1)
 have hpi:(pi:Int)<6:=by omega
 have hki:(ki:Int)<6:=by omega
 have hpi0:(0:Int)≤pi:=by omega
 have hki0:(0:Int)≤ki:=by omega
 rw[hP.out]at HR1
 have HN1:Hid ((w1.alloc (.cells (pgC pageZ) 49)).heap[w1.heap.size]? = some (.cells (pgC pageZ) 49 (0,0))):=hN rfl
 have hPs:Hid ((Tryz.prog.info? 49).map (·.size)=some (pgC P).size):=by show _=_;kernel_rfl
 have hl2:=Hd l2
 clear hP l1 l2 e1 e2 HM HM1
 go_upto_region 3 with(first
  | (refine wpList_load_arr rfl 49 _ rfl g (pi*16) rfl (pgC P) _ HR1.out Tryz.underlying49 rfl hPs.out ?_)
  | (refine wpList_store_whole rfl 49 _ _ rfl _ (pgC P) rfl rfl _ (pgC pageZ) HN1.out rfl (by kernel_rfl) (pgC_one _) ?_;intro w2 HP2 K2;(have hk2':Hid (Keeps (fun _=>False) w1 w2):=((Keeps.refl (fun _=>False) w1).alloc _).trans K2.out (fun q hq e=>by omega));clear K2 HN1))
 have K0:w2.cell? ⟨w1.heap.size,0,none⟩=some (.int .i64 P.kind):=cell_at HP2.out 0
 have F0:w2.frozen? ⟨w1.heap.size,0,none⟩=false:=free_at HP2.out 0
 go_upto_region 4 with fail
 clear K0 F0
 obtain⟨w3,hw3⟩:∃x,w2.setCell ⟨w1.heap.size,0,none⟩ (.int .i64 3)=x:=⟨_,rfl⟩
 try simp only[hw3]
 have HP3:Hid (w3.heap[w1.heap.size]? = some (.cells (pgC (kindC P)) 49 (0,0))):=hw3 ▸ heap_set HP2.out 0 (.int .i64 3)
 have hk3:Hid (Keeps (fun _=>False) w1 w3):=hk2'.out.trans (hw3 ▸ kp_set w2 w1.heap.size 0 (.int .i64 3)) (fun q hq e=>by omega)
 have hs3:Hid (w1.heap.size<w3.heap.size):=block_lt HP3.out
 clear hw3 HP2 hk2'
 have HC3:=Hd (hk3.out.keep HC1.out (fun h=>h))
 have HU3:=Hd (hk3.out.keep HU1.out (fun h=>h))
 have HB3:=Hd (bT HB1.out hk3.out.below)
 clear HC1 HU1 HB1 hk3
 have HR3:Hid (w3.rangeAt w1.heap.size (4+ki*2) [.int .i64 (P.st ki),.string (P.dt ki)]):=pg_cell (kindC P) ki hl2.out HP3.out
 go_upto_region 5 with(first
  | (refine wpList_load_mid rfl 33 _ rfl w1.heap.size (4+ki*2) rfl [.int .i64 (P.st ki),.string (P.dt ki)] _ HR3.out Tryz.underlying33 rfl (by kernel_rfl) ?_))
 obtain⟨w4,hw4⟩:∃x,w3.alloc (.cells #[.int .i64 1,.int .i64 0,.int .i64 pi,.int .i64 ki,.string ⟨#[]⟩,.int .i64 (P.st ki),.string (P.dt ki)] 42)=x:=⟨_,rfl⟩
 rw[hw4]
 have HV4:Hid (w4.heap[w3.heap.size]? = some (.cells #[.int .i64 1,.int .i64 0,.int .i64 pi,.int .i64 ki,.string ⟨#[]⟩,.int .i64 (P.st ki),.string (P.dt ki)] 42 (0,0))):=hw4 ▸ hN rfl
 have HP4:Hid (w4.heap[w1.heap.size]? = some (.cells (pgC (kindC P)) 49 (0,0))):=hw4 ▸ hO HP3.out
 have HC4:=Hd (hw4 ▸ hO HC3.out:w4.heap[w.heap.size]? = some (.cells #[.int .i64 ck,.int .i64 cx,.int .i64 cp,.int .i64 cs,.int .i64 cst,.string cdt,.int .i64 cm,.int .i64 cn] 35 (0,0)))
 have HU4:=Hd (hw4 ▸ hO HU3.out:w4.heap[w.heap.size+1]? = some (.cells #[.int .i64 0,.int .i64 0,.int .i64 0,.int .i64 0,.string ⟨#[]⟩,.int .i64 0,.string ⟨#[]⟩] 42 (0,0)))
 have HB4:Hid (Below w.heap.size w w4):=hw4 ▸ bA HB3.out
 have HR4:Hid (w4.rangeAt w.heap.size 4 [.int .i64 cst,.string cdt]):=World.rangeAt_of_block HC4.out 4 2
 clear hw4 HP3 HC3 HU3 HB3 HR3
 go_upto_region 6 with(first
  | (refine wpList_load_mid rfl 33 _ rfl w.heap.size 4 rfl [.int .i64 cst,.string cdt] _ HR4.out Tryz.underlying33 rfl (by kernel_rfl) ?_)
  | (refine wpList_store_cl rfl _ _ rfl w1.heap.size ki (kindC P) cst cdt _ rfl rfl HP4.out hl2.out ?_;intro w5 HP5 K5;(have HV5:=Hd (K5.out.keep HV4.out (fun e=>by have:=hs3.out;omega)));(have HU5:=Hd (K5.out.keep HU4.out (fun e=>by have:=hs1.out;omega)));(have HB5:Hid (Below w.heap.size w w5):=(Keeps.of_below (fun _=>False) HB4.out |>.trans K5.out (fun q hq e=>by have:=hs1.out;omega)).below);clear K5 HP4 HV4 HU4 HB4))
 clear HR4 HC4
 obtain⟨Q,hQ⟩:∃Q,setCl (kindC P) ki cst cdt=Q:=⟨_,rfl⟩
 rw[hQ]at HP5
 have hS0:ImS w3.heap.size w1.heap.size #[.int .i64 1,.int .i64 0,.int .i64 pi,.int .i64 ki,.string ⟨#[]⟩,.int .i64 (P.st ki),.string (P.dt ki)] Q w5.drew:=⟨hDr HV5.out,hDr HP5.out⟩
 have HBd:Hid (Below w.heap.size w w5.drew):=bD HB5.out
 have HUd:Hid (w5.drew.heap[w.heap.size+1]? = some (.cells #[.int .i64 0,.int .i64 0,.int .i64 0,.int .i64 0,.string ⟨#[]⟩,.int .i64 0,.string ⟨#[]⟩] 42 (0,0))):=hDr HU5.out
 obtain⟨j0,hj,hjz,hj1,hj2⟩:=info_parts Tryz.info_img
 refine wp_region_held_drew (S:=ImS w3.heap.size w1.heap.size #[.int .i64 1,.int .i64 0,.int .i64 pi,.int .i64 ki,.string ⟨#[]⟩,.int .i64 (P.st ki),.string (P.dt ki)] Q) (by kernel_rfl) hS0 (fun hHeld=>?_)
 clear hS0 HV5 HU5 HP5 HB5
 refine tk 0 (v := .agg #[.int .i64 1,.int .i64 0,.int .i64 pi,.int .i64 ki,.string ⟨#[]⟩,.int .i64 (P.st ki),.string (P.dt ki)]) rfl (yieldsIf_load_mid (by rfl) _ _ rfl w3.heap.size 0 rfl [.int .i64 1,.int .i64 0,.int .i64 pi,.int .i64 ki,.string ⟨#[]⟩,.int .i64 (P.st ki),.string (P.dt ki)] _ (fun _ h=>range_of h.1) Tryz.underlying42 rfl (by kernel_rfl)) hHeld ?_
 go_frame
 refine tk 1 (v := .int .i64 pi) rfl (Or.inl ⟨by rfl,fun _ _=>rfl⟩) hHeld ?_
 go_frame
 refine tk 2 (v := .agg (pgC Q)) rfl (yieldsIf_load_mid (by rfl) _ _ rfl w1.heap.size 0 rfl (pgC Q).toList _ (fun _ h=>range_of h.2) Tryz.underlying49 rfl (by kernel_rfl)) hHeld ?_
 go_frame
 refine tk 3 (v := .agg (imA ((pi:Int),Q))) rfl (Or.inl ⟨by rfl,?_⟩) hHeld ?_
 ·intro w' hSw
  have hpc:pgC Q = #[.int .i64 Q.kind,.int .i64 Q.level,.int .i64 Q.store,.int .i64 Q.next,.int .i64 (Q.st 0),.string (Q.dt 0),.int .i64 (Q.st 1),.string (Q.dt 1),.int .i64 (Q.st 2),.string (Q.dt 2),.int .i64 (Q.st 3),.string (Q.dt 3),.int .i64 (Q.st 4),.string (Q.dt 4),.int .i64 (Q.st 5),.string (Q.dt 5)]:=rfl
  unfold imA imL
  rw[hpc]
  go_simp
  try rfl
 go_frame
 refine wpAnyH_ready (rs:=[4,5]) (by kernel_rfl) (by simp) ?_
 have hsD:Hid (w.heap.size+1<w5.drew.heap.size):=block_lt HUd.out
 have hsD2:Hid (w1.heap.size<w5.drew.heap.size):=block_lt hHeld.2
 have hsD3:Hid (w3.heap.size<w5.drew.heap.size):=block_lt hHeld.1
 have hsz:Hid (w.heap.size≤w5.drew.heap.size):=HBd.out.size
 replace hQ:=Hd hQ
 refine AllReadyH.cons (o:=⟨some 44,_,_,_,_,_⟩) rfl (fun K hK=>?_) (AllReadyH.cons (o:=⟨none,_,_,_,_,_⟩) rfl (fun K hK=>?_) AllReadyH.nil)
 ·refine step_buildSlice rfl 43 51 1 _ rfl (imA ((pi:Int),Q)) j0 _ Tryz.underlying43 hj hjz (by rw[hj1];decide) (by rw[hj1];decide) (by rw[hj1];kernel_rfl) ?_
  have hH2:=hHeld
  refine hK.out _ _ ⟨hO hHeld.1,hO hHeld.2⟩ (fun hHeld=>?_)
  clear hK K
  try go_frame
  refine rd 5 (fun K hK=>?_)
  refine step_store_whole rfl 42 _ _ rfl (w.heap.size+1) #[.int .i64 1,.int .i64 0,.int .i64 pi,.int .i64 ki,.string ⟨#[]⟩,.int .i64 (P.st ki),.string (P.dt ki)] rfl rfl 42 _ (hO HUd.out) rfl (by kernel_rfl) (by simp[Value.oneCell']) ?_
  intro w6 HUW K6
  have HIW:Hid (w6.heap[w5.drew.heap.size]? = some (.cells (imA ((pi:Int),Q)) 51 (0,0))):=K6.out.keep (hN rfl) (fun e=>by have:=hsD.out;omega)
  have HBW:Hid (Below w.heap.size w w6):=((Keeps.of_below (fun _=>False) (bA HBd.out)).trans K6.out (fun q hq e=>by omega)).below
  refine hK.out _ _ ⟨K6.out.keep hHeld.1 (fun e=>by have:=hs1.out;have:=hs3.out;omega),K6.out.keep hHeld.2 (fun e=>by have:=hs1.out;omega)⟩ (fun hHeld=>?_)
  clear hK K K6 hH2
  try go_frame
  refine tk 6 (v := .slice (some ⟨w5.drew.heap.size,0,none⟩) 1 1) rfl (Or.inl ⟨by rfl,fun _ _=>rfl⟩) hHeld ?_
  go_frame
  clear hHeld
  refine wpAnyH_done (by kernel_rfl) ?_ _
  go_wp2_with fail
  refine bodyPost_ret (results_row_one Tryz.results14 _ _ _ _ _ _ _ rfl HUW.out Tryz.underlying42 rfl (by kernel_rfl)) rfl ?_
  exact⟨w5.drew.heap.size,rfl,by rw[hQ.out];exact HIW.out,HBW.out,hsz.out⟩
 ·refine step_store_whole rfl 42 _ _ rfl (w.heap.size+1) #[.int .i64 1,.int .i64 0,.int .i64 pi,.int .i64 ki,.string ⟨#[]⟩,.int .i64 (P.st ki),.string (P.dt ki)] rfl rfl 42 _ HUd.out rfl (by kernel_rfl) (by simp[Value.oneCell']) ?_
  intro w6 HUW K6
  have hs6:Hid (w6.heap.size=w5.drew.heap.size∨True) := .inr trivial
  refine hK.out _ _ ⟨K6.out.keep hHeld.1 (fun e=>by have:=hs1.out;have:=hs3.out;omega),K6.out.keep hHeld.2 (fun e=>by have:=hs1.out;omega)⟩ (fun hHeld=>?_)
  clear hK K
  try go_frame
  refine rd 4 (fun K hK=>?_)
  refine step_buildSlice rfl 43 51 1 _ rfl (imA ((pi:Int),Q)) j0 _ Tryz.underlying43 hj hjz (by rw[hj1];decide) (by rw[hj1];decide) (by rw[hj1];kernel_rfl) ?_
  have HBW:Hid (Below w.heap.size w (w6.alloc (.cells (imA ((pi:Int),Q)) 51))):=bA ((Keeps.of_below (fun _=>False) HBd.out).trans K6.out (fun q hq e=>by omega)).below
  have hsz:Hid (w.heap.size≤w6.heap.size):=by have:=K6.out.size;have:=hsz.out;show _≤_;omega
  replace HUW:Hid ((w6.alloc (.cells (imA ((pi:Int),Q)) 51)).heap[w.heap.size+1]? = _):=hO HUW.out
  have HIW:Hid ((w6.alloc (.cells (imA ((pi:Int),Q)) 51)).heap[w6.heap.size]? = some (.cells (imA ((pi:Int),Q)) 51 (0,0))):=hN rfl
  refine hK.out _ _ ⟨hO hHeld.1,hO hHeld.2⟩ (fun hHeld=>?_)
  clear hK K K6
  try go_frame
  refine tk 6 (v := .slice (some ⟨w6.heap.size,0,none⟩) 1 1) rfl (Or.inl ⟨by rfl,fun _ _=>rfl⟩) hHeld ?_
  go_frame
  clear hHeld
  refine wpAnyH_done (by kernel_rfl) ?_ _
  go_wp2_with fail
  refine bodyPost_ret (results_row_one Tryz.results14 _ _ _ _ _ _ _ rfl HUW.out Tryz.underlying42 rfl (by kernel_rfl)) rfl ?_
  exact⟨w6.heap.size,rfl,by rw[hQ.out];exact HIW.out,HBW.out,hsz.out⟩
end Go.Proofs.YtimomjheanfbmaaGreatDoor.G
namespace Go.Proofs.YtimomjheanfbmaaGreatDoor.G
open Go.RowKit
theorem lcL_length (c:LCall):(lcL c).length=8:=rfl
def LcOk (c:LCall):Prop:=c.dt.size≤maxLen∧RngK c.x∧RngK c.n∧RngK c.kind
def LcIs (w:World) (v:Value) (cs:List LCall):Prop:=Sl w v 8 (cs.map lcL)∧∀c∈cs,LcOk c
theorem LcIs.form {w:World} {v:Value} {cs:List LCall} (h:LcIs w v cs):∃a c,v = .slice a cs.length c:=by
 obtain⟨⟨a,c,h1,-⟩,-⟩:=h
 exact⟨a,c,by rw[h1,List.length_map]⟩
theorem LcIs.max {w:World} {v:Value} {cs:List LCall} (h:LcIs w v cs):cs.length≤maxLen:=by
 obtain⟨⟨a,c,h1,h2,-⟩,-⟩:=h
 rwa[List.length_map]at h2
theorem LcIs.at {w:World} {a:Option Addr} {n cap:Nat} {cs:List LCall} (h:LcIs w (.slice a n cap) cs) (k:Nat) (c:LCall) (hc:cs[k]? = some c) :
  ∃b off,a=some ⟨b,off,none⟩∧b<w.heap.size∧w.rangeAt b (off+k*8) (lcL c)∧LcOk c:=by
 obtain⟨⟨a',c',h1,h2,h3⟩,hok⟩:=h
 have hk:k<cs.length:=(List.getElem?_eq_some_iff.1 hc).1
 obtain⟨b,off,e1,e2,e3⟩:=h3 (by intro he;rw[List.map_eq_nil_iff]at he;subst he;simp at hk)
 simp only[Value.slice.injEq]at h1
 refine⟨b,off,by rw[h1.1,e1],e2,fun j v hj=>?_,hok c (List.mem_of_getElem? hc)⟩
 have hjl:j<8:=by
  have:=(List.getElem?_eq_some_iff.1 hj).1
  rwa[lcL_length]at this
 rw[e3 k (by rw[List.length_map];exact hk) j hjl,List.getElem?_map,hc]
 exact hj
theorem flatLCall:flat Tryz.prog 6 35=some [.i .i64,.i .i64,.i .i64,.i .i64,.i .i64,.s,.i .i64,.i .i64]:=by kernel_rfl
theorem lcall_of {H:Type} {enc:TypeId×Value→H} {W:World} {sp:Nat→Bool} {held:Bool} {x:List Value} (h:∃fuel y,DataW.trod enc Tryz.prog W 0 sp held fuel 35 x=some y):∃b:LCall,x=lcL b∧LcOk b:=by
 obtain⟨fuel,y,hy⟩:=h
 have hf:=fa_flat (enc:=enc) (P:=Tryz.prog) (W:=W) (sp:=sp) (held:=held) 6 _ _ flatLCall fuel x y hy
 obtain⟨_,r0,rfl,⟨k,rfl,z0⟩,f0⟩:=fb1 hf
 obtain⟨_,r1,rfl,⟨xx,rfl,z1⟩,f1⟩:=fb1 f0
 obtain⟨_,r2,rfl,⟨pg,rfl,z2⟩,f2⟩:=fb1 f1
 obtain⟨_,r3,rfl,⟨sl,rfl,z3⟩,f3⟩:=fb1 f2
 obtain⟨_,r4,rfl,⟨st,rfl,z4⟩,f4⟩:=fb1 f3
 obtain⟨_,r5,rfl,⟨dt,rfl,z5⟩,f5⟩:=fb1 f4
 obtain⟨_,r6,rfl,⟨mo,rfl,z6⟩,f6⟩:=fb1 f5
 obtain⟨_,r7,rfl,⟨nn,rfl,z7⟩,f7⟩:=fb1 f6
 obtain rfl:=fb0 f7
 exact⟨⟨k,xx,pg,sl,st,dt,mo,nn⟩,rfl,z5,bounds_i64 z1,bounds_i64 z7,bounds_i64 z0⟩
set_option maxRecDepth 100000 in
theorem lcalls_of {H:Type} {enc:TypeId×Value→H} {W:World} {base:Nat} {v:Value} {d:DataW H} {p:List MemPlace} (hok:Value.okWide Tryz.prog W .any base 22 v)
  (h:DataW.Trod enc Tryz.prog W 0 (fun _=>true) true 22 v d p):∃cs,LcIs W v cs:=by
 obtain⟨xs,hxs,hx⟩:=Sl_of (n:=8) Tryz.underlying22 (by kernel_rfl) (by decide) (Go.WideShapes.okWide_slice Tryz.underlying22 hok) h
 obtain⟨cs,rfl,hz⟩:=list_of (fun x hm=>lcall_of (hx x hm).2)
 exact⟨cs,hxs,hz⟩
end Go.Proofs.YtimomjheanfbmaaGreatDoor.G
