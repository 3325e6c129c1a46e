import Derived.Test.YtimomjheanfbmaaGreatDoorQaa
import Derived.Test.YtimomjheanfbmaaGreatDoorRax
import Derived.Test.YtimomjheanfbmaaGreatDoorRan
import Derived.Test.YtimomjheanfbmaaGreatDoorQag
set_option linter.unusedSimpArgs false
set_option linter.unusedVariables false
namespace Go.Proofs.YtimomjheanfbmaaGreatDoor.G
open Go.RowKit
def RS.mined (ρ:RS) (i:Nat) (x:Xc) (R:Rc):RS:={ρ.wrote R with xs:=ρ.xs.set i {x with first:=if x.first=0 then ρ.fin else x.first,last:=ρ.fin}}
section
variable {w w':World} {m g:Nat} {B:RB} {ρ:RS}
theorem Stp.in0 {w w1 w2:World} {m g:Nat} {B B1:RB} {E:List Nat} (h1:Below w.heap.size w w1) (h2:Stp w1 w2 m g B B1 E):Stp w w2 m g B B1 E :=
 ((Stp.later h1).trans h2).wide (fun q hq => .inl (by simpa using hq))
theorem Stp.on {w w1 w2:World} {m g:Nat} {B B1:RB} {E:List Nat} {S:Nat→Prop} (h1:Stp w w1 m g B B1 E) (hk:Keeps S w1 w2) (hS:∀q,S q→q∈rOwn m g B1):Stp w w2 m g B B1 E :=
 (h1.trans (⟨hk.mono (fun q _ h=>hS q h),fun q hq => .inl hq,fun q hq => .inl hq⟩:Stp w1 w2 m g B1 B1 [])).wide (fun q hq => .inl (by simpa using hq))
set_option maxRecDepth 100000 in
set_option maxHeartbeats 8000000 in
theorem rr_mine (h:Rr w m g B ρ) (i:Nat) (x:Xc) (hi:ρ.xs[i]? = some x) (hxl:ρ.xs.length≤1000000) (R:Rc) (iv lw:Value) (hok:RcOk R) (hsl:RcSl w R iv lw) (hE:∀k∈blk iv++blk lw,k<w.heap.size∧k∉rOwn m g B) (hi1:R.ims.length≤1) (hpg:∀y∈R.ims,y.1<6) (hlen:B.Q.length≤1000000∧ρ.ats.length≤1000000) (hfin:0≤ρ.fin∧ρ.fin≤100000000000) (hroom : -100000000000≤ρ.room∧ρ.room≤100000000000) :
  Calls Tryz.prog 90 #[.pointer (some ⟨m,0,none⟩),.int .i64 i,.agg (rcC R iv lw)] w fun e w' =>
   (
    (ρ.room<((rcS R).size:Int)+2∧e = .returned (.bool false)∧Below w.heap.size w w') ∨
    (¬ρ.room<((rcS R).size:Int)+2∧e = .returned (.bool true)∧∃B',Rr w' m g B' (ρ.mined i x R)∧Stp w w' m g B B' (blk iv++blk lw)∧B'.xv=B.xv)):=by
 have hb0:Below w.heap.size w (w.alloc (.cells (rcC R iv lw) 65)):=bA bR
 have HW:=Hd (rr_write (h.later hb0) R iv lw hok (hsl.later hb0) (fun k hk=>⟨Nat.lt_of_lt_of_le (hE k hk).1 hb0.size,(hE k hk).2⟩) hi1 hpg hlen hfin hroom)
 have HB0:=Hd hb0
 obtain⟨fi,hfi⟩:∃r,ρ.fin=r:=⟨_,rfl⟩
 have C4:(w.alloc (.cells (rcC R iv lw) 65)).cell? ⟨m,4,none⟩=some (.int .i64 fi):=by have:=cell_at (h.later hb0).cell 4;rw[←hfi];exact this
 have HQ:Hid ((w.alloc (.cells (rcC R iv lw) 65)).heap[w.heap.size]? = some (.cells (rcC R iv lw) 65 (0,0))):=hN rfl
 have hfiN:=Hd hfi
 have hiN:=Hd hi
 have hxN:=Hd hxl
 obtain⟨rm,hrm⟩:∃r,ρ.room<((rcS R).size:Int)+2↔r:=⟨_,Iff.rfl⟩
 rw[hrm]at HW ⊢
 clear h hsl hE hpg hok hi hxl hi1 hlen hfin hroom hfi hb0 hrm
 go_enter Tryz.func90,Tryz.ntmps90
 go_wp2_with (refine wpList_load_row rfl 65 _ rfl _ rfl 65 _ _ _ HQ.out Tryz.underlying65 rfl (by kernel_rfl) ?_)
 refine(HW.out).mono ?_
 clear C4 HQ HW
 rintro e w2 (⟨hr,rfl,hb2⟩ | ⟨hr,rfl,B',h2,hst,hbxv⟩)
 ·have hrN:=Hd hr
  have HB2:=Hd (bT HB0.out hb2)
  clear hr hb2
  go_wp2_with fail
  go_ret
  exact .inl ⟨hrN.out,rfl,HB2.out⟩
 have hrN:=Hd hr
 have H2:=Hd h2
 have HST:=Hd (Stp.in0 HB0.out hst)
 replace hbxv:=Hd hbxv
 clear hr h2 hst
 obtain⟨xa,xc,hxv⟩:=H2.out.xs.form
 obtain⟨n,hn⟩:∃n,ρ.xs.length=n:=⟨_,rfl⟩
 rw[show (ρ.wrote R).xs.length=n from hn]at hxv
 have hin:i<n:=by rw[←hn];exact(List.getElem?_eq_some_iff.1 hiN.out).1
 have hox:OwnS w2 112 6 (.slice xa n xc) n (xcV ρ.xs):=by have:=H2.out.xs;rw[hxv,show (ρ.wrote R).xs.length=n from hn]at this;exact this
 obtain⟨gx,rfl⟩:=hox.spot (by omega)
 have C0:w2.cell? ⟨m,0,none⟩=some (.slice (some ⟨gx,0,none⟩) n xc):=by have:=cell_at H2.out.cell 0;rw[←hxv];exact this
 have hr:=flat_range xcL 6 xcL_length hox i x hiN.out
 have c1:w2.cell? ⟨gx,i*6+1,none⟩=some (.int .i64 x.first):=hr 1 _ rfl
 have c2:w2.cell? ⟨gx,i*6+2,none⟩=some (.int .i64 x.last):=hr 2 _ rfl
 have F1:=own_free hox (i*6+1)
 have F2:=own_free hox (i*6+2)
 have hiI:(i:Int)<n:=by omega
 have hi0:(0:Int)≤i:=by omega
 have hxvN:=Hd hxv
 have hgx:Hid (gx∈rOwn m g B'):=own_x (by rw[hxv];simp[blk,Value.ownBlock])
 have hinN:=Hd hin
 have hnN:=Hd hn
 clear hr hox hxv hin hn
 obtain⟨f0,hf0⟩:∃r,x.first=r:=⟨_,rfl⟩
 rw[hf0]at c1
 have hf0N:=Hd hf0
 clear hf0
 by_cases hz:f0=0
 ·subst hz
  go_upto_region 6 with fail
  obtain⟨hP,hkP⟩:=H2.out.setX hxvN.out i 1 x {x with first:=fi} (.int .i64 fi) hiN.out (by omega) rfl
  refine name_world (fun W=>Rr W m g B' {ρ.wrote R with xs:=ρ.xs.set i {x with first:=fi}}∧Stp w W m g B B' (blk iv++blk lw)) ⟨hP,HST.out.on hkP (fun q e=>e ▸ hgx.out)⟩ ?_
  rintro W ⟨h3,hst3⟩
  have H3:=Hd h3
  have HST3:=Hd hst3
  have hox:OwnS W 112 6 (.slice (some ⟨gx,0,none⟩) n xc) (ρ.xs.set i {x with first:=fi}).length (xcV (ρ.xs.set i {x with first:=fi})):=by have:=h3.xs;rw[hxvN.out]at this;exact this
  rw[List.length_set,hnN.out]at hox
  have C0':W.cell? ⟨m,0,none⟩=some (.slice (some ⟨gx,0,none⟩) n xc):=by have:=cell_at h3.cell 0;rw[←hxvN.out];exact this
  have F2':=own_free hox (i*6+2)
  have c2':W.cell? ⟨gx,i*6+2,none⟩=some (.int .i64 x.last):=flat_range xcL 6 xcL_length hox i {x with first:=fi} (by rw[List.getElem?_set_self (by rw[hnN.out];exact hinN.out)]) 2 _ rfl
  clear h3 hst3 hox hP hkP C0 F1 F2 c1 c2
  go_wp2_with fail
  go_ret
  obtain⟨hP,hkP⟩:=H3.out.setX hxvN.out i 2 {x with first:=fi} {x with first:=fi,last:=fi} (.int .i64 fi) (by show (ρ.xs.set i _)[i]? = _;rw[List.getElem?_set_self (by rw[hnN.out];exact hinN.out)]) (by omega) rfl
  refine .inr ⟨hrN.out,rfl,B',?_,HST3.out.on hkP (fun q e=>e ▸ hgx.out),hbxv.out⟩
  unfold RS.mined
  rw[if_pos hf0N.out,hfiN.out]
  simp only[List.set_set]at hP
  exact hP
 ·have hzd:decide (f0=0)=false:=decide_eq_false hz
  have hzN:=Hd hz
  go_wp2_with fail
  go_ret
  obtain⟨hP,hkP⟩:=H2.out.setX hxvN.out i 2 x {x with last:=fi} (.int .i64 fi) hiN.out (by omega) rfl
  refine .inr ⟨hrN.out,rfl,B',?_,HST.out.on hkP (fun q e=>e ▸ hgx.out),hbxv.out⟩
  unfold RS.mined
  rw[if_neg (by rw[hf0N.out];exact hzN.out),hfiN.out]
  exact hP
end
end Go.Proofs.YtimomjheanfbmaaGreatDoor.G
namespace Go.Proofs.YtimomjheanfbmaaGreatDoor.G
open Go.RowKit
theorem results_row_cell {P:Program} {fn:Func} {p:Tmp} {ty:TypeId} (h:fn.results = #[.cell p ty]) (tmps:Array Value) (w:World) (g:Nat) (t:TypeId) (cs:Array Value) (fr:Nat×Nat) (d:TypeDesc)
  (hp:tmps.getD p undef = .pointer (some ⟨g,0,none⟩)) (hg:w.heap[g]? = some (.cells cs t fr))
  (hu:P.underlying ty=some d) (hd:(match d with | .struct _ | .array _ _=>true | _=>false)=true) (hi:(P.info? ty).map (·.size)=some cs.size) :
  (results fn tmps).run P w = .ok (.agg cs) w:=by
 have hp':tmps[p]?.getD undef = .pointer (some ⟨g,0,none⟩):=by simpa using hp
 simp[results,h,hp',asAddr,run_loadVar_row w g t ty cs fr d hg hu hd hi]
def RsS (m g ub pi:Nat) (U:Array Value) (P:Pg) (w:World):Prop:=w.cell? ⟨m,6,none⟩=some (.slice (some ⟨g,0,none⟩) 6 6)∧w.heap[ub]? = some (.cells U 42 (0,0))∧w.cell? ⟨ub,2,none⟩=some (.int .i64 pi)∧w.rangeAt g (pi*16) (pgC P).toList
theorem RsS.keep {m g ub pi:Nat} {U:Array Value} {P:Pg} {S:Nat→Prop} {w w':World} (h:RsS m g ub pi U P w) (hk:Keeps S w w') (h1:¬S m) (h2:¬S ub) (h3:¬S g):RsS m g ub pi U P w' :=
 ⟨cell_keepS hk h1 h.1,hk.keep h.2.1 h2,cell_keepS hk h2 h.2.2.1,fun j v hj=>cell_keepS hk h3 (h.2.2.2 j v hj)⟩
section
variable {w w':World} {m g:Nat} {B:RB} {ρ:RS}
set_option maxRecDepth 100000 in
set_option maxHeartbeats 8000000 in
theorem rr_restored (h:Rr w m g B ρ) (u:Un) (pi ki:Nat) (hup:u.up=pi) (hul:u.ul=ki) (hpi:pi<6) (hki:ki<6) :
  Calls Tryz.prog 91 #[.pointer (some ⟨m,0,none⟩),.agg (unL u).toArray] w fun e w'=>e = .returned (.agg (imA ((pi:Int),setCl (ρ.f pi) ki u.bs u.bd)))∧Below w.heap.size w w':=by
 obtain⟨uk,us,uq,ul,key,bs,bd⟩:=u
 dsimp only at hup hul ⊢
 subst hup hul
 have hU:(unL {uk:=uk,us:=us,up:=(pi:Int),ul:=(ki:Int),key:=key,bs:=bs,bd:=bd}).toArray = #[.int .i64 uk,.int .i64 us,.int .i64 pi,.int .i64 ki,.string key,.int .i64 bs,.string bd]:=rfl
 rw[hU]
 clear hU
 obtain⟨P,hP⟩:∃P,ρ.f pi=P:=⟨_,rfl⟩
 rw[hP]
 have hb0:Below w.heap.size w ((w.alloc (.cells #[.int .i64 uk,.int .i64 us,.int .i64 pi,.int .i64 ki,.string key,.int .i64 bs,.string bd] 42)).alloc (.cells (imA (0,pageZ)) 51)):=bA (bA bR)
 have H0:=h.later hb0
 have HR0:=row_at H0.pg pi hpi
 rw[hP]at HR0
 have HU0:((w.alloc (.cells #[.int .i64 uk,.int .i64 us,.int .i64 pi,.int .i64 ki,.string key,.int .i64 bs,.string bd] 42)).alloc (.cells (imA (0,pageZ)) 51)).heap[w.heap.size]? = some (.cells #[.int .i64 uk,.int .i64 us,.int .i64 pi,.int .i64 ki,.string key,.int .i64 bs,.string bd] 42 (0,0)):=hO (hN rfl)
 have HI0:((w.alloc (.cells #[.int .i64 uk,.int .i64 us,.int .i64 pi,.int .i64 ki,.string key,.int .i64 bs,.string bd] 42)).alloc (.cells (imA (0,pageZ)) 51)).heap[w.heap.size+1]? = some (.cells (imA (0,pageZ)) 51 (0,0)):=hN (by simp)
 have C6:=cell_at H0.cell 6
 have hmlt:=Hd h.mlt
 have hglt:Hid (g<w.heap.size):=h.lt g own_g
 have hS0:RsS m g w.heap.size pi #[.int .i64 uk,.int .i64 us,.int .i64 pi,.int .i64 ki,.string key,.int .i64 bs,.string bd] P ((w.alloc (.cells #[.int .i64 uk,.int .i64 us,.int .i64 pi,.int .i64 ki,.string key,.int .i64 bs,.string bd] 42)).alloc (.cells (imA (0,pageZ)) 51)).drew:=⟨C6,HU0,cell_at HU0 2,HR0⟩
 have HID:Hid (((w.alloc (.cells #[.int .i64 uk,.int .i64 us,.int .i64 pi,.int .i64 ki,.string key,.int .i64 bs,.string bd] 42)).alloc (.cells (imA (0,pageZ)) 51)).drew.heap[w.heap.size+1]? = some (.cells (imA (0,pageZ)) 51 (0,0))):=HI0
 have hBd:Hid (Below w.heap.size w ((w.alloc (.cells #[.int .i64 uk,.int .i64 us,.int .i64 pi,.int .i64 ki,.string key,.int .i64 bs,.string bd] 42)).alloc (.cells (imA (0,pageZ)) 51)).drew):=bD hb0
 have hpiI:(pi:Int)<6:=by omega
 have hpi0:(0:Int)≤pi:=by omega
 have hkiI:(ki:Int)<6:=by omega
 have hki0:(0:Int)≤ki:=by omega
 have hkiN:=Hd hki
 clear h hP H0 HR0 HU0 HI0 C6 hpi hki hb0
 go_enter Tryz.func91,Tryz.ntmps91
 go_upto_region 1 with fail
 refine wp_region_held_drew (S:=RsS m g w.heap.size pi #[.int .i64 uk,.int .i64 us,.int .i64 pi,.int .i64 ki,.string key,.int .i64 bs,.string bd] P) (by kernel_rfl) hS0 (fun hHeld=>?_)
 refine tx4 0 hHeld ?_
 go_frame
 refine tx4 1 hHeld ?_
 go_frame
 refine tx4 2 hHeld ?_
 go_frame
 refine tx4 3 hHeld ?_
 go_frame
 refine tx4 4 hHeld ?_
 go_frame
 refine tx4 5 hHeld ?_
 go_frame
 refine tx4 6 hHeld ?_
 go_frame
 refine tk 7 (v := .agg (pgC P)) rfl (yieldsIf_load_mid (by rfl) _ _ rfl g (pi*16) rfl (pgC P).toList _ (fun _ h=>h.2.2.2) Tryz.underlying49 rfl (by kernel_rfl)) hHeld ?_
 go_frame
 refine rd 8 (fun K hK=>?_)
 go_simp
 have HN1:Hid ((((w.alloc (.cells #[.int .i64 uk,.int .i64 us,.int .i64 pi,.int .i64 ki,.string key,.int .i64 bs,.string bd] 42)).alloc (.cells (imA (0,pageZ)) 51)).drew.alloc (.cells (pgC pageZ) 49)).heap[w.heap.size+1+1]? = some (.cells (pgC pageZ) 49 (0,0))):=hN (by simp)
 have HI1:Hid ((((w.alloc (.cells #[.int .i64 uk,.int .i64 us,.int .i64 pi,.int .i64 ki,.string key,.int .i64 bs,.string bd] 42)).alloc (.cells (imA (0,pageZ)) 51)).drew.alloc (.cells (pgC pageZ) 49)).heap[w.heap.size+1]? = some (.cells (imA (0,pageZ)) 51 (0,0))):=hO HID.out
 have HB1:Hid (Below w.heap.size w (((w.alloc (.cells #[.int .i64 uk,.int .i64 us,.int .i64 pi,.int .i64 ki,.string key,.int .i64 bs,.string bd] 42)).alloc (.cells (imA (0,pageZ)) 51)).drew.alloc (.cells (pgC pageZ) 49))):=bA hBd.out
 have hS1:Hid (RsS m g w.heap.size pi #[.int .i64 uk,.int .i64 us,.int .i64 pi,.int .i64 ki,.string key,.int .i64 bs,.string bd] P (((w.alloc (.cells #[.int .i64 uk,.int .i64 us,.int .i64 pi,.int .i64 ki,.string key,.int .i64 bs,.string bd] 42)).alloc (.cells (imA (0,pageZ)) 51)).drew.alloc (.cells (pgC pageZ) 49))):=hS0.keep ((Keeps.refl (fun _=>False) _).alloc _) (fun h=>h) (fun h=>h) (fun h=>h)
 refine hK.out _ _ hS1.out (fun hHeld=>?_)
 clear hK K
 try go_frame
 refine rd 9 (fun K hK=>?_)
 refine step_store_whole rfl 49 _ _ rfl (w.heap.size+1+1) (pgC P) rfl rfl 49 _ HN1.out rfl (by kernel_rfl) (pgC_one _) ?_
 intro w2 HP2 K2
 have hS2:Hid (RsS m g w.heap.size pi #[.int .i64 uk,.int .i64 us,.int .i64 pi,.int .i64 ki,.string key,.int .i64 bs,.string bd] P w2):=hS1.out.keep K2.out (fun e=>by have:=hmlt.out;omega) (fun e=>by omega) (fun e=>by have:=hglt.out;omega)
 have HI2:=Hd (K2.out.keep HI1.out (fun e=>by omega))
 have HU2:=Hd hS2.out.2.1
 have HB2:Hid (Below w.heap.size w w2):=((Keeps.of_below (fun _=>False) HB1.out).trans K2.out (fun q hq e=>by omega)).below
 refine hK.out _ _ hS2.out (fun hHeld=>?_)
 clear hK K K2 hS0 hS1 hS2 HN1 HI1 HB1 HID hBd
 try go_frame
 clear hHeld
 refine wpAnyH_done (by kernel_rfl) ?_ _
 have U3:w2.cell? ⟨w.heap.size,3,none⟩=some (.int .i64 ki):=cell_at HU2.out 3
 have U5:Hid (w2.rangeAt w.heap.size 5 [.int .i64 bs,.string bd]):=World.rangeAt_of_block HU2.out 5 2
 go_upto_region 3 with(first
  | (refine wpList_load_mid rfl 33 _ rfl w.heap.size 5 rfl [.int .i64 bs,.string bd] _ U5.out Tryz.underlying33 rfl (by kernel_rfl) ?_)
  | (refine wpList_store_cl rfl _ _ rfl (w.heap.size+1+1) ki P bs bd _ rfl rfl HP2.out hkiN.out ?_;intro w3 HP3 K3;(have HU3:=Hd (K3.out.keep HU2.out (fun e=>by omega)));(have HI3:=Hd (K3.out.keep HI2.out (fun e=>by omega)));(have HB3:Hid (Below w.heap.size w w3):=((Keeps.of_below (fun _=>False) HB2.out).trans K3.out (fun q hq e=>by omega)).below);clear K3 HP2))
 obtain⟨P',hP'⟩:∃P',setCl P ki bs bd=P':=⟨_,rfl⟩
 rw[hP']at HP3
 have hPN:=Hd hP'
 have V2:w3.cell? ⟨w.heap.size,2,none⟩=some (.int .i64 pi):=cell_at HU3.out 2
 have hpc:pgC P' = #[.int .i64 P'.kind,.int .i64 P'.level,.int .i64 P'.store,.int .i64 P'.next,.int .i64 (P'.st 0),.string (P'.dt 0),.int .i64 (P'.st 1),.string (P'.dt 1),.int .i64 (P'.st 2),.string (P'.dt 2),.int .i64 (P'.st 3),.string (P'.dt 3),.int .i64 (P'.st 4),.string (P'.dt 4),.int .i64 (P'.st 5),.string (P'.dt 5)]:=rfl
 replace hpc:=Hd hpc
 clear hP' U3 U5 HU2 HU3 HI2 HB2 hkiN
 go_wp2_with (first
  | (refine wpList_load_row rfl 49 _ rfl _ rfl 49 _ _ _ HP3.out Tryz.underlying49 rfl (by kernel_rfl) ?_;(have hpc':=hpc.out);clear HP3)
  | (refine wpList_store_whole rfl 51 _ _ rfl _ (imA ((pi:Int),P')) rfl (by unfold imA imL;rw[hpc.out];rfl) _ (imA (0,pageZ)) HI3.out rfl (by kernel_rfl) (imA_one _) ?_;intro w4 HI4 K4))
 refine bodyPost_ret (results_row_cell Tryz.results91 _ _ _ _ _ _ _ rfl HI4.out Tryz.underlying51 rfl (by kernel_rfl)) rfl ?_
 exact⟨by rw[hPN.out],((Keeps.of_below (fun _=>False) HB3.out).trans K4.out (fun q hq e=>by omega)).below⟩
end
end Go.Proofs.YtimomjheanfbmaaGreatDoor.G
