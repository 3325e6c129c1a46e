import Derived.Test.YtimomjheanfbmaaGreatDoorQaa
import Derived.Test.YtimomjheanfbmaaGreatDoorRbh
import Derived.Test.YtimomjheanfbmaaGreatDoorRbd
set_option linter.unusedSimpArgs false
set_option linter.unusedVariables false
namespace Go.Proofs.YtimomjheanfbmaaGreatDoor.G
open Go.RowKit
theorem lcl_info:(Tryz.prog.info? 35).map (·.size)=some 8:=by kernel_rfl
theorem un_info:(Tryz.prog.info? 42).map (·.size)=some 7:=by kernel_rfl
theorem un_cells (u:Un):∀v∈unL u,v.oneCell'=true:=fun v hv=>by
 simp only[unL,List.mem_cons,List.not_mem_nil,or_false]at hv
 rcases hv with h | h | h | h | h | h | h <;> (subst h;rfl)
def lcZ:LCall:=⟨0,0,0,0,0,⟨#[]⟩,0,0⟩
theorem lcL_cells (c:LCall):∀v∈lcL c,v.oneCell'=true:=fun v hv=>by
 simp only[lcL,List.mem_cons,List.not_mem_nil,or_false]at hv
 rcases hv with h | h | h | h | h | h | h | h <;> (subst h;rfl)
theorem fl_same (a:Nat) (h:a<2^53):Ieee.double.order (flB a) (flB a)=some .eq:=by rw[fl_order a a h h];exact congrArg some (Nat.compare_eq_eq.2 rfl)
set_option maxRecDepth 100000 in
theorem cx_new_bad (lp p:Nat) (fresh:Int) (hf:fresh<1) (w:World) :
  Calls Tryz.prog 52 #[.pointer (some ⟨lp,0,none⟩),.pointer (some ⟨p,0,none⟩),.int .i64 fresh] w fun e w'=>e = .returned (.tuple #[.pointer none,.int .i64 1])∧Below w.heap.size w w':=by
 have hd:decide (fresh<1)=true:=decide_eq_true hf
 go_enter Tryz.func52,Tryz.ntmps52
 go_wp2_with fail
 go_ret2
 exact⟨rfl,bR⟩
set_option maxRecDepth 100000 in
theorem cx_made_bad (w:World) (fresh:Int) (hf:fresh<1) :
  Calls Tryz.prog 10 #[.int .i64 fresh] w fun e w'=>∃lp p:Nat,e = .returned (.tuple #[.pointer (some ⟨lp,0,none⟩),.pointer (some ⟨p,0,none⟩),.pointer none,.int .i64 1])∧Keeps (Own w []) w w':=by
 have HN:=Hd (dsk_new 152 (by omega) (by omega) w)
 rw[show ((152:Nat):Int)=152 from rfl]at HN
 have hfN:=Hd hf
 clear hf
 go_enter Tryz.func10,Tryz.ntmps10
 go_wp2_with fail
 refine(HN.out).mono ?_
 rintro e w2 ⟨dp,Sd,rfl,hd,hb,hS⟩
 have HC:=Hd (lk_create (w0:=w) (L:=[]) (by omega) (by omega) hd (fun k hk=>⟨hS k hk,fun h'=>by cases h'⟩) (fun k hk=>by cases hk) hb)
 have HK2:Hid (Keeps (Own w []) w w2):=Keeps.of_below _ hb
 clear HN hd hb hS
 go_wp2_with fail
 refine(HC.out).mono ?_
 rintro e w3 ⟨lp,Sl,Sd2,rfl,hlk,hk3⟩
 have HP:=Hd (kx_pool hlk 6 4 (by omega) (by omega) (by omega) (by omega) (by omega))
 rw[show ((6:Nat):Int)=6 from rfl,show ((4:Nat):Int)=4 from rfl]at HP
 have HK3:=Hd (HK2.out.trans hk3 (fun _ _ h=>h))
 clear HC hlk hk3
 go_wp2_with fail
 refine(HP.out).mono ?_
 rintro e w4 ⟨p,rfl,hq,hk4⟩
 have HCn:=Hd (cx_new_bad lp p fresh hfN.out w4)
 have HK4:=Hd (HK3.out.trans hk4 (fun _ _ h=>h))
 clear HP hq hk4
 go_wp2_with fail
 refine(HCn.out).mono ?_
 rintro e w5 ⟨rfl,hb5⟩
 have HK5:Hid (Keeps (Own w []) w w5):=HK4.out.trans (Keeps.of_below (fun _=>False) hb5) (fun _ _ h=>h.elim)
 clear hb5 HCn
 go_wp2_with fail
 refine bodyPost_ret (results_tmp4 Tryz.results10 _ _ _) rfl ?_
 exact⟨lp,p,rfl,HK5.out⟩
theorem keeps_below {w w':World} {L:List Nat} (h:Keeps (Own w L) w w'):Below w.heap.size w w':=h.belowB (Nat.le_refl _) (fun k hk=>hk.1)
structure Sv (w0 w:World) (s:Value) (S:List Int):Prop where
 own:OwnS w 3 1 s S.length (intV S)
 hi:∀q∈blk s,w0.heap.size≤q
theorem Sv.keep {w0 w w':World} {s:Value} {S:List Int} (h:Sv w0 w s S) {L:List Nat} (hk:Keeps (Own w0 L) w w') (hL:∀q∈blk s,q∈L):Sv w0 w' s S:=⟨h.own.keep hk (fun q hq hs=>hs.2 (hL q hq)),h.hi⟩
theorem Sv.later {w0 w w':World} {s:Value} {S:List Int} (h:Sv w0 w s S) (hb:Below w.heap.size w w'):Sv w0 w' s S:=⟨h.own.keep (Keeps.of_below (fun _=>False) hb) (fun _ _ h=>h),h.hi⟩
set_option maxRecDepth 100000 in
set_option maxHeartbeats 4000000 in
theorem chainRuns_walk (fresh:Int) (v:Value) (cs:List LCall) (w:World) (h:LcIs w v cs) :
  Calls Tryz.prog 8 #[.int .i64 fresh,v] w fun e w'=>e = .returned (.bool true)∧Below w.heap.size w w':=by
 have HA:=Hd awake18
 obtain⟨va,vc,rfl⟩:=h.form
 have hmx:=h.max
 unfold maxLen at hmx
 obtain⟨n,hn⟩:∃n,cs.length=n:=⟨_,rfl⟩
 rw[hn]at h hmx ⊢
 replace hn:=Hd hn
 have H:=Hd h
 clear h
 go_enter Tryz.func8,Tryz.ntmps8
 go_wp2_with fail
 refine(HA.out _).mono ?_
 rintro e w1 ⟨rfl,hb⟩
 have HB1:=Hd hb
 clear hb HA
 by_cases hf1:fresh<1
 ·have hd1:decide (fresh<1)=true:=decide_eq_true hf1
  have HM:=Hd (cx_made_bad w1 fresh hf1)
  go_wp2_with fail
  refine(HM.out).mono ?_
  rintro e w2 ⟨lp,p,rfl,hk⟩
  have HB2:=Hd (bT HB1.out (keeps_below hk))
  clear hk HM
  go_wp2_with fail
  go_ret
  exact⟨rfl,HB2.out⟩
 have hd1:decide (fresh<1)=false:=decide_eq_false hf1
 have HM:=Hd (cx_made w w1 [] (fun k hk=>by cases hk) HB1.out fresh (by omega))
 go_wp2_with fail
 refine(HM.out).mono ?_
 rintro e w2 ⟨c,lp,p,dp,lb,mb,rfl,hx,-⟩
 have HX2:=Hd hx
 clear hx HM
 by_cases hf2:1073741824<fresh
 ·have hd2:decide (1073741824<fresh)=true:=decide_eq_true hf2
  have HB2:Hid (Below w.heap.size w w2):=HX2.out.bel
  clear HX2
  go_wp2_with fail
  go_ret
  exact⟨rfl,HB2.out⟩
 have hd2:decide (1073741824<fresh)=false:=decide_eq_false hf2
 have HN:=Hd (rr_new 54 6912 fresh w2)
 go_wp2_with fail
 refine(HN.out).mono ?_
 rintro e w3 ⟨m,g,rfl,hr,hb,hm1,hg1⟩
 have hSt:StP (Ok 0) w w3 [] c lp p dp m g:=by
  have hown:rOwn m g RB.none++(rIm RB.none++[])=[m,g]:=rfl
  have hw0:=HX2.out.bel.size
  refine⟨lb,mb,0,.slice none 0 0,CS.init fresh,RB.none,RS.none 54 6912 fresh,⟨?_,hr,fun q hq=>?_,fun q hq=>by simp[rIm,RB.none]at hq⟩,rfl,Sm.init fresh (by omega),Nat.zero_le _,Nat.zero_le _,Nat.zero_le _,⟨by show 1≤fresh;omega,by show fresh≤_;omega⟩,?_,Nat.zero_le _,by omega⟩
  ·rw[hown]
   refine HX2.out.more hb [m,g] (fun k hk=>?_) (fun k hk => .inr (by simp at hk;rcases hk with rfl | rfl <;> assumption))
   exact hr.lt k (by rw[show rOwn m g RB.none=[m,g] from rfl];exact hk)
  ·have hq':q∈[m,g]:=hq
   refine⟨?_,fun h=>by cases h⟩
   simp at hq'
   rcases hq' with rfl | rfl <;> omega
  ·show (CS.init fresh).org+lenL ([]:List ByteArray)≤54
   rw[lenL]
   show 54*1+P0.size+0≤54
   exact Nat.le_refl _
 have HSt:=Hd hSt
 clear hSt hr hb hm1 hg1 HN HX2 HB1 hf1 hf2 hd1 hd2
 have HSv:Hid (Sv w w3 nilS []):=⟨OwnS.nil _ _ _,fun q hq=>by simp[nilS,blk,Value.ownBlock]at hq⟩
 go_wp2_with fail
 go_loopw [61,10] (fun x s wr=>∃(k:Nat) (S:List Int),k≤n∧k≤200∧x = .int .i64 k∧Hid (StP (Ok k) w wr (blk s) c lp p dp m g)∧Hid (Sv w wr s S)∧S.length≤k) (fun x _ _=>n-(intOf x).toNat)
 case atStart=>exact⟨0,[],Nat.zero_le _,Nat.zero_le _,rfl,HSt,HSv,Nat.zero_le _⟩
 case round =>
  clear HSt HSv
  obtain⟨k,S,hk,hk2,rfl,HSt,HSv,hS⟩:=hrel
  by_cases hkn:k<n
  rotate_left
  ·obtain rfl:k=n:=by omega
   have hkI:¬(k:Int)<k:=by omega
   have HAg:=Hd (law_agree HSt.out)
   have HBr:=Hd HSt.out.bel
   clear HSt HSv hS
   go_wp2_with fail
   refine(HAg.out).mono ?_
   rintro e wa ⟨rfl,hka⟩
   have HBa:Hid (Below w.heap.size w wa):=HBr.out.trans (hka.belowB HBr.out.size (fun q hq=>hq.1))
   clear hka HAg HBr
   go_wp2_with fail
   go_ret
   exact⟨rfl,HBa.out⟩
  obtain⟨y,hy⟩:∃y,cs[k]? = some y:=⟨_,List.getElem?_eq_getElem (by rw[hn.out];exact hkn)⟩
  obtain⟨b,off,rfl,hbl,hrg,hyo⟩:=H.out.at k y hy
  have HRg:=Hd (range_below hrg hbl HSt.out.bel)
  have hkI:(k:Int)<n:=by omega
  have hk0:(0:Int)≤k:=by omega
  have hkw:IntKind.i64.wrap ((k:Int)+1)=(k:Int)+1:=by rw[IntKind.wrap_i64];omega
  have HN:Hid ((wr.alloc (.cells (lcL lcZ).toArray 35)).heap[wr.heap.size]? = some (.cells (lcL lcZ).toArray 35 (0,0))):=hN rfl
  have hyo':=Hd hyo
  have hkN:=Hd hkn
  have hSN:=Hd hS
  clear hrg hy hyo hk hkn hS
  by_cases h200:k=200
  ·have hke:((k:Int)==200)=true:=by rw[h200];rfl
   clear h200
   go_upto_region 13 with(first
    | (refine wpList_load_mid rfl 35 _ rfl b (off+k*8) rfl (lcL y) _ HRg.out Tryz.underlying35 rfl lcl_info ?_)
    | (refine wpList_store_whole rfl 35 _ _ rfl _ (lcL y).toArray rfl rfl _ _ HN.out rfl lcl_info (fun v hv=>lcL_cells y v (by simpa using hv)) ?_;intro w5 HC5 K5;(have HK5:Hid (Keeps (fun _=>False) wr w5):=((Keeps.refl (fun _=>False) wr).alloc _).trans K5.out (fun q hq e=>by omega));clear HN K5))
   have HAg:=Hd (law_agree (HSt.out.later HK5.out.below))
   have HBr:Hid (Below w.heap.size w w5):=(HSt.out.later HK5.out.below).bel
   clear HSt HSv HC5 HK5
   go_wp2_with fail
   refine(HAg.out).mono ?_
   rintro e wa ⟨rfl,hka⟩
   have HBa:Hid (Below w.heap.size w wa):=HBr.out.trans (hka.belowB HBr.out.size (fun q hq=>hq.1))
   clear hka HAg HBr
   go_wp2_with fail
   go_ret
   exact⟨rfl,HBa.out⟩
  have hke:((k:Int)==200)=false:=by simp;omega
  have hk200:Hid (k<200):=by show k<200;omega
  obtain⟨sa,sc,hsf⟩:=HSv.out.own.form
  subst hsf
  obtain⟨nS,hnS⟩:∃q,S.length=q:=⟨_,rfl⟩
  rw[hnS]at HSt HSv hSN ⊢
  have hnSN:=Hd hnS
  clear h200 hnS
  go_upto_block 2 with(first
   | (refine wpList_load_mid rfl 35 _ rfl b (off+k*8) rfl (lcL y) _ HRg.out Tryz.underlying35 rfl lcl_info ?_)
   | (refine wpList_store_whole rfl 35 _ _ rfl _ (lcL y).toArray rfl rfl _ _ HN.out rfl lcl_info (fun v hv=>lcL_cells y v (by simpa using hv)) ?_;intro w5 HC5 K5;(have HK5:Hid (Keeps (fun _=>False) wr w5):=((Keeps.refl (fun _=>False) wr).alloc _).trans K5.out (fun q hq e=>by omega));(have ck0:w5.cell? ⟨wr.heap.size,0,none⟩=some (.int .i64 y.kind):=cell_at HC5.out 0);clear HN K5))
  have HS5:=Hd (HSt.out.push HK5.out.below wr.heap.size (Nat.le_refl _) (block_lt HC5.out))
  have HV5:=Hd (HSv.out.later HK5.out.below)
  have hbr:Hid (w.heap.size≤wr.heap.size):=HSt.out.bel.size
  obtain⟨yb,hyb⟩:∃q,wr.heap.size=q:=⟨_,rfl⟩
  rw[hyb]at HC5 HS5 ck0 hbr ⊢
  have hyN:Hid (yb∈yb::blk (.slice sa nS sc)):=List.mem_cons_self ..
  have hsL:Hid (∀q∈blk (.slice sa nS sc),q∈yb::blk (.slice sa nS sc)):=fun q hq=>List.mem_cons_of_mem _ hq
  have hk1:Hid (k+1≤250):=by have:=hk200.out;show _≤_;omega
  clear hyb HK5 HSt HSv hke HRg
  go_cut [13,14,10] (fun e f s wx=>∃(cd:Int) (S':List Int) (sv:Value),sv=s∧e = .int .i64 cd∧f = .int .i64 cd∧Hid (StP (Ok (k+1)) w wx (yb::blk s) c lp p dp m g)∧Hid (Sv w wx s S')∧S'.length≤k+1)
  case first =>
   by_cases h0:y.kind=0
   ·have hq:(y.kind==0)=true:=by simpa using h0
    as_aux_lemma =>
     clear h0
     have HBg:=Hd (st_begin HS5.out)
     go_wp2_with fail
     refine(HBg.out).mono ?_
     rintro e w6 ⟨a,cd,rfl,hk6,hs6⟩
     have HV6:=Hd (HV5.out.keep hk6 hsL.out)
     have HBg2:=Hd (st_begin2 hs6 hk1.out)
     clear hk6 hs6 HBg HS5 HV5 HC5 ck0
     go_wp2_with fail
     refine(HBg2.out).mono ?_
     rintro e w7 ⟨rfl,hk7,hs7⟩
     have HV7:=Hd (HV6.out.keep hk7 hsL.out)
     have HS7:=Hd hs7
     have haa:(a==a)=true:=by simp
     have haa2:(a != a)=false:=by simp
     clear hk7 hs7 HBg2 HV6
     go_wp2_with fail
     go_meet
     exact⟨cd,S,_,rfl,rfl,rfl,HS7,HV7,by have:=hSN.out;have:=hnSN.out;omega⟩
   have g0:(y.kind==0)=false:=by simpa using h0
   by_cases h1:y.kind=1
   ·have hq:(y.kind==1)=true:=by simpa using h1
    as_aux_lemma =>
     clear h0 h1
     have HIm:=Hd (st_image HS5.out y)
     go_wp2_with (refine wpList_load_row rfl 35 _ rfl _ rfl 35 _ _ _ HC5.out Tryz.underlying35 rfl lcl_info ?_)
     refine(HIm.out).mono ?_
     rintro e w6 ⟨ib,U,pi,P,rfl,hib,hb6,hibl,hs6⟩
     have HI6:=Hd hib
     have HC6:=Hd ((Keeps.of_below (fun _=>False) hb6).keep HC5.out (fun h=>h))
     have HV6:=Hd (HV5.out.later hb6)
     have HS6:=Hd hs6
     have hib5:Hid (ib∉yb::blk (.slice sa nS sc)):=fun h=>by have:=HS5.out.lt ib h;omega
     have HNu:Hid ((w6.alloc (.cells #[.int .i64 0,.int .i64 0,.int .i64 0,.int .i64 0,.string ⟨#[]⟩,.int .i64 0,.string ⟨#[]⟩] 42)).heap[w6.heap.size]? = some (.cells #[.int .i64 0,.int .i64 0,.int .i64 0,.int .i64 0,.string ⟨#[]⟩,.int .i64 0,.string ⟨#[]⟩] 42 (0,0))):=hN rfl
     have hUo:Hid (∀v∈(unL U).toArray.toList,v.oneCell'=true):=fun v hv=>un_cells _ v (by simpa using hv)
     clear hib hb6 hibl hs6 HIm HS5 HV5 HC5 ck0
     go_upto_region 24 with(refine wpList_store_whole rfl 42 _ _ rfl _ (unL U).toArray rfl rfl _ _ HNu.out rfl un_info hUo.out ?_;intro w7 HU7 K7;(have hk7:Hid (Keeps (fun _=>False) w6 w7):=((Keeps.refl (fun _=>False) w6).alloc _).trans K7.out (fun q hq e=>by omega));(have HI7:=Hd (hk7.out.keep HI6.out (fun h=>h)));(have HC7:=Hd (hk7.out.keep HC6.out (fun h=>h)));(have HV7:=Hd (HV6.out.later hk7.out.below));clear HNu K7 HI6 HC6 HV6)
     have HS7:=Hd (HS6.out.push hk7.out.below w6.heap.size (Nat.le_refl _) (block_lt HU7.out))
     obtain⟨ub,hub⟩:∃q,w6.heap.size=q:=⟨_,rfl⟩
     rw[hub]at HU7 HS7 ⊢
     clear hk7 HS6 hub
     have HSd:Hid (StP (ImP k y U pi P) w w7.drew (ub::ib::yb::blk (.slice sa nS sc)) c lp p dp m g):=HS7.out.later (bD bR)
     have HId:Hid (w7.drew.heap[ib]? = some (.cells (imA ((pi:Int),P)) 51 (0,0))):=hDr HI7.out
     have HVd:Hid (Sv w w7.drew (.slice sa nS sc) S):=HV7.out.later (bD bR)
     have hibm:Hid (ib∈ub::ib::yb::blk (.slice sa nS sc)):=by show _∈_;simp
     have hsM:Hid (∀q∈blk (.slice sa nS sc),q∈ub::ib::yb::blk (.slice sa nS sc)):=fun q hq=>by simp[hq]
     have hkS:Hid (∀(W W':World),Keeps (Own w (ub::ib::yb::blk (.slice sa nS sc))) W W'→(W.cell? ⟨yb,1,none⟩=some (.int .i64 y.x)∧W.cell? ⟨yb,6,none⟩=some (.int .i64 y.more)∧W.rangeAt ub 0 (unL U))→(W'.cell? ⟨yb,1,none⟩=some (.int .i64 y.x)∧W'.cell? ⟨yb,6,none⟩=some (.int .i64 y.more)∧W'.rangeAt ub 0 (unL U))):=fun W W' hk h=>⟨cell_keepS hk (fun h=>h.2 (by simp)) h.1,cell_keepS hk (fun h=>h.2 (by simp)) h.2.1,range_keep hk (fun h=>h.2 (by simp)) h.2.2⟩
     have hS0:w7.drew.cell? ⟨yb,1,none⟩=some (.int .i64 y.x)∧w7.drew.cell? ⟨yb,6,none⟩=some (.int .i64 y.more)∧w7.drew.rangeAt ub 0 (unL U):=⟨cell_at HC7.out 1,cell_at HC7.out 6,fun a v hv=>by
      show w7.cell? _=_
      rw[cell_at HU7.out,Nat.zero_add,List.getElem?_toArray];exact hv⟩
     have HCh:=Hd (st_change HSd.out y.x y.more hyo'.out.2.1 hyo'.out.1 ib hibm.out HId.out)
     clear HSd HS7 HI7 HC7 HV7 HU7
     refine wp_region_held_drew (S:=fun W=>W.cell? ⟨yb,1,none⟩=some (.int .i64 y.x)∧W.cell? ⟨yb,6,none⟩=some (.int .i64 y.more)∧W.rangeAt ub 0 (unL U)) (by kernel_rfl) hS0 (fun hHeld=>?_)
     refine tx3 0 hHeld ?_
     go_frame
     refine tx3 1 hHeld ?_
     go_frame
     refine tx3 2 hHeld ?_
     go_frame
     refine tk 3 (v := .agg (unL U).toArray) rfl (yieldsIf_load_mid (by rfl) _ _ rfl ub 0 rfl (unL U) _ (fun _ h=>h.2.2) Tryz.underlying42 rfl (by kernel_rfl)) hHeld ?_
     go_frame
     refine tx3 4 hHeld ?_
     go_frame
     refine tx3 5 hHeld ?_
     go_frame
     refine tx3 6 hHeld ?_
     go_frame
     refine tx3 8 hHeld ?_
     go_frame
     refine tx3 9 hHeld ?_
     go_frame
     refine tx3 10 hHeld ?_
     go_frame
     refine tk 11 (v := .agg (unL U).toArray) rfl (yieldsIf_load_mid (by rfl) _ _ rfl ub 0 rfl (unL U) _ (fun _ h=>h.2.2) Tryz.underlying42 rfl (by kernel_rfl)) hHeld ?_
     go_frame
     refine tx3 12 hHeld ?_
     go_frame
     refine tx3 13 hHeld ?_
     go_frame
     refine tx3 14 hHeld ?_
     go_frame
     refine rd 7 (fun K hK=>?_)
     go_simp
     go_at_call 15
     refine(HCh.out).mono ?_
     rintro e w8 ⟨cd,rfl,hk8,hs8⟩
     have hS8:=hkS.out _ _ hk8 hS0
     have HI8:=Hd (hk8.keep HId.out (fun h=>h.2 hibm.out))
     have HV8:=Hd (HVd.out.keep hk8 hsM.out)
     have HCh2:=Hd (st_change2 hs8 hk1.out hyo'.out.1 ib hibm.out HI8.out)
     clear hk8 hs8 HCh HId HVd
     dsimp only
     refine hK.out _ _ hS8 (fun hHeld=>?_)
     clear hK K
     try go_frame
     refine rd 15 (fun K hK=>?_)
     go_simp
     go_at_call 38
     refine(HCh2.out).mono ?_
     rintro e w9 ⟨rfl,hk9,hs9⟩
     have hS9:=hkS.out _ _ hk9 hS8
     have HV9:=Hd (HV8.out.keep hk9 hsM.out)
     have HS9:=Hd hs9.pop.pop
     clear hk9 hs9 HCh2 HI8 HV8 hkS
     dsimp only
     refine hK.out _ _ hS9 (fun hHeld=>?_)
     clear hK K
     try go_frame
     refine tc 16 hHeld ?_
     go_frame
     refine tc 17 hHeld ?_
     go_frame
     clear hHeld
     refine wpAnyH_done (by kernel_rfl) ?_ _
     clear hS0 hS8 hS9
     go_wp2_with fail
     go_meet
     exact⟨cd,S,_,rfl,rfl,rfl,HS9,HV9,by have:=hSN.out;have:=hnSN.out;omega⟩
   have g1:(y.kind==1)=false:=by simpa using h1
   by_cases h2:y.kind=2
   ·have hq:(y.kind==2)=true:=by simpa using h2
    as_aux_lemma =>
     clear h0 h1 h2
     have cx:w5.cell? ⟨yb,1,none⟩=some (.int .i64 y.x):=cell_at HC5.out 1
     have cn:w5.cell? ⟨yb,7,none⟩=some (.int .i64 y.n):=cell_at HC5.out 7
     have hno:=HV5.out.own
     rw[hnSN.out]at hno
     by_cases hin:0≤y.n∧y.n<nS
     ·obtain⟨j,hj⟩:∃j:Nat,y.n=j:=⟨y.n.toNat,by omega⟩
      have hjn:j<nS:=by omega
      obtain⟨t,ht⟩:∃t,S[j]? = some t:=⟨_,List.getElem?_eq_getElem (by rw[hnSN.out];exact hjn)⟩
      obtain⟨gs,rfl⟩:=hno.spot (by omega)
      have cs5:w5.cell? ⟨gs,j,none⟩=some (.int .i64 t):=by
       have:=World.ownsRow.cells hno (g:=gs) rfl j _ (intV_get ht)
       rw[Addr.add_mid,Nat.zero_add]at this
       exact this
      rw[hj]at cn
      have j0:(0:Int)≤j:=by omega
      have jn:(j:Int)<nS:=by omega
      have d1:decide ((0:Int)≤(j:Int))=true:=decide_eq_true j0
      have d2:decide ((j:Int)<nS)=true:=decide_eq_true jn
      have HD:=Hd (st_back HS5.out y.x t)
      clear hno hin hj hjn ht
      go_wp2_with fail
      refine(HD.out).mono ?_
      rintro e w6 ⟨f,ok,rfl,hk6,hs6⟩
      have HV6:=Hd (HV5.out.keep hk6 hsL.out)
      have HC6:=Hd (hk6.keep HC5.out (fun h=>h.2 hyN.out))
      have HB6:=Hd hs6.bel
      have HP:=Hd (st_back2 hs6 hk1.out)
      try unfold kitV at HP
      clear ck0 cx cn cs5
      have ck0:w6.cell? ⟨yb,0,none⟩=some (.int .i64 y.kind):=cell_at HC6.out 0
      have cx:w6.cell? ⟨yb,1,none⟩=some (.int .i64 y.x):=cell_at HC6.out 1
      clear hk6 hs6 HD HS5 HV5 HC5 HC6
      go_wp2_with fail
      refine(HP.out).mono ?_
      rintro e w7 ⟨cd,rfl,hk7,ht,hf⟩
      have HV7:=Hd (HV6.out.keep hk7 hsL.out)
      cases ok with
      | false =>
       have hcd:=hf rfl
       have hcb:(cd != 0)=true:=by simpa using hcd
       have hcb2:(cd==0)=false:=by simpa using hcd
       have HBa:Hid (Below w.heap.size w w7):=HB6.out.trans (hk7.belowB HB6.out.size (fun q hq=>hq.1))
       clear hcd hf ht hk7 HP HV6 HV7 HB6 cx ck0
       go_wp2_with fail
       go_ret
       exact⟨rfl,HBa.out⟩
      | true =>
       obtain⟨rfl,hs7⟩:=ht rfl
       have HS7:=Hd hs7
       clear hf ht hk7 HP HV6 HB6 cx ck0 hs7
       go_wp2_with fail
       go_meet
       exact⟨cd,S,_,rfl,rfl,rfl,HS7,HV7,by have:=hSN.out;have:=hnSN.out;omega⟩
     have HD:=Hd (st_back HS5.out y.x y.n)
     by_cases hn0:0≤y.n
     ·have hnl:¬y.n<nS:=fun h=>hin ⟨hn0,h⟩
      have d1:decide (0≤y.n)=true:=decide_eq_true hn0
      have d2:decide (y.n<nS)=false:=decide_eq_false hnl
      clear hno hin
      go_wp2_with fail
      refine(HD.out).mono ?_
      rintro e w6 ⟨f,ok,rfl,hk6,hs6⟩
      have HV6:=Hd (HV5.out.keep hk6 hsL.out)
      have HC6:=Hd (hk6.keep HC5.out (fun h=>h.2 hyN.out))
      have HB6:=Hd hs6.bel
      have HP:=Hd (st_back2 hs6 hk1.out)
      try unfold kitV at HP
      clear ck0 cx cn
      have ck0:w6.cell? ⟨yb,0,none⟩=some (.int .i64 y.kind):=cell_at HC6.out 0
      have cx:w6.cell? ⟨yb,1,none⟩=some (.int .i64 y.x):=cell_at HC6.out 1
      clear hk6 hs6 HD HS5 HV5 HC5 HC6
      go_wp2_with fail
      refine(HP.out).mono ?_
      rintro e w7 ⟨cd,rfl,hk7,ht,hf⟩
      have HV7:=Hd (HV6.out.keep hk7 hsL.out)
      cases ok with
      | false =>
       have hcd:=hf rfl
       have hcb:(cd != 0)=true:=by simpa using hcd
       have hcb2:(cd==0)=false:=by simpa using hcd
       have HBa:Hid (Below w.heap.size w w7):=HB6.out.trans (hk7.belowB HB6.out.size (fun q hq=>hq.1))
       clear hcd hf ht hk7 HP HV6 HV7 HB6 cx ck0
       go_wp2_with fail
       go_ret
       exact⟨rfl,HBa.out⟩
      | true =>
       obtain⟨rfl,hs7⟩:=ht rfl
       have HS7:=Hd hs7
       clear hf ht hk7 HP HV6 HB6 cx ck0 hs7
       go_wp2_with fail
       go_meet
       exact⟨cd,S,_,rfl,rfl,rfl,HS7,HV7,by have:=hSN.out;have:=hnSN.out;omega⟩
     ·have d1:decide (0≤y.n)=false:=decide_eq_false hn0
      clear hno hin
      go_wp2_with fail
      refine(HD.out).mono ?_
      rintro e w6 ⟨f,ok,rfl,hk6,hs6⟩
      have HV6:=Hd (HV5.out.keep hk6 hsL.out)
      have HC6:=Hd (hk6.keep HC5.out (fun h=>h.2 hyN.out))
      have HB6:=Hd hs6.bel
      have HP:=Hd (st_back2 hs6 hk1.out)
      try unfold kitV at HP
      clear ck0 cx cn
      have ck0:w6.cell? ⟨yb,0,none⟩=some (.int .i64 y.kind):=cell_at HC6.out 0
      have cx:w6.cell? ⟨yb,1,none⟩=some (.int .i64 y.x):=cell_at HC6.out 1
      clear hk6 hs6 HD HS5 HV5 HC5 HC6
      go_wp2_with fail
      refine(HP.out).mono ?_
      rintro e w7 ⟨cd,rfl,hk7,ht,hf⟩
      have HV7:=Hd (HV6.out.keep hk7 hsL.out)
      cases ok with
      | false =>
       have hcd:=hf rfl
       have hcb:(cd != 0)=true:=by simpa using hcd
       have hcb2:(cd==0)=false:=by simpa using hcd
       have HBa:Hid (Below w.heap.size w w7):=HB6.out.trans (hk7.belowB HB6.out.size (fun q hq=>hq.1))
       clear hcd hf ht hk7 HP HV6 HV7 HB6 cx ck0
       go_wp2_with fail
       go_ret
       exact⟨rfl,HBa.out⟩
      | true =>
       obtain⟨rfl,hs7⟩:=ht rfl
       have HS7:=Hd hs7
       clear hf ht hk7 HP HV6 HB6 cx ck0 hs7
       go_wp2_with fail
       go_meet
       exact⟨cd,S,_,rfl,rfl,rfl,HS7,HV7,by have:=hSN.out;have:=hnSN.out;omega⟩
   have g2:(y.kind==2)=false:=by simpa using h2
   by_cases h3:y.kind=3
   ·have hq:(y.kind==3)=true:=by simpa using h3
    as_aux_lemma =>
     have cx:w5.cell? ⟨yb,1,none⟩=some (.int .i64 y.x):=cell_at HC5.out 1
     have hD0:=st_fin HS5.out y.x
     rw[←h3]at hD0
     have HD:=Hd hD0
     clear h0 h1 h2 h3
     clear hD0
     go_wp2_with fail
     refine(HD.out).mono ?_
     rintro e w6 ⟨f,ok,rfl,hk6,hs6⟩
     have HV6:=Hd (HV5.out.keep hk6 hsL.out)
     have HC6:=Hd (hk6.keep HC5.out (fun h=>h.2 hyN.out))
     have HB6:=Hd hs6.bel
     have HP:=Hd (st_commit hs6 hk1.out)
     try unfold kitV at HP
     clear ck0 cx
     have ck0:w6.cell? ⟨yb,0,none⟩=some (.int .i64 y.kind):=cell_at HC6.out 0
     have cx:w6.cell? ⟨yb,1,none⟩=some (.int .i64 y.x):=cell_at HC6.out 1
     clear hk6 hs6 HD HS5 HV5 HC5 HC6
     go_wp2_with fail
     refine(HP.out).mono ?_
     rintro e w7 ⟨cd,rfl,hk7,ht,hf⟩
     have HV7:=Hd (HV6.out.keep hk7 hsL.out)
     cases ok with
     | false =>
      have hcd:=hf rfl
      have hcb:(cd != 0)=true:=by simpa using hcd
      have hcb2:(cd==0)=false:=by simpa using hcd
      have HBa:Hid (Below w.heap.size w w7):=HB6.out.trans (hk7.belowB HB6.out.size (fun q hq=>hq.1))
      clear hcd hf ht hk7 HP HV6 HV7 HB6 cx ck0
      go_wp2_with fail
      go_ret
      exact⟨rfl,HBa.out⟩
     | true =>
      obtain⟨rfl,hs7⟩:=ht rfl
      have HS7:=Hd hs7
      clear hf ht hk7 HP HV6 HB6 cx ck0 hs7
      go_wp2_with fail
      go_meet
      exact⟨cd,S,_,rfl,rfl,rfl,HS7,HV7,by have:=hSN.out;have:=hnSN.out;omega⟩
   have g3:(y.kind==3)=false:=by simpa using h3
   by_cases h4:y.kind=4
   ·have hq:(y.kind==4)=true:=by simpa using h4
    as_aux_lemma =>
     have cx:w5.cell? ⟨yb,1,none⟩=some (.int .i64 y.x):=cell_at HC5.out 1
     have hD0:=st_fin4 HS5.out y.x
     rw[←h4]at hD0
     have HD:=Hd hD0
     clear h0 h1 h2 h3 h4
     clear hD0
     go_wp2_with fail
     refine(HD.out).mono ?_
     rintro e w6 ⟨f,ok,rfl,hk6,hs6⟩
     have HV6:=Hd (HV5.out.keep hk6 hsL.out)
     have HC6:=Hd (hk6.keep HC5.out (fun h=>h.2 hyN.out))
     have HB6:=Hd hs6.bel
     have HP:=Hd (st_abort hs6 (by have:=hk200.out;omega))
     try unfold kitV at HP
     clear ck0 cx
     have ck0:w6.cell? ⟨yb,0,none⟩=some (.int .i64 y.kind):=cell_at HC6.out 0
     have cx:w6.cell? ⟨yb,1,none⟩=some (.int .i64 y.x):=cell_at HC6.out 1
     clear hk6 hs6 HD HS5 HV5 HC5 HC6
     go_wp2_with fail
     refine(HP.out).mono ?_
     rintro e w7 ⟨cd,rfl,hk7,ht,hf⟩
     have HV7:=Hd (HV6.out.keep hk7 hsL.out)
     cases ok with
     | false =>
      have hcd:=hf rfl
      have hcb:(cd != 0)=true:=by simpa using hcd
      have hcb2:(cd==0)=false:=by simpa using hcd
      have HBa:Hid (Below w.heap.size w w7):=HB6.out.trans (hk7.belowB HB6.out.size (fun q hq=>hq.1))
      clear hcd hf ht hk7 HP HV6 HV7 HB6 cx ck0
      go_wp2_with fail
      go_ret
      exact⟨rfl,HBa.out⟩
     | true =>
      obtain⟨rfl,hs7⟩:=ht rfl
      have HS7:=Hd hs7
      clear hf ht hk7 HP HV6 HB6 cx ck0 hs7
      go_wp2_with fail
      go_meet
      exact⟨cd,S,_,rfl,rfl,rfl,HS7,HV7,by have:=hSN.out;have:=hnSN.out;omega⟩
   have g4:(y.kind==4)=false:=by simpa using h4
   by_cases h5:y.kind=5
   ·have hq:(y.kind==5)=true:=by simpa using h5
    as_aux_lemma =>
     clear h0 h1 h2 h3 h4 h5
     have cx:w5.cell? ⟨yb,1,none⟩=some (.int .i64 y.x):=cell_at HC5.out 1
     have HSa:=Hd (st_save HS5.out y.x)
     obtain⟨ji,hji,hy0,hy1,hy2⟩:=info_parts Tryz.info_intG
     go_wp2_with fail
     refine(HSa.out).mono ?_
     rintro e w6 ⟨a,cd,rfl,hb6,hs6⟩
     have HV6:=Hd (HV5.out.later hb6)
     have HC6:=Hd ((Keeps.of_below (fun _=>False) hb6).keep HC5.out (fun h=>h))
     clear cx
     have cx:w6.cell? ⟨yb,1,none⟩=some (.int .i64 y.x):=cell_at HC6.out 1
     obtain⟨lb',mb',n',lv',σ,B,ρ,hbo,hok,hc⟩:=hs6
     have hxl:ρ.xs.length≤250:=by have:=hok.2.2.len;have:=hok.2.2.kk;omega
     have HFi:=Hd (rr_find hbo.rr y.x (by omega))
     have HBO:=Hd hbo
     have HOK:=Hd hok
     clear HSa HS5 HV5 HC5 HC6 ck0 hb6 hbo hok
     rcases hc with⟨hf,ha0,hcd⟩ | ⟨j,yx,hf,hyx,ha,hcd⟩
     ·rw[hf]at HFi
      unfold idxI at HFi
      dsimp only at HFi
      obtain⟨ix,hix⟩:∃q:Int,(-1:Int)=q:=⟨_,rfl⟩
      rw[hix]at HFi
      have e1:(cd==0)=false:=by rw[hcd];rfl
      have e2:(cd != 191)=false:=by rw[hcd];rfl
      have e2b:(cd==191)=true:=by rw[hcd];rfl
      have e3:(a != 0)=false:=by rw[ha0];rfl
      have e3b:(a==0)=true:=by rw[ha0];rfl
      have i1:decide (0≤ix)=false:=decide_eq_false (by omega)
      have i2:decide (ix<0)=true:=decide_eq_true (by omega)
      clear hf ha0 hcd hix
      go_wp2_with fail
      refine(HFi.out).mono ?_
      rintro e w7 ⟨rfl,hb7⟩
      have HS7:Hid (StP (Ok k) w w7 (yb::blk (.slice sa nS sc)) c lp p dp m g):=⟨_,_,_,_,_,_,_,HBO.out.later hb7,HOK.out⟩
      have HV7:=Hd (HV6.out.later hb7)
      have HO8:Hid (OwnS (w7.alloc (.cells #[.int .i64 a] 3)) 3 1 (.slice sa nS sc) nS (intV S)):=by
       have:=HV7.out.own
       rw[hnSN.out]at this
       exact this.keep ((Keeps.refl (fun _=>False) w7).alloc _) (fun _ _ h=>h)
      clear hb7 HFi HBO HOK HV6 cx
      go_wp2_with (first
       | (refine wpList_buildSlice rfl 54 3 1 _ rfl #[.int .i64 a] ji _ Tryz.underlying54 hji hy0 (by rw[hy1];decide) (by rw[hy1];decide) (by rw[hy1];rfl) ?_)
       | (at_builtin;go_must (refine wpList_append_frame _ rfl _ _ 54 rfl 3 ji _ 1 8 Tryz.underlying54 hji hy0 hy1 hy2 rfl (by decide) _ _ _ rfl HO8.out ⟨w7.heap.size,0,none⟩ 1 1 [.int .i64 a] rfl rfl (fun i u hi=>by
        cases i with
        | zero=>rw[←hi];exact cell_at (hN rfl) 0
        | succ i => simp at hi) (fun v hv => by simp at hv; rw [hv]; rfl) (by have := hSN.out; have := hk200.out; unfold maxLen; omega) (by have := hSN.out; have := hk200.out; omega) ?_); rintro v9 w9 ho9 hk9 hb9 hn9; (have HO9 := Hd ho9); (have HK9 := Hd hk9); (have HB9 := Hd hb9); clear ho9 hk9 hb9 hn9 HO8))
      have HK9':Keeps (· ∈ blk (.slice sa nS sc)) (w7.alloc (.cells #[.int .i64 a] 3)) w9:=HK9.out
      have HB9':∀q∈blk v9,q∈blk (.slice sa nS sc)∨(w7.alloc (.cells #[.int .i64 a] 3)).heap.size≤q:=HB9.out
      have hs7s:(w7.alloc (.cells #[.int .i64 a] 3)).heap.size=w7.heap.size+1:=by simp
      have HS8:StP (Ok (k+1)) w (w7.alloc (.cells #[.int .i64 a] 3)) (yb::blk (.slice sa nS sc)) c lp p dp m g:=(HS7.out.later (bA bR)).mono (fun σ ρ h=>h.up hk1.out)
      have hw78:w.heap.size≤w7.heap.size:=HS7.out.bel.size
      have HS9:Hid (StP (Ok (k+1)) w w9 (yb::blk v9) c lp p dp m g):=HS8.move HK9' (fun q hq=>⟨List.mem_cons_of_mem _ hq,HV7.out.hi q hq⟩) _ (fun q hq=>by
       rcases List.mem_cons.1 hq with rfl | hq
       · exact Nat.lt_of_lt_of_le (HS8.lt _ (List.mem_cons_self ..)) HK9'.size
       · exact HO9.out.lt hq) (fun q hq=>by
       rcases List.mem_cons.1 hq with rfl | hq
       · exact .inl (List.mem_cons_self ..)
       · exact(HB9' q hq).imp (fun h=>List.mem_cons_of_mem _ h) (fun h=>h))
      have HV9:Hid (Sv w w9 v9 (S++[a])):=⟨by
       rw[List.length_append,List.length_singleton,hnSN.out,intV_snoc];exact HO9.out,fun q hq=>by
       rcases HB9' q hq with h | h
       · exact HV7.out.hi q h
       · omega⟩
      clear HK9' HB9' hs7s HS8 hw78 HO9 HK9 HB9 HV7 HS7
      go_wp2_with fail
      go_meet
      exact⟨0,S++[a],_,rfl,rfl,rfl,HS9,HV9,by rw[List.length_append,List.length_singleton];have:=hSN.out;have:=hnSN.out;omega⟩
     ·rw[hf]at HFi
      unfold idxI at HFi
      dsimp only at HFi
      obtain⟨nx,hnx⟩:∃q,ρ.xs.length=q:=⟨_,rfl⟩
      have hjn:j<nx:=by rw[←hnx];exact(List.getElem?_eq_some_iff.1 hyx).1
      have e1:(cd==0)=true:=by rw[hcd];rfl
      have e2:(a==a)=true:=by simp
      have e3:(a != a)=false:=by simp
      have i0:(0:Int)≤j:=by omega
      have i1:decide ((0:Int)≤(j:Int))=true:=decide_eq_true i0
      have i2:decide ((j:Int)<0)=false:=decide_eq_false (by omega)
      have i3:(j:Int)<nx:=by omega
      have hXN:=Hd (And.intro hyx (And.intro ha hnx))
      have hjN:=Hd hjn
      clear hf hcd hyx ha hjn hnx
      go_wp2_with fail
      refine(HFi.out).mono ?_
      rintro e w7 ⟨rfl,hb7⟩
      have HS7:Hid (StP (Ok k) w w7 (yb::blk (.slice sa nS sc)) c lp p dp m g):=⟨_,_,_,_,_,_,_,HBO.out.later hb7,HOK.out⟩
      have HV7:=Hd (HV6.out.later hb7)
      have HO8:Hid (OwnS (w7.alloc (.cells #[.int .i64 a] 3)) 3 1 (.slice sa nS sc) nS (intV S)):=by
       have:=HV7.out.own
       rw[hnSN.out]at this
       exact this.keep ((Keeps.refl (fun _=>False) w7).alloc _) (fun _ _ h=>h)
      obtain⟨hyx,ha,hnx⟩:=hXN.out
      obtain⟨xa,xc,hxv⟩:=HBO.out.rr.xs.form
      rw[hnx]at hxv
      have hR7:=HBO.out.rr.later hb7
      have hox:OwnS w7 112 6 (.slice xa nx xc) nx (xcV ρ.xs):=by have:=hR7.xs;rw[hxv,hnx]at this;exact this
      obtain⟨gx,rfl⟩:=hox.spot (by have:=hjN.out;omega)
      have C0:w7.cell? ⟨m,0,none⟩=some (.slice (some ⟨gx,0,none⟩) nx xc):=by rw[←hxv];exact cell_at hR7.cell 0
      have c2:w7.cell? ⟨gx,j*6+2,none⟩=some (.int .i64 a):=by rw[ha];exact flat_range xcL 6 xcL_length hox j yx hyx 2 _ rfl
      clear hb7 HFi HBO HOK HV6 cx hyx ha hnx hxv hR7 hox hXN hjN
      go_wp2_with (first
       | (refine wpList_buildSlice rfl 54 3 1 _ rfl #[.int .i64 a] ji _ Tryz.underlying54 hji hy0 (by rw[hy1];decide) (by rw[hy1];decide) (by rw[hy1];rfl) ?_)
       | (at_builtin;go_must (refine wpList_append_frame _ rfl _ _ 54 rfl 3 ji _ 1 8 Tryz.underlying54 hji hy0 hy1 hy2 rfl (by decide) _ _ _ rfl HO8.out ⟨w7.heap.size,0,none⟩ 1 1 [.int .i64 a] rfl rfl (fun i u hi=>by
        cases i with
        | zero=>rw[←hi];exact cell_at (hN rfl) 0
        | succ i => simp at hi) (fun v hv => by simp at hv; rw [hv]; rfl) (by have := hSN.out; have := hk200.out; unfold maxLen; omega) (by have := hSN.out; have := hk200.out; omega) ?_); rintro v9 w9 ho9 hk9 hb9 hn9; (have HO9 := Hd ho9); (have HK9 := Hd hk9); (have HB9 := Hd hb9); clear ho9 hk9 hb9 hn9 HO8))
      have HK9':Keeps (· ∈ blk (.slice sa nS sc)) (w7.alloc (.cells #[.int .i64 a] 3)) w9:=HK9.out
      have HB9':∀q∈blk v9,q∈blk (.slice sa nS sc)∨(w7.alloc (.cells #[.int .i64 a] 3)).heap.size≤q:=HB9.out
      have hs7s:(w7.alloc (.cells #[.int .i64 a] 3)).heap.size=w7.heap.size+1:=by simp
      have HS8:StP (Ok (k+1)) w (w7.alloc (.cells #[.int .i64 a] 3)) (yb::blk (.slice sa nS sc)) c lp p dp m g:=(HS7.out.later (bA bR)).mono (fun σ ρ h=>h.up hk1.out)
      have hw78:w.heap.size≤w7.heap.size:=HS7.out.bel.size
      have HS9:Hid (StP (Ok (k+1)) w w9 (yb::blk v9) c lp p dp m g):=HS8.move HK9' (fun q hq=>⟨List.mem_cons_of_mem _ hq,HV7.out.hi q hq⟩) _ (fun q hq=>by
       rcases List.mem_cons.1 hq with rfl | hq
       · exact Nat.lt_of_lt_of_le (HS8.lt _ (List.mem_cons_self ..)) HK9'.size
       · exact HO9.out.lt hq) (fun q hq=>by
       rcases List.mem_cons.1 hq with rfl | hq
       · exact .inl (List.mem_cons_self ..)
       · exact(HB9' q hq).imp (fun h=>List.mem_cons_of_mem _ h) (fun h=>h))
      have HV9:Hid (Sv w w9 v9 (S++[a])):=⟨by
       rw[List.length_append,List.length_singleton,hnSN.out,intV_snoc];exact HO9.out,fun q hq=>by
       rcases HB9' q hq with h | h
       · exact HV7.out.hi q h
       · omega⟩
      clear HK9' HB9' hs7s HS8 hw78 HO9 HK9 HB9 HV7 HS7
      go_wp2_with fail
      go_meet
      exact⟨0,S++[a],_,rfl,rfl,rfl,HS9,HV9,by rw[List.length_append,List.length_singleton];have:=hSN.out;have:=hnSN.out;omega⟩
   have g5:(y.kind==5)=false:=by simpa using h5
   by_cases h6:y.kind=6
   ·have hq:(y.kind==6)=true:=by simpa using h6
    as_aux_lemma =>
     clear h0 h1 h2 h3 h4 h5 h6
     have cx:w5.cell? ⟨yb,1,none⟩=some (.int .i64 y.x):=cell_at HC5.out 1
     have HFr:=Hd (st_free HS5.out y.x hyo'.out.2.1)
     go_wp2_with fail
     refine(HFr.out).mono ?_
     rintro e w6 ⟨rfl,hk6,hs6⟩
     have HV6:=Hd (HV5.out.keep hk6 hsL.out)
     have HC6:=Hd (hk6.keep HC5.out (fun h=>h.2 hyN.out))
     clear cx
     have cx:w6.cell? ⟨yb,1,none⟩=some (.int .i64 y.x):=cell_at HC6.out 1
     have HFr2:=Hd (st_free2 hs6 hk1.out)
     clear hk6 hs6 HFr HS5 HV5 HC5 ck0 HC6
     go_wp2_with fail
     refine(HFr2.out).mono ?_
     rintro e w7 ⟨rfl,hk7,hs7⟩
     have HV7:=Hd (HV6.out.keep hk7 hsL.out)
     have HS7:=Hd hs7
     clear hk7 hs7 HFr2 HV6 cx
     go_wp2_with fail
     go_meet
     exact⟨0,S,_,rfl,rfl,rfl,HS7,HV7,by have:=hSN.out;have:=hnSN.out;omega⟩
   have g6:(y.kind==6)=false:=by simpa using h6
   by_cases h7:y.kind=7
   ·have hq:(y.kind==7)=true:=by simpa using h7
    as_aux_lemma =>
     clear h0 h1 h2 h3 h4 h5 h6 h7
     have HCk:=Hd (law_checked HS5.out hk1.out)
     go_wp2_with fail
     refine(HCk.out).mono ?_
     rintro e w7 ⟨rfl,hk7,hs7⟩
     have HV7:=Hd (HV5.out.keep hk7 hsL.out)
     have HS7:=Hd hs7
     clear hk7 hs7 HCk HS5 HV5 HC5 ck0
     go_wp2_with fail
     go_meet
     exact⟨0,S,_,rfl,rfl,rfl,HS7,HV7,by have:=hSN.out;have:=hnSN.out;omega⟩
   have g7:(y.kind==7)=false:=by simpa using h7
   by_cases h8:y.kind=8
   ·have hq:(y.kind==8)=true:=by simpa using h8
    as_aux_lemma =>
     clear h0 h1 h2 h3 h4 h5 h6 h7 h8
     have HIm:=Hd (st_image HS5.out y)
     go_wp2_with (refine wpList_load_row rfl 35 _ rfl _ rfl 35 _ _ _ HC5.out Tryz.underlying35 rfl lcl_info ?_)
     refine(HIm.out).mono ?_
     rintro e w6 ⟨ib,U,pi,P,rfl,hib,hb6,hibl,hs6⟩
     have HI6:=Hd hib
     have HC6:=Hd ((Keeps.of_below (fun _=>False) hb6).keep HC5.out (fun h=>h))
     have HV6:=Hd (HV5.out.later hb6)
     have HS6:=Hd hs6
     have hib5:Hid (ib∉yb::blk (.slice sa nS sc)):=fun h=>by have:=HS5.out.lt ib h;omega
     have HNu:Hid ((w6.alloc (.cells #[.int .i64 0,.int .i64 0,.int .i64 0,.int .i64 0,.string ⟨#[]⟩,.int .i64 0,.string ⟨#[]⟩] 42)).heap[w6.heap.size]? = some (.cells #[.int .i64 0,.int .i64 0,.int .i64 0,.int .i64 0,.string ⟨#[]⟩,.int .i64 0,.string ⟨#[]⟩] 42 (0,0))):=hN rfl
     have hUo:Hid (∀v∈(unL U).toArray.toList,v.oneCell'=true):=fun v hv=>un_cells _ v (by simpa using hv)
     clear hib hb6 hibl hs6 HIm HS5 HV5 HC5 ck0
     go_upto_region 57 with(refine wpList_store_whole rfl 42 _ _ rfl _ (unL U).toArray rfl rfl _ _ HNu.out rfl un_info hUo.out ?_;intro w7 HU7 K7;(have hk7:Hid (Keeps (fun _=>False) w6 w7):=((Keeps.refl (fun _=>False) w6).alloc _).trans K7.out (fun q hq e=>by omega));(have HI7:=Hd (hk7.out.keep HI6.out (fun h=>h)));(have HC7:=Hd (hk7.out.keep HC6.out (fun h=>h)));(have HV7:=Hd (HV6.out.later hk7.out.below));clear HNu K7 HI6 HC6 HV6)
     have HS7:=Hd (HS6.out.later hk7.out.below)
     clear hk7 HS6 HU7
     have HSy:=Hd (st_system HS7.out hyo'.out.1 ib (List.mem_cons_self ..) HI7.out)
     go_wp2_with fail
     refine(HSy.out).mono ?_
     rintro e w8 ⟨cd,rfl,hk8,hs8⟩
     have HS8:=Hd hs8
     have HI8:=Hd (hk8.keep HI7.out (fun h=>h.2 (List.mem_cons_self ..)))
     have HV8:=Hd (HV7.out.keep hk8 (fun q hq=>by simp[hq]))
     have HN3:Hid ((w8.alloc (.cells (rcC rcZ nilS nilS) 65)).heap[w8.heap.size]? = some (.cells (rcC rcZ nilS nilS) 65 (0,0))):=hN rfl
     have hones:Hid (∀v∈(rcC (sysR [((pi:Int),P)]) (.slice (some ⟨ib,0,none⟩) 1 1) nilS).toList,v.oneCell'=true):=rcC_one rfl rfl
     clear hk8 hs8 HSy HS7 HI7 HV7 HC7
     go_upto_region 59 with(refine wpList_store_whole rfl 65 _ _ rfl _ (rcC (sysR [((pi:Int),P)]) (.slice (some ⟨ib,0,none⟩) 1 1) nilS) rfl rfl _ (rcC rcZ nilS nilS) HN3.out rfl (by kernel_rfl) hones.out ?_;intro w9 HR9 K9;(have hk9:Hid (Keeps (fun _=>False) w8 w9):=((Keeps.refl (fun _=>False) w8).alloc _).trans K9.out (fun q hq e=>by omega));clear K9 HN3)
     have HS9:=Hd (HS8.out.later hk9.out.below)
     have HI9:=Hd (hk9.out.keep HI8.out (fun h=>h))
     have HV9:=Hd (HV8.out.later hk9.out.below)
     obtain⟨rb,hrb⟩:∃q,w8.heap.size=q:=⟨_,rfl⟩
     rw[hrb]at HR9 ⊢
     have hdtP:∀i,i<6→(P.dt i).size≤maxLen:=by
      obtain⟨lb',mb',n',lv',σ,B,ρ,hbo,σ0,him,-⟩:=HS9.out
      rw[him.2.2.2]
      exact imgP_dt him.1.2.1.pok hyo'.out.1
     have HRt:=Hd (rc_right (sysR [((pi:Int),P)]) (.slice (some ⟨ib,0,none⟩) 1 1) nilS w9 ⟨sl_one HI9.out,nil_sl w9,Nat.zero_le _,Nat.zero_le _,fun z hz q hq=>by rw[List.mem_singleton.1 hz];exact hdtP q hq⟩)
     clear hk9 HS8 HI8 HV8 hrb hones hdtP
     go_wp2_with (refine wpList_load_row rfl 65 _ rfl _ rfl 65 _ _ _ HR9.out Tryz.underlying65 rfl (by kernel_rfl) ?_)
     refine(HRt.out).mono ?_
     rintro e wa ⟨hr,hba⟩
     have HSa:=Hd (HS9.out.later hba)
     have HVa:=Hd (HV9.out.later hba)
     have HIa:=Hd ((Keeps.of_below (fun _=>False) hba).keep HI9.out (fun h=>h))
     have HRa:=Hd ((Keeps.of_below (fun _=>False) hba).keep HR9.out (fun h=>h))
     clear hba HRt HS9 HV9 HI9 HR9
     rcases hr with⟨rfl,hok⟩ | ⟨rfl,hok⟩
     rotate_left
     ·have hcd:cd=1:=by obtain⟨lb',mb',n',lv',σ,B,ρ,hbo,hsy⟩:=HSa.out;exact(hsy.no hok).1
      have HSb:Hid (StP (Ok (k+1)) w wa (yb::blk (.slice sa nS sc)) c lp p dp m g):=(HSa.out.mono (fun σ ρ h=>(h.no hok).2.up hk1.out)).pop
      replace hcd:=Hd hcd
      clear hok HSa HRa HIa
      go_wp2_with fail
      go_meet
      exact⟨1,S,_,rfl,by rw[hcd.out],rfl,HSb,HVa,by have:=hSN.out;have:=hnSN.out;omega⟩
     have hcdo:cd=70∨cd=0:=by obtain⟨lb',mb',n',lv',σ,B,ρ,hbo,hsy⟩:=HSa.out;exact hsy.cd hok
     have HW:=Hd (st_sysw HSa.out hk1.out hib5.out hok HIa.out)
     clear hok HSa HIa
     go_wp2_with (refine wpList_load_row rfl 65 _ rfl _ rfl 65 _ _ _ HRa.out Tryz.underlying65 rfl (by kernel_rfl) ?_)
     refine(HW.out).mono ?_
     rintro e wb ⟨rfl,hkb,hsb⟩
     have HVb:=Hd (HVa.out.keep hkb hsL.out)
     have HSb:=Hd hsb
     clear hkb hsb HW HRa HVa
     by_cases hc0:cd=0
     ·have hdd:decide (cd=0)=true:=decide_eq_true hc0
      replace hc0:=Hd hc0
      clear hcdo
      go_wp2_with fail
      go_meet
      exact⟨0,S,_,rfl,by rw[hc0.out],rfl,HSb,HVb,by have:=hSN.out;have:=hnSN.out;omega⟩
     ·have hdd:decide (cd=0)=false:=decide_eq_false hc0
      have hc7:Hid (cd=70):=hcdo.resolve_right hc0
      clear hcdo hc0
      go_wp2_with fail
      go_meet
      exact⟨70,S,_,rfl,by rw[hc7.out],rfl,HSb,HVb,by have:=hSN.out;have:=hnSN.out;omega⟩
   have g8:(y.kind==8)=false:=by simpa using h8
   as_aux_lemma =>
    have HS7:Hid (StP (Ok (k+1)) w w5 (yb::blk (.slice sa nS sc)) c lp p dp m g):=HS5.out.mono (fun σ ρ h=>h.up hk1.out)
    clear HS5 HC5 h0 h1 h2 h3 h4 h5 h6 h7 h8
    go_wp2_with fail
    go_meet
    exact⟨0,S,_,rfl,rfl,rfl,HS7,HV5,by have:=hSN.out;have:=hnSN.out;omega⟩
  case rest =>
   clear HS5 HV5 HC5 ck0
   obtain⟨cd,S',s,hsv,rfl,rfl,HSt,HSv,hS'⟩:=hcut
   subst hsv
   as_aux_lemma =>
    have hcc:(cd==cd)=true:=by simp
    have hcc2:(cd != cd)=false:=by simp
    obtain⟨lb',mb',n',lv',σ,B,ρ,hbo,hok⟩:=HSt.out.pop
    have hbd:=hbo.bds hok.2.1 hok.2.2
    have HRs:=Hd (rr_reserved hbo.rr (by omega) (by omega))
    rw[←hok.2.1.T]at HRs
    have HBO:=Hd hbo
    have HOK:=Hd hok
    have hbdN:=Hd hbd
    clear HSt hbo hok hbd
    go_wp2_with fail
    refine(HRs.out).mono ?_
    rintro e w6 ⟨rfl,hb6⟩
    have HB6:=Hd (HBO.out.later hb6)
    have HV6:=Hd (HSv.out.later hb6)
    clear hb6 HBO HSv HRs hcc hcc2
    obtain⟨ta,hta⟩:∃q,σ.T.1=q:=⟨_,rfl⟩
    obtain⟨tb,htb⟩:∃q,σ.T.2=q:=⟨_,rfl⟩
    have htaB:ta≤6912∧tb≤250:=by have:=hbdN.out;have:=HOK.out.2.1.T;have h1:=HOK.out.2.2.T1;have h2:=HOK.out.2.2.T2;have h3:=HOK.out.2.2.kk;omega
    have HcR:=Hd (fun (W:World) (h:Below w6.drew.heap.size w6.drew W)=>cx_reserved (HB6.out.later (bT (bD bR) h)).cx)
    rw[hta,htb]at HcR ⊢
    have hfA:floatOfInt .f64 (ta:Int)=flB ta:=fl_of_int ta (by omega)
    have hfB:floatOfInt .f64 (tb:Int)=flB tb:=fl_of_int tb (by omega)
    have oA:FloatKind.f64.format.order (flB ta) (flB ta)=some .eq:=fl_same ta (by omega)
    have oB:FloatKind.f64.format.order (flB tb) (flB tb)=some .eq:=fl_same tb (by omega)
    generalize flB ta=A at *
    generalize flB tb=Bq at *
    have hll:=HOK.out.2.1.lives
    have HcL:=Hd (fun (W:World) (h:Below w6.drew.heap.size w6.drew W)=>cx_lives (HB6.out.later (bT (bD bR) h)).cx)
    rw[hll]at HcL
    have HdL:=Hd (fun (W:World) (h:Below w6.drew.heap.size w6.drew W)=>rr_lives (HB6.out.later (bT (bD bR) h)).rr (by have:=hbdN.out;omega))
    have hl8:Hid ((xLive ρ.xs).length≤8):=by show _≤_;rw[←hll];exact hbdN.out.2.2.2.2.2.2.2
    have HcM:=Hd (fun (W:World) (h:Below w6.drew.heap.size w6.drew W)=>(HB6.out.later (bT (bD bR) h)).cx.room)
    rw[←HOK.out.2.1.room]at HcM
    obtain⟨rm,hrm⟩:∃r,ρ.room=r:=⟨_,rfl⟩
    rw[hrm]at HcM
    have hrr:(rm != rm)=false:=by simp
    have hrr2:(rm==rm)=true:=by simp
    have hS0:w6.drew.cell? ⟨m,5,none⟩=some (.int .i64 rm):=by rw[←hrm];exact cell_at HB6.out.rr.cell 5
    have hkS:Hid (∀W,Below w6.drew.heap.size w6.drew W→W.cell? ⟨m,5,none⟩=some (.int .i64 rm)):=fun W hb=>cell_keepS (Keeps.of_below (fun _=>False) hb) (fun h=>h) hS0
    clear hll hrm htaB hta htb
    go_upto_region 66 with fail
    refine wp_region_held_drew (S:=fun W=>W.cell? ⟨m,5,none⟩=some (.int .i64 rm)) (by kernel_rfl) hS0 (fun hHeld=>?_)
    refine tp 0 hHeld ?_
    go_frame
    refine tp 2 hHeld ?_
    go_frame
    refine tp 3 hHeld ?_
    go_frame
    refine tp 4 hHeld ?_
    go_frame
    refine tp 5 hHeld ?_
    go_frame
    refine tp 6 hHeld ?_
    go_frame
    refine rd 1 (fun K hK=>?_)
    go_simp
    go_at_call 33
    refine(HcR.out _ bR).mono ?_
    rintro e wa ⟨rfl,hba⟩
    have HBx:Hid (Below w6.drew.heap.size w6.drew wa):=hba
    clear hba HcR
    dsimp only
    refine hK.out _ _ (hkS.out _ HBx.out) (fun hHeld=>?_)
    clear hK K
    try go_frame
    refine tp 7 hHeld ?_
    go_frame
    refine tp 8 hHeld ?_
    go_frame
    refine tp 9 hHeld ?_
    go_frame
    refine tp 11 hHeld ?_
    go_frame
    refine rd 10 (fun K hK=>?_)
    go_simp
    go_at_call 16
    refine(HcL.out _ HBx.out).mono ?_
    rintro e wb ⟨v1,ho1,-,rfl,hbb⟩
    obtain⟨a1,c1,rfl⟩:=ho1.form
    have HO1:=Hd ho1
    have HBy:Hid (Below w6.drew.heap.size w6.drew wb):=bT HBx.out hbb
    clear hbb ho1 HcL HBx
    have HBx:=HBy
    dsimp only
    refine hK.out _ _ (hkS.out _ HBx.out) (fun hHeld=>?_)
    clear hK K
    try go_frame
    refine rd 12 (fun K hK=>?_)
    go_simp
    go_at_call 49
    refine(HdL.out _ HBx.out).mono ?_
    rintro e wc ⟨v2,rfl,ho2,-,hbc⟩
    obtain⟨a2,c2,rfl⟩:=ho2.form
    have HSm:=Hd (rr_sameL (xLive ρ.xs) (by have:=hl8.out;omega) _ _ wc (HO1.out.keep (Keeps.of_below (fun _=>False) hbc) (fun _ _ h=>h)) ho2)
    have HBz:Hid (Below w6.drew.heap.size w6.drew wc):=bT HBx.out hbc
    clear hbc ho2 HdL HBx HBy HO1
    have HBx:=HBz
    dsimp only
    refine hK.out _ _ (hkS.out _ HBx.out) (fun hHeld=>?_)
    clear hK K
    try go_frame
    refine rd 13 (fun K hK=>?_)
    go_simp
    go_at_call 48
    refine(HSm.out).mono ?_
    rintro e wd ⟨rfl,hbd⟩
    have HBu:Hid (Below w6.drew.heap.size w6.drew wd):=bT HBx.out hbd
    clear hbd HSm HBx HBz
    have HBx:=HBu
    dsimp only
    refine hK.out _ _ (hkS.out _ HBx.out) (fun hHeld=>?_)
    clear hK K
    try go_frame
    refine tp 14 hHeld ?_
    go_frame
    refine tp 15 hHeld ?_
    go_frame
    refine tp 16 hHeld ?_
    go_frame
    refine tp 17 hHeld ?_
    go_frame
    refine tp 19 hHeld ?_
    go_frame
    refine tp 20 hHeld ?_
    go_frame
    refine tp 21 hHeld ?_
    go_frame
    refine tp 22 hHeld ?_
    go_frame
    refine rd 18 (fun K hK=>?_)
    go_simp
    go_at_call 50
    refine(HcM.out _ HBx.out).mono ?_
    rintro e we ⟨rfl,hbe⟩
    have HBv:Hid (Below w6.drew.heap.size w6.drew we):=bT HBx.out hbe
    clear hbe HcM HBx HBu
    have HBx:=HBv
    dsimp only
    refine hK.out _ _ (hkS.out _ HBx.out) (fun hHeld=>?_)
    clear hK K
    try go_frame
    refine tp 23 hHeld ?_
    go_frame
    refine tp 24 hHeld ?_
    go_frame
    clear hHeld
    refine wpAnyH_done (by kernel_rfl) ?_ _
    have HBf:Hid (Below w6.heap.size w6 we):=bT (bD bR) HBx.out
    have HSf:Hid (StP (Ok (k+1)) w we (blk s) c lp p dp m g):=⟨_,_,_,_,_,_,_,HB6.out.later HBf.out,HOK.out⟩
    have HVf:=Hd (HV6.out.later HBf.out)
    clear HB6 HV6 HBf HBx HBv hkS hS0 hfA hfB oA oB hrr hrr2
    go_wp2_with fail
    go_roundw
    case rel=>exact⟨k+1,S',hkN.out,by have:=hk200.out;omega,rfl,HSf,HVf,hS'⟩
    case measure=>have:=hkN.out;simp[intOf];omega
end Go.Proofs.YtimomjheanfbmaaGreatDoor.G
