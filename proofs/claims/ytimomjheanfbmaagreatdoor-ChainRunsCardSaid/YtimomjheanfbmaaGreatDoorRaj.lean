import Derived.Test.YtimomjheanfbmaaGreatDoorQaa
import Derived.Test.YtimomjheanfbmaaGreatDoorRae
set_option linter.unusedSimpArgs false
set_option linter.unusedVariables false
namespace Go.Proofs.YtimomjheanfbmaaGreatDoor
open Go.RowKit
set_option maxRecDepth 100000 in
set_option maxHeartbeats 3200000 in
theorem wal_cut_end (p dp:Nat) (G:Lg) (S:List Nat) (t:Int) (hs:Sorted G.list) (ht:0≤t∧t≤1152921504606846976) (i:Nat) (hi:Found G.list t i) (hc:i=G.list.length∧t=G.fin) (hfm:t≤G.firm) (bb:Nat) (hbb:G.base=54*bb) (hbt:G.base≤t) (hl3:((G.list.length-i:Nat):Int)*3≤G.fin-t/54*54) (w:World) (h:LogAt w p dp G S) :
  Calls Tryz.prog 134 #[.pointer (some ⟨p,0,none⟩),.int .i64 t] w fun e w'=>e = .returned (.int .i64 0)∧∃S',LogAt w' p dp (Lg.cut G t i) S'∧Keeps (· ∈ S) w w'∧∀k∈S',k∈S∨w.heap.size≤k:=by
 have HF:=Hd (wal_find p dp G S t hs ht w h)
 have hok:=h.1
 obtain⟨a1,a2,a3,a4,a5,a6,a7,a8,a9,a10,a11,a12,a13,a14⟩:=h.1
 obtain⟨bv,lv,hmid,hSe⟩:=h.mid
 have HM:=Hd hmid
 clear h hmid
 have hs:=Hd hs
 obtain⟨N,hN⟩:∃N,G.list.length=N:=⟨_,rfl⟩
 obtain⟨Z,hZ⟩:∃Z,G.buf.size=Z:=⟨_,rfl⟩
 rw[hN]at HM hc hl3
 rw[hZ]at HM a9
 have hN3:(N:Int)*3≤G.fin-G.base:=by rw[←hN];exact a10
 have htf:t≤G.fin:=by omega
 obtain⟨lo,hlo⟩:∃lo:Nat,lo=(t/54*54-G.base).toNat:=⟨_,rfl⟩
 have hloZ:lo≤Z:=by omega
 have hloI:min (t/54*54-G.base) (Z:Int)=lo:=by omega
 have hsub:t/54*54-G.base=lo:=by omega
 have hwr1:IntKind.i64.wrap (t/54*54-G.base)=t/54*54-G.base:=by rw[IntKind.wrap_i64];omega
 obtain⟨EX,hEX⟩:∃EX,G.buf.extract lo Z=EX:=⟨_,rfl⟩
 have hex:EX.size=Z-lo:=by rw[←hEX,ByteArray.size_extract];omega
 have hok':Hid (LgOk (Lg.cut G t i)):=by
  refine⟨a1,a2,a3,a4,?_,?_,?_,?_,?_,?_,?_,?_,?_,?_⟩ <;> dsimp only[Lg.cut]
  · omega
  · omega
  · omega
  · omega
  · rw[←hlo,hZ,hEX,hex];omega
  · rw[List.length_drop,hN];exact hl3
  · omega
  · omega
  · omega
  · omega
 obtain⟨ba,bc,he7,hZc⟩:=HM.out.ob.cap
 subst he7
 obtain⟨la,lc,he8,hNc⟩:=HM.out.ol.cap
 subst he8
 obtain⟨hiN,hit⟩:=hc
 ·obtain rfl:=hiN
  have b2:(t==G.fin)=true:=by simpa using hit
  have b3:(t != G.fin)=false:=by simpa using hit
  replace hit:=Hd hit
  go_enter Tryz.func134,Tryz.ntmps134
  go_wp2_with fail
  refine(HF.out).mono ?_
  rintro e w1 ⟨j,q1,rfl,hb⟩
  obtain rfl:=q1.uniq hi
  rw[show (decide (j<G.list.length)&&decide ((G.list.getD j (0,⟨#[]⟩)).1=t))=false by rw[decide_eq_false (show ¬j<G.list.length by omega)];rfl]
  replace HM:=Hd (HM.out.later hb)
  have C4:w1.cell? ⟨p,4,none⟩=some (.int .i64 G.fin):=cell_at HM.out.hp 4
  have C5:w1.cell? ⟨p,5,none⟩=some (.int .i64 G.firm):=cell_at HM.out.hp 5
  have C8:w1.cell? ⟨p,8,none⟩=some (.slice la j lc):=cell_at HM.out.hp 8
  have b1:¬G.firm<t:=by omega
  obtain⟨DL,hDL⟩:∃DL,G.list.drop j=DL:=⟨_,rfl⟩
  have hD0:DL=[]:=by rw[←hDL];exact List.drop_eq_nil_of_le (by omega)
  have HCl:=Hd (fun a c=>ent_clone (.slice a 0 c) DL (by rw[hD0];simp) w1 (by rw[hD0];exact EntSl.none a c))
  replace hDL:=Hd hDL
  replace hD0:=Hd hD0
  have hBI:(0:Int)≤lo∧(lo:Int)≤Z∧(lo:Int)≤bc:=by omega
  replace hbb:=Hd hbb
  replace a9:=Hd a9
  replace a10:=Hd a10
  replace hlo:=Hd hlo
  replace hZ:=Hd hZ
  replace hN:=Hd hN
  replace hEX:=Hd hEX
  replace hex:=Hd hex
  replace hl3:=Hd hl3
  replace hN3:=Hd hN3
  replace a7:=Hd a7
  replace a8:=Hd a8
  clear q1 hi HF
  have hjj:(j:Int)≤lc:=by omega
  by_cases hcj:lc=j
  ·obtain rfl:j=lc:=hcj.symm
   go_wp2_with fail
   by_cases hlt:lo<Z
   ·refine(HCl.out _ _).mono ?_
    rintro e w2 ⟨v2,ho2,hb2,rfl,hbw⟩
    replace HM:=Hd (HM.out.list ho2 (Keeps.of_below _ hbw) (fun k hk => .inr (hb2 k hk)))
    obtain⟨l2,m2,rfl⟩:=ho2.form
    have C8:w2.cell? ⟨p,8,none⟩=some (.slice la j j):=cell_at HM.out.hp 8
    have F8:=free_at HM.out.hp 8
    clear C4 C5 HCl hbw hb2 ho2
    go_upto_region 9 with fail
    replace HM:=Hd (HM.out.cell 8 (.slice l2 DL.length m2))
    refine name_world (fun W=>Mid w W p S _ _ _ _ _ _ _) HM.out ?_
    clear HM C8 F8
    intro W1 HM
    replace HM:=Hd HM
    have C3:W1.cell? ⟨p,3,none⟩=some (.int .i64 G.start):=cell_at HM.out.hp 3
    have F3:=free_at HM.out.hp 3
    go_upto_region 11 with fail
    replace HM:=Hd (HM.out.cell 3 (.int .i64 t))
    refine name_world (fun W=>Mid w W p S _ _ _ _ _ _ _) HM.out ?_
    clear HM C3 F3
    intro W2 HM
    replace HM:=Hd HM
    obtain⟨g,hg⟩:∃g,ba=some ⟨g,0,none⟩:=by
     obtain⟨g,c,e⟩:=HM.out.ob.has (by omega)
     simp only[Value.slice.injEq]at e
     exact⟨g,e.1⟩
    subst hg
    have HBy:Hid (∀w',OwnS w' 5 1 (.slice (some ⟨g,0,none⟩) Z bc) Z (Lib.strCells G.buf)→Calls Tryz.prog 167 #[.slice (some ⟨g,lo,none⟩) (Z-lo) (bc-lo)] w' fun e w''=>∃v',OwnS w'' 5 1 v' EX.size (Lib.strCells EX)∧(∀k∈blk v',w'.heap.size≤k)∧e = .returned v'∧Below w'.heap.size w' w''):=fun w' ho=>by
     refine by_clone _ EX (by have:=hex.out;have:=a8.out;have:=a9.out;omega) w' ⟨some ⟨g,lo,none⟩,bc-lo,by rw[hex.out],fun _=>⟨g,lo,rfl,ho.lt (by simp[blk,Value.ownBlock]),?_⟩⟩
     rw[←hZ.out]at ho
     have:=Bytes.sub (OwnS.bytes ho) lo Z (by omega) (by rw[hZ.out];omega)
     rwa[Nat.zero_add,hEX.out]at this
    have hwl:IntKind.i64.wrap (lo:Int)=lo:=by rw[IntKind.wrap_i64];have:=a8.out;have:=a9.out;omega
    have hml:min (lo:Int) (Z:Int)=lo:=by omega
    have hbcl:¬bc=lo:=by omega
    have hlo0:(0:Int)≤lo:=by omega
    have hlob:(lo:Int)≤Z:=by omega
    have hlobc:(lo:Int)≤bc:=by omega
    have hS0:W2.drew.cell? ⟨p,6,none⟩=some (.int .i64 G.base):=cell_at HM.out.hp 6
    refine wp_region_held_drew (S:=fun w'=>w'.cell? ⟨p,6,none⟩=some (.int .i64 G.base)) (by kernel_rfl) hS0 (fun hHeld=>?_)
    clear hS0
    replace HM:Hid (Mid w W2.drew p S _ _ _ _ _ _ _):=HM.out.later (bD bR)
    refine tp 0 hHeld ?_
    go_frame
    refine tp 1 hHeld ?_
    go_frame
    refine tp 2 hHeld ?_
    go_frame
    refine tp 3 hHeld ?_
    go_frame
    refine tp 5 hHeld ?_
    go_frame
    refine tp 6 hHeld ?_
    go_frame
    refine tp 7 hHeld ?_
    go_frame
    refine tp 8 hHeld ?_
    go_frame
    refine tp 9 hHeld ?_
    go_frame
    refine tp 10 hHeld ?_
    go_frame
    refine tp 11 hHeld ?_
    go_frame
    refine tp 12 hHeld ?_
    go_frame
    refine tp 13 hHeld ?_
    go_frame
    refine rd2 4 14 (fun K hK=>?_) (fun K hK=>?_)
    ·have c7:(W2.drew).cell? ⟨p,7,none⟩=some (.slice (some ⟨g,0,none⟩) Z bc):=cell_at HM.out.hp 7
     go_simp
     clear c7
     refine hK.out _ _ (cell_at HM.out.hp 6) (fun hHeld=>?_)
     clear hK K
     try go_frame
     refine rd 14 (fun K hK=>?_)
     have c7:(W2.drew).cell? ⟨p,7,none⟩=some (.slice (some ⟨g,0,none⟩) Z bc):=cell_at HM.out.hp 7
     go_simp
     clear c7
     refine hK.out _ _ (cell_at HM.out.hp 6) (fun hHeld=>?_)
     clear hK K
     try go_frame
     refine tp 15 hHeld ?_
     go_frame
     refine tp 16 (v := .int .i64 (lo:Int)) hHeld ?_
     go_frame
     refine tp 17 (v := .slice (some ⟨g,lo,none⟩) (Z-lo) (bc-lo)) hHeld ?_
     go_frame
     refine rd 18 (fun K hK=>?_)
     go_simp
     go_at_call 167
     refine(HBy.out _ HM.out.ob).mono ?_
     rintro e w5 ⟨v5,ho5,hb5,rfl,hbw⟩
     replace HM:=Hd (HM.out.buf ho5 (Keeps.of_below _ hbw) (fun k hk => .inr (hb5 k hk)))
     obtain⟨a5,c5,rfl⟩:=ho5.form
     clear ho5 hb5 hbw HBy
     go_wp2_with fail
     refine hK.out _ _ (cell_at HM.out.hp 6) (fun hHeld=>?_)
     clear hK K
     try go_frame
     refine tp 19 hHeld ?_
     go_frame
     refine tp 20 hHeld ?_
     go_frame
     refine rd 21 (fun K hK=>?_)
     have F7:=free_at HM.out.hp 7
     have C7:w5.cell? ⟨p,7,none⟩=some (.slice (some ⟨g,0,none⟩) Z bc):=cell_at HM.out.hp 7
     go_simp
     clear F7 C7
     replace HM:=Hd (HM.out.cell 7 (.slice a5 EX.size c5))
     refine hK.out _ _ (cell_at HM.out.hp 6) (fun hHeld=>?_)
     clear hK K
     try go_frame
     clear hHeld
     refine wpAnyH_done (by kernel_rfl) ?_ _
     have C6:(w5.setCell ⟨p,7,none⟩ (.slice a5 EX.size c5)).cell? ⟨p,6,none⟩=some (.int .i64 G.base):=cell_at HM.out.hp 6
     have F6:=free_at HM.out.hp 6
     have HM6:=Hd (HM.out.cell 6 (.int .i64 (t/54*54)))
     clear HM
     go_wp2_with fail
     go_ret
     exact⟨rfl,HM6.out.log (G':=Lg.cut G t j) hok'.out (by show _=(G.buf.extract _ _).size;rw[←hlo.out,hZ.out,hEX.out]) (by show _=Lib.strCells (G.buf.extract _ _);rw[←hlo.out,hZ.out,hEX.out]) (by show _=(G.list.drop j).length;rw[hDL.out]) (by show _=recV (G.list.drop j);rw[hDL.out])⟩
    ·have c7:(W2.drew).cell? ⟨p,7,none⟩=some (.slice (some ⟨g,0,none⟩) Z bc):=cell_at HM.out.hp 7
     go_simp
     clear c7
     refine hK.out _ _ (cell_at HM.out.hp 6) (fun hHeld=>?_)
     clear hK K
     try go_frame
     refine tp 15 hHeld ?_
     go_frame
     refine tp 16 (v := .int .i64 (lo:Int)) hHeld ?_
     go_frame
     refine rd 4 (fun K hK=>?_)
     have c7:(W2.drew).cell? ⟨p,7,none⟩=some (.slice (some ⟨g,0,none⟩) Z bc):=cell_at HM.out.hp 7
     go_simp
     clear c7
     refine hK.out _ _ (cell_at HM.out.hp 6) (fun hHeld=>?_)
     clear hK K
     try go_frame
     refine tp 17 (v := .slice (some ⟨g,lo,none⟩) (Z-lo) (bc-lo)) hHeld ?_
     go_frame
     refine rd 18 (fun K hK=>?_)
     go_simp
     go_at_call 167
     refine(HBy.out _ HM.out.ob).mono ?_
     rintro e w5 ⟨v5,ho5,hb5,rfl,hbw⟩
     replace HM:=Hd (HM.out.buf ho5 (Keeps.of_below _ hbw) (fun k hk => .inr (hb5 k hk)))
     obtain⟨a5,c5,rfl⟩:=ho5.form
     clear ho5 hb5 hbw HBy
     go_wp2_with fail
     refine hK.out _ _ (cell_at HM.out.hp 6) (fun hHeld=>?_)
     clear hK K
     try go_frame
     refine tp 19 hHeld ?_
     go_frame
     refine tp 20 hHeld ?_
     go_frame
     refine rd 21 (fun K hK=>?_)
     have F7:=free_at HM.out.hp 7
     have C7:w5.cell? ⟨p,7,none⟩=some (.slice (some ⟨g,0,none⟩) Z bc):=cell_at HM.out.hp 7
     go_simp
     clear F7 C7
     replace HM:=Hd (HM.out.cell 7 (.slice a5 EX.size c5))
     refine hK.out _ _ (cell_at HM.out.hp 6) (fun hHeld=>?_)
     clear hK K
     try go_frame
     clear hHeld
     refine wpAnyH_done (by kernel_rfl) ?_ _
     have C6:(w5.setCell ⟨p,7,none⟩ (.slice a5 EX.size c5)).cell? ⟨p,6,none⟩=some (.int .i64 G.base):=cell_at HM.out.hp 6
     have F6:=free_at HM.out.hp 6
     have HM6:=Hd (HM.out.cell 6 (.int .i64 (t/54*54)))
     clear HM
     go_wp2_with fail
     go_ret
     exact⟨rfl,HM6.out.log (G':=Lg.cut G t j) hok'.out (by show _=(G.buf.extract _ _).size;rw[←hlo.out,hZ.out,hEX.out]) (by show _=Lib.strCells (G.buf.extract _ _);rw[←hlo.out,hZ.out,hEX.out]) (by show _=(G.list.drop j).length;rw[hDL.out]) (by show _=recV (G.list.drop j);rw[hDL.out])⟩
   ·obtain rfl:lo=Z:=by omega
    by_cases hbc:bc=lo
    ·obtain rfl:lo=bc:=hbc.symm
     refine(HCl.out _ _).mono ?_
     rintro e w2 ⟨v2,ho2,hb2,rfl,hbw⟩
     replace HM:=Hd (HM.out.list ho2 (Keeps.of_below _ hbw) (fun k hk => .inr (hb2 k hk)))
     obtain⟨l2,m2,rfl⟩:=ho2.form
     have C8:w2.cell? ⟨p,8,none⟩=some (.slice la j j):=cell_at HM.out.hp 8
     have F8:=free_at HM.out.hp 8
     clear C4 C5 HCl hbw hb2 ho2
     go_upto_region 9 with fail
     replace HM:=Hd (HM.out.cell 8 (.slice l2 DL.length m2))
     refine name_world (fun W=>Mid w W p S _ _ _ _ _ _ _) HM.out ?_
     clear HM C8 F8
     intro W1 HM
     replace HM:=Hd HM
     have C3:W1.cell? ⟨p,3,none⟩=some (.int .i64 G.start):=cell_at HM.out.hp 3
     have F3:=free_at HM.out.hp 3
     go_upto_region 11 with fail
     replace HM:=Hd (HM.out.cell 3 (.int .i64 t))
     refine name_world (fun W=>Mid w W p S _ _ _ _ _ _ _) HM.out ?_
     clear HM C3 F3
     intro W2 HM
     replace HM:=Hd HM
     have hEX0:EX=⟨#[]⟩:=str_none (by rw[hex.out];omega)
     have HBy:Hid (∀a c w',Calls Tryz.prog 167 #[.slice a 0 c] w' fun e w''=>∃v',OwnS w'' 5 1 v' EX.size (Lib.strCells EX)∧(∀k∈blk v',w'.heap.size≤k)∧e = .returned v'∧Below w'.heap.size w' w''):=fun a c w'=>by
      rw[hEX0]
      exact by_clone (.slice a 0 c) ⟨#[]⟩ (Nat.zero_le _) w' ⟨a,c,rfl,fun h=>absurd h (Nat.lt_irrefl 0)⟩
     replace hEX0:=Hd hEX0
     have hwl:IntKind.i64.wrap (lo:Int)=lo:=by rw[IntKind.wrap_i64];have:=a8.out;have:=a9.out;omega
     have hml:min (lo:Int) (lo:Int)=lo:=by omega
     have hlo0:(0:Int)≤lo:=by omega
     have hlobc:(lo:Int)≤lo:=by omega
     have hS0:W2.drew.cell? ⟨p,6,none⟩=some (.int .i64 G.base):=cell_at HM.out.hp 6
     refine wp_region_held_drew (S:=fun w'=>w'.cell? ⟨p,6,none⟩=some (.int .i64 G.base)) (by kernel_rfl) hS0 (fun hHeld=>?_)
     clear hS0
     replace HM:Hid (Mid w W2.drew p S _ _ _ _ _ _ _):=HM.out.later (bD bR)
     refine tp 0 hHeld ?_
     go_frame
     refine tp 1 hHeld ?_
     go_frame
     refine tp 2 hHeld ?_
     go_frame
     refine tp 3 hHeld ?_
     go_frame
     refine tp 5 hHeld ?_
     go_frame
     refine tp 6 hHeld ?_
     go_frame
     refine tp 7 hHeld ?_
     go_frame
     refine tp 8 hHeld ?_
     go_frame
     refine tp 9 hHeld ?_
     go_frame
     refine tp 10 hHeld ?_
     go_frame
     refine tp 11 hHeld ?_
     go_frame
     refine tp 12 hHeld ?_
     go_frame
     refine tp 13 hHeld ?_
     go_frame
     refine rd2 4 14 (fun K hK=>?_) (fun K hK=>?_)
     ·have c7:(W2.drew).cell? ⟨p,7,none⟩=some (.slice ba lo lo):=cell_at HM.out.hp 7
      go_simp
      clear c7
      refine hK.out _ _ (cell_at HM.out.hp 6) (fun hHeld=>?_)
      clear hK K
      try go_frame
      refine rd 14 (fun K hK=>?_)
      have c7:(W2.drew).cell? ⟨p,7,none⟩=some (.slice ba lo lo):=cell_at HM.out.hp 7
      go_simp
      clear c7
      refine hK.out _ _ (cell_at HM.out.hp 6) (fun hHeld=>?_)
      clear hK K
      try go_frame
      refine tp 15 hHeld ?_
      go_frame
      refine tp 16 (v := .int .i64 (lo:Int)) hHeld ?_
      go_frame
      refine tp 17 (v := .slice ba 0 0) hHeld ?_
      go_frame
      refine rd 18 (fun K hK=>?_)
      go_simp
      go_at_call 167
      refine(HBy.out _ _ _).mono ?_
      rintro e w5 ⟨v5,ho5,hb5,rfl,hbw⟩
      replace HM:=Hd (HM.out.buf ho5 (Keeps.of_below _ hbw) (fun k hk => .inr (hb5 k hk)))
      obtain⟨a5,c5,rfl⟩:=ho5.form
      clear ho5 hb5 hbw HBy
      go_wp2_with fail
      refine hK.out _ _ (cell_at HM.out.hp 6) (fun hHeld=>?_)
      clear hK K
      try go_frame
      refine tp 19 hHeld ?_
      go_frame
      refine tp 20 hHeld ?_
      go_frame
      refine rd 21 (fun K hK=>?_)
      have F7:=free_at HM.out.hp 7
      have C7:w5.cell? ⟨p,7,none⟩=some (.slice ba lo lo):=cell_at HM.out.hp 7
      go_simp
      clear F7 C7
      replace HM:=Hd (HM.out.cell 7 (.slice a5 EX.size c5))
      refine hK.out _ _ (cell_at HM.out.hp 6) (fun hHeld=>?_)
      clear hK K
      try go_frame
      clear hHeld
      refine wpAnyH_done (by kernel_rfl) ?_ _
      have C6:(w5.setCell ⟨p,7,none⟩ (.slice a5 EX.size c5)).cell? ⟨p,6,none⟩=some (.int .i64 G.base):=cell_at HM.out.hp 6
      have F6:=free_at HM.out.hp 6
      have HM6:=Hd (HM.out.cell 6 (.int .i64 (t/54*54)))
      clear HM
      go_wp2_with fail
      go_ret
      exact⟨rfl,HM6.out.log (G':=Lg.cut G t j) hok'.out (by show _=(G.buf.extract _ _).size;rw[←hlo.out,hZ.out,hEX.out]) (by show _=Lib.strCells (G.buf.extract _ _);rw[←hlo.out,hZ.out,hEX.out]) (by show _=(G.list.drop j).length;rw[hDL.out]) (by show _=recV (G.list.drop j);rw[hDL.out])⟩
     ·have c7:(W2.drew).cell? ⟨p,7,none⟩=some (.slice ba lo lo):=cell_at HM.out.hp 7
      go_simp
      clear c7
      refine hK.out _ _ (cell_at HM.out.hp 6) (fun hHeld=>?_)
      clear hK K
      try go_frame
      refine tp 15 hHeld ?_
      go_frame
      refine tp 16 (v := .int .i64 (lo:Int)) hHeld ?_
      go_frame
      refine rd 4 (fun K hK=>?_)
      have c7:(W2.drew).cell? ⟨p,7,none⟩=some (.slice ba lo lo):=cell_at HM.out.hp 7
      go_simp
      clear c7
      refine hK.out _ _ (cell_at HM.out.hp 6) (fun hHeld=>?_)
      clear hK K
      try go_frame
      refine tp 17 (v := .slice ba 0 0) hHeld ?_
      go_frame
      refine rd 18 (fun K hK=>?_)
      go_simp
      go_at_call 167
      refine(HBy.out _ _ _).mono ?_
      rintro e w5 ⟨v5,ho5,hb5,rfl,hbw⟩
      replace HM:=Hd (HM.out.buf ho5 (Keeps.of_below _ hbw) (fun k hk => .inr (hb5 k hk)))
      obtain⟨a5,c5,rfl⟩:=ho5.form
      clear ho5 hb5 hbw HBy
      go_wp2_with fail
      refine hK.out _ _ (cell_at HM.out.hp 6) (fun hHeld=>?_)
      clear hK K
      try go_frame
      refine tp 19 hHeld ?_
      go_frame
      refine tp 20 hHeld ?_
      go_frame
      refine rd 21 (fun K hK=>?_)
      have F7:=free_at HM.out.hp 7
      have C7:w5.cell? ⟨p,7,none⟩=some (.slice ba lo lo):=cell_at HM.out.hp 7
      go_simp
      clear F7 C7
      replace HM:=Hd (HM.out.cell 7 (.slice a5 EX.size c5))
      refine hK.out _ _ (cell_at HM.out.hp 6) (fun hHeld=>?_)
      clear hK K
      try go_frame
      clear hHeld
      refine wpAnyH_done (by kernel_rfl) ?_ _
      have C6:(w5.setCell ⟨p,7,none⟩ (.slice a5 EX.size c5)).cell? ⟨p,6,none⟩=some (.int .i64 G.base):=cell_at HM.out.hp 6
      have F6:=free_at HM.out.hp 6
      have HM6:=Hd (HM.out.cell 6 (.int .i64 (t/54*54)))
      clear HM
      go_wp2_with fail
      go_ret
      exact⟨rfl,HM6.out.log (G':=Lg.cut G t j) hok'.out (by show _=(G.buf.extract _ _).size;rw[←hlo.out,hZ.out,hEX.out]) (by show _=Lib.strCells (G.buf.extract _ _);rw[←hlo.out,hZ.out,hEX.out]) (by show _=(G.list.drop j).length;rw[hDL.out]) (by show _=recV (G.list.drop j);rw[hDL.out])⟩
    ·refine(HCl.out _ _).mono ?_
     rintro e w2 ⟨v2,ho2,hb2,rfl,hbw⟩
     replace HM:=Hd (HM.out.list ho2 (Keeps.of_below _ hbw) (fun k hk => .inr (hb2 k hk)))
     obtain⟨l2,m2,rfl⟩:=ho2.form
     have C8:w2.cell? ⟨p,8,none⟩=some (.slice la j j):=cell_at HM.out.hp 8
     have F8:=free_at HM.out.hp 8
     clear C4 C5 HCl hbw hb2 ho2
     go_upto_region 9 with fail
     replace HM:=Hd (HM.out.cell 8 (.slice l2 DL.length m2))
     refine name_world (fun W=>Mid w W p S _ _ _ _ _ _ _) HM.out ?_
     clear HM C8 F8
     intro W1 HM
     replace HM:=Hd HM
     have C3:W1.cell? ⟨p,3,none⟩=some (.int .i64 G.start):=cell_at HM.out.hp 3
     have F3:=free_at HM.out.hp 3
     go_upto_region 11 with fail
     replace HM:=Hd (HM.out.cell 3 (.int .i64 t))
     refine name_world (fun W=>Mid w W p S _ _ _ _ _ _ _) HM.out ?_
     clear HM C3 F3
     intro W2 HM
     replace HM:=Hd HM
     have hEX0:EX=⟨#[]⟩:=str_none (by rw[hex.out];omega)
     have HBy:Hid (∀a c w',Calls Tryz.prog 167 #[.slice a 0 c] w' fun e w''=>∃v',OwnS w'' 5 1 v' EX.size (Lib.strCells EX)∧(∀k∈blk v',w'.heap.size≤k)∧e = .returned v'∧Below w'.heap.size w' w''):=fun a c w'=>by
      rw[hEX0]
      exact by_clone (.slice a 0 c) ⟨#[]⟩ (Nat.zero_le _) w' ⟨a,c,rfl,fun h=>absurd h (Nat.lt_irrefl 0)⟩
     replace hEX0:=Hd hEX0
     have hwl:IntKind.i64.wrap (lo:Int)=lo:=by rw[IntKind.wrap_i64];have:=a8.out;have:=a9.out;omega
     have hml:min (lo:Int) (lo:Int)=lo:=by omega
     have hlo0:(0:Int)≤lo:=by omega
     have hlobc:(lo:Int)≤bc:=by omega
     have hS0:W2.drew.cell? ⟨p,6,none⟩=some (.int .i64 G.base):=cell_at HM.out.hp 6
     refine wp_region_held_drew (S:=fun w'=>w'.cell? ⟨p,6,none⟩=some (.int .i64 G.base)) (by kernel_rfl) hS0 (fun hHeld=>?_)
     clear hS0
     replace HM:Hid (Mid w W2.drew p S _ _ _ _ _ _ _):=HM.out.later (bD bR)
     refine tp 0 hHeld ?_
     go_frame
     refine tp 1 hHeld ?_
     go_frame
     refine tp 2 hHeld ?_
     go_frame
     refine tp 3 hHeld ?_
     go_frame
     refine tp 5 hHeld ?_
     go_frame
     refine tp 6 hHeld ?_
     go_frame
     refine tp 7 hHeld ?_
     go_frame
     refine tp 8 hHeld ?_
     go_frame
     refine tp 9 hHeld ?_
     go_frame
     refine tp 10 hHeld ?_
     go_frame
     refine tp 11 hHeld ?_
     go_frame
     refine tp 12 hHeld ?_
     go_frame
     refine tp 13 hHeld ?_
     go_frame
     refine rd2 4 14 (fun K hK=>?_) (fun K hK=>?_)
     ·have c7:(W2.drew).cell? ⟨p,7,none⟩=some (.slice ba lo bc):=cell_at HM.out.hp 7
      go_simp
      clear c7
      refine hK.out _ _ (cell_at HM.out.hp 6) (fun hHeld=>?_)
      clear hK K
      try go_frame
      refine rd 14 (fun K hK=>?_)
      have c7:(W2.drew).cell? ⟨p,7,none⟩=some (.slice ba lo bc):=cell_at HM.out.hp 7
      go_simp
      clear c7
      refine hK.out _ _ (cell_at HM.out.hp 6) (fun hHeld=>?_)
      clear hK K
      try go_frame
      refine tp 15 hHeld ?_
      go_frame
      refine tp 16 (v := .int .i64 (lo:Int)) hHeld ?_
      go_frame
      refine tp 17 (v := .slice (Option.map (fun x=>x.add lo) ba) 0 (bc-lo)) hHeld ?_
      go_frame
      refine rd 18 (fun K hK=>?_)
      go_simp
      go_at_call 167
      refine(HBy.out _ _ _).mono ?_
      rintro e w5 ⟨v5,ho5,hb5,rfl,hbw⟩
      replace HM:=Hd (HM.out.buf ho5 (Keeps.of_below _ hbw) (fun k hk => .inr (hb5 k hk)))
      obtain⟨a5,c5,rfl⟩:=ho5.form
      clear ho5 hb5 hbw HBy
      go_wp2_with fail
      refine hK.out _ _ (cell_at HM.out.hp 6) (fun hHeld=>?_)
      clear hK K
      try go_frame
      refine tp 19 hHeld ?_
      go_frame
      refine tp 20 hHeld ?_
      go_frame
      refine rd 21 (fun K hK=>?_)
      have F7:=free_at HM.out.hp 7
      have C7:w5.cell? ⟨p,7,none⟩=some (.slice ba lo bc):=cell_at HM.out.hp 7
      go_simp
      clear F7 C7
      replace HM:=Hd (HM.out.cell 7 (.slice a5 EX.size c5))
      refine hK.out _ _ (cell_at HM.out.hp 6) (fun hHeld=>?_)
      clear hK K
      try go_frame
      clear hHeld
      refine wpAnyH_done (by kernel_rfl) ?_ _
      have C6:(w5.setCell ⟨p,7,none⟩ (.slice a5 EX.size c5)).cell? ⟨p,6,none⟩=some (.int .i64 G.base):=cell_at HM.out.hp 6
      have F6:=free_at HM.out.hp 6
      have HM6:=Hd (HM.out.cell 6 (.int .i64 (t/54*54)))
      clear HM
      go_wp2_with fail
      go_ret
      exact⟨rfl,HM6.out.log (G':=Lg.cut G t j) hok'.out (by show _=(G.buf.extract _ _).size;rw[←hlo.out,hZ.out,hEX.out]) (by show _=Lib.strCells (G.buf.extract _ _);rw[←hlo.out,hZ.out,hEX.out]) (by show _=(G.list.drop j).length;rw[hDL.out]) (by show _=recV (G.list.drop j);rw[hDL.out])⟩
     ·have c7:(W2.drew).cell? ⟨p,7,none⟩=some (.slice ba lo bc):=cell_at HM.out.hp 7
      go_simp
      clear c7
      refine hK.out _ _ (cell_at HM.out.hp 6) (fun hHeld=>?_)
      clear hK K
      try go_frame
      refine tp 15 hHeld ?_
      go_frame
      refine tp 16 (v := .int .i64 (lo:Int)) hHeld ?_
      go_frame
      refine rd 4 (fun K hK=>?_)
      have c7:(W2.drew).cell? ⟨p,7,none⟩=some (.slice ba lo bc):=cell_at HM.out.hp 7
      go_simp
      clear c7
      refine hK.out _ _ (cell_at HM.out.hp 6) (fun hHeld=>?_)
      clear hK K
      try go_frame
      refine tp 17 (v := .slice (Option.map (fun x=>x.add lo) ba) 0 (bc-lo)) hHeld ?_
      go_frame
      refine rd 18 (fun K hK=>?_)
      go_simp
      go_at_call 167
      refine(HBy.out _ _ _).mono ?_
      rintro e w5 ⟨v5,ho5,hb5,rfl,hbw⟩
      replace HM:=Hd (HM.out.buf ho5 (Keeps.of_below _ hbw) (fun k hk => .inr (hb5 k hk)))
      obtain⟨a5,c5,rfl⟩:=ho5.form
      clear ho5 hb5 hbw HBy
      go_wp2_with fail
      refine hK.out _ _ (cell_at HM.out.hp 6) (fun hHeld=>?_)
      clear hK K
      try go_frame
      refine tp 19 hHeld ?_
      go_frame
      refine tp 20 hHeld ?_
      go_frame
      refine rd 21 (fun K hK=>?_)
      have F7:=free_at HM.out.hp 7
      have C7:w5.cell? ⟨p,7,none⟩=some (.slice ba lo bc):=cell_at HM.out.hp 7
      go_simp
      clear F7 C7
      replace HM:=Hd (HM.out.cell 7 (.slice a5 EX.size c5))
      refine hK.out _ _ (cell_at HM.out.hp 6) (fun hHeld=>?_)
      clear hK K
      try go_frame
      clear hHeld
      refine wpAnyH_done (by kernel_rfl) ?_ _
      have C6:(w5.setCell ⟨p,7,none⟩ (.slice a5 EX.size c5)).cell? ⟨p,6,none⟩=some (.int .i64 G.base):=cell_at HM.out.hp 6
      have F6:=free_at HM.out.hp 6
      have HM6:=Hd (HM.out.cell 6 (.int .i64 (t/54*54)))
      clear HM
      go_wp2_with fail
      go_ret
      exact⟨rfl,HM6.out.log (G':=Lg.cut G t j) hok'.out (by show _=(G.buf.extract _ _).size;rw[←hlo.out,hZ.out,hEX.out]) (by show _=Lib.strCells (G.buf.extract _ _);rw[←hlo.out,hZ.out,hEX.out]) (by show _=(G.list.drop j).length;rw[hDL.out]) (by show _=recV (G.list.drop j);rw[hDL.out])⟩
  ·go_wp2_with fail
   by_cases hlt:lo<Z
   ·refine(HCl.out _ _).mono ?_
    rintro e w2 ⟨v2,ho2,hb2,rfl,hbw⟩
    replace HM:=Hd (HM.out.list ho2 (Keeps.of_below _ hbw) (fun k hk => .inr (hb2 k hk)))
    obtain⟨l2,m2,rfl⟩:=ho2.form
    have C8:w2.cell? ⟨p,8,none⟩=some (.slice la j lc):=cell_at HM.out.hp 8
    have F8:=free_at HM.out.hp 8
    clear C4 C5 HCl hbw hb2 ho2
    go_upto_region 9 with fail
    replace HM:=Hd (HM.out.cell 8 (.slice l2 DL.length m2))
    refine name_world (fun W=>Mid w W p S _ _ _ _ _ _ _) HM.out ?_
    clear HM C8 F8
    intro W1 HM
    replace HM:=Hd HM
    have C3:W1.cell? ⟨p,3,none⟩=some (.int .i64 G.start):=cell_at HM.out.hp 3
    have F3:=free_at HM.out.hp 3
    go_upto_region 11 with fail
    replace HM:=Hd (HM.out.cell 3 (.int .i64 t))
    refine name_world (fun W=>Mid w W p S _ _ _ _ _ _ _) HM.out ?_
    clear HM C3 F3
    intro W2 HM
    replace HM:=Hd HM
    obtain⟨g,hg⟩:∃g,ba=some ⟨g,0,none⟩:=by
     obtain⟨g,c,e⟩:=HM.out.ob.has (by omega)
     simp only[Value.slice.injEq]at e
     exact⟨g,e.1⟩
    subst hg
    have HBy:Hid (∀w',OwnS w' 5 1 (.slice (some ⟨g,0,none⟩) Z bc) Z (Lib.strCells G.buf)→Calls Tryz.prog 167 #[.slice (some ⟨g,lo,none⟩) (Z-lo) (bc-lo)] w' fun e w''=>∃v',OwnS w'' 5 1 v' EX.size (Lib.strCells EX)∧(∀k∈blk v',w'.heap.size≤k)∧e = .returned v'∧Below w'.heap.size w' w''):=fun w' ho=>by
     refine by_clone _ EX (by have:=hex.out;have:=a8.out;have:=a9.out;omega) w' ⟨some ⟨g,lo,none⟩,bc-lo,by rw[hex.out],fun _=>⟨g,lo,rfl,ho.lt (by simp[blk,Value.ownBlock]),?_⟩⟩
     rw[←hZ.out]at ho
     have:=Bytes.sub (OwnS.bytes ho) lo Z (by omega) (by rw[hZ.out];omega)
     rwa[Nat.zero_add,hEX.out]at this
    have hwl:IntKind.i64.wrap (lo:Int)=lo:=by rw[IntKind.wrap_i64];have:=a8.out;have:=a9.out;omega
    have hml:min (lo:Int) (Z:Int)=lo:=by omega
    have hbcl:¬bc=lo:=by omega
    have hlo0:(0:Int)≤lo:=by omega
    have hlob:(lo:Int)≤Z:=by omega
    have hlobc:(lo:Int)≤bc:=by omega
    have hS0:W2.drew.cell? ⟨p,6,none⟩=some (.int .i64 G.base):=cell_at HM.out.hp 6
    refine wp_region_held_drew (S:=fun w'=>w'.cell? ⟨p,6,none⟩=some (.int .i64 G.base)) (by kernel_rfl) hS0 (fun hHeld=>?_)
    clear hS0
    replace HM:Hid (Mid w W2.drew p S _ _ _ _ _ _ _):=HM.out.later (bD bR)
    refine tp 0 hHeld ?_
    go_frame
    refine tp 1 hHeld ?_
    go_frame
    refine tp 2 hHeld ?_
    go_frame
    refine tp 3 hHeld ?_
    go_frame
    refine tp 5 hHeld ?_
    go_frame
    refine tp 6 hHeld ?_
    go_frame
    refine tp 7 hHeld ?_
    go_frame
    refine tp 8 hHeld ?_
    go_frame
    refine tp 9 hHeld ?_
    go_frame
    refine tp 10 hHeld ?_
    go_frame
    refine tp 11 hHeld ?_
    go_frame
    refine tp 12 hHeld ?_
    go_frame
    refine tp 13 hHeld ?_
    go_frame
    refine rd2 4 14 (fun K hK=>?_) (fun K hK=>?_)
    ·have c7:(W2.drew).cell? ⟨p,7,none⟩=some (.slice (some ⟨g,0,none⟩) Z bc):=cell_at HM.out.hp 7
     go_simp
     clear c7
     refine hK.out _ _ (cell_at HM.out.hp 6) (fun hHeld=>?_)
     clear hK K
     try go_frame
     refine rd 14 (fun K hK=>?_)
     have c7:(W2.drew).cell? ⟨p,7,none⟩=some (.slice (some ⟨g,0,none⟩) Z bc):=cell_at HM.out.hp 7
     go_simp
     clear c7
     refine hK.out _ _ (cell_at HM.out.hp 6) (fun hHeld=>?_)
     clear hK K
     try go_frame
     refine tp 15 hHeld ?_
     go_frame
     refine tp 16 (v := .int .i64 (lo:Int)) hHeld ?_
     go_frame
     refine tp 17 (v := .slice (some ⟨g,lo,none⟩) (Z-lo) (bc-lo)) hHeld ?_
     go_frame
     refine rd 18 (fun K hK=>?_)
     go_simp
     go_at_call 167
     refine(HBy.out _ HM.out.ob).mono ?_
     rintro e w5 ⟨v5,ho5,hb5,rfl,hbw⟩
     replace HM:=Hd (HM.out.buf ho5 (Keeps.of_below _ hbw) (fun k hk => .inr (hb5 k hk)))
     obtain⟨a5,c5,rfl⟩:=ho5.form
     clear ho5 hb5 hbw HBy
     go_wp2_with fail
     refine hK.out _ _ (cell_at HM.out.hp 6) (fun hHeld=>?_)
     clear hK K
     try go_frame
     refine tp 19 hHeld ?_
     go_frame
     refine tp 20 hHeld ?_
     go_frame
     refine rd 21 (fun K hK=>?_)
     have F7:=free_at HM.out.hp 7
     have C7:w5.cell? ⟨p,7,none⟩=some (.slice (some ⟨g,0,none⟩) Z bc):=cell_at HM.out.hp 7
     go_simp
     clear F7 C7
     replace HM:=Hd (HM.out.cell 7 (.slice a5 EX.size c5))
     refine hK.out _ _ (cell_at HM.out.hp 6) (fun hHeld=>?_)
     clear hK K
     try go_frame
     clear hHeld
     refine wpAnyH_done (by kernel_rfl) ?_ _
     have C6:(w5.setCell ⟨p,7,none⟩ (.slice a5 EX.size c5)).cell? ⟨p,6,none⟩=some (.int .i64 G.base):=cell_at HM.out.hp 6
     have F6:=free_at HM.out.hp 6
     have HM6:=Hd (HM.out.cell 6 (.int .i64 (t/54*54)))
     clear HM
     go_wp2_with fail
     go_ret
     exact⟨rfl,HM6.out.log (G':=Lg.cut G t j) hok'.out (by show _=(G.buf.extract _ _).size;rw[←hlo.out,hZ.out,hEX.out]) (by show _=Lib.strCells (G.buf.extract _ _);rw[←hlo.out,hZ.out,hEX.out]) (by show _=(G.list.drop j).length;rw[hDL.out]) (by show _=recV (G.list.drop j);rw[hDL.out])⟩
    ·have c7:(W2.drew).cell? ⟨p,7,none⟩=some (.slice (some ⟨g,0,none⟩) Z bc):=cell_at HM.out.hp 7
     go_simp
     clear c7
     refine hK.out _ _ (cell_at HM.out.hp 6) (fun hHeld=>?_)
     clear hK K
     try go_frame
     refine tp 15 hHeld ?_
     go_frame
     refine tp 16 (v := .int .i64 (lo:Int)) hHeld ?_
     go_frame
     refine rd 4 (fun K hK=>?_)
     have c7:(W2.drew).cell? ⟨p,7,none⟩=some (.slice (some ⟨g,0,none⟩) Z bc):=cell_at HM.out.hp 7
     go_simp
     clear c7
     refine hK.out _ _ (cell_at HM.out.hp 6) (fun hHeld=>?_)
     clear hK K
     try go_frame
     refine tp 17 (v := .slice (some ⟨g,lo,none⟩) (Z-lo) (bc-lo)) hHeld ?_
     go_frame
     refine rd 18 (fun K hK=>?_)
     go_simp
     go_at_call 167
     refine(HBy.out _ HM.out.ob).mono ?_
     rintro e w5 ⟨v5,ho5,hb5,rfl,hbw⟩
     replace HM:=Hd (HM.out.buf ho5 (Keeps.of_below _ hbw) (fun k hk => .inr (hb5 k hk)))
     obtain⟨a5,c5,rfl⟩:=ho5.form
     clear ho5 hb5 hbw HBy
     go_wp2_with fail
     refine hK.out _ _ (cell_at HM.out.hp 6) (fun hHeld=>?_)
     clear hK K
     try go_frame
     refine tp 19 hHeld ?_
     go_frame
     refine tp 20 hHeld ?_
     go_frame
     refine rd 21 (fun K hK=>?_)
     have F7:=free_at HM.out.hp 7
     have C7:w5.cell? ⟨p,7,none⟩=some (.slice (some ⟨g,0,none⟩) Z bc):=cell_at HM.out.hp 7
     go_simp
     clear F7 C7
     replace HM:=Hd (HM.out.cell 7 (.slice a5 EX.size c5))
     refine hK.out _ _ (cell_at HM.out.hp 6) (fun hHeld=>?_)
     clear hK K
     try go_frame
     clear hHeld
     refine wpAnyH_done (by kernel_rfl) ?_ _
     have C6:(w5.setCell ⟨p,7,none⟩ (.slice a5 EX.size c5)).cell? ⟨p,6,none⟩=some (.int .i64 G.base):=cell_at HM.out.hp 6
     have F6:=free_at HM.out.hp 6
     have HM6:=Hd (HM.out.cell 6 (.int .i64 (t/54*54)))
     clear HM
     go_wp2_with fail
     go_ret
     exact⟨rfl,HM6.out.log (G':=Lg.cut G t j) hok'.out (by show _=(G.buf.extract _ _).size;rw[←hlo.out,hZ.out,hEX.out]) (by show _=Lib.strCells (G.buf.extract _ _);rw[←hlo.out,hZ.out,hEX.out]) (by show _=(G.list.drop j).length;rw[hDL.out]) (by show _=recV (G.list.drop j);rw[hDL.out])⟩
   ·obtain rfl:lo=Z:=by omega
    by_cases hbc:bc=lo
    ·obtain rfl:lo=bc:=hbc.symm
     refine(HCl.out _ _).mono ?_
     rintro e w2 ⟨v2,ho2,hb2,rfl,hbw⟩
     replace HM:=Hd (HM.out.list ho2 (Keeps.of_below _ hbw) (fun k hk => .inr (hb2 k hk)))
     obtain⟨l2,m2,rfl⟩:=ho2.form
     have C8:w2.cell? ⟨p,8,none⟩=some (.slice la j lc):=cell_at HM.out.hp 8
     have F8:=free_at HM.out.hp 8
     clear C4 C5 HCl hbw hb2 ho2
     go_upto_region 9 with fail
     replace HM:=Hd (HM.out.cell 8 (.slice l2 DL.length m2))
     refine name_world (fun W=>Mid w W p S _ _ _ _ _ _ _) HM.out ?_
     clear HM C8 F8
     intro W1 HM
     replace HM:=Hd HM
     have C3:W1.cell? ⟨p,3,none⟩=some (.int .i64 G.start):=cell_at HM.out.hp 3
     have F3:=free_at HM.out.hp 3
     go_upto_region 11 with fail
     replace HM:=Hd (HM.out.cell 3 (.int .i64 t))
     refine name_world (fun W=>Mid w W p S _ _ _ _ _ _ _) HM.out ?_
     clear HM C3 F3
     intro W2 HM
     replace HM:=Hd HM
     have hEX0:EX=⟨#[]⟩:=str_none (by rw[hex.out];omega)
     have HBy:Hid (∀a c w',Calls Tryz.prog 167 #[.slice a 0 c] w' fun e w''=>∃v',OwnS w'' 5 1 v' EX.size (Lib.strCells EX)∧(∀k∈blk v',w'.heap.size≤k)∧e = .returned v'∧Below w'.heap.size w' w''):=fun a c w'=>by
      rw[hEX0]
      exact by_clone (.slice a 0 c) ⟨#[]⟩ (Nat.zero_le _) w' ⟨a,c,rfl,fun h=>absurd h (Nat.lt_irrefl 0)⟩
     replace hEX0:=Hd hEX0
     have hwl:IntKind.i64.wrap (lo:Int)=lo:=by rw[IntKind.wrap_i64];have:=a8.out;have:=a9.out;omega
     have hml:min (lo:Int) (lo:Int)=lo:=by omega
     have hlo0:(0:Int)≤lo:=by omega
     have hlobc:(lo:Int)≤lo:=by omega
     have hS0:W2.drew.cell? ⟨p,6,none⟩=some (.int .i64 G.base):=cell_at HM.out.hp 6
     refine wp_region_held_drew (S:=fun w'=>w'.cell? ⟨p,6,none⟩=some (.int .i64 G.base)) (by kernel_rfl) hS0 (fun hHeld=>?_)
     clear hS0
     replace HM:Hid (Mid w W2.drew p S _ _ _ _ _ _ _):=HM.out.later (bD bR)
     refine tp 0 hHeld ?_
     go_frame
     refine tp 1 hHeld ?_
     go_frame
     refine tp 2 hHeld ?_
     go_frame
     refine tp 3 hHeld ?_
     go_frame
     refine tp 5 hHeld ?_
     go_frame
     refine tp 6 hHeld ?_
     go_frame
     refine tp 7 hHeld ?_
     go_frame
     refine tp 8 hHeld ?_
     go_frame
     refine tp 9 hHeld ?_
     go_frame
     refine tp 10 hHeld ?_
     go_frame
     refine tp 11 hHeld ?_
     go_frame
     refine tp 12 hHeld ?_
     go_frame
     refine tp 13 hHeld ?_
     go_frame
     refine rd2 4 14 (fun K hK=>?_) (fun K hK=>?_)
     ·have c7:(W2.drew).cell? ⟨p,7,none⟩=some (.slice ba lo lo):=cell_at HM.out.hp 7
      go_simp
      clear c7
      refine hK.out _ _ (cell_at HM.out.hp 6) (fun hHeld=>?_)
      clear hK K
      try go_frame
      refine rd 14 (fun K hK=>?_)
      have c7:(W2.drew).cell? ⟨p,7,none⟩=some (.slice ba lo lo):=cell_at HM.out.hp 7
      go_simp
      clear c7
      refine hK.out _ _ (cell_at HM.out.hp 6) (fun hHeld=>?_)
      clear hK K
      try go_frame
      refine tp 15 hHeld ?_
      go_frame
      refine tp 16 (v := .int .i64 (lo:Int)) hHeld ?_
      go_frame
      refine tp 17 (v := .slice ba 0 0) hHeld ?_
      go_frame
      refine rd 18 (fun K hK=>?_)
      go_simp
      go_at_call 167
      refine(HBy.out _ _ _).mono ?_
      rintro e w5 ⟨v5,ho5,hb5,rfl,hbw⟩
      replace HM:=Hd (HM.out.buf ho5 (Keeps.of_below _ hbw) (fun k hk => .inr (hb5 k hk)))
      obtain⟨a5,c5,rfl⟩:=ho5.form
      clear ho5 hb5 hbw HBy
      go_wp2_with fail
      refine hK.out _ _ (cell_at HM.out.hp 6) (fun hHeld=>?_)
      clear hK K
      try go_frame
      refine tp 19 hHeld ?_
      go_frame
      refine tp 20 hHeld ?_
      go_frame
      refine rd 21 (fun K hK=>?_)
      have F7:=free_at HM.out.hp 7
      have C7:w5.cell? ⟨p,7,none⟩=some (.slice ba lo lo):=cell_at HM.out.hp 7
      go_simp
      clear F7 C7
      replace HM:=Hd (HM.out.cell 7 (.slice a5 EX.size c5))
      refine hK.out _ _ (cell_at HM.out.hp 6) (fun hHeld=>?_)
      clear hK K
      try go_frame
      clear hHeld
      refine wpAnyH_done (by kernel_rfl) ?_ _
      have C6:(w5.setCell ⟨p,7,none⟩ (.slice a5 EX.size c5)).cell? ⟨p,6,none⟩=some (.int .i64 G.base):=cell_at HM.out.hp 6
      have F6:=free_at HM.out.hp 6
      have HM6:=Hd (HM.out.cell 6 (.int .i64 (t/54*54)))
      clear HM
      go_wp2_with fail
      go_ret
      exact⟨rfl,HM6.out.log (G':=Lg.cut G t j) hok'.out (by show _=(G.buf.extract _ _).size;rw[←hlo.out,hZ.out,hEX.out]) (by show _=Lib.strCells (G.buf.extract _ _);rw[←hlo.out,hZ.out,hEX.out]) (by show _=(G.list.drop j).length;rw[hDL.out]) (by show _=recV (G.list.drop j);rw[hDL.out])⟩
     ·have c7:(W2.drew).cell? ⟨p,7,none⟩=some (.slice ba lo lo):=cell_at HM.out.hp 7
      go_simp
      clear c7
      refine hK.out _ _ (cell_at HM.out.hp 6) (fun hHeld=>?_)
      clear hK K
      try go_frame
      refine tp 15 hHeld ?_
      go_frame
      refine tp 16 (v := .int .i64 (lo:Int)) hHeld ?_
      go_frame
      refine rd 4 (fun K hK=>?_)
      have c7:(W2.drew).cell? ⟨p,7,none⟩=some (.slice ba lo lo):=cell_at HM.out.hp 7
      go_simp
      clear c7
      refine hK.out _ _ (cell_at HM.out.hp 6) (fun hHeld=>?_)
      clear hK K
      try go_frame
      refine tp 17 (v := .slice ba 0 0) hHeld ?_
      go_frame
      refine rd 18 (fun K hK=>?_)
      go_simp
      go_at_call 167
      refine(HBy.out _ _ _).mono ?_
      rintro e w5 ⟨v5,ho5,hb5,rfl,hbw⟩
      replace HM:=Hd (HM.out.buf ho5 (Keeps.of_below _ hbw) (fun k hk => .inr (hb5 k hk)))
      obtain⟨a5,c5,rfl⟩:=ho5.form
      clear ho5 hb5 hbw HBy
      go_wp2_with fail
      refine hK.out _ _ (cell_at HM.out.hp 6) (fun hHeld=>?_)
      clear hK K
      try go_frame
      refine tp 19 hHeld ?_
      go_frame
      refine tp 20 hHeld ?_
      go_frame
      refine rd 21 (fun K hK=>?_)
      have F7:=free_at HM.out.hp 7
      have C7:w5.cell? ⟨p,7,none⟩=some (.slice ba lo lo):=cell_at HM.out.hp 7
      go_simp
      clear F7 C7
      replace HM:=Hd (HM.out.cell 7 (.slice a5 EX.size c5))
      refine hK.out _ _ (cell_at HM.out.hp 6) (fun hHeld=>?_)
      clear hK K
      try go_frame
      clear hHeld
      refine wpAnyH_done (by kernel_rfl) ?_ _
      have C6:(w5.setCell ⟨p,7,none⟩ (.slice a5 EX.size c5)).cell? ⟨p,6,none⟩=some (.int .i64 G.base):=cell_at HM.out.hp 6
      have F6:=free_at HM.out.hp 6
      have HM6:=Hd (HM.out.cell 6 (.int .i64 (t/54*54)))
      clear HM
      go_wp2_with fail
      go_ret
      exact⟨rfl,HM6.out.log (G':=Lg.cut G t j) hok'.out (by show _=(G.buf.extract _ _).size;rw[←hlo.out,hZ.out,hEX.out]) (by show _=Lib.strCells (G.buf.extract _ _);rw[←hlo.out,hZ.out,hEX.out]) (by show _=(G.list.drop j).length;rw[hDL.out]) (by show _=recV (G.list.drop j);rw[hDL.out])⟩
    ·refine(HCl.out _ _).mono ?_
     rintro e w2 ⟨v2,ho2,hb2,rfl,hbw⟩
     replace HM:=Hd (HM.out.list ho2 (Keeps.of_below _ hbw) (fun k hk => .inr (hb2 k hk)))
     obtain⟨l2,m2,rfl⟩:=ho2.form
     have C8:w2.cell? ⟨p,8,none⟩=some (.slice la j lc):=cell_at HM.out.hp 8
     have F8:=free_at HM.out.hp 8
     clear C4 C5 HCl hbw hb2 ho2
     go_upto_region 9 with fail
     replace HM:=Hd (HM.out.cell 8 (.slice l2 DL.length m2))
     refine name_world (fun W=>Mid w W p S _ _ _ _ _ _ _) HM.out ?_
     clear HM C8 F8
     intro W1 HM
     replace HM:=Hd HM
     have C3:W1.cell? ⟨p,3,none⟩=some (.int .i64 G.start):=cell_at HM.out.hp 3
     have F3:=free_at HM.out.hp 3
     go_upto_region 11 with fail
     replace HM:=Hd (HM.out.cell 3 (.int .i64 t))
     refine name_world (fun W=>Mid w W p S _ _ _ _ _ _ _) HM.out ?_
     clear HM C3 F3
     intro W2 HM
     replace HM:=Hd HM
     have hEX0:EX=⟨#[]⟩:=str_none (by rw[hex.out];omega)
     have HBy:Hid (∀a c w',Calls Tryz.prog 167 #[.slice a 0 c] w' fun e w''=>∃v',OwnS w'' 5 1 v' EX.size (Lib.strCells EX)∧(∀k∈blk v',w'.heap.size≤k)∧e = .returned v'∧Below w'.heap.size w' w''):=fun a c w'=>by
      rw[hEX0]
      exact by_clone (.slice a 0 c) ⟨#[]⟩ (Nat.zero_le _) w' ⟨a,c,rfl,fun h=>absurd h (Nat.lt_irrefl 0)⟩
     replace hEX0:=Hd hEX0
     have hwl:IntKind.i64.wrap (lo:Int)=lo:=by rw[IntKind.wrap_i64];have:=a8.out;have:=a9.out;omega
     have hml:min (lo:Int) (lo:Int)=lo:=by omega
     have hlo0:(0:Int)≤lo:=by omega
     have hlobc:(lo:Int)≤bc:=by omega
     have hS0:W2.drew.cell? ⟨p,6,none⟩=some (.int .i64 G.base):=cell_at HM.out.hp 6
     refine wp_region_held_drew (S:=fun w'=>w'.cell? ⟨p,6,none⟩=some (.int .i64 G.base)) (by kernel_rfl) hS0 (fun hHeld=>?_)
     clear hS0
     replace HM:Hid (Mid w W2.drew p S _ _ _ _ _ _ _):=HM.out.later (bD bR)
     refine tp 0 hHeld ?_
     go_frame
     refine tp 1 hHeld ?_
     go_frame
     refine tp 2 hHeld ?_
     go_frame
     refine tp 3 hHeld ?_
     go_frame
     refine tp 5 hHeld ?_
     go_frame
     refine tp 6 hHeld ?_
     go_frame
     refine tp 7 hHeld ?_
     go_frame
     refine tp 8 hHeld ?_
     go_frame
     refine tp 9 hHeld ?_
     go_frame
     refine tp 10 hHeld ?_
     go_frame
     refine tp 11 hHeld ?_
     go_frame
     refine tp 12 hHeld ?_
     go_frame
     refine tp 13 hHeld ?_
     go_frame
     refine rd2 4 14 (fun K hK=>?_) (fun K hK=>?_)
     ·have c7:(W2.drew).cell? ⟨p,7,none⟩=some (.slice ba lo bc):=cell_at HM.out.hp 7
      go_simp
      clear c7
      refine hK.out _ _ (cell_at HM.out.hp 6) (fun hHeld=>?_)
      clear hK K
      try go_frame
      refine rd 14 (fun K hK=>?_)
      have c7:(W2.drew).cell? ⟨p,7,none⟩=some (.slice ba lo bc):=cell_at HM.out.hp 7
      go_simp
      clear c7
      refine hK.out _ _ (cell_at HM.out.hp 6) (fun hHeld=>?_)
      clear hK K
      try go_frame
      refine tp 15 hHeld ?_
      go_frame
      refine tp 16 (v := .int .i64 (lo:Int)) hHeld ?_
      go_frame
      refine tp 17 (v := .slice (Option.map (fun x=>x.add lo) ba) 0 (bc-lo)) hHeld ?_
      go_frame
      refine rd 18 (fun K hK=>?_)
      go_simp
      go_at_call 167
      refine(HBy.out _ _ _).mono ?_
      rintro e w5 ⟨v5,ho5,hb5,rfl,hbw⟩
      replace HM:=Hd (HM.out.buf ho5 (Keeps.of_below _ hbw) (fun k hk => .inr (hb5 k hk)))
      obtain⟨a5,c5,rfl⟩:=ho5.form
      clear ho5 hb5 hbw HBy
      go_wp2_with fail
      refine hK.out _ _ (cell_at HM.out.hp 6) (fun hHeld=>?_)
      clear hK K
      try go_frame
      refine tp 19 hHeld ?_
      go_frame
      refine tp 20 hHeld ?_
      go_frame
      refine rd 21 (fun K hK=>?_)
      have F7:=free_at HM.out.hp 7
      have C7:w5.cell? ⟨p,7,none⟩=some (.slice ba lo bc):=cell_at HM.out.hp 7
      go_simp
      clear F7 C7
      replace HM:=Hd (HM.out.cell 7 (.slice a5 EX.size c5))
      refine hK.out _ _ (cell_at HM.out.hp 6) (fun hHeld=>?_)
      clear hK K
      try go_frame
      clear hHeld
      refine wpAnyH_done (by kernel_rfl) ?_ _
      have C6:(w5.setCell ⟨p,7,none⟩ (.slice a5 EX.size c5)).cell? ⟨p,6,none⟩=some (.int .i64 G.base):=cell_at HM.out.hp 6
      have F6:=free_at HM.out.hp 6
      have HM6:=Hd (HM.out.cell 6 (.int .i64 (t/54*54)))
      clear HM
      go_wp2_with fail
      go_ret
      exact⟨rfl,HM6.out.log (G':=Lg.cut G t j) hok'.out (by show _=(G.buf.extract _ _).size;rw[←hlo.out,hZ.out,hEX.out]) (by show _=Lib.strCells (G.buf.extract _ _);rw[←hlo.out,hZ.out,hEX.out]) (by show _=(G.list.drop j).length;rw[hDL.out]) (by show _=recV (G.list.drop j);rw[hDL.out])⟩
     ·have c7:(W2.drew).cell? ⟨p,7,none⟩=some (.slice ba lo bc):=cell_at HM.out.hp 7
      go_simp
      clear c7
      refine hK.out _ _ (cell_at HM.out.hp 6) (fun hHeld=>?_)
      clear hK K
      try go_frame
      refine tp 15 hHeld ?_
      go_frame
      refine tp 16 (v := .int .i64 (lo:Int)) hHeld ?_
      go_frame
      refine rd 4 (fun K hK=>?_)
      have c7:(W2.drew).cell? ⟨p,7,none⟩=some (.slice ba lo bc):=cell_at HM.out.hp 7
      go_simp
      clear c7
      refine hK.out _ _ (cell_at HM.out.hp 6) (fun hHeld=>?_)
      clear hK K
      try go_frame
      refine tp 17 (v := .slice (Option.map (fun x=>x.add lo) ba) 0 (bc-lo)) hHeld ?_
      go_frame
      refine rd 18 (fun K hK=>?_)
      go_simp
      go_at_call 167
      refine(HBy.out _ _ _).mono ?_
      rintro e w5 ⟨v5,ho5,hb5,rfl,hbw⟩
      replace HM:=Hd (HM.out.buf ho5 (Keeps.of_below _ hbw) (fun k hk => .inr (hb5 k hk)))
      obtain⟨a5,c5,rfl⟩:=ho5.form
      clear ho5 hb5 hbw HBy
      go_wp2_with fail
      refine hK.out _ _ (cell_at HM.out.hp 6) (fun hHeld=>?_)
      clear hK K
      try go_frame
      refine tp 19 hHeld ?_
      go_frame
      refine tp 20 hHeld ?_
      go_frame
      refine rd 21 (fun K hK=>?_)
      have F7:=free_at HM.out.hp 7
      have C7:w5.cell? ⟨p,7,none⟩=some (.slice ba lo bc):=cell_at HM.out.hp 7
      go_simp
      clear F7 C7
      replace HM:=Hd (HM.out.cell 7 (.slice a5 EX.size c5))
      refine hK.out _ _ (cell_at HM.out.hp 6) (fun hHeld=>?_)
      clear hK K
      try go_frame
      clear hHeld
      refine wpAnyH_done (by kernel_rfl) ?_ _
      have C6:(w5.setCell ⟨p,7,none⟩ (.slice a5 EX.size c5)).cell? ⟨p,6,none⟩=some (.int .i64 G.base):=cell_at HM.out.hp 6
      have F6:=free_at HM.out.hp 6
      have HM6:=Hd (HM.out.cell 6 (.int .i64 (t/54*54)))
      clear HM
      go_wp2_with fail
      go_ret
      exact⟨rfl,HM6.out.log (G':=Lg.cut G t j) hok'.out (by show _=(G.buf.extract _ _).size;rw[←hlo.out,hZ.out,hEX.out]) (by show _=Lib.strCells (G.buf.extract _ _);rw[←hlo.out,hZ.out,hEX.out]) (by show _=(G.list.drop j).length;rw[hDL.out]) (by show _=recV (G.list.drop j);rw[hDL.out])⟩
end Go.Proofs.YtimomjheanfbmaaGreatDoor
