import Derived.Test.YtimomjheanfbmaaGreatDoorQaa
import Derived.Test.YtimomjheanfbmaaGreatDoorQaf
import Derived.Test.YtimomjheanfbmaaGreatDoorRaa
set_option linter.unusedSimpArgs false
set_option linter.unusedVariables false
namespace Go.Proofs.YtimomjheanfbmaaGreatDoor
open Go.RowKit
set_option maxRecDepth 100000 in
set_option maxHeartbeats 16000000 in
theorem rc_right (R:Rc) (iv lv:Value) (w:World) (h:RcSl w R iv lv):Calls Tryz.prog 45 #[.agg (rcC R iv lv)] w fun e w'=>(e = .returned (.bool true)∧RcOk R∨e = .returned (.bool false)∧¬RcOk R)∧Below w.heap.size w w':=by
 obtain⟨g1,g2,g3,g4,g5⟩:=h
 obtain⟨a,n,cap,rfl,hn,hnz,hS1⟩:=sl_open g1
 obtain⟨b,m,cap2,rfl,hm,hmz,hS2⟩:=sl_open g2
 rw[List.length_map]at hn hm
 replace hn:=Hd hn
 replace hm:=Hd hm
 have HS1:=Hd hS1
 have HS2:=Hd hS2
 have HD:=Hd g5
 clear g1 g2 g5 hS1 hS2
 unfold maxLen at g3 g4 hnz hmz
 have hrc:rcC R (.slice a n cap) (.slice b m cap2) = #[.int .i64 R.kind,.int .i64 R.xct,.int .i64 R.prev,.int .i64 R.next,.int .i64 R.uk,.int .i64 R.us,.int .i64 R.up,.int .i64 R.ul,.string R.key,.int .i64 R.bs,.string R.bd,.slice a n cap,.slice b m cap2,.int .i64 R.fresh]:=rfl
 have HQ:Hid ((w.alloc (.cells (rcC R (.slice a n cap) (.slice b m cap2)) 65)).heap[w.heap.size]? = some (.cells (rcC R (.slice a n cap) (.slice b m cap2)) 65 (0,0))):=hN rfl
 replace hrc:=Hd hrc
 rw[hrc.out]
 cases h0:decide (R.kind<1)
 rotate_left
 ·have hbad:Hid (¬RcOk R):=fun hh=>by obtain⟨⟨⟨k1,k2⟩,x1,x2,x3,x4,x5,x6,x7,x8,k3,x9,k4,k5,k6⟩,-⟩:=hh;have hn:=hn.out;have hm:=hm.out;have:=of_decide_eq_true h0;omega
  go_enter Tryz.func45,Tryz.ntmps45
  go_wp2_with fail
  go_ret
  exact⟨.inr ⟨rfl,hbad.out⟩,bA (bA bR)⟩
 cases h1:decide (6<R.kind)
 rotate_left
 ·have hbad:Hid (¬RcOk R):=fun hh=>by obtain⟨⟨⟨k1,k2⟩,x1,x2,x3,x4,x5,x6,x7,x8,k3,x9,k4,k5,k6⟩,-⟩:=hh;have hn:=hn.out;have hm:=hm.out;have:=of_decide_eq_true h1;omega
  go_enter Tryz.func45,Tryz.ntmps45
  go_wp2_with fail
  go_ret
  exact⟨.inr ⟨rfl,hbad.out⟩,bA (bA bR)⟩
 go_enter Tryz.func45,Tryz.ntmps45
 go_wp2_with fail
 refine(rc_in _ _ _).mono ?_
 rintro e w1 ⟨rfl,rfl⟩
 cases h2:wrongB R.xct 2147483647
 rotate_left
 ·have hbad:Hid (¬RcOk R):=fun hh=>by obtain⟨⟨⟨k1,k2⟩,x1,x2,x3,x4,x5,x6,x7,x8,k3,x9,k4,k5,k6⟩,-⟩:=hh;exact wrong_yes h2 x1
  go_wp2_with fail
  go_ret
  exact⟨.inr ⟨rfl,hbad.out⟩,bA (bA bR)⟩
 go_wp2_with fail
 refine(rc_in _ _ _).mono ?_
 rintro e w1 ⟨rfl,rfl⟩
 cases h3:wrongB R.fresh 2147483647
 rotate_left
 ·have hbad:Hid (¬RcOk R):=fun hh=>by obtain⟨⟨⟨k1,k2⟩,x1,x2,x3,x4,x5,x6,x7,x8,k3,x9,k4,k5,k6⟩,-⟩:=hh;exact wrong_yes h3 x4
  go_wp2_with fail
  go_ret
  exact⟨.inr ⟨rfl,hbad.out⟩,bA (bA bR)⟩
 go_wp2_with fail
 refine(rc_in _ _ _).mono ?_
 rintro e w1 ⟨rfl,rfl⟩
 cases h4:wrongB R.prev 1099511627776
 rotate_left
 ·have hbad:Hid (¬RcOk R):=fun hh=>by obtain⟨⟨⟨k1,k2⟩,x1,x2,x3,x4,x5,x6,x7,x8,k3,x9,k4,k5,k6⟩,-⟩:=hh;exact wrong_yes h4 x2
  go_wp2_with fail
  go_ret
  exact⟨.inr ⟨rfl,hbad.out⟩,bA (bA bR)⟩
 go_wp2_with fail
 refine(rc_in _ _ _).mono ?_
 rintro e w1 ⟨rfl,rfl⟩
 cases h5:wrongB R.next 1099511627776
 rotate_left
 ·have hbad:Hid (¬RcOk R):=fun hh=>by obtain⟨⟨⟨k1,k2⟩,x1,x2,x3,x4,x5,x6,x7,x8,k3,x9,k4,k5,k6⟩,-⟩:=hh;exact wrong_yes h5 x3
  go_wp2_with fail
  go_ret
  exact⟨.inr ⟨rfl,hbad.out⟩,bA (bA bR)⟩
 go_wp2_with fail
 refine(rc_in _ _ _).mono ?_
 rintro e w1 ⟨rfl,rfl⟩
 cases h6:wrongB R.uk 3
 rotate_left
 ·have hbad:Hid (¬RcOk R):=fun hh=>by obtain⟨⟨⟨k1,k2⟩,x1,x2,x3,x4,x5,x6,x7,x8,k3,x9,k4,k5,k6⟩,-⟩:=hh;exact wrong_yes h6 x5
  go_wp2_with fail
  go_ret
  exact⟨.inr ⟨rfl,hbad.out⟩,bA (bA bR)⟩
 go_wp2_with fail
 refine(rc_in _ _ _).mono ?_
 rintro e w1 ⟨rfl,rfl⟩
 cases h7:wrongB R.us 6
 rotate_left
 ·have hbad:Hid (¬RcOk R):=fun hh=>by obtain⟨⟨⟨k1,k2⟩,x1,x2,x3,x4,x5,x6,x7,x8,k3,x9,k4,k5,k6⟩,-⟩:=hh;exact wrong_yes h7 x6
  go_wp2_with fail
  go_ret
  exact⟨.inr ⟨rfl,hbad.out⟩,bA (bA bR)⟩
 go_wp2_with fail
 refine(rc_in _ _ _).mono ?_
 rintro e w1 ⟨rfl,rfl⟩
 cases h8:wrongB R.up 1023
 rotate_left
 ·have hbad:Hid (¬RcOk R):=fun hh=>by obtain⟨⟨⟨k1,k2⟩,x1,x2,x3,x4,x5,x6,x7,x8,k3,x9,k4,k5,k6⟩,-⟩:=hh;exact wrong_yes h8 x7
  go_wp2_with fail
  go_ret
  exact⟨.inr ⟨rfl,hbad.out⟩,bA (bA bR)⟩
 go_wp2_with fail
 refine(rc_in _ _ _).mono ?_
 rintro e w1 ⟨rfl,rfl⟩
 cases h9:wrongB R.ul 5
 rotate_left
 ·have hbad:Hid (¬RcOk R):=fun hh=>by obtain⟨⟨⟨k1,k2⟩,x1,x2,x3,x4,x5,x6,x7,x8,k3,x9,k4,k5,k6⟩,-⟩:=hh;exact wrong_yes h9 x8
  go_wp2_with fail
  go_ret
  exact⟨.inr ⟨rfl,hbad.out⟩,bA (bA bR)⟩
 cases h10:decide ((8:Int)<R.key.size)
 rotate_left
 ·have hbad:Hid (¬RcOk R):=fun hh=>by obtain⟨⟨⟨k1,k2⟩,x1,x2,x3,x4,x5,x6,x7,x8,k3,x9,k4,k5,k6⟩,-⟩:=hh;have hn:=hn.out;have hm:=hm.out;have:=of_decide_eq_true h10;omega
  go_wp2_with fail
  go_ret
  exact⟨.inr ⟨rfl,hbad.out⟩,bA (bA bR)⟩
 go_wp2_with fail
 refine(rc_in _ _ _).mono ?_
 rintro e w1 ⟨rfl,rfl⟩
 cases h11:wrongB R.bs 2
 rotate_left
 ·have hbad:Hid (¬RcOk R):=fun hh=>by obtain⟨⟨⟨k1,k2⟩,x1,x2,x3,x4,x5,x6,x7,x8,k3,x9,k4,k5,k6⟩,-⟩:=hh;exact wrong_yes h11 x9
  go_wp2_with fail
  go_ret
  exact⟨.inr ⟨rfl,hbad.out⟩,bA (bA bR)⟩
 cases h12:decide ((34:Int)<R.bd.size)
 rotate_left
 ·have hbad:Hid (¬RcOk R):=fun hh=>by obtain⟨⟨⟨k1,k2⟩,x1,x2,x3,x4,x5,x6,x7,x8,k3,x9,k4,k5,k6⟩,-⟩:=hh;have hn:=hn.out;have hm:=hm.out;have:=of_decide_eq_true h12;omega
  go_wp2_with fail
  go_ret
  exact⟨.inr ⟨rfl,hbad.out⟩,bA (bA bR)⟩
 cases h13:decide ((24:Int)<n)
 rotate_left
 ·have hbad:Hid (¬RcOk R):=fun hh=>by obtain⟨⟨⟨k1,k2⟩,x1,x2,x3,x4,x5,x6,x7,x8,k3,x9,k4,k5,k6⟩,-⟩:=hh;have hn:=hn.out;have hm:=hm.out;have:=of_decide_eq_true h13;omega
  go_wp2_with fail
  go_ret
  exact⟨.inr ⟨rfl,hbad.out⟩,bA (bA bR)⟩
 cases h14:decide ((8:Int)<m)
 rotate_left
 ·have hbad:Hid (¬RcOk R):=fun hh=>by obtain⟨⟨⟨k1,k2⟩,x1,x2,x3,x4,x5,x6,x7,x8,k3,x9,k4,k5,k6⟩,-⟩:=hh;have hn:=hn.out;have hm:=hm.out;have:=of_decide_eq_true h14;omega
  go_wp2_with fail
  go_ret
  exact⟨.inr ⟨rfl,hbad.out⟩,bA (bA bR)⟩
 have hH:Hid (RcHd R):=by
  have e0:=of_decide_eq_false h0;have e1:=of_decide_eq_false h1;have e2:=of_decide_eq_false h10;have e3:=of_decide_eq_false h12;have e4:=of_decide_eq_false h13;have e5:=of_decide_eq_false h14;have e6:=hn.out;have e7:=hm.out
  exact⟨⟨by omega,by omega⟩,(wrong_iff _ _).1 h2,(wrong_iff _ _).1 h4,(wrong_iff _ _).1 h5,(wrong_iff _ _).1 h3,(wrong_iff _ _).1 h6,(wrong_iff _ _).1 h7,(wrong_iff _ _).1 h8,(wrong_iff _ _).1 h9,by omega,(wrong_iff _ _).1 h11,by omega,by omega,by omega⟩
 have hn24:n≤24:=by have:=of_decide_eq_false h13;omega
 have hm8:m≤8:=by have:=of_decide_eq_false h14;omega
 go_wp2_with fail
 clear h0 h1 h2 h3 h4 h5 h6 h7 h8 h9 h10 h11 h12 h13 h14
 rw[←hrc.out]
 clear hrc
 have HQ1:Hid ((((w.alloc (.cells (rcC R (.slice a n cap) (.slice b m cap2)) 65)).alloc (.cells #[.int .i64 R.uk,.int .i64 R.us,.int .i64 R.up,.int .i64 R.ul,.string R.key,.int .i64 R.bs,.string R.bd] 42))).heap[w.heap.size]? = some (.cells (rcC R (.slice a n cap) (.slice b m cap2)) 65 (0,0))):=hO HQ.out
 clear HQ
 go_loopw [4] (fun i wr=>∃(k:Nat),k≤n∧i = .int .i64 k∧Hid (∀x∈R.ims.take k,ImOk x)∧Hid (wr.heap[w.heap.size]? = some (.cells (rcC R (.slice a n cap) (.slice b m cap2)) 65 (0,0)))∧Hid (Below w.heap.size w wr)) (fun i _=>n-(intOf i).toNat)
 case atStart=>exact⟨0,by omega,rfl,fun x hx=>by simp at hx,HQ1.out,bA (bA bR)⟩
 case round =>
  obtain⟨k,hk,rfl,hstep,HQ,HB⟩:=hrel
  clear HQ1
  have hqr:=block_lt HQ.out
  by_cases hkn:k<n
  ·obtain⟨pb,off,rfl,hpb,hrg⟩:=(HS1.out.later HB.out).elem imL_length (k:=k) (by rw[←hn.out];exact hkn)
   have d11:wr.cell? ⟨w.heap.size,11,none⟩=some (.slice (some ⟨pb,off,none⟩) n cap):=cell_at HQ.out 11
   obtain⟨x,hx⟩:∃x,R.ims[k]'(by rw[←hn.out];exact hkn)=x:=⟨_,rfl⟩
   have hmore:=Hd (im_take (R:=R) (k:=k) (by rw[←hn.out];exact hkn) hstep.out)
   have hxm:Hid (x∈R.ims):=hx ▸ List.getElem_mem _
   rw[hx]at hrg hmore
   replace hx:=Hd hx
   have c0:wr.cell? ⟨pb,off+k*17,none⟩=some (.int .i64 x.1):=hrg 0 _ rfl
   have hrg1:Hid (wr.rangeAt pb (off+k*17+1) (pgC x.2).toList):=fun j v hv=>by
    have:=hrg (j+1) v hv
    rw[show off+k*17+1+j=off+k*17+(j+1) by omega]
    exact this
   clear hrg
   have hxd:=Hd (HD.out x hxm.out)
   have HC:=Hd (fun w=>rf_right x.2 hxd.out w)
   unfold pgV at HC
   have hno:Hid (¬ImOk x→¬RcOk R):=fun h h'=>h (h'.2.1 x hxm.out)
   cases hid:wrongB x.1 1023
   ·go_wp2_with (first
     | (go_at_call 95;refine(rc_in _ _ _).mono ?_;rintro e w1 ⟨rfl,rfl⟩)
     | (refine wpList_load_mid_want (by rfl) 49 _ rfl pb (off+k*17+1) rfl (pgC x.2).toList _ hrg1.out Tryz.underlying49 rfl (by kernel_rfl) ?_))
    refine(HC.out _).mono ?_
    rintro e w1 ⟨h,hb⟩
    have HB1:=Hd (bT HB.out hb)
    have HQ1:=Hd (hBs hb HQ.out)
    clear hb HC hrg1
    rcases h with⟨rfl,hok⟩ | ⟨rfl,hbad⟩
    ·have hfin:=Hd (hmore.out ⟨(wrong_iff _ _).1 hid,hok⟩)
     clear hok hid hmore hno c0
     go_wp2_with fail
     go_roundw
     case rel=>exact⟨k+1,by omega,rfl,hfin.out,HQ1.out,HB1.out⟩
     case measure=>simp[intOf];omega
    ·have hfin:=Hd (hno.out (fun h=>hbad h.2))
     clear hbad hid hmore hno c0
     go_wp2_with fail
     go_ret
     exact⟨.inr ⟨rfl,hfin.out⟩,HB1.out⟩
   ·have hfin:=Hd (hno.out (fun h=>wrong_yes hid h.1))
    clear hmore hno HC
    go_wp2_with (go_at_call 95;refine(rc_in _ _ _).mono ?_;rintro e w1 ⟨rfl,rfl⟩)
    go_ret
    exact⟨.inr ⟨rfl,hfin.out⟩,HB.out⟩
  ·obtain rfl:k=n:=by omega
   have hims:Hid (∀x∈R.ims,ImOk x):=by
    have h:=hstep.out
    rw[hn.out,List.take_length]at h
    exact h
   have d10:wr.cell? ⟨w.heap.size,11,none⟩=some (.slice a k cap):=cell_at HQ.out 11
   clear hstep HS1 HD hkn hk
   go_wp2_with fail
   clear d10
   go_loopw [5] (fun i wr=>∃(j:Nat),j≤m∧i = .int .i64 j∧Hid (∀x∈R.lvs.take j,LvOk x)∧Hid (wr.heap[w.heap.size]? = some (.cells (rcC R (.slice a k cap) (.slice b m cap2)) 65 (0,0)))∧Hid (Below w.heap.size w wr)) (fun i _=>m-(intOf i).toNat)
   case atStart=>exact⟨0,by omega,rfl,fun x hx=>by simp at hx,HQ.out,HB.out⟩
   case round =>
    clear HB HQ hqr
    obtain⟨j,hj,rfl,hstep,HQ,HB⟩:=hrel
    have hqr:=block_lt HQ.out
    by_cases hjm:j<m
    ·obtain⟨pb,off,rfl,hpb,hrg⟩:=(HS2.out.later HB.out).elem lvL_length (k:=j) (by rw[←hm.out];exact hjm)
     have d11:wr.cell? ⟨w.heap.size,12,none⟩=some (.slice (some ⟨pb,off,none⟩) m cap2):=cell_at HQ.out 12
     obtain⟨x,hx⟩:∃x,R.lvs[j]'(by rw[←hm.out];exact hjm)=x:=⟨_,rfl⟩
     have hmore:=Hd (lv_take (R:=R) (k:=j) (by rw[←hm.out];exact hjm) hstep.out)
     have hxm:Hid (x∈R.lvs):=hx ▸ List.getElem_mem _
     rw[hx]at hrg hmore
     replace hx:=Hd hx
     have hrg:Hid (wr.rangeAt pb (off+j*3) [.int .i64 x.1,.int .i64 x.2.1,.int .i64 x.2.2]):=hrg
     have hno:Hid (¬LvOk x→¬RcOk R):=fun h h'=>h (h'.2.2 x hxm.out)
     obtain⟨x1,x2,x3⟩:=x
     dsimp only at hrg
     have hiff:Hid (LvOk (x1,x2,x3)↔inR x1 2147483647∧inR x2 1099511627776∧inR x3 1099511627776):=Iff.rfl
     cases q1:wrongB x1 2147483647
     ·cases q2:wrongB x2 1099511627776
      ·cases q3:wrongB x3 1099511627776
       ·have hfin:=Hd (hmore.out (hiff.out.2 ⟨(wrong_iff _ _).1 q1,(wrong_iff _ _).1 q2,(wrong_iff _ _).1 q3⟩))
        clear hmore hno hiff
        go_wp2_with (first | (refine wpList_load_mid rfl 61 _ rfl pb (off+j*3) rfl [.int .i64 x1,.int .i64 x2,.int .i64 x3] _ hrg.out Tryz.underlying61 rfl (by kernel_rfl) ?_) | (go_at_call 95;refine(rc_in _ _ _).mono ?_;rintro e w1 ⟨rfl,rfl⟩))
        go_roundw
        case rel=>exact⟨j+1,by omega,rfl,hfin.out,hO HQ.out,bA HB.out⟩
        case measure=>simp[intOf];omega
       ·have hfin:=Hd (hno.out (fun h=>wrong_yes q3 (hiff.out.1 h).2.2))
        clear hmore hno hiff
        go_wp2_with (first | (refine wpList_load_mid rfl 61 _ rfl pb (off+j*3) rfl [.int .i64 x1,.int .i64 x2,.int .i64 x3] _ hrg.out Tryz.underlying61 rfl (by kernel_rfl) ?_) | (go_at_call 95;refine(rc_in _ _ _).mono ?_;rintro e w1 ⟨rfl,rfl⟩))
        go_ret
        exact⟨.inr ⟨rfl,hfin.out⟩,bA HB.out⟩
      ·have hfin:=Hd (hno.out (fun h=>wrong_yes q2 (hiff.out.1 h).2.1))
       clear hmore hno hiff
       go_wp2_with (first | (refine wpList_load_mid rfl 61 _ rfl pb (off+j*3) rfl [.int .i64 x1,.int .i64 x2,.int .i64 x3] _ hrg.out Tryz.underlying61 rfl (by kernel_rfl) ?_) | (go_at_call 95;refine(rc_in _ _ _).mono ?_;rintro e w1 ⟨rfl,rfl⟩))
       go_ret
       exact⟨.inr ⟨rfl,hfin.out⟩,bA HB.out⟩
     ·have hfin:=Hd (hno.out (fun h=>wrong_yes q1 (hiff.out.1 h).1))
      clear hmore hno hiff
      go_wp2_with (first | (refine wpList_load_mid rfl 61 _ rfl pb (off+j*3) rfl [.int .i64 x1,.int .i64 x2,.int .i64 x3] _ hrg.out Tryz.underlying61 rfl (by kernel_rfl) ?_) | (go_at_call 95;refine(rc_in _ _ _).mono ?_;rintro e w1 ⟨rfl,rfl⟩))
      go_ret
      exact⟨.inr ⟨rfl,hfin.out⟩,bA HB.out⟩
    ·obtain rfl:j=m:=by omega
     have hlvs:Hid (∀x∈R.lvs,LvOk x):=by
      have h:=hstep.out
      rw[hm.out,List.take_length]at h
      exact h
     have d12:wr.cell? ⟨w.heap.size,12,none⟩=some (.slice b j cap2):=cell_at HQ.out 12
     go_wp2_with fail
     go_ret
     exact⟨.inl ⟨rfl,hH.out,hims.out,hlvs.out⟩,HB.out⟩
end Go.Proofs.YtimomjheanfbmaaGreatDoor
