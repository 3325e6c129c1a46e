import Derived.Test.YtimomjheanfbmaaGreatDoorQaa
import Derived.Test.YtimomjheanfbmaaGreatDoorQae
import Derived.Deep.MidRow
set_option linter.unusedSimpArgs false
set_option linter.unusedVariables false
namespace Go.Proofs.YtimomjheanfbmaaGreatDoor
open Go.RowKit
def imL (x:Int×Pg):List Value := .int .i64 x.1::(pgC x.2).toList
def imA (x:Int×Pg):Array Value:=(imL x).toArray
def lvL (x:Int×Int×Int):List Value:=[.int .i64 x.1,.int .i64 x.2.1,.int .i64 x.2.2]
def rcC (R:Rc) (iv lv:Value):Array Value := #[.int .i64 R.kind,.int .i64 R.xct,.int .i64 R.prev,.int .i64 R.next,.int .i64 R.uk,.int .i64 R.us,.int .i64 R.up,.int .i64 R.ul,.string R.key,.int .i64 R.bs,.string R.bd,iv,lv,.int .i64 R.fresh]
def RcSl (w:World) (R:Rc) (iv lv:Value):Prop:=Sl w iv 17 (R.ims.map imL)∧Sl w lv 3 (R.lvs.map lvL)∧R.key.size≤maxLen∧R.bd.size≤maxLen∧∀x∈R.ims,∀i,i<6→(x.2.dt i).size≤maxLen
theorem RcSl.later {w w':World} {R:Rc} {iv lv:Value} (h:RcSl w R iv lv) (hb:Below w.heap.size w w'):RcSl w' R iv lv:=⟨h.1.later hb,h.2.1.later hb,h.2.2⟩
theorem imA_one (x:Int×Pg):∀v∈(imA x).toList,v.oneCell'=true:=by
 intro v hv
 simp only[imA,imL,List.toList_toArray,List.mem_cons]at hv
 rcases hv with rfl | h
 · rfl
 · exact pgC_one _ v h
def SlAt (w:World) (a:Option Addr) (n:Nat) (xs:List (List Value)):Prop:=xs≠[]→∃b off,a=some ⟨b,off,none⟩∧b<w.heap.size∧∀i,i<xs.length→∀j,j<n→w.cell? ⟨b,off+i*n+j,none⟩=(xs[i]?.getD [])[j]?
theorem sl_open {w:World} {v:Value} {n:Nat} {xs:List (List Value)} (h:Sl w v n xs):∃(a:Option Addr) (m cap:Nat),v = .slice a m cap∧m=xs.length∧m≤maxLen∧SlAt w a n xs:=by
 obtain⟨a,cap,h1,h2,h3⟩:=h
 exact⟨a,_,cap,h1,rfl,h2,h3⟩
theorem SlAt.later {w w':World} {a:Option Addr} {n:Nat} {xs:List (List Value)} (h:SlAt w a n xs) (hb:Below w.heap.size w w'):SlAt w' a n xs:=fun hne=>by
 obtain⟨b,off,ha,hbk,hc⟩:=h hne
 exact⟨b,off,ha,Nat.lt_of_lt_of_le hbk hb.size,fun i hi j hj=>(hb.cell (p:=⟨b,off+i*n+j,none⟩) hbk).trans (hc i hi j hj)⟩
theorem SlAt.elem {α:Type} {f:α→List Value} {n:Nat} (hf:∀x,(f x).length=n) {w:World} {a:Option Addr} {l:List α} (h:SlAt w a n (l.map f)) {k:Nat} (hk:k<l.length):∃b off,a=some ⟨b,off,none⟩∧b<w.heap.size∧w.rangeAt b (off+k*n) (f l[k]):=by
 obtain⟨b,off,ha,hb,hc⟩:=h (fun e=>by have:=congrArg List.length e;rw[List.length_map,List.length_nil]at this;omega)
 refine⟨b,off,ha,hb,fun j v hv=>?_⟩
 have hj:j<n:=by
  have:=(List.getElem?_eq_some_iff.1 hv).1
  rw[hf]at this;exact this
 rw[hc k (by simpa using hk) j hj,List.getElem?_map,List.getElem?_eq_getElem hk]
 exact hv
theorem imL_length (x:Int×Pg):(imL x).length=17:=rfl
theorem lvL_length (x:Int×Int×Int):(lvL x).length=3:=rfl
theorem wpList_load_mid_want {P:Program} {ops:Array Oper} {rest:List Oper} {op:Oper} {a:Act} {w:World} {Q:Exit→Act→World→Prop} (hw:Region.wanted op (yielded ops a.tmps)=true) (ty:TypeId) (x:Operand) (ho:op.op = .load ty x)
  (b o:Nat) (hx:a.eval x = .pointer (some ⟨b,o,none⟩)) (cs:List Value) (d:TypeDesc) (hc:w.rangeAt b o cs)
  (hu:P.underlying ty=some d) (hd:d.isRow=true) (hi:(P.info? ty).map (·.size)=some cs.length)
  (h:wpList P ops Q rest (a.put op.dst (.agg cs.toArray)) w):wpList P ops Q (op::rest) a w :=
 wpList_want hw fun _ hK=>wp_load_mid ty x ho b o hx cs d hc hu hd hi (hK _ _ h)
theorem im_page {w:World} {g:Nat} {x:Int×Pg} {T:TypeId} {f:Nat×Nat} (h:w.heap[g]? = some (.cells (imA x) T f)):w.rangeAt g 1 (pgC x.2).toList:=World.rangeAt_of_block h 1 16
theorem im_take {R:Rc} {k:Nat} (hk:k<R.ims.length) (h:∀x∈R.ims.take k,ImOk x) (hx:ImOk R.ims[k]):∀x∈R.ims.take (k+1),ImOk x:=by
 intro x hm
 rw[List.take_succ_eq_append_getElem hk,List.mem_append,List.mem_singleton]at hm
 rcases hm with hm | rfl
 · exact h x hm
 · exact hx
theorem lv_take {R:Rc} {k:Nat} (hk:k<R.lvs.length) (h:∀x∈R.lvs.take k,LvOk x) (hx:LvOk R.lvs[k]):∀x∈R.lvs.take (k+1),LvOk x:=by
 intro x hm
 rw[List.take_succ_eq_append_getElem hk,List.mem_append,List.mem_singleton]at hm
 rcases hm with hm | rfl
 · exact h x hm
 · exact hx
def wrongB (n m:Int):Bool:=decide (n<0)||decide (m<n)
theorem wrong_iff (n m:Int):wrongB n m=false↔inR n m:=by
 unfold wrongB inR;simp
theorem wrong_yes {n m:Int} (h:wrongB n m=true):¬inR n m:=fun hh=>by rw[(wrong_iff n m).2 hh]at h;cases h
theorem rc_wrong (n m:Int) (w:World):Calls Tryz.prog 105 #[.int .i64 n,.int .i64 m] w fun e w'=>e = .returned (.bool (wrongB n m))∧w=w':=by
 by_cases h:n<0
 ·have e:wrongB n m=true:=by unfold wrongB;simp[h]
  rw[e]
  clear e
  go_enter Tryz.func105,Tryz.ntmps105
  go_wp2_with fail
  go_ret
  exact⟨rfl,rfl⟩
 ·have e:wrongB n m=decide (m<n):=by unfold wrongB;simp[h]
  rw[e]
  clear e
  by_cases h2:m<n
  ·rw[decide_eq_true h2]
   go_enter Tryz.func105,Tryz.ntmps105
   go_wp2_with fail
   go_ret
   exact⟨rfl,rfl⟩
  ·rw[decide_eq_false h2]
   go_enter Tryz.func105,Tryz.ntmps105
   go_wp2_with fail
   go_ret
   exact⟨rfl,rfl⟩
theorem rc_in (n m:Int) (w:World):Calls Tryz.prog 95 #[.int .i64 n,.int .i64 m] w fun e w'=>e = .returned (.bool (!wrongB n m))∧w=w':=by
 by_cases h:n<0
 ·have e:wrongB n m=true:=by unfold wrongB;simp[h]
  rw[e]
  clear e
  go_enter Tryz.func95,Tryz.ntmps95
  go_wp2_with fail
  go_ret
  exact⟨rfl,rfl⟩
 ·have h':0≤n:=by omega
  have e:wrongB n m=decide (m<n):=by unfold wrongB;simp[h]
  rw[e]
  clear e
  by_cases h2:m<n
  ·rw[decide_eq_true h2]
   have h3:¬n≤m:=by omega
   go_enter Tryz.func95,Tryz.ntmps95
   go_wp2_with fail
   go_ret
   exact⟨rfl,rfl⟩
  ·rw[decide_eq_false h2]
   have h3:n≤m:=by omega
   go_enter Tryz.func95,Tryz.ntmps95
   go_wp2_with fail
   go_ret
   exact⟨rfl,rfl⟩
end Go.Proofs.YtimomjheanfbmaaGreatDoor
namespace Go.Proofs.YtimomjheanfbmaaGreatDoor
open Go.RowKit
set_option maxRecDepth 100000 in
theorem lits141 (V:Nat→Value):((List.range 141).map V).toArray = #[V 0,V 1,V 2,V 3,V 4,V 5,V 6,V 7,V 8,V 9,V 10,V 11,V 12,V 13,V 14,V 15,V 16,V 17,V 18,V 19,V 20,V 21,V 22,V 23,V 24,V 25,V 26,V 27,V 28,V 29,V 30,V 31,V 32,V 33,V 34,V 35,V 36,V 37,V 38,V 39,V 40,V 41,V 42,V 43,V 44,V 45,V 46,V 47,V 48,V 49,V 50,V 51,V 52,V 53,V 54,V 55,V 56,V 57,V 58,V 59,V 60,V 61,V 62,V 63,V 64,V 65,V 66,V 67,V 68,V 69,V 70,V 71,V 72,V 73,V 74,V 75,V 76,V 77,V 78,V 79,V 80,V 81,V 82,V 83,V 84,V 85,V 86,V 87,V 88,V 89,V 90,V 91,V 92,V 93,V 94,V 95,V 96,V 97,V 98,V 99,V 100,V 101,V 102,V 103,V 104,V 105,V 106,V 107,V 108,V 109,V 110,V 111,V 112,V 113,V 114,V 115,V 116,V 117,V 118,V 119,V 120,V 121,V 122,V 123,V 124,V 125,V 126,V 127,V 128,V 129,V 130,V 131,V 132,V 133,V 134,V 135,V 136,V 137,V 138,V 139,V 140]:=rfl
set_option maxRecDepth 100000 in
set_option maxHeartbeats 16000000 in
theorem rc_check (R:Rc) (iv lv:Value) (w:World) (h:RcSl w R iv lv):Calls Tryz.prog 58 #[.agg (rcC R iv lv)] w fun e w'=>(e = .returned (.int .i64 0)∧RcOk R∨e = .returned (.int .i64 1)∧¬RcOk R)∧Below w.heap.size w w':=by
 obtain⟨g1,g2,g3,g4,g5⟩:=h
 obtain⟨a,n,cap,rfl,hn,hnz,hS1⟩:=sl_open g1
 obtain⟨b,m,cap2,rfl,hm,hmz,hS2⟩:=sl_open g2
 rw[List.length_map]at hn hm
 replace hn:=Hd hn
 replace hm:=Hd hm
 have HS1:=Hd hS1
 have HS2:=Hd hS2
 have HD:=Hd g5
 clear g1 g2 g5 hS1 hS2
 unfold maxLen at g3 g4 hnz hmz
 have hrc:rcC R (.slice a n cap) (.slice b m cap2) = #[.int .i64 R.kind,.int .i64 R.xct,.int .i64 R.prev,.int .i64 R.next,.int .i64 R.uk,.int .i64 R.us,.int .i64 R.up,.int .i64 R.ul,.string R.key,.int .i64 R.bs,.string R.bd,.slice a n cap,.slice b m cap2,.int .i64 R.fresh]:=rfl
 have HQ:Hid ((w.alloc (.cells (rcC R (.slice a n cap) (.slice b m cap2)) 65)).heap[w.heap.size]? = some (.cells (rcC R (.slice a n cap) (.slice b m cap2)) 65 (0,0))):=hN rfl
 replace hrc:=Hd hrc
 rw[hrc.out]
 cases h0:decide (R.kind<1)
 rotate_left
 ·have hbad:Hid (¬RcOk R):=fun hh=>by obtain⟨⟨⟨k1,k2⟩,x1,x2,x3,x4,x5,x6,x7,x8,k3,x9,k4,k5,k6⟩,-⟩:=hh;have hn:=hn.out;have hm:=hm.out;have:=of_decide_eq_true h0;omega
  go_enter Tryz.func58,Tryz.ntmps58
  go_wp2_with fail
  go_ret
  exact⟨.inr ⟨rfl,hbad.out⟩,bA (bA bR)⟩
 cases h1:decide (6<R.kind)
 rotate_left
 ·have hbad:Hid (¬RcOk R):=fun hh=>by obtain⟨⟨⟨k1,k2⟩,x1,x2,x3,x4,x5,x6,x7,x8,k3,x9,k4,k5,k6⟩,-⟩:=hh;have hn:=hn.out;have hm:=hm.out;have:=of_decide_eq_true h1;omega
  go_enter Tryz.func58,Tryz.ntmps58
  go_wp2_with fail
  go_ret
  exact⟨.inr ⟨rfl,hbad.out⟩,bA (bA bR)⟩
 go_enter Tryz.func58,Tryz.ntmps58
 go_wp2_with fail
 refine(rc_wrong _ _ _).mono ?_
 rintro e w1 ⟨rfl,rfl⟩
 cases h2:wrongB R.xct 2147483647
 rotate_left
 ·have hbad:Hid (¬RcOk R):=fun hh=>by obtain⟨⟨⟨k1,k2⟩,x1,x2,x3,x4,x5,x6,x7,x8,k3,x9,k4,k5,k6⟩,-⟩:=hh;exact wrong_yes h2 x1
  dsimp only
  refine ‹∀(a:Act) (w:World),wpList Tryz.prog _ _ _ a w→_› _ _ ?_
  refine wpList_skip2 19 23 24 98 141 rfl rfl rfl rfl rfl rfl rfl (by kernel_rfl) ?_
  intro V hV
  rw[lits141,hV]
  go_wp2_with fail
  go_ret
  exact⟨.inr ⟨rfl,hbad.out⟩,bA (bA bR)⟩
 go_wp2_with fail
 refine(rc_wrong _ _ _).mono ?_
 rintro e w1 ⟨rfl,rfl⟩
 cases h3:wrongB R.prev 1099511627776
 rotate_left
 ·have hbad:Hid (¬RcOk R):=fun hh=>by obtain⟨⟨⟨k1,k2⟩,x1,x2,x3,x4,x5,x6,x7,x8,k3,x9,k4,k5,k6⟩,-⟩:=hh;exact wrong_yes h3 x2
  dsimp only
  refine ‹∀(a:Act) (w:World),wpList Tryz.prog _ _ _ a w→_› _ _ ?_
  refine wpList_skip2 25 29 30 98 141 rfl rfl rfl rfl rfl rfl rfl (by kernel_rfl) ?_
  intro V hV
  rw[lits141,hV]
  go_wp2_with fail
  go_ret
  exact⟨.inr ⟨rfl,hbad.out⟩,bA (bA bR)⟩
 go_wp2_with fail
 refine(rc_wrong _ _ _).mono ?_
 rintro e w1 ⟨rfl,rfl⟩
 cases h4:wrongB R.next 1099511627776
 rotate_left
 ·have hbad:Hid (¬RcOk R):=fun hh=>by obtain⟨⟨⟨k1,k2⟩,x1,x2,x3,x4,x5,x6,x7,x8,k3,x9,k4,k5,k6⟩,-⟩:=hh;exact wrong_yes h4 x3
  dsimp only
  refine ‹∀(a:Act) (w:World),wpList Tryz.prog _ _ _ a w→_› _ _ ?_
  refine wpList_skip2 31 35 36 98 141 rfl rfl rfl rfl rfl rfl rfl (by kernel_rfl) ?_
  intro V hV
  rw[lits141,hV]
  go_wp2_with fail
  go_ret
  exact⟨.inr ⟨rfl,hbad.out⟩,bA (bA bR)⟩
 go_wp2_with fail
 refine(rc_wrong _ _ _).mono ?_
 rintro e w1 ⟨rfl,rfl⟩
 cases h5:wrongB R.fresh 2147483647
 rotate_left
 ·have hbad:Hid (¬RcOk R):=fun hh=>by obtain⟨⟨⟨k1,k2⟩,x1,x2,x3,x4,x5,x6,x7,x8,k3,x9,k4,k5,k6⟩,-⟩:=hh;exact wrong_yes h5 x4
  dsimp only
  refine ‹∀(a:Act) (w:World),wpList Tryz.prog _ _ _ a w→_› _ _ ?_
  refine wpList_skip2 37 41 42 98 141 rfl rfl rfl rfl rfl rfl rfl (by kernel_rfl) ?_
  intro V hV
  rw[lits141,hV]
  go_wp2_with fail
  go_ret
  exact⟨.inr ⟨rfl,hbad.out⟩,bA (bA bR)⟩
 go_wp2_with fail
 refine(rc_wrong _ _ _).mono ?_
 rintro e w1 ⟨rfl,rfl⟩
 cases h6:wrongB R.uk 3
 rotate_left
 ·have hbad:Hid (¬RcOk R):=fun hh=>by obtain⟨⟨⟨k1,k2⟩,x1,x2,x3,x4,x5,x6,x7,x8,k3,x9,k4,k5,k6⟩,-⟩:=hh;exact wrong_yes h6 x5
  dsimp only
  refine ‹∀(a:Act) (w:World),wpList Tryz.prog _ _ _ a w→_› _ _ ?_
  refine wpList_skip2 43 47 48 98 141 rfl rfl rfl rfl rfl rfl rfl (by kernel_rfl) ?_
  intro V hV
  rw[lits141,hV]
  go_wp2_with fail
  go_ret
  exact⟨.inr ⟨rfl,hbad.out⟩,bA (bA bR)⟩
 go_wp2_with fail
 refine(rc_wrong _ _ _).mono ?_
 rintro e w1 ⟨rfl,rfl⟩
 cases h7:wrongB R.us 6
 rotate_left
 ·have hbad:Hid (¬RcOk R):=fun hh=>by obtain⟨⟨⟨k1,k2⟩,x1,x2,x3,x4,x5,x6,x7,x8,k3,x9,k4,k5,k6⟩,-⟩:=hh;exact wrong_yes h7 x6
  dsimp only
  refine ‹∀(a:Act) (w:World),wpList Tryz.prog _ _ _ a w→_› _ _ ?_
  refine wpList_skip2 49 53 54 98 141 rfl rfl rfl rfl rfl rfl rfl (by kernel_rfl) ?_
  intro V hV
  rw[lits141,hV]
  go_wp2_with fail
  go_ret
  exact⟨.inr ⟨rfl,hbad.out⟩,bA (bA bR)⟩
 go_wp2_with fail
 refine(rc_wrong _ _ _).mono ?_
 rintro e w1 ⟨rfl,rfl⟩
 cases h8:wrongB R.up 1023
 rotate_left
 ·have hbad:Hid (¬RcOk R):=fun hh=>by obtain⟨⟨⟨k1,k2⟩,x1,x2,x3,x4,x5,x6,x7,x8,k3,x9,k4,k5,k6⟩,-⟩:=hh;exact wrong_yes h8 x7
  dsimp only
  refine ‹∀(a:Act) (w:World),wpList Tryz.prog _ _ _ a w→_› _ _ ?_
  refine wpList_skip2 55 59 60 98 141 rfl rfl rfl rfl rfl rfl rfl (by kernel_rfl) ?_
  intro V hV
  rw[lits141,hV]
  go_wp2_with fail
  go_ret
  exact⟨.inr ⟨rfl,hbad.out⟩,bA (bA bR)⟩
 go_wp2_with fail
 refine(rc_wrong _ _ _).mono ?_
 rintro e w1 ⟨rfl,rfl⟩
 cases h9:wrongB R.ul 5
 rotate_left
 ·have hbad:Hid (¬RcOk R):=fun hh=>by obtain⟨⟨⟨k1,k2⟩,x1,x2,x3,x4,x5,x6,x7,x8,k3,x9,k4,k5,k6⟩,-⟩:=hh;exact wrong_yes h9 x8
  dsimp only
  refine ‹∀(a:Act) (w:World),wpList Tryz.prog _ _ _ a w→_› _ _ ?_
  refine wpList_skip2 61 65 66 98 141 rfl rfl rfl rfl rfl rfl rfl (by kernel_rfl) ?_
  intro V hV
  rw[lits141,hV]
  go_wp2_with fail
  go_ret
  exact⟨.inr ⟨rfl,hbad.out⟩,bA (bA bR)⟩
 cases h10:decide ((8:Int)<R.key.size)
 rotate_left
 ·have hbad:Hid (¬RcOk R):=fun hh=>by obtain⟨⟨⟨k1,k2⟩,x1,x2,x3,x4,x5,x6,x7,x8,k3,x9,k4,k5,k6⟩,-⟩:=hh;have hn:=hn.out;have hm:=hm.out;have:=of_decide_eq_true h10;omega
  go_wp2_with fail
  go_ret
  exact⟨.inr ⟨rfl,hbad.out⟩,bA (bA bR)⟩
 go_wp2_with fail
 refine(rc_wrong _ _ _).mono ?_
 rintro e w1 ⟨rfl,rfl⟩
 cases h11:wrongB R.bs 2
 rotate_left
 ·have hbad:Hid (¬RcOk R):=fun hh=>by obtain⟨⟨⟨k1,k2⟩,x1,x2,x3,x4,x5,x6,x7,x8,k3,x9,k4,k5,k6⟩,-⟩:=hh;exact wrong_yes h11 x9
  dsimp only
  refine ‹∀(a:Act) (w:World),wpList Tryz.prog _ _ _ a w→_› _ _ ?_
  refine wpList_skip2 73 78 79 98 141 rfl rfl rfl rfl rfl rfl rfl (by kernel_rfl) ?_
  intro V hV
  rw[lits141,hV]
  go_wp2_with fail
  go_ret
  exact⟨.inr ⟨rfl,hbad.out⟩,bA (bA bR)⟩
 cases h12:decide ((34:Int)<R.bd.size)
 rotate_left
 ·have hbad:Hid (¬RcOk R):=fun hh=>by obtain⟨⟨⟨k1,k2⟩,x1,x2,x3,x4,x5,x6,x7,x8,k3,x9,k4,k5,k6⟩,-⟩:=hh;have hn:=hn.out;have hm:=hm.out;have:=of_decide_eq_true h12;omega
  go_wp2_with fail
  go_ret
  exact⟨.inr ⟨rfl,hbad.out⟩,bA (bA bR)⟩
 cases h13:decide ((24:Int)<n)
 rotate_left
 ·have hbad:Hid (¬RcOk R):=fun hh=>by obtain⟨⟨⟨k1,k2⟩,x1,x2,x3,x4,x5,x6,x7,x8,k3,x9,k4,k5,k6⟩,-⟩:=hh;have hn:=hn.out;have hm:=hm.out;have:=of_decide_eq_true h13;omega
  go_wp2_with fail
  go_ret
  exact⟨.inr ⟨rfl,hbad.out⟩,bA (bA bR)⟩
 cases h14:decide ((8:Int)<m)
 rotate_left
 ·have hbad:Hid (¬RcOk R):=fun hh=>by obtain⟨⟨⟨k1,k2⟩,x1,x2,x3,x4,x5,x6,x7,x8,k3,x9,k4,k5,k6⟩,-⟩:=hh;have hn:=hn.out;have hm:=hm.out;have:=of_decide_eq_true h14;omega
  go_wp2_with fail
  go_ret
  exact⟨.inr ⟨rfl,hbad.out⟩,bA (bA bR)⟩
 have hH:Hid (RcHd R):=by
  have e0:=of_decide_eq_false h0;have e1:=of_decide_eq_false h1;have e2:=of_decide_eq_false h10;have e3:=of_decide_eq_false h12;have e4:=of_decide_eq_false h13;have e5:=of_decide_eq_false h14;have e6:=hn.out;have e7:=hm.out
  exact⟨⟨by omega,by omega⟩,(wrong_iff _ _).1 h2,(wrong_iff _ _).1 h3,(wrong_iff _ _).1 h4,(wrong_iff _ _).1 h5,(wrong_iff _ _).1 h6,(wrong_iff _ _).1 h7,(wrong_iff _ _).1 h8,(wrong_iff _ _).1 h9,by omega,(wrong_iff _ _).1 h11,by omega,by omega,by omega⟩
 have hn24:n≤24:=by have:=of_decide_eq_false h13;omega
 have hm8:m≤8:=by have:=of_decide_eq_false h14;omega
 go_wp2_with fail
 clear h0 h1 h2 h3 h4 h5 h6 h7 h8 h9 h10 h11 h12 h13 h14
 rw[←hrc.out]
 clear hrc
 have HQ1:Hid ((((w.alloc (.cells (rcC R (.slice a n cap) (.slice b m cap2)) 65)).alloc (.cells #[.int .i64 R.uk,.int .i64 R.us,.int .i64 R.up,.int .i64 R.ul,.string R.key,.int .i64 R.bs,.string R.bd] 42))).heap[w.heap.size]? = some (.cells (rcC R (.slice a n cap) (.slice b m cap2)) 65 (0,0))):=hO HQ.out
 clear HQ
 go_loopw [102] (fun i wr=>∃(k:Nat),k≤n∧i = .int .i64 k∧Hid (∀x∈R.ims.take k,ImOk x)∧Hid (wr.heap[w.heap.size]? = some (.cells (rcC R (.slice a n cap) (.slice b m cap2)) 65 (0,0)))∧Hid (Below w.heap.size w wr)) (fun i _=>n-(intOf i).toNat)
 case atStart=>exact⟨0,by omega,rfl,fun x hx=>by simp at hx,HQ1.out,bA (bA bR)⟩
 case round =>
  obtain⟨k,hk,rfl,hstep,HQ,HB⟩:=hrel
  clear HQ1
  by_cases hkn:k<n
  ·obtain⟨pb,off,rfl,hpb,hrg⟩:=(HS1.out.later HB.out).elem imL_length (k:=k) (by rw[←hn.out];exact hkn)
   obtain⟨x,hx⟩:∃x,R.ims[k]'(by rw[←hn.out];exact hkn)=x:=⟨_,rfl⟩
   have hmore:=Hd (im_take (R:=R) (k:=k) (by rw[←hn.out];exact hkn) hstep.out)
   have hxm:Hid (x∈R.ims):=hx ▸ List.getElem_mem _
   rw[hx]at hrg hmore
   replace hx:=Hd hx
   have hrg:=Hd hrg
   have hxd:=Hd (HD.out x hxm.out)
   have HC:=Hd (fun w=>pg_check x.2 hxd.out w)
   unfold pgV at HC
   have hno:Hid (¬ImOk x→¬RcOk R):=fun h h'=>h (h'.2.1 x hxm.out)
   have HZ:Hid ((wr.alloc (.cells (imA (0,pageZ)) 51)).heap[wr.heap.size]? = some (.cells (imA (0,pageZ)) 51 (0,0))):=hN rfl
   have HQa:Hid ((wr.alloc (.cells (imA (0,pageZ)) 51)).heap[w.heap.size]? = _):=hO (o := .cells (imA (0,pageZ)) 51) HQ.out
   have HBa:Hid (Below w.heap.size w (wr.alloc (.cells (imA (0,pageZ)) 51))):=bA HB.out
   have hwr:=HB.out.size
   have hqr:=block_lt HQ.out
   cases hid:wrongB x.1 1023
   ·go_wp2_with (first
     | (refine wpList_load_mid rfl 51 _ rfl pb (off+k*17) rfl (imL x) _ hrg.out Tryz.underlying51 rfl (by kernel_rfl) ?_)
     | (refine wpList_store_whole rfl 51 _ _ rfl _ (imA x) rfl rfl _ (imA (0,pageZ)) HZ.out rfl (by kernel_rfl) (imA_one x) ?_;intro wz HRz KZ;(have HBz:=Hd (bK HBa.out KZ.out (fun j hj=>by omega)));(have HQz:=Hd (KZ.out.keep HQa.out (by omega)));(have c0:wz.cell? ⟨wr.heap.size,0,none⟩=some (.int .i64 x.1):=cell_at HRz.out 0);clear KZ HBa HZ HQa)
     | (go_at_call 105;refine(rc_wrong _ _ _).mono ?_;rintro e w1 ⟨rfl,rfl⟩)
     | (refine wpList_load_mid_want (by rfl) 49 _ rfl wr.heap.size 1 rfl (pgC x.2).toList _ (im_page HRz.out) Tryz.underlying49 rfl (by kernel_rfl) ?_))
    refine(HC.out _).mono ?_
    rintro e w1 ⟨h,hb⟩
    have HB1:=Hd (bT HBz.out hb)
    have HQ1:=Hd (hBs hb HQz.out)
    clear hb HBz HQz HC
    rcases h with⟨rfl,hok⟩ | ⟨rfl,hbad⟩
    ·have hfin:=Hd (hmore.out ⟨(wrong_iff _ _).1 hid,hok⟩)
     clear hok hid hmore hno c0
     go_wp2_with fail
     go_roundw
     case rel=>exact⟨k+1,by omega,rfl,hfin.out,HQ1.out,HB1.out⟩
     case measure=>simp[intOf];omega
    ·have hfin:=Hd (hno.out (fun h=>hbad h.2))
     clear hbad hid hmore hno c0
     go_wp2_with fail
     go_ret
     exact⟨.inr ⟨rfl,hfin.out⟩,HB1.out⟩
   ·have hfin:=Hd (hno.out (fun h=>wrong_yes hid h.1))
    clear hmore hno HC
    go_wp2_with (first
     | (refine wpList_load_mid rfl 51 _ rfl pb (off+k*17) rfl (imL x) _ hrg.out Tryz.underlying51 rfl (by kernel_rfl) ?_)
     | (refine wpList_store_whole rfl 51 _ _ rfl _ (imA x) rfl rfl _ (imA (0,pageZ)) HZ.out rfl (by kernel_rfl) (imA_one x) ?_;intro wz HRz KZ;(have HBz:=Hd (bK HBa.out KZ.out (fun j hj=>by omega)));(have c0:wz.cell? ⟨wr.heap.size,0,none⟩=some (.int .i64 x.1):=cell_at HRz.out 0);clear KZ HBa HZ HQa)
     | (go_at_call 105;refine(rc_wrong _ _ _).mono ?_;rintro e w1 ⟨rfl,rfl⟩))
    go_ret
    exact⟨.inr ⟨rfl,hfin.out⟩,HBz.out⟩
  ·obtain rfl:k=n:=by omega
   have hims:Hid (∀x∈R.ims,ImOk x):=by
    have h:=hstep.out
    rw[hn.out,List.take_length]at h
    exact h
   have d11:wr.cell? ⟨w.heap.size,12,none⟩=some (.slice b m cap2):=cell_at HQ.out 12
   clear hstep HS1 HD hkn hk
   go_wp2_with fail
   clear d11
   go_loopw [120] (fun i wr=>∃(j:Nat),j≤m∧i = .int .i64 j∧Hid (∀x∈R.lvs.take j,LvOk x)∧Hid (Below w.heap.size w wr)) (fun i _=>m-(intOf i).toNat)
   case atStart=>exact⟨0,by omega,rfl,fun x hx=>by simp at hx,HB.out⟩
   case round =>
    obtain⟨j,hj,rfl,hstep,HB⟩:=hrel
    clear HQ
    by_cases hjm:j<m
    ·obtain⟨pb,off,rfl,hpb,hrg⟩:=(HS2.out.later HB.out).elem lvL_length (k:=j) (by rw[←hm.out];exact hjm)
     obtain⟨x,hx⟩:∃x,R.lvs[j]'(by rw[←hm.out];exact hjm)=x:=⟨_,rfl⟩
     have hmore:=Hd (lv_take (R:=R) (k:=j) (by rw[←hm.out];exact hjm) hstep.out)
     have hxm:Hid (x∈R.lvs):=hx ▸ List.getElem_mem _
     rw[hx]at hrg hmore
     replace hx:=Hd hx
     have hrg:Hid (wr.rangeAt pb (off+j*3) [.int .i64 x.1,.int .i64 x.2.1,.int .i64 x.2.2]):=hrg
     have hno:Hid (¬LvOk x→¬RcOk R):=fun h h'=>h (h'.2.2 x hxm.out)
     obtain⟨x1,x2,x3⟩:=x
     dsimp only at hrg
     have hiff:Hid (LvOk (x1,x2,x3)↔inR x1 2147483647∧inR x2 1099511627776∧inR x3 1099511627776):=Iff.rfl
     cases q1:wrongB x1 2147483647
     ·cases q2:wrongB x2 1099511627776
      ·cases q3:wrongB x3 1099511627776
       ·have hfin:=Hd (hmore.out (hiff.out.2 ⟨(wrong_iff _ _).1 q1,(wrong_iff _ _).1 q2,(wrong_iff _ _).1 q3⟩))
        clear hmore hno hiff
        go_wp2_with (first
         | (refine wpList_load_mid rfl 61 _ rfl pb (off+j*3) rfl [.int .i64 x1,.int .i64 x2,.int .i64 x3] _ hrg.out Tryz.underlying61 rfl (by kernel_rfl) ?_)
         | (go_at_call 105;refine(rc_wrong _ _ _).mono ?_;rintro e w1 ⟨rfl,rfl⟩))
        go_roundw
        case rel=>exact⟨j+1,by omega,rfl,hfin.out,bA HB.out⟩
        case measure=>simp[intOf];omega
       ·have hfin:=Hd (hno.out (fun h=>wrong_yes q3 (hiff.out.1 h).2.2))
        clear hmore hno hiff
        go_wp2_with (first
         | (refine wpList_load_mid rfl 61 _ rfl pb (off+j*3) rfl [.int .i64 x1,.int .i64 x2,.int .i64 x3] _ hrg.out Tryz.underlying61 rfl (by kernel_rfl) ?_)
         | (go_at_call 105;refine(rc_wrong _ _ _).mono ?_;rintro e w1 ⟨rfl,rfl⟩))
        go_ret
        exact⟨.inr ⟨rfl,hfin.out⟩,bA HB.out⟩
      ·have hfin:=Hd (hno.out (fun h=>wrong_yes q2 (hiff.out.1 h).2.1))
       clear hmore hno hiff
       go_wp2_with (first
        | (refine wpList_load_mid rfl 61 _ rfl pb (off+j*3) rfl [.int .i64 x1,.int .i64 x2,.int .i64 x3] _ hrg.out Tryz.underlying61 rfl (by kernel_rfl) ?_)
        | (go_at_call 105;refine(rc_wrong _ _ _).mono ?_;rintro e w1 ⟨rfl,rfl⟩))
       go_ret
       exact⟨.inr ⟨rfl,hfin.out⟩,bA HB.out⟩
     ·have hfin:=Hd (hno.out (fun h=>wrong_yes q1 (hiff.out.1 h).1))
      clear hmore hno hiff
      go_wp2_with (first
       | (refine wpList_load_mid rfl 61 _ rfl pb (off+j*3) rfl [.int .i64 x1,.int .i64 x2,.int .i64 x3] _ hrg.out Tryz.underlying61 rfl (by kernel_rfl) ?_)
       | (go_at_call 105;refine(rc_wrong _ _ _).mono ?_;rintro e w1 ⟨rfl,rfl⟩))
      go_ret
      exact⟨.inr ⟨rfl,hfin.out⟩,bA HB.out⟩
    ·obtain rfl:j=m:=by omega
     have hlvs:Hid (∀x∈R.lvs,LvOk x):=by
      have h:=hstep.out
      rw[hm.out,List.take_length]at h
      exact h
     go_wp2_with fail
     go_ret
     exact⟨.inl ⟨rfl,hH.out,hims.out,hlvs.out⟩,HB.out⟩
end Go.Proofs.YtimomjheanfbmaaGreatDoor
