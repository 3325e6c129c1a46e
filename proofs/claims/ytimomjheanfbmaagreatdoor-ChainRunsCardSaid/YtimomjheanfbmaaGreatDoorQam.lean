import Derived.Test.YtimomjheanfbmaaGreatDoorQaa
import Derived.Test.YtimomjheanfbmaaGreatDoorQai
import Derived.Test.YtimomjheanfbmaaGreatDoorQal
import Derived.Test.YtimomjheanfbmaaGreatDoorQab
import Derived.Test.YtimomjheanfbmaaGreatDoorQac
import Derived.Lib.AppendStr
import Derived.Lib.SlBytesRow
import Derived.BigQuiet
import Derived.Deep.DeepCutAuto
import Derived.Deep.CutBlock
import Derived.WideShapes
set_option linter.unusedSimpArgs false
set_option linter.unusedVariables false
namespace Go.Proofs.YtimomjheanfbmaaGreatDoor
open Go.RowKit
abbrev Lv:=Int×Int×Int
def lvV (l:List Lv):List Value:=l.flatMap lvL
theorem lvV_length (l:List Lv):(lvV l).length=l.length*3:=by
 unfold lvV
 induction l with
 | nil=>rfl
 | cons x l ih=>rw[List.flatMap_cons,List.length_append,ih,List.length_cons];show 3+_=_;omega
theorem lvV_get (l:List Lv) (i j:Nat) (s:Lv) (hi:l[i]? = some s) (hj:j<3):(lvV l)[i*3+j]? = (lvL s)[j]? := by
 unfold lvV
 rw[flat_at lvL 3 lvL_length l i j hj,List.getElem?_map,hi]
 rfl
theorem lv_range {w:World} {g n c:Nat} {l:List Lv} (h:OwnS w 61 3 (.slice (some ⟨g,0,none⟩) n c) n (lvV l)) (i:Nat) (s:Lv) (hi:l[i]? = some s):w.rangeAt g (i*3) (lvL s):=fun j v hj=>by
 have hjl:j<3:=(List.getElem?_eq_some_iff.1 hj).1
 have h2:(lvV l)[i*3+j]? = some v:=by rw[lvV_get l i j s hi hjl];exact hj
 have:=World.ownsRow.cells h (g:=g) rfl (i*3+j) v h2
 rw[Addr.add_mid,Nat.zero_add]at this
 exact this
theorem OwnS.spot {w:World} {e:TypeId} {size n c:Nat} {a:Option Addr} {xs:List Value} (h:OwnS w e size (.slice a n c) n xs) (hn:0<n):∃g,a=some ⟨g,0,none⟩:=by
 obtain⟨g,c',he⟩:=h.has hn
 exact⟨g,by simpa using congrArg (fun v=>match v with | .slice a _ _=>a | _=>none) he⟩
set_option maxRecDepth 100000 in
theorem ch_findc (s:Lv) (id:Int) (b:Nat) (w:World) (hb:w.cell? ⟨b,0,none⟩=some (.int .i64 id)) (hbl:b<w.heap.size) :
  Calls Tryz.prog 102 #[.agg (lvL s).toArray,.pointer (some ⟨b,0,none⟩)] w fun e w'=>e = .returned (.bool (decide (s.1=id)))∧Below w.heap.size w w':=by
 have hC:(lvL s).toArray = #[.int .i64 s.1,.int .i64 s.2.1,.int .i64 s.2.2]:=rfl
 rw[hC]
 clear hC
 have hb':(w.alloc (.cells #[.int .i64 s.1,.int .i64 s.2.1,.int .i64 s.2.2] 61)).cell? ⟨b,0,none⟩=some (.int .i64 id):=by
  rw[←hb]
  unfold World.cell?
  rw[Below.heap_alloc _ _ _ hbl]
 by_cases he:s.1=id
 ·have hd:(s.1==id)=true:=by simpa using he
  rw[decide_eq_true he]
  replace he:=Hd he
  go_enter Tryz.func102,Tryz.ntmps102
  go_wp2_with fail
  go_ret
  exact⟨rfl,bA bR⟩
 ·have hd:(s.1==id)=false:=by simpa using he
  rw[decide_eq_false he]
  replace he:=Hd he
  go_enter Tryz.func102,Tryz.ntmps102
  go_wp2_with fail
  go_ret
  exact⟨rfl,bA bR⟩
def FindIs (l:List Lv) (id:Int) (e:Ending):Prop:=(∃i:Nat,∃s,l[i]? = some s∧s.1=id∧(∀j s',j<i→l[j]? = some s'→s'.1≠id)∧e = .returned (.int .i64 i))∨((∀s∈l,s.1≠id)∧e = .returned (.int .i64 (-1)))
set_option maxRecDepth 100000 in
set_option maxHeartbeats 400000 in
theorem ch_index {w:World} {sv:Value} {l:List Lv} {n:Nat} (hn:l.length=n) (hn2:n≤8) (h:OwnS w 61 3 sv n (lvV l)) (id:Int) (b:Nat) (hb:w.cell? ⟨b,0,none⟩=some (.int .i64 id)) (hbl:b<w.heap.size) :
  Calls Tryz.prog 101 #[sv,.func (.func 102) #[] #[.pointer (some ⟨b,0,none⟩)]] w fun e w'=>FindIs l id e∧Below w.heap.size w w':=by
 obtain⟨a,c,rfl⟩:=h.form
 have H:=Hd h
 replace hn:=Hd hn
 clear h
 go_enter Tryz.func101,Tryz.ntmps101
 go_wp2_with fail
 go_loopw [8] (fun x wr=>∃k:Nat,k≤n∧x = .int .i64 k∧Hid (∀j s',j<k→l[j]? = some s'→s'.1≠id)∧Hid (Below w.heap.size w wr)) (fun x _=>n-(intOf x).toNat)
 case atStart=>exact⟨0,by omega,rfl,fun j s' hj=>by omega,bR⟩
 case round =>
  obtain⟨k,hk,rfl,hlo,HB⟩:=hrel
  by_cases hkn:k<n
  ·have hkI:(k:Int)<n:=by omega
   obtain⟨g,rfl⟩:∃g,a=some ⟨g,0,none⟩:=by
    obtain⟨g,c',he⟩:=H.out.has (by omega)
    exact⟨g,by simpa using congrArg (fun v=>match v with | .slice a _ _=>a | _=>none) he⟩
   obtain⟨s,hs⟩:∃s,l[k]? = some s:=⟨_,List.getElem?_eq_getElem (by rw[hn.out];omega)⟩
   have HR:=Hd (lv_range (H.out.keep (Keeps.of_below (fun _=>False) HB.out) (fun _ _ h=>h)) k s hs)
   have hbr:wr.cell? ⟨b,0,none⟩=some (.int .i64 id):=by
    rw[←hb];unfold World.cell?;rw[HB.out.block b hbl]
   have HC:=Hd (ch_findc s id b wr hbr (Nat.lt_of_lt_of_le hbl HB.out.size))
   clear hbr
   replace hs:=Hd hs
   have hCl:(Tryz.prog.info? 61).map (·.size)=some (lvL s).length:=by kernel_rfl
   obtain⟨C,hC⟩:∃C,lvL s=C:=⟨_,rfl⟩
   rw[hC]at HR HC hCl
   replace hC:=Hd hC
   replace hCl:=Hd hCl
   go_wp2_with (refine wpList_load_mid rfl 61 _ rfl g (k*3) rfl C _ HR.out Tryz.underlying61 rfl hCl.out ?_)
   refine(HC.out).mono ?_
   rintro e w5 ⟨rfl,hb5⟩
   have HB5:=Hd (bT HB.out hb5)
   clear hb5 HC HR
   by_cases hid:s.1=id
   ·rw[decide_eq_true hid]
    replace hid:=Hd hid
    go_wp2_with fail
    go_ret
    exact⟨.inl ⟨k,s,hs.out,hid.out,hlo.out,rfl⟩,HB5.out⟩
   ·rw[decide_eq_false hid]
    replace hid:=Hd hid
    go_wp2_with fail
    go_roundw
    case rel=>exact⟨k+1,by omega,rfl,fun j s' hj hl he=>by
     by_cases hjk:j=k
     ·subst hjk
      rw[hs.out]at hl
      injection hl with hl
      subst hl
      exact hid.out he
     · exact hlo.out j s' (by omega) hl he,HB5⟩
    case measure=>simp[intOf];omega
  ·obtain rfl:k=n:=by omega
   go_wp2_with fail
   go_ret
   exact⟨.inr ⟨fun s hs he=>by
    obtain⟨j,hj,rfl⟩:=List.getElem_of_mem hs
    exact hlo.out j _ (by rw[←hn.out];exact hj) (List.getElem?_eq_getElem hj) he,rfl⟩,HB.out⟩
def chC (lp p lb:Nat) (lv:Value) (fresh:Int):Array Value := #[.pointer (some ⟨lp,0,none⟩),.pointer (some ⟨p,0,none⟩),.pointer (some ⟨lb,0,none⟩),lv,.int .i64 fresh]
structure ChAt (w:World) (c lp p lb mb n:Nat) (lv:Value) (lives:List Lv) (fresh:Int) (B:Int→Nat×Nat) (T:Nat×Nat):Prop where
 cell:w.heap[c]? = some (.cells (chC lp p lb lv fresh) 124 (0,0))
 own:OwnS w 61 3 lv lives.length (lvV lives)
 lg:LgAt w lb mb n B T
 len:lives.length≤8
 nd:(c::lb::mb::blk lv).Nodup
def chL (c lb mb:Nat) (lv:Value):List Nat:=c::lb::mb::blk lv
section
variable {w w':World} {c lp p lb mb n:Nat} {lv:Value} {lives:List Lv} {fresh:Int} {B:Int→Nat×Nat} {T:Nat×Nat}
theorem ChAt.keep {S:Nat→Prop} (h:ChAt w c lp p lb mb n lv lives fresh B T) (hk:Keeps S w w') (hS:∀q∈chL c lb mb lv,¬S q):ChAt w' c lp p lb mb n lv lives fresh B T :=
 ⟨hk.keep h.cell (hS c (by simp[chL])),h.own.keep hk (fun q hq=>hS q (by simp[chL,hq])),h.lg.keep hk (hS lb (by simp[chL])) (hS mb (by simp[chL])),h.len,h.nd⟩
theorem ChAt.later (h:ChAt w c lp p lb mb n lv lives fresh B T) (hb:Below w.heap.size w w'):ChAt w' c lp p lb mb n lv lives fresh B T:=h.keep (Keeps.of_below (fun _=>False) hb) (fun _ _ h=>h)
theorem ChAt.lt (h:ChAt w c lp p lb mb n lv lives fresh B T):∀q∈chL c lb mb lv,q<w.heap.size:=fun q hq=>by
 simp only[chL,List.mem_cons]at hq
 rcases hq with rfl | rfl | rfl | hq
 · exact block_lt h.cell
 · exact h.lg.lt.1
 · exact h.lg.lt.2
 · exact h.own.lt hq
set_option maxRecDepth 100000 in
set_option maxHeartbeats 400000 in
theorem ch_find (h:ChAt w c lp p lb mb n lv lives fresh B T) (id:Int) :
  Calls Tryz.prog 55 #[.pointer (some ⟨c,0,none⟩),.int .i64 id] w fun e w'=>FindIs lives id e∧Below w.heap.size w w':=by
 have hbox:(w.alloc (.cells #[.int .i64 id] 3)).cell? ⟨w.heap.size,0,none⟩=some (.int .i64 id):=cell_at (hN rfl) 0
 have h3:(w.alloc (.cells #[.int .i64 id] 3)).cell? ⟨c,3,none⟩=some lv:=cell_at (hO h.cell) 3
 have hO2:OwnS (w.alloc (.cells #[.int .i64 id] 3)) 61 3 lv lives.length (lvV lives):=h.own.keep ((Keeps.refl (fun _=>False) w).alloc _) (fun _ _ h=>h)
 have HI:=Hd (ch_index rfl h.len hO2 id w.heap.size hbox (by simp))
 obtain⟨a,cc,rfl⟩:=h.own.form
 clear h hO2 hbox
 go_enter Tryz.func55,Tryz.ntmps55
 go_wp2_with fail
 refine(HI.out).mono ?_
 rintro e w5 ⟨h,hb⟩
 have HB5:=Hd (show Below w.heap.size w w5 from(bA bR).trans (hb.mono (by simp)))
 clear hb HI
 rcases h with⟨i,s,e1,e2,e3,rfl⟩ | ⟨e1,rfl⟩
 ·have hfin:=Hd (And.intro e1 (And.intro e2 e3))
  clear e1 e2 e3
  go_wp2_with fail
  go_ret
  exact⟨.inl ⟨i,s,hfin.out.1,hfin.out.2.1,hfin.out.2.2,rfl⟩,HB5.out⟩
 ·have hfin:=Hd e1
  clear e1
  go_wp2_with fail
  go_ret
  exact⟨.inr ⟨hfin.out,rfl⟩,HB5.out⟩
set_option maxRecDepth 100000 in
set_option maxHeartbeats 400000 in
theorem ch_save (h:ChAt w c lp p lb mb n lv lives fresh B T) (id:Int) :
  Calls Tryz.prog 32 #[.pointer (some ⟨c,0,none⟩),.int .i64 id] w fun e w'=>((∃i:Nat,∃s,lives[i]? = some s∧s.1=id∧(∀j s',j<i→lives[j]? = some s'→s'.1≠id)∧e = .returned (.tuple #[.int .i64 s.2.2,.int .i64 0]))∨((∀s∈lives,s.1≠id)∧e = .returned (.tuple #[.int .i64 0,.int .i64 191])))∧Below w.heap.size w w':=by
 have HF:=Hd (ch_find h id)
 have H:=Hd h
 clear h
 go_enter Tryz.func32,Tryz.ntmps32
 go_wp2_with fail
 refine(HF.out).mono ?_
 rintro e w5 ⟨hr,hb⟩
 have HB5:=Hd hb
 have H5:=Hd (H.out.later hb)
 clear hb HF H
 rcases hr with⟨i,s,e1,e2,e3,rfl⟩ | ⟨e1,rfl⟩
 ·have hfin:=Hd (And.intro e1 (And.intro e2 e3))
  have hi:i<lives.length:=(List.getElem?_eq_some_iff.1 e1).1
  obtain⟨a,cc,rfl⟩:=H5.out.own.form
  obtain⟨g,rfl⟩:=H5.out.own.spot (by omega)
  have C3:w5.cell? ⟨c,3,none⟩=some (.slice (some ⟨g,0,none⟩) lives.length cc):=cell_at H5.out.cell 3
  have hr:=lv_range H5.out.own i s e1 2 _ rfl
  have hi0:¬(i:Int)<0:=by omega
  have hi1:(i:Int)<lives.length:=by omega
  clear e1 e2 e3 hi
  go_wp2_with fail
  go_ret2
  exact⟨.inl ⟨i,s,hfin.out.1,hfin.out.2.1,hfin.out.2.2,rfl⟩,HB5.out⟩
 ·have hfin:=Hd e1
  clear e1
  go_wp2_with fail
  go_ret2
  exact⟨.inr ⟨hfin.out,rfl⟩,HB5.out⟩
end
end Go.Proofs.YtimomjheanfbmaaGreatDoor
namespace Go.Proofs.YtimomjheanfbmaaGreatDoor
open Go.RowKit
theorem repeat_zeros (s:ByteArray) (hs:s.data.toList=[0]):∀n,(⟨(Lib.repeatL s.data.toList n).toArray⟩:ByteArray)=zeros n:=by
 intro n
 apply ByteArray.ext
 apply Array.toList_inj.1
 rw[hs]
 show Lib.repeatL [0] n=_
 have h:∀n,Lib.repeatL [0] n=List.replicate n 0:=by
  intro n
  induction n with
  | zero=>rfl
  | succ n ih=>rw[Lib.repeatL,ih];rfl
 rw[h,zeros]
 show List.replicate n 0=(List.replicate n (0:Int)).map fun n=>UInt8.ofNat n.toNat
 simp[List.map_replicate]
theorem str_zeros (s:ByteArray) (hs:s.data.toList=[0]) (n:Nat) (hn:n≤64) (w:World):Calls Tryz.prog 71 #[.string s,.int .i64 n] w fun e w'=>e = .returned (.string (zeros n))∧RowKit.Below w.heap.size w w':=by
 have h1:s.size=1:=by rw[Lib.size_eq,hs];rfl
 refine(Tryz.strings_Repeat s n w (by omega) (by rw[h1];omega)).mono ?_
 rintro e w' ⟨rfl,hb⟩
 rw[repeat_zeros s hs]
 exact⟨rfl,hb⟩
end Go.Proofs.YtimomjheanfbmaaGreatDoor
namespace Go.Proofs.YtimomjheanfbmaaGreatDoor
open Go.RowKit
theorem bN {a w:World} (h:Below a.heap.size a w) (n:Nat):Below a.heap.size a (w.drewN n):=⟨h.os,h.tape,h.output,h.size,h.block⟩
theorem strCells_append (a b:ByteArray):Lib.strCells (a++b)=Lib.strCells a++Lib.strCells b:=by
 simp[Lib.strCells]
theorem run_append_str {P:Program} (w:World) (t u ty e:TypeId) (i:TypeInfo) (ht:P.underlying t=some (.slice e)) (hu:P.underlying u=some .string) (hi:P.info? e=some i) (hz:i.zero=some (.int .u8 0))
  (hsize:i.size=1) (hby:i.bytes=1) (v:Value) (n:Nat) (xs:List Value) (hown:OwnS w e 1 v n xs) (s:ByteArray) (h63:n+s.size≤maxLen) (hbytes:n+s.size≤140737488355328) :
  ∃v' w',(Builtin.append_ #[t,u] ty #[v,.string s]).run P w = .ok v' w'∧OwnS w' e 1 v' (n+s.size) (xs++Lib.strCells s)∧Keeps (· ∈ blk v) w w'∧(∀k∈blk v',k∈blk v∨w.heap.size≤k):=by
 have keeps:∀{w':World},w.grownBy w' v.ownBlock→Keeps (· ∈ blk v) w w':=fun hg=>(Keeps.refl _ _).grown hg (fun k hk => .inl (mem_blk.2 hk))
 rcases hown.2 with⟨rfl,rfl⟩ | ⟨g,cap,cur,rfl,hbg,hg,hnc,hcm,hcs,htake⟩
 ·obtain⟨v',w',hr,h2,h3,_⟩:=Lib.run_append_own_string (P:=P) w w.heap.size t u ty e i ht hu hi hz hsize hby _ _ xs (hown.rebase _ (by simp[blk,Value.ownBlock])) s h63 hbytes (Nat.le_refl _)
  exact⟨v',w',hr,OwnS.of h2,keeps h3,fun k hk => .inr (h2.lt k (mem_blk.1 hk)).1⟩
 ·obtain⟨v',w',hr,h2,h3,_⟩:=Lib.run_append_own_string (P:=P) w 0 t u ty e i ht hu hi hz hsize hby _ _ xs hown s h63 hbytes (Nat.zero_le _)
  refine⟨v',w',hr,h2,keeps h3,?_⟩
  by_cases hroom:n+s.size≤cap
  ·have hr':=Lib.run_append_room_string (P:=P) w t u ty e i ht hu hi hsize g n cap cur hg s hroom (by omega)
   rw[hr']at hr
   obtain⟨rfl,-⟩:=Result.ok.inj hr
   intro k hk
   exact .inl (by simpa[blk,Value.ownBlock]using hk)
  ·have holds:∀j u,xs[j]? = some u→w.cell? ((⟨g,0,none⟩:Addr).add j)=some u:=World.ownsRow.cells hown (g:=g) rfl
   have hxl:xs.length=n:=by simpa using hown.1
   have hr':=Lib.run_append_grow_string (P:=P) w t u ty e i (.int .u8 0) ht hu hi hz ⟨g,0,none⟩ n cap xs (by rw[hsize];omega) holds s (by omega) (by unfold maxLen at h63;omega) (by rw[hby];exact growslice_fits (by omega) (by omega))
   rw[hr']at hr
   obtain⟨rfl,-⟩:=Result.ok.inj hr
   intro k hk
   have:k=w.heap.size:=by simpa[blk,Value.ownBlock,eq_comm]using hk
   exact .inr (by omega)
theorem wpList_append_str {P:Program} {w:World} {ops:Array Oper} {rest:List Oper} {o:Oper} {a:Act} {Q:Exit→Act→World→Prop} (hgd:o.guard=none) (sl x:Operand) (t u:TypeId)
  (ho:o.op = .call {callee := .builtin .append,args := #[sl,x],argTypes := #[t,u]})
  (e:TypeId) (i:TypeInfo) (ht:P.underlying t=some (.slice e)) (hu:P.underlying u=some .string) (hi:P.info? e=some i) (hz:i.zero=some (.int .u8 0)) (hsize:i.size=1) (hby:i.bytes=1)
  (v:Value) (n:Nat) (xs:List Value) (hs:a.eval sl=v) (hown:OwnS w e 1 v n xs) (s:ByteArray) (hx:a.eval x = .string s) (h63:n+s.size≤maxLen) (hbytes:n+s.size≤140737488355328)
  (h:∀v' w',OwnS w' e 1 v' (n+s.size) (xs++Lib.strCells s)→Keeps (· ∈ blk v) w w'→(∀k∈blk v',k∈blk v∨w.heap.size≤k)→wpList P ops Q rest (a.put o.dst v') w'):wpList P ops Q (o::rest) a w:=by
 refine wpList_plain hgd fun K hK=>?_
 obtain⟨v',w',hr,h2,h3,h4⟩:=run_append_str (P:=P) w t u o.type e i ht hu hi hz hsize hby v n xs hown s h63 hbytes
 unfold Oper.wp execOp
 simp only[ho,resolve,invoke,builtin,Sem.run_bind,Sem.run_pure,Result.andThen_ok,List.map_toArray,List.map_cons,List.map_nil,hs,hx,hr]
 exact hK _ _ (h v' w' h2 h3 h4)
structure Lg where
 first:Int
 n:Int
 start:Int
 fin:Int
 firm:Int
 base:Int
 buf:ByteArray
 list:List (Int×ByteArray)
def lgC (dp:Nat) (G:Lg) (bv lv:Value):Array Value := #[.pointer (some ⟨dp,0,none⟩),.int .i64 G.first,.int .i64 G.n,.int .i64 G.start,.int .i64 G.fin,.int .i64 G.firm,.int .i64 G.base,bv,lv]
def LgOk (G:Lg):Prop:=128≤G.n∧G.n≤4096∧0≤G.first∧G.first≤16384∧0≤G.base∧G.base≤G.fin∧G.fin≤1152921504606846976∧G.fin-G.base≤G.n*54∧(G.buf.size:Int)=G.fin-G.base∧(G.list.length:Int)*3≤G.fin-G.base∧0≤G.start∧G.start≤1152921504606846976∧0≤G.firm∧G.firm≤1152921504606846976
def LogAt (w:World) (p dp:Nat) (G:Lg) (S:List Nat):Prop:=LgOk G∧∃bv lv:Value,w.heap[p]? = some (.cells (lgC dp G bv lv) 144 (0,0))∧OwnS w 5 1 bv G.buf.size (Lib.strCells G.buf)∧OwnS w 140 2 lv G.list.length (recV G.list)∧S=p::(blk bv++blk lv)∧S.Nodup
theorem LogAt.keep {R:Nat→Prop} {w w':World} {p dp:Nat} {G:Lg} {S:List Nat} (h:LogAt w p dp G S) (hk:Keeps R w w') (hS:∀k∈S,¬R k):LogAt w' p dp G S:=by
 obtain⟨hok,bv,lv,h1,h2,h3,rfl,h6⟩:=h
 exact⟨hok,bv,lv,hk.keep h1 (hS _ (by simp)),h2.keep hk (fun k hkk=>hS k (by simp[hkk])),h3.keep hk (fun k hkk=>hS k (by simp[hkk])),rfl,h6⟩
theorem LogAt.later {w w':World} {p dp:Nat} {G:Lg} {S:List Nat} (h:LogAt w p dp G S) (hb:Below w.heap.size w w'):LogAt w' p dp G S:=h.keep (Keeps.of_below (fun _=>False) hb) (fun _ _=>id)
theorem LogAt.lt {w:World} {p dp:Nat} {G:Lg} {S:List Nat} (h:LogAt w p dp G S):∀k∈S,k<w.heap.size:=by
 obtain⟨hok,bv,lv,h1,h2,h3,rfl,h6⟩:=h
 intro k hk
 simp only[List.mem_cons,List.mem_append]at hk
 rcases hk with rfl | hk | hk
 · exact block_lt h1
 · exact h2.lt hk
 · exact h3.lt hk
def Lg.room (G:Lg):Int:=G.n*54-(G.fin-G.base)
theorem wal_room (p dp:Nat) (G:Lg) (S:List Nat) (w:World) (h:LogAt w p dp G S):Calls Tryz.prog 50 #[.pointer (some ⟨p,0,none⟩)] w fun e w'=>e = .returned (.int .i64 G.room)∧Below w.heap.size w w':=by
 obtain⟨hok,bv,lv,h1,-⟩:=h
 have c2:w.cell? ⟨p,2,none⟩=some (.int .i64 G.n):=cell_at h1 2
 have c4:w.cell? ⟨p,4,none⟩=some (.int .i64 G.fin):=cell_at h1 4
 have c6:w.cell? ⟨p,6,none⟩=some (.int .i64 G.base):=cell_at h1 6
 obtain⟨a1,a2,a3,a4,a5,a6,a7,a8,-⟩:=hok
 unfold Lg.room
 have e1:IntKind.i64.wrap (G.n*54)=G.n*54:=by rw[IntKind.wrap_i64];omega
 have e2:IntKind.i64.wrap (G.fin-G.base)=G.fin-G.base:=by rw[IntKind.wrap_i64];omega
 have e3:IntKind.i64.wrap (G.n*54-(G.fin-G.base))=G.n*54-(G.fin-G.base):=by rw[IntKind.wrap_i64];omega
 clear h1
 go_enter Tryz.func50,Tryz.ntmps50
 go_wp2_with fail
 go_quiet (fail)
 go_wp2_with fail
 go_ret
 exact⟨rfl,bN bR _⟩
theorem wal_span (p dp:Nat) (G:Lg) (S:List Nat) (w:World) (h:LogAt w p dp G S):Calls Tryz.prog 97 #[.pointer (some ⟨p,0,none⟩)] w fun e w'=>e = .returned (.tuple #[.int .i64 G.start,.int .i64 G.fin,.int .i64 G.firm])∧Below w.heap.size w w':=by
 obtain⟨hok,bv,lv,h1,-⟩:=h
 have c3:w.cell? ⟨p,3,none⟩=some (.int .i64 G.start):=cell_at h1 3
 have c4:w.cell? ⟨p,4,none⟩=some (.int .i64 G.fin):=cell_at h1 4
 have c5:w.cell? ⟨p,5,none⟩=some (.int .i64 G.firm):=cell_at h1 5
 clear h1 hok
 go_enter Tryz.func97,Tryz.ntmps97
 go_wp2_with fail
 go_quiet (fail)
 go_wp2_with fail
 go_ret3
 exact⟨rfl,bN bR _⟩
end Go.Proofs.YtimomjheanfbmaaGreatDoor
namespace Go.Proofs.YtimomjheanfbmaaGreatDoor
open Go.RowKit
def Lg.refuse (G:Lg) (rec:ByteArray):Option Int:=if rec.size=0 then some 1 else if 65535<rec.size then some 2 else if G.room<2+rec.size then some 70 else none
def Lg.push (G:Lg) (rec:ByteArray):Lg:={G with buf:=G.buf++leS rec.size 2++rec,fin:=G.fin+(2+rec.size),list:=G.list++[(G.fin,rec)]}
theorem Tryz.info_ent:(Tryz.prog.info? 140).map (fun i=>(i.zero,i.size,i.bytes))=some (some (.agg #[.int .i64 0,.string .empty]),2,24):=by kernel_rfl
theorem Lg.push_ok {G:Lg} {rec:ByteArray} (h:LgOk G) (hr:G.refuse rec=none) (hf:G.fin≤1152921504606700000):LgOk (G.push rec):=by
 obtain⟨a1,a2,a3,a4,a5,a6,a7,a8,a9,a10,a11,a12,a13,a14⟩:=h
 unfold Lg.refuse at hr
 have h0:rec.size≠0:=fun e=>by rw[if_pos e]at hr;cases hr
 rw[if_neg h0]at hr
 have h1:¬65535<rec.size:=fun e=>by rw[if_pos e]at hr;cases hr
 rw[if_neg h1]at hr
 have h2:¬G.room<2+rec.size:=fun e=>by rw[if_pos e]at hr;cases hr
 unfold Lg.room at h2
 refine⟨a1,a2,a3,a4,a5,?_,?_,?_,?_,?_,a11,a12,a13,a14⟩
 · show G.base≤G.fin+(2+rec.size);omega
 · show G.fin+(2+rec.size)≤_;omega
 · show G.fin+(2+rec.size)-G.base≤G.n*54;omega
 ·show ((G.buf++leS rec.size 2++rec).size:Int)=G.fin+(2+rec.size)-G.base
  rw[ByteArray.size_append,ByteArray.size_append,leS_size];omega
 ·show ((G.list++[(G.fin,rec)]).length:Int)*3≤G.fin+(2+rec.size)-G.base
  rw[List.length_append];simp;omega
structure Mid (w W:World) (p:Nat) (S:List Nat) (C:Array Value) (bv lv:Value) (nb:Nat) (bs:List Value) (nl:Nat) (ls:List Value):Prop where
 hp:W.heap[p]? = some (.cells C 144 (0,0))
 ob:OwnS W 5 1 bv nb bs
 ol:OwnS W 140 2 lv nl ls
 kp:Keeps (· ∈ S) w W
 sub:∀k∈p::(blk bv++blk lv),k∈S∨w.heap.size≤k
 nd:(p::(blk bv++blk lv)).Nodup
section
variable {w W W':World} {p:Nat} {S:List Nat} {C:Array Value} {bv lv:Value} {nb nl:Nat} {bs ls:List Value}
theorem LogAt.mid {dp:Nat} {G:Lg} (h:LogAt w p dp G S):∃bv lv,Mid w w p S (lgC dp G bv lv) bv lv G.buf.size (Lib.strCells G.buf) G.list.length (recV G.list)∧S=p::(blk bv++blk lv):=by
 obtain⟨hok,bv,lv,h1,h2,h3,rfl,h6⟩:=h
 exact⟨bv,lv,⟨h1,h2,h3,Keeps.refl _ _,fun k hk => .inl hk,h6⟩,rfl⟩
theorem Mid.np (h:Mid w W p S C bv lv nb bs nl ls):p∉blk bv∧p∉blk lv∧∀k,k∈blk bv→k∉blk lv:=by
 have h6:=h.nd
 simp only[List.nodup_cons,List.nodup_append,List.mem_append,not_or]at h6
 exact⟨h6.1.1,h6.1.2,fun k h1 h2=>h6.2.2.2 k h1 k h2 rfl⟩
theorem Mid.later (h:Mid w W p S C bv lv nb bs nl ls) (hb:Below W.heap.size W W'):Mid w W' p S C bv lv nb bs nl ls :=
 ⟨hBs hb h.hp,h.ob.keep (Keeps.of_below (fun _=>False) hb) (fun _ _ h=>h),h.ol.keep (Keeps.of_below (fun _=>False) hb) (fun _ _ h=>h),h.kp.trans (Keeps.of_below (fun _=>False) hb) (fun _ _ h=>h.elim),h.sub,h.nd⟩
theorem Mid.cell (h:Mid w W p S C bv lv nb bs nl ls) (j:Nat) (u:Value):Mid w (W.setCell ⟨p,j,none⟩ u) p S (C.setIfInBounds j u) bv lv nb bs nl ls:=by
 obtain⟨a1,a2,a3⟩:=h.np
 have k1:Keeps (· = p) W (W.setCell ⟨p,j,none⟩ u):=(Keeps.refl _ _).setCell _ _ (.inl rfl)
 refine⟨heap_set h.hp j u,h.ob.keep k1 (fun k hk e=>a1 (e ▸ hk)),h.ol.keep k1 (fun k hk e=>a2 (e ▸ hk)),?_,h.sub,h.nd⟩
 refine h.kp.setCell _ _ ?_
 rcases h.sub p (by simp) with h' | h'
 · exact .inl h'
 · exact .inr h'
theorem Mid.buf {nb':Nat} {bs':List Value} {v':Value} (h:Mid w W p S C bv lv nb bs nl ls) (ho:OwnS W' 5 1 v' nb' bs') (hk:Keeps (· ∈ blk bv) W W') (hb:∀k∈blk v',k∈blk bv∨W.heap.size≤k):Mid w W' p S C v' lv nb' bs' nl ls:=by
 obtain⟨a1,a2,a3⟩:=h.np
 have hpl:=block_lt h.hp
 have hsz:=h.kp.size
 refine⟨hk.keep h.hp a1,ho,h.ol.keep hk (fun k hk e=>a3 k e hk),?_,fun k hk=>?_,?_⟩
 ·refine h.kp.trans hk (fun i hi h'=>?_)
  exact(h.sub i (by simp[h'])).resolve_right (by omega)
 ·simp only[List.mem_cons,List.mem_append]at hk
  rcases hk with rfl | hk | hk
  · exact h.sub _ (by simp)
  ·rcases hb k hk with h' | h'
   · exact h.sub k (by simp[h'])
   · exact .inr (by omega)
  · exact h.sub k (by simp[hk])
 ·refine nodup_swap (F:=[]) (A:=blk bv) (E:=blk lv) h.nd (blk_nodup _) (fun k hk=>?_)
  rcases hb k hk with h' | h'
  · exact .inl h'
  · exact .inr ⟨by omega,by simp,fun h''=>by have:=h.ol.lt h'';omega⟩
theorem Mid.list {nl':Nat} {ls':List Value} {v':Value} (h:Mid w W p S C bv lv nb bs nl ls) (ho:OwnS W' 140 2 v' nl' ls') (hk:Keeps (· ∈ blk lv) W W') (hb:∀k∈blk v',k∈blk lv∨W.heap.size≤k):Mid w W' p S C bv v' nb bs nl' ls':=by
 obtain⟨a1,a2,a3⟩:=h.np
 have hpl:=block_lt h.hp
 have hsz:=h.kp.size
 refine⟨hk.keep h.hp a2,h.ob.keep hk (fun k hk e=>a3 k hk e),ho,?_,fun k hk=>?_,?_⟩
 ·refine h.kp.trans hk (fun i hi h'=>?_)
  exact(h.sub i (by simp[h'])).resolve_right (by omega)
 ·simp only[List.mem_cons,List.mem_append]at hk
  rcases hk with rfl | hk | hk
  · exact h.sub _ (by simp)
  · exact h.sub k (by simp[hk])
  ·rcases hb k hk with h' | h'
   · exact h.sub k (by simp[h'])
   · exact .inr (by omega)
 ·have:=nodup_swap (F:=blk bv) (A:=blk lv) (E:=[]) (B:=blk v') (by simpa using h.nd) (blk_nodup _) (fun k hk=>by
   rcases hb k hk with h' | h'
   · exact .inl h'
   · exact .inr ⟨by omega,fun h''=>by have:=h.ob.lt h'';omega,by simp⟩)
  simpa using this
theorem Mid.log {dp:Nat} {G':Lg} (h:Mid w W p S (lgC dp G' bv lv) bv lv nb bs nl ls) (hok:LgOk G') (h1:nb=G'.buf.size) (h2:bs=Lib.strCells G'.buf) (h3:nl=G'.list.length) (h4:ls=recV G'.list) :
  ∃S',LogAt W p dp G' S'∧Keeps (· ∈ S) w W∧∀k∈S',k∈S∨w.heap.size≤k:=by
 subst h1 h2 h3 h4
 exact⟨_,⟨hok,bv,lv,h.hp,h.ob,h.ol,rfl,h.nd⟩,h.kp,h.sub⟩
end
set_option maxRecDepth 100000 in
set_option maxHeartbeats 800000 in
theorem wal_append_no (p dp:Nat) (G:Lg) (S:List Nat) (rec:ByteArray) (hrec:rec.size≤maxLen) (c:Int) (hc:G.refuse rec=some c) (w:World) (h:LogAt w p dp G S) :
  Calls Tryz.prog 26 #[.pointer (some ⟨p,0,none⟩),.string rec] w fun e w'=>e = .returned (.tuple #[.int .i64 0,.int .i64 c])∧Below w.heap.size w w':=by
 have HR:=Hd (wal_room p dp G S w h)
 have hrm:Hid (-9223372036854775808≤G.room∧G.room≤9223372036854775807):=by
  obtain⟨⟨a1,a2,a3,a4,a5,a6,a7,a8,-⟩,-⟩:=h
  show _∧_
  unfold Lg.room
  omega
 unfold maxLen at hrec
 clear h
 unfold Lg.refuse at hc
 by_cases h0:rec.size=0
 ·rw[if_pos h0]at hc
  obtain rfl:=Option.some.inj hc
  obtain rfl:=str_none h0
  go_enter Tryz.func26,Tryz.ntmps26
  go_wp2_with fail
  go_ret2
  exact⟨rfl,bR⟩
 ·rw[if_neg h0]at hc
  obtain⟨n1,n2⟩:=str_some h0
  by_cases h1:65535<rec.size
  ·rw[if_pos h1]at hc
   obtain rfl:=Option.some.inj hc
   have h1':(65535:Int)<rec.size:=by omega
   replace h0:=Hd h0
   go_enter Tryz.func26,Tryz.ntmps26
   go_wp2_with fail
   go_ret2
   exact⟨rfl,bR⟩
  ·rw[if_neg h1]at hc
   have h1':¬(65535:Int)<rec.size:=by omega
   have h2:G.room<2+rec.size:=Classical.byContradiction fun e=>by rw[if_neg e]at hc;cases hc
   rw[if_pos h2]at hc
   obtain rfl:=Option.some.inj hc
   replace h0:=Hd h0
   generalize G.room=R at *
   obtain⟨hr1,hr2⟩:=hrm.out
   go_enter Tryz.func26,Tryz.ntmps26
   go_wp2_with fail
   refine(HR.out).mono ?_
   rintro e w1 ⟨rfl,hb⟩
   have HB1:=Hd hb
   clear hb
   go_wp2_with fail
   go_ret2
   exact⟨rfl,HB1.out⟩
set_option maxRecDepth 100000 in
set_option maxHeartbeats 1600000 in
theorem wal_append_ok (p dp:Nat) (G:Lg) (S:List Nat) (rec:ByteArray) (hrec:rec.size≤maxLen) (hc:G.refuse rec=none) (hf:G.fin≤1152921504606700000) (w:World) (h:LogAt w p dp G S) :
  Calls Tryz.prog 26 #[.pointer (some ⟨p,0,none⟩),.string rec] w fun e w'=>e = .returned (.tuple #[.int .i64 G.fin,.int .i64 0])∧∃S',LogAt w' p dp (G.push rec) S'∧Keeps (· ∈ S) w w'∧∀k∈S',k∈S∨w.heap.size≤k:=by
 have HR:=Hd (wal_room p dp G S w h)
 have hok':=Hd (Lg.push_ok h.1 hc hf)
 obtain⟨i0,hi,hi0,hi1,hi2⟩:=info_parts Tryz.info_ent
 obtain⟨j0,hj,hj0,hj1,hj2⟩:=info_parts Tryz.info_u8
 obtain⟨a1,a2,a3,a4,a5,a6,a7,a8,a9,a10,-⟩:=h.1
 obtain⟨bv,lv,hmid,-⟩:=h.mid
 clear h
 unfold Lg.refuse at hc
 have h0:rec.size≠0:=fun e=>by rw[if_pos e]at hc;cases hc
 rw[if_neg h0]at hc
 have h65:¬65535<rec.size:=fun e=>by rw[if_pos e]at hc;cases hc
 rw[if_neg h65]at hc
 have hrm:¬G.room<2+rec.size:=fun e=>by rw[if_pos e]at hc;cases hc
 clear hc
 have hbl:G.buf.size≤221184:=by omega
 have hll:G.list.length≤221184:=by omega
 have hrange : -9223372036854775808≤G.room∧G.room≤9223372036854775807:=by unfold Lg.room;omega
 obtain⟨hr1,hr2⟩:=hrange
 generalize hRm:G.room=R at *
 obtain⟨n1,n2⟩:=str_some h0
 have h65':¬(65535:Int)<rec.size:=by omega
 have hwr:IntKind.u64.wrap (rec.size:Int)=rec.size:=wrap_u64_in _ (by omega) (by omega)
 have hsm:Hid ((rec.size:Int)/2^(8*(2:Int).toNat)=0):=by show (rec.size:Int)/2^(8*(2:Int).toNat)=0;rw[show (2:Int)^(8*(2:Int).toNat)=65536 by decide];omega
 have hfi:IntKind.i64.wrap (G.fin+(2+rec.size))=G.fin+(2+rec.size):=by rw[IntKind.wrap_i64];omega
 have HM:=Hd hmid
 replace h0:=Hd h0
 replace hRm:=Hd hRm
 clear hmid
 go_enter Tryz.func26,Tryz.ntmps26
 go_wp2_with fail
 refine(HR.out).mono ?_
 rintro e w1 ⟨rfl,hb⟩
 have HM1:=Hd (HM.out.later hb)
 have C4:w1.cell? ⟨p,4,none⟩=some (.int .i64 G.fin):=cell_at HM1.out.hp 4
 have HN:=Hd (fun w2=>oct_num_ok (rec.size:Int) 2 (by omega) (by omega) (by omega) (fun _=>hsm.out) w2)
 clear hb HM HR
 go_wp2_with fail
 refine(HN.out w1).mono ?_
 rintro e w2 ⟨rfl,hb⟩
 have HM2:=Hd (HM1.out.later hb)
 have C7:w2.cell? ⟨p,7,none⟩=some bv:=cell_at HM2.out.hp 7
 clear hb HM1 C4 HN
 rw[show (2:Int).toNat=2 from rfl]
 go_upto_region 10 with(at_builtin;refine wpList_append_str rfl _ _ 141 9 rfl 5 j0 Tryz.underlying141 Tryz.underlying9 hj hj0 hj1 hj2 _ _ _ rfl HM2.out.ob (leS rec.size 2) rfl (by rw[leS_size];unfold maxLen;omega) (by rw[leS_size];omega) ?_;intro v3 w3 ho3 hk3 hb3;(have HM3:=Hd (HM2.out.buf ho3 hk3 hb3));(obtain⟨av3,cv3,rfl⟩:=ho3.form);(have C7':w3.cell? ⟨p,7,none⟩=some bv:=cell_at HM3.out.hp 7);(have F7:=free_at HM3.out.hp 7);clear ho3 hk3 hb3)
 have HM4:=HM3.out.cell 7 (.slice av3 (G.buf.size+(leS rec.size 2).size) cv3)
 refine name_world (fun W=>Mid w W p S _ _ lv _ _ _ _) HM4 ?_
 clear HM4 HM3 HM2 C7 C7' F7
 intro W1 HM4
 have HM4:=Hd HM4
 have C7:W1.cell? ⟨p,7,none⟩=some (.slice av3 (G.buf.size+(leS rec.size 2).size) cv3):=cell_at HM4.out.hp 7
 have hs2:(leS (rec.size:Int) 2).size=2:=leS_size _ _
 go_upto_region 11 with(at_builtin;refine wpList_append_str rfl _ _ 141 9 rfl 5 j0 Tryz.underlying141 Tryz.underlying9 hj hj0 hj1 hj2 _ _ _ rfl HM4.out.ob rec rfl (by unfold maxLen;omega) (by omega) ?_;intro v5 w5 ho5 hk5 hb5;(have HM5:=Hd (HM4.out.buf ho5 hk5 hb5));(obtain⟨av5,cv5,rfl⟩:=ho5.form);(have C7':w5.cell? ⟨p,7,none⟩=some (.slice av3 (G.buf.size+(leS rec.size 2).size) cv3):=cell_at HM5.out.hp 7);(have F7:=free_at HM5.out.hp 7);clear ho5 hk5 hb5)
 have HM6:=HM5.out.cell 7 (.slice av5 (G.buf.size+(leS rec.size 2).size+rec.size) cv5)
 refine name_world (fun W=>Mid w W p S _ _ lv _ _ _ _) HM6 ?_
 clear HM6 HM5 HM4 C7 C7' F7
 intro W2 HM6
 have HM6:=Hd HM6
 have C4:W2.cell? ⟨p,4,none⟩=some (.int .i64 G.fin):=cell_at HM6.out.hp 4
 have F4:=free_at HM6.out.hp 4
 go_upto_region 12 with fail
 have HM7:=HM6.out.cell 4 (.int .i64 (G.fin+(2+rec.size)))
 refine name_world (fun W=>Mid w W p S _ _ lv _ _ _ _) HM7 ?_
 clear HM7 HM6 C4 F4
 intro W3 HM7
 have HM7:=Hd HM7
 have C8:W3.cell? ⟨p,8,none⟩=some lv:=cell_at HM7.out.hp 8
 have HM8:Hid (Mid w (W3.alloc (.cells #[.int .i64 G.fin,.string rec] 140)) p S _ _ lv _ _ _ _):=HM7.out.later (bA bR)
 go_upto_region 13 with(at_builtin;refine wpList_append_frame _ rfl _ _ 142 rfl 140 i0 (.agg #[.int .i64 0,.string .empty]) 2 24 Tryz.underlying142 hi hi0 hi1 hi2 rfl (by decide) _ _ _ rfl HM8.out.ol ⟨W3.heap.size,0,none⟩ 1 1 [.int .i64 G.fin,.string rec] rfl rfl (cell_two_new _ _ _ _ _ _ (by simp)) (by simp[Value.oneCell']) (by unfold maxLen;omega) (by omega) ?_;intro v9 w9 ho9 hk9 hb9 hn9;(have HM9:=Hd (HM8.out.list ho9 hk9 hb9));(obtain⟨av9,cv9,rfl⟩:=ho9.form);(have C8':w9.cell? ⟨p,8,none⟩=some lv:=cell_at HM9.out.hp 8);(have F8:=free_at HM9.out.hp 8);clear ho9 hk9 hb9 hn9)
 have HM10:=HM9.out.cell 8 (.slice av9 (G.list.length+1) cv9)
 refine name_world (fun W=>Mid w W p S _ _ _ _ _ _ _) HM10 ?_
 clear HM10 HM9 HM8 HM7 C8 C8' F8
 intro W4 HM10
 have HM10:=Hd HM10
 go_wp2_with fail
 go_ret2
 refine⟨rfl,HM10.out.log (G':=G.push rec) hok'.out ?_ ?_ ?_ ?_⟩
 ·show _=(G.buf++leS rec.size 2++rec).size
  rw[ByteArray.size_append,ByteArray.size_append]
 ·show _=Lib.strCells (G.buf++leS rec.size 2++rec)
  rw[strCells_append,strCells_append]
 ·show _=(G.list++[(G.fin,rec)]).length
  rw[List.length_append];rfl
 ·show _=recV (G.list++[(G.fin,rec)])
  rw[recV_append];rfl
end Go.Proofs.YtimomjheanfbmaaGreatDoor
namespace Go.Proofs.YtimomjheanfbmaaGreatDoor
open Go.RowKit
end Go.Proofs.YtimomjheanfbmaaGreatDoor
namespace Go.Proofs.YtimomjheanfbmaaGreatDoor
open Go.RowKit
end Go.Proofs.YtimomjheanfbmaaGreatDoor
