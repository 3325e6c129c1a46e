import Derived.Test.YtimomjheanfbmaaGreatDoorQaa
import Derived.Shelf.Sort.Plain
import Derived.Test.YtimomjheanfbmaaGreatDoorQac
import Derived.Test.YtimomjheanfbmaaGreatDoorQak
import Derived.Deep.RegionHeld3
import Derived.Test.YtimomjheanfbmaaGreatDoorQan
import Derived.WalkSpells
import Derived.Deep.DeepCutAuto
import Derived.Deep.CutBlock
import Derived.Test.YtimomjheanfbmaaGreatDoorQab
import Derived.LoopN
import Derived.BigRegion
import Derived.Test.YtimomjheanfbmaaGreatDoorQae
set_option linter.unusedSimpArgs false
set_option linter.unusedVariables false
namespace Go.Proofs.YtimomjheanfbmaaGreatDoor
open Go.Shelf Go.Sort Go.RowKit
end Go.Proofs.YtimomjheanfbmaaGreatDoor
namespace Go.Proofs.YtimomjheanfbmaaGreatDoor
open Go.RowKit
theorem step_append_frame {P:Program} {w:World} {ops:Array Oper} {o:Oper} {a:Act} {K:Act→World→Prop} {Q:Exit→Act→World→Prop} {E:Prop} (hgd:o.guard=none) (s x:Operand) (t:TypeId)
  (ho:o.op = .call {callee := .builtin .append,args := #[s,x],argTypes := #[t,t]})
  (e:TypeId) (i:TypeInfo) (z:Value) (size bytes:Nat) (ht:P.underlying t=some (.slice e)) (hi:P.info? e=some i) (hz:i.zero=some z)
  (hsize:i.size=size) (hby:i.bytes=bytes) (hzs:z.cells.size=size) (hsz:0<size)
  (v:Value) (n:Nat) (xs:List Value) (hs:a.eval s=v) (hown:OwnS w e size v n xs)
  (ad:Addr) (m c:Nat) (news:List Value) (hx:a.eval x = .slice (some ad) m c) (hl:news.length=m*size) (hnews:∀j u,news[j]? = some u→w.cell? (ad.add j)=some u) (h1:∀u∈news,u.oneCell'=true)
  (h63:n+m≤maxLen) (hbytes:((n+m)+(n+m)/4+192)*bytes≤281474976710656) (hpos:0<n+m)
  (h:∀g cap w',OwnS w' e size (.slice (some ⟨g,0,none⟩) (n+m) cap) (n+m) (xs++news)→Keeps (· ∈ blk v) w w'→(∀k∈blk (.slice (some ⟨g,0,none⟩) (n+m) cap),k∈blk v∨w.heap.size≤k)→K (a.put o.dst (.slice (some ⟨g,0,none⟩) (n+m) cap)) w') :
  if Region.wanted o (yielded ops a.tmps)=true then Oper.wp P o a w K Q else E:=by
 have hw:Region.wanted o (yielded ops a.tmps)=true:=by simp[Region.wanted,hgd]
 rw[if_pos hw]
 obtain⟨v',w',hr,h2,h3,h4,h5⟩:=run_append_frame (P:=P) w t o.type e i z size bytes ht hi hz hsize hby hzs hsz v n xs hown ad m c news hl hnews h1 h63 hbytes
 obtain⟨g,cap,rfl⟩:=h2.has hpos
 unfold Oper.wp execOp
 simp only[ho,resolve,invoke,builtin,Sem.run_bind,Sem.run_pure,Result.andThen_ok,List.map_toArray,List.map_cons,List.map_nil,hs,hx,hr]
 exact h g cap w' h2 h3 h4
theorem run_append_zero {P:Program} (w:World) (t ty e:TypeId) (i:TypeInfo) (ht:P.underlying t=some (.slice e)) (hi:P.info? e=some i) (a:Option Addr) (n c:Nat) (hnc:n≤c) (b:Option Addr) (d:Nat) :
  (Builtin.append_ #[t,t] ty #[.slice a n c,.slice b 0 d]).run P w = .ok (.slice a n c) w:=by
 have hl:∀(x:Addr),(loadCells x 0).run P w = .ok #[] w:=fun x=>by simpa using run_loadCells_list (P:=P) w x [] (by simp)
 cases a <;> cases b <;> simp[Builtin.append_,run_underlying ht,Builtin.lenOf,Builtin.firstCells,sizeOf,typeInfo,hi,hnc,hl,storeCells]
theorem OwnS.cap {w:World} {e:TypeId} {size:Nat} {v:Value} {n:Nat} {xs:List Value} (h:OwnS w e size v n xs):∃a c,v = .slice a n c∧n≤c:=by
 rcases h.2 with⟨rfl,rfl⟩ | ⟨g,cap,cur,rfl,_,_,hc,_⟩
 · exact⟨_,_,rfl,Nat.le_refl _⟩
 · exact⟨_,_,rfl,hc⟩
theorem wpList_append_seg {P:Program} {w:World} {ops:Array Oper} {rest:List Oper} {o:Oper} {a:Act} {Q:Exit→Act→World→Prop} (hgd:o.guard=none) (s x:Operand) (t:TypeId)
  (ho:o.op = .call {callee := .builtin .append,args := #[s,x],argTypes := #[t,t]})
  (e:TypeId) (i:TypeInfo) (z:Value) (size bytes:Nat) (ht:P.underlying t=some (.slice e)) (hi:P.info? e=some i) (hz:i.zero=some z)
  (hsize:i.size=size) (hby:i.bytes=bytes) (hzs:z.cells.size=size) (hsz:0<size)
  (v:Value) (n:Nat) (xs:List Value) (hs:a.eval s=v) (hown:OwnS w e size v n xs)
  (ad:Option Addr) (m c:Nat) (news:List Value) (hx:a.eval x = .slice ad m c) (hl:news.length=m*size) (hnews:∀a',ad=some a'→∀j u,news[j]? = some u→w.cell? (a'.add j)=some u) (hsome:0<m→ad.isSome=true) (h1:∀u∈news,u.oneCell'=true)
  (h63:n+m≤maxLen) (hbytes:((n+m)+(n+m)/4+192)*bytes≤281474976710656)
  (h:∀v' w',OwnS w' e size v' (n+m) (xs++news)→Keeps (· ∈ blk v) w w'→(∀k∈blk v',k∈blk v∨w.heap.size≤k)→wpList P ops Q rest (a.put o.dst v') w'):wpList P ops Q (o::rest) a w:=by
 by_cases hm:m=0
 ·subst hm
  obtain rfl:news=[]:=List.eq_nil_of_length_eq_zero (by simpa using hl)
  obtain⟨va,vc,rfl,hvc⟩:=hown.cap
  refine wpList_plain hgd fun K hK=>?_
  unfold Oper.wp execOp
  simp only[ho,resolve,invoke,builtin,Sem.run_bind,Sem.run_pure,Result.andThen_ok,List.map_toArray,List.map_cons,List.map_nil,hs,hx,run_append_zero w t o.type e i ht hi va n vc hvc ad c]
  exact hK _ _ (h _ _ (by simpa using hown) (Keeps.refl _ _) (fun k hk => .inl hk))
 ·obtain⟨a',rfl⟩:=Option.isSome_iff_exists.1 (hsome (by omega))
  exact wpList_append_frame w hgd s x t ho e i z size bytes ht hi hz hsize hby hzs hsz v n xs hs hown a' m c news hx hl (hnews a' rfl) h1 h63 hbytes (fun v' w' p q r _=>h v' w' p q r)
end Go.Proofs.YtimomjheanfbmaaGreatDoor
namespace Go.Proofs.YtimomjheanfbmaaGreatDoor
open Go.RowKit
theorem cell_below {w wr:World} {g o:Nat} (hb:Below w.heap.size w wr) (hg:g<w.heap.size):wr.cell? ⟨g,o,none⟩=w.cell? ⟨g,o,none⟩:=by
 simp[World.cell?,hb.block g hg]
theorem recV_one:∀(l:List (Int×ByteArray)),∀u∈recV l,u.oneCell'=true
 | [],u,h=>by cases h
 | x::l,u,h=>by
  have h:u = .int .i64 x.1∨u = .string x.2∨u∈recV l:=by
   obtain⟨x1,x2⟩:=x
   simpa[recV]using h
  rcases h with rfl | rfl | h
  · rfl
  · rfl
  · exact recV_one l u h
def EntSl (w:World) (v:Value) (L:List (Int×ByteArray)):Prop:=∃a c,v = .slice a L.length c∧(0<L.length→∃g o,a=some ⟨g,o,none⟩∧g<w.heap.size∧∀j u,(recV L)[j]? = some u→w.cell? ⟨g,o+j,none⟩=some u)
theorem OwnS.ent {w:World} {v:Value} {L:List (Int×ByteArray)} (h:OwnS w 140 2 v L.length (recV L)):EntSl w v L:=by
 obtain⟨a,c,rfl⟩:=h.form
 refine⟨a,c,rfl,fun hl=>?_⟩
 obtain⟨g,c',he⟩:=h.has hl
 obtain⟨rfl,rfl⟩:a=some ⟨g,0,none⟩∧c=c':=by simpa using he
 refine⟨g,0,rfl,h.lt (by simp[blk,Value.ownBlock]),fun j u hj=>?_⟩
 have:=World.ownsRow.cells h (g:=g) rfl j u hj
 rwa[Addr.add_mid]at this
set_option maxRecDepth 100000 in
set_option maxHeartbeats 800000 in
theorem ent_clone (v:Value) (L:List (Int×ByteArray)) (hL:L.length≤221184) (w:World) (h:EntSl w v L) :
  Calls Tryz.prog 166 #[v] w fun e w'=>∃v',OwnS w' 140 2 v' L.length (recV L)∧(∀k∈blk v',w.heap.size≤k)∧e = .returned v'∧Below w.heap.size w w':=by
 obtain⟨i0,hj,hj0,hj1,hj2⟩:=info_parts Tryz.info_ent
 obtain⟨a,c,rfl,hc⟩:=h
 cases a with
 | none =>
  have hl:L=[]:=by
   cases L with
   | nil=>rfl
   | cons x l=>obtain⟨g,o,he,_⟩:=hc (by simp);cases he
  subst hl
  have hnil:(binOp .eql 142 (.slice none 0 c) (.slice none 0 0)).run Tryz.prog w = .ok (.bool true) w:=run_eql_nil_slice (P:=Tryz.prog) w 142 140 none 0 c 0 0 Tryz.underlying142
  clear hc
  go_enter Tryz.func166,Tryz.ntmps166
  go_wp2_with fail
  go_ret
  exact⟨.slice none 0 0,OwnS.nil _ _ _,by simp[blk,Value.ownBlock],rfl,bR⟩
 | some a =>
  have hO:OwnS (w.alloc (.cells #[] 140)) 140 2 (.slice (some ⟨w.heap.size,0,none⟩) 0 0) 0 []:=⟨rfl,.inr ⟨w.heap.size,0,#[],rfl,Nat.zero_le _,hN rfl,Nat.le_refl _,by unfold maxLen;omega,rfl,rfl⟩⟩
  have hW:∀a',some a=some a'→∀j u,(recV L)[j]? = some u→(w.alloc (.cells #[] 140)).cell? (a'.add j)=some u:=fun a' ha j u hj=>by
   have hpos:0<L.length:=by
    cases L with
    | nil=>simp[recV]at hj
    | cons x l=>simp
   obtain⟨g,o,he,hg,hcell⟩:=hc hpos
   obtain rfl:=Option.some.inj ha
   obtain rfl:=Option.some.inj he
   rw[Addr.add_mid];exact(cell_below (bA bR) hg).trans (hcell j u hj)
  have hlen:=recV_length L
  have hnil:(binOp .eql 142 (.slice (some a) L.length c) (.slice none 0 0)).run Tryz.prog w = .ok (.bool false) w:=run_eql_nil_slice (P:=Tryz.prog) w 142 140 (some a) L.length c 0 0 Tryz.underlying142
  clear hc
  go_enter Tryz.func166,Tryz.ntmps166
  go_wp2_with (at_builtin;(refine wpList_append_seg rfl _ _ 142 rfl 140 i0 (.agg #[.int .i64 0,.string .empty]) 2 24 Tryz.underlying142 hj hj0 hj1 hj2 rfl (by decide) _ _ _ rfl hO _ L.length _ (recV L) rfl hlen hW (fun _=>rfl) (recV_one L) (by unfold maxLen;omega) (by omega) ?_);intro v5 w5 ho5 hk5 hb5)
  go_ret
  refine⟨v5,by simpa using ho5,fun k hk=>?_,rfl,?_⟩
  ·rcases hb5 k hk with h' | h'
   ·have:k=w.heap.size:=by simpa[blk,Value.ownBlock,Act.eval]using h'
    omega
   · simp at h';omega
  · exact bK (bA bR) hk5 (fun k hk=>by
    have:k=w.heap.size:=by simpa[blk,Value.ownBlock,Act.eval]using hk
    omega)
end Go.Proofs.YtimomjheanfbmaaGreatDoor
namespace Go.Proofs.YtimomjheanfbmaaGreatDoor
open Go.RowKit
end Go.Proofs.YtimomjheanfbmaaGreatDoor
namespace Go.Proofs.YtimomjheanfbmaaGreatDoor
open Go.RowKit
def sec (body:ByteArray) (stamp:Int) (i:Nat):ByteArray:=body.extract (56*i) (56*i+56)++leS stamp 8
def hd (s:ByteArray):ByteArray:=s.extract 0 56
def tl (s:ByteArray):ByteArray:=s.extract 56 64
def tlSame (s t:ByteArray):Bool:=(s.extract 56 64).toList==(t.extract 56 64).toList
def frOpen (s0 s1 s2 s3:ByteArray):ByteArray×Int×Int :=
 if s0.size≠64 then (⟨#[]⟩,0,1)
 else if s1.size≠64 then (⟨#[]⟩,0,1)
 else if tlSame s1 s0=false then (⟨#[]⟩,0,30)
 else if s2.size≠64 then (⟨#[]⟩,0,1)
 else if tlSame s2 s0=false then (⟨#[]⟩,0,30)
 else if s3.size≠64 then (⟨#[]⟩,0,1)
 else if tlSame s3 s0=false then (⟨#[]⟩,0,30)
 else (hd s0++hd s1++hd s2++hd s3,valS (tl s0),0)
set_option maxHeartbeats 800000 in
theorem frm_seal_ok (body:ByteArray) (stamp:Int) (h:body.size=224) (h0:0≤stamp) (w:World) :
  Calls Tryz.prog 124 #[.string body,.int .u64 stamp] w fun e w' =>
   e = .returned (.tuple #[.agg #[.string (sec body stamp 0),.string (sec body stamp 1),.string (sec body stamp 2),.string (sec body stamp 3)],.int .i64 0])∧Below w.heap.size w w':=by
 have HN:=Hd (oct_num_ok stamp 8 (by omega) (by omega) h0 (fun h=>by omega))
 have hm:(leS stamp (8:Int).toNat).size=8:=leS_size _ _
 have hsec:∀i,sec body stamp i=body.extract (56*i) (56*i+56)++leS stamp (8:Int).toNat:=fun i=>rfl
 simp only[hsec,Nat.reduceMul,Nat.reduceAdd]
 generalize leS stamp (8:Int).toNat=M at *
 have h':(body.size:Int)=224:=by omega
 clear hsec
 go_enter Tryz.func124,Tryz.ntmps124
 go_wp2_with fail
 refine(HN.out _).mono ?_
 rintro e w1 ⟨rfl,hb1⟩
 have b0:w1.heap[w.heap.size]? = some (.cells #[.string ⟨#[]⟩,.string ⟨#[]⟩,.string ⟨#[]⟩,.string ⟨#[]⟩] 221 (0,0)):=hBs hb1 (hO (hN rfl))
 have b1:w1.heap[w.heap.size+1]? = some (.cells #[.string ⟨#[]⟩,.string ⟨#[]⟩,.string ⟨#[]⟩,.string ⟨#[]⟩] 221 (0,0)):=hBs hb1 (hN (by simp))
 have c00:=cell_at b0 0
 have c01:=cell_at b0 1
 have c02:=cell_at b0 2
 have c03:=cell_at b0 3
 have f00:=free_at b0 0
 have f01:=free_at b0 1
 have f02:=free_at b0 2
 have f03:=free_at b0 3
 have c10:=cell_at b1 0
 have c11:=cell_at b1 1
 have c12:=cell_at b1 2
 have c13:=cell_at b1 3
 have f10:=free_at b1 0
 have f11:=free_at b1 1
 have f12:=free_at b1 2
 have f13:=free_at b1 3
 have HB1:=Hd (bT (bA (bA bR)) hb1)
 clear hb1 b0 b1
 go_wp2_with fail
 refine wp_loop_rounds 5 ?_
 rw[rounds_succ]
 go_wp2_with fail
 rw[rounds_succ]
 go_wp2_with fail
 rw[rounds_succ]
 go_wp2_with fail
 rw[rounds_succ]
 go_wp2_with fail
 rw[rounds_succ]
 go_wp2_with fail
 refine bodyPost_ret (v := .tuple #[.agg #[.string (body.extract 0 56++M),.string (body.extract 56 112++M),.string (body.extract 112 168++M),.string (body.extract 168 224++M)],.int .i64 0]) (by simp[results,Tryz.results124,go_sem,c00,c01,c02,c03]) rfl ⟨rfl,?_⟩
 repeat (first | (with_reducible exact HB1.out) | (with_reducible apply bD) | (with_reducible apply bA) | (with_reducible refine bS ?_ (by simp)))
theorem open_cases (s0 s1 s2 s3:ByteArray) :
  (s0.size≠64∧frOpen s0 s1 s2 s3=(⟨#[]⟩,0,1)) ∨
  (s0.size=64∧s1.size≠64∧frOpen s0 s1 s2 s3=(⟨#[]⟩,0,1)) ∨
  (s0.size=64∧s1.size=64∧tlSame s1 s0=false∧frOpen s0 s1 s2 s3=(⟨#[]⟩,0,30)) ∨
  (s0.size=64∧s1.size=64∧tlSame s1 s0=true∧s2.size≠64∧frOpen s0 s1 s2 s3=(⟨#[]⟩,0,1)) ∨
  (s0.size=64∧s1.size=64∧tlSame s1 s0=true∧s2.size=64∧tlSame s2 s0=false∧frOpen s0 s1 s2 s3=(⟨#[]⟩,0,30)) ∨
  (s0.size=64∧s1.size=64∧tlSame s1 s0=true∧s2.size=64∧tlSame s2 s0=true∧s3.size≠64∧frOpen s0 s1 s2 s3=(⟨#[]⟩,0,1)) ∨
  (s0.size=64∧s1.size=64∧tlSame s1 s0=true∧s2.size=64∧tlSame s2 s0=true∧s3.size=64∧tlSame s3 s0=false∧frOpen s0 s1 s2 s3=(⟨#[]⟩,0,30)) ∨
  (s0.size=64∧s1.size=64∧tlSame s1 s0=true∧s2.size=64∧tlSame s2 s0=true∧s3.size=64∧tlSame s3 s0=true∧frOpen s0 s1 s2 s3=(hd s0++hd s1++hd s2++hd s3,valS (tl s0),0)):=by
 unfold frOpen
 by_cases h0:s0.size=64 <;> by_cases h1:s1.size=64 <;> by_cases h2:s2.size=64 <;> by_cases h3:s3.size=64 <;>
  cases t1:tlSame s1 s0 <;> cases t2:tlSame s2 s0 <;> cases t3:tlSame s3 s0 <;> simp[h0,h1,h2,h3]
set_option maxHeartbeats 1600000 in
theorem frm_open (s0 s1 s2 s3:ByteArray) (z0:s0.size≤maxLen) (z1:s1.size≤maxLen) (z2:s2.size≤maxLen) (z3:s3.size≤maxLen) (w:World) :
  Calls Tryz.prog 121 #[.agg #[.string s0,.string s1,.string s2,.string s3]] w fun e w' =>
   e = .returned (.tuple #[.string (frOpen s0 s1 s2 s3).1,.int .u64 (frOpen s0 s1 s2 s3).2.1,.int .i64 (frOpen s0 s1 s2 s3).2.2])∧Below w.heap.size w w':=by
 unfold maxLen at z0 z1 z2 z3
 have i0:∀w,(Instr.index 221 (.agg #[.string s0,.string s1,.string s2,.string s3]) (.int .i64 0)).run Tryz.prog w = .ok (.string s0) w:=fun _=>by kernel_rfl
 have i1:∀w,(Instr.index 221 (.agg #[.string s0,.string s1,.string s2,.string s3]) (.int .i64 1)).run Tryz.prog w = .ok (.string s1) w:=fun _=>by kernel_rfl
 have i2:∀w,(Instr.index 221 (.agg #[.string s0,.string s1,.string s2,.string s3]) (.int .i64 2)).run Tryz.prog w = .ok (.string s2) w:=fun _=>by kernel_rfl
 have i3:∀w,(Instr.index 221 (.agg #[.string s0,.string s1,.string s2,.string s3]) (.int .i64 3)).run Tryz.prog w = .ok (.string s3) w:=fun _=>by kernel_rfl
 rcases open_cases s0 s1 s2 s3 with⟨h0,he⟩ | ⟨h0,h1,he⟩ | ⟨h0,h1,t1,he⟩ | ⟨h0,h1,t1,h2,he⟩ | ⟨h0,h1,t1,h2,t2,he⟩ | ⟨h0,h1,t1,h2,t2,h3,he⟩ | ⟨h0,h1,t1,h2,t2,h3,t3,he⟩ | ⟨h0,h1,t1,h2,t2,h3,t3,he⟩
 all_goals (rw[he];clear he)
 ·have h0':((s0.size:Int) != 64)=true:=by simp;omega
  clear h0
  go_enter Tryz.func121,Tryz.ntmps121
  go_wp2_with fail
  refine wp_loop_rounds 5 ?_
  rw[rounds_succ]
  go_wp2_with fail
  go_ret3
  exact⟨rfl,by repeat (first | (with_reducible exact bR) | (with_reducible apply bD) | (with_reducible apply bA))⟩
 ·have h1':((s1.size:Int) != 64)=true:=by simp;omega
  clear h1
  go_enter Tryz.func121,Tryz.ntmps121
  go_wp2_with fail
  refine wp_loop_rounds 5 ?_
  rw[rounds_succ]
  go_wp2_with fail
  go_region
  go_wp2_with fail
  rw[rounds_succ]
  go_wp2_with fail
  go_ret3
  exact⟨rfl,by repeat (first | (with_reducible exact bR) | (with_reducible apply bD) | (with_reducible apply bA))⟩
 ·unfold tlSame at t1
  go_enter Tryz.func121,Tryz.ntmps121
  go_wp2_with fail
  refine wp_loop_rounds 5 ?_
  rw[rounds_succ]
  go_wp2_with fail
  go_region
  go_wp2_with fail
  rw[rounds_succ]
  go_wp2_with fail
  go_region
  go_wp2_with fail
  go_ret3
  exact⟨rfl,by repeat (first | (with_reducible exact bR) | (with_reducible apply bD) | (with_reducible apply bA))⟩
 ·have h2':((s2.size:Int) != 64)=true:=by simp;omega
  clear h2
  unfold tlSame at t1
  go_enter Tryz.func121,Tryz.ntmps121
  go_wp2_with fail
  refine wp_loop_rounds 5 ?_
  rw[rounds_succ]
  go_wp2_with fail
  go_region
  go_wp2_with fail
  rw[rounds_succ]
  go_wp2_with fail
  go_region
  go_wp2_with fail
  rw[rounds_succ]
  go_wp2_with fail
  go_ret3
  exact⟨rfl,by repeat (first | (with_reducible exact bR) | (with_reducible apply bD) | (with_reducible apply bA))⟩
 ·unfold tlSame at t1
  unfold tlSame at t2
  go_enter Tryz.func121,Tryz.ntmps121
  go_wp2_with fail
  refine wp_loop_rounds 5 ?_
  rw[rounds_succ]
  go_wp2_with fail
  go_region
  go_wp2_with fail
  rw[rounds_succ]
  go_wp2_with fail
  go_region
  go_wp2_with fail
  rw[rounds_succ]
  go_wp2_with fail
  go_region
  go_wp2_with fail
  go_ret3
  exact⟨rfl,by repeat (first | (with_reducible exact bR) | (with_reducible apply bD) | (with_reducible apply bA))⟩
 ·have h3':((s3.size:Int) != 64)=true:=by simp;omega
  clear h3
  unfold tlSame at t1
  unfold tlSame at t2
  go_enter Tryz.func121,Tryz.ntmps121
  go_wp2_with fail
  refine wp_loop_rounds 5 ?_
  rw[rounds_succ]
  go_wp2_with fail
  go_region
  go_wp2_with fail
  rw[rounds_succ]
  go_wp2_with fail
  go_region
  go_wp2_with fail
  rw[rounds_succ]
  go_wp2_with fail
  go_region
  go_wp2_with fail
  rw[rounds_succ]
  go_wp2_with fail
  go_ret3
  exact⟨rfl,by repeat (first | (with_reducible exact bR) | (with_reducible apply bD) | (with_reducible apply bA))⟩
 ·unfold tlSame at t1
  unfold tlSame at t2
  unfold tlSame at t3
  go_enter Tryz.func121,Tryz.ntmps121
  go_wp2_with fail
  refine wp_loop_rounds 5 ?_
  rw[rounds_succ]
  go_wp2_with fail
  go_region
  go_wp2_with fail
  rw[rounds_succ]
  go_wp2_with fail
  go_region
  go_wp2_with fail
  rw[rounds_succ]
  go_wp2_with fail
  go_region
  go_wp2_with fail
  rw[rounds_succ]
  go_wp2_with fail
  go_region
  go_wp2_with fail
  go_ret3
  exact⟨rfl,by repeat (first | (with_reducible exact bR) | (with_reducible apply bD) | (with_reducible apply bA))⟩
 ·have HV:=Hd (fun w=>oct_val_ok (s0.extract 56 64) (by rw[ByteArray.size_extract];omega) (by rw[ByteArray.size_extract];omega) w)
  unfold hd tl
  unfold tlSame at t1
  unfold tlSame at t2
  unfold tlSame at t3
  go_enter Tryz.func121,Tryz.ntmps121
  go_wp2_with fail
  refine wp_loop_rounds 5 ?_
  rw[rounds_succ]
  go_wp2_with fail
  go_region
  go_wp2_with fail
  rw[rounds_succ]
  go_wp2_with fail
  go_region
  go_wp2_with fail
  rw[rounds_succ]
  go_wp2_with fail
  go_region
  go_wp2_with fail
  rw[rounds_succ]
  go_wp2_with fail
  go_region
  go_wp2_with fail
  rw[rounds_succ]
  go_wp2_with fail
  refine(HV.out _).mono ?_
  rintro e w1 ⟨rfl,rfl⟩
  go_wp2_with fail
  go_ret3
  exact⟨rfl,by repeat (first | (with_reducible exact bR) | (with_reducible apply bD) | (with_reducible apply bA))⟩
end Go.Proofs.YtimomjheanfbmaaGreatDoor
namespace Go.Proofs.YtimomjheanfbmaaGreatDoor
open Go.RowKit
theorem fsec_size (b:ByteArray) (s:Int) (i:Nat) (h:b.size=224) (hi:i<4):(sec b s i).size=64:=by
 unfold sec;rw[bytes_size,ByteArray.size_extract,leS_size];omega
theorem ext_size (b:ByteArray) (i j:Nat) (h:j≤b.size) (hij:i≤j):(b.extract i j).size=j-i:=by rw[ByteArray.size_extract];omega
theorem sec_hd (b:ByteArray) (s:Int) (i:Nat) (h:b.size=224) (hi:i<4):hd (sec b s i)=b.extract (56*i) (56*i+56):=by
 unfold hd sec
 have:=ext_size b (56*i) (56*i+56) (by omega) (by omega)
 exact ByteArray.extract_append_eq_left (by omega)
theorem sec_tl (b:ByteArray) (s:Int) (i:Nat) (h:b.size=224) (hi:i<4):tl (sec b s i)=leS s 8:=by
 unfold tl sec
 have:=ext_size b (56*i) (56*i+56) (by omega) (by omega)
 exact ByteArray.extract_append_eq_right (by omega) (by rw[leS_size];omega)
theorem tlSame_eq (s t:ByteArray):tlSame s t=((tl s).toList==(tl t).toList):=rfl
theorem ext_join (b:ByteArray) (i j k:Nat) (hij:i≤j) (hjk:j≤k):b.extract i j++b.extract j k=b.extract i k:=by
 rw[ByteArray.extract_append_extract,Nat.min_eq_left hij,Nat.max_eq_right hjk]
theorem join4 (b:ByteArray) (h:b.size=224):b.extract 0 56++b.extract 56 112++b.extract 112 168++b.extract 168 224=b:=by
 rw[ext_join b 0 56 112 (by omega) (by omega),ext_join b 0 112 168 (by omega) (by omega),ext_join b 0 168 224 (by omega) (by omega),←h]
 exact ByteArray.extract_zero_size
theorem frOpen_sec (b:ByteArray) (s:Int) (h:b.size=224) (h0:0≤s) (h1:s<256^8):frOpen (sec b s 0) (sec b s 1) (sec b s 2) (sec b s 3)=(b,s,0):=by
 unfold frOpen
 rw[if_neg (by rw[fsec_size b s 0 h (by omega)];omega),if_neg (by rw[fsec_size b s 1 h (by omega)];omega),if_neg,if_neg (by rw[fsec_size b s 2 h (by omega)];omega),if_neg,if_neg (by rw[fsec_size b s 3 h (by omega)];omega),if_neg]
 ·rw[sec_hd b s 0 h (by omega),sec_hd b s 1 h (by omega),sec_hd b s 2 h (by omega),sec_hd b s 3 h (by omega),sec_tl b s 0 h (by omega),valS_leS s 8 h0 h1]
  simp only[Nat.reduceMul,Nat.reduceAdd,join4 b h]
 · rw[tlSame_eq,sec_tl b s 3 h (by omega),sec_tl b s 0 h (by omega)];simp
 · rw[tlSame_eq,sec_tl b s 2 h (by omega),sec_tl b s 0 h (by omega)];simp
 · rw[tlSame_eq,sec_tl b s 1 h (by omega),sec_tl b s 0 h (by omega)];simp
end Go.Proofs.YtimomjheanfbmaaGreatDoor
namespace Go.Proofs.YtimomjheanfbmaaGreatDoor
open Go.RowKit
theorem fb1 {H:Type} {enc:TypeId×Value→H} {P:Program} {W:World} {sp:Nat→Bool} {held:Bool} {k:Kd} {ks:List Kd} {cs:List Value} (h:Fa enc P W sp held (k::ks) cs):∃c r,cs=c::r∧KdOk enc P W sp held k c∧Fa enc P W sp held ks r:=by
 match cs,h with
 | c::r,h=>exact⟨c,r,rfl,h.1,h.2⟩
theorem fb0 {H:Type} {enc:TypeId×Value→H} {P:Program} {W:World} {sp:Nat→Bool} {held:Bool} {cs:List Value} (h:Fa enc P W sp held [] cs):cs=[]:=by
 match cs,h with
 | [],_=>rfl
end Go.Proofs.YtimomjheanfbmaaGreatDoor
