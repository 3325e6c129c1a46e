import Derived.Test.YtimomjheanfbmaaGreatDoorQaa
import Derived.Test.YtimomjheanfbmaaGreatDoorRac
import Derived.WalkSpells
set_option linter.unusedSimpArgs false
set_option linter.unusedVariables false
namespace Go.Proofs.YtimomjheanfbmaaGreatDoor
open Go.RowKit
set_option maxRecDepth 100000 in
theorem find_cmp (x:Int) (s:ByteArray) (t:Int) (hx:0≤x∧x≤1152921504606846976) (ht:0≤t∧t≤1152921504606846976) (w:World) :
  Calls Tryz.prog 107 #[.agg #[.int .i64 x,.string s],.int .i64 t] w fun e w'=>e = .returned (.int .i64 (x-t))∧Below w.heap.size w w':=by
 have hw:IntKind.i64.wrap (x-t)=x-t:=by rw[IntKind.wrap_i64];omega
 go_enter Tryz.func107,Tryz.ntmps107
 go_wp2_with fail
 go_ret
 exact⟨rfl,bA bR⟩
set_option maxRecDepth 100000 in
set_option maxHeartbeats 800000 in
theorem ent_search (v:Value) (L:List (Int×ByteArray)) (t:Int) (hL:L.length≤221184) (hx:∀x∈L,0≤x.1∧x.1≤1152921504606846976) (hs:∀i j,i<j→j<L.length→(L.getD i (0,⟨#[]⟩)).1<(L.getD j (0,⟨#[]⟩)).1) (ht:0≤t∧t≤1152921504606846976) (fv:Value) (w:World) (h:EntSl w v L) :
  Calls Tryz.prog 106 #[v,.int .i64 t,.func (.func 107) #[] #[]] w fun e w'=>∃i,i≤L.length∧(∀k,k<i→(L.getD k (0,⟨#[]⟩)).1<t)∧(∀k,i≤k→k<L.length→t≤(L.getD k (0,⟨#[]⟩)).1)∧e = .returned (.tuple #[.int .i64 (i:Int),.bool (decide (i<L.length)&&decide ((L.getD i (0,⟨#[]⟩)).1=t))])∧Below w.heap.size w w':=by
 obtain⟨a,c,rfl⟩:=h.form
 obtain⟨n,hn⟩:∃n,L.length=n:=⟨_,rfl⟩
 rw[hn]at h hL ⊢
 replace hn:=Hd hn
 have h:=Hd h
 have hx:=Hd hx
 have hs:=Hd hs
 have ht:=Hd ht
 go_enter Tryz.func106,Tryz.ntmps106
 go_wp2_with fail
 go_loopw [9,10] (fun x y wr=>∃i j:Nat,i≤j∧j≤n∧x = .int .i64 (i:Int)∧y = .int .i64 (j:Int)∧Hid (∀k,k<i→(L.getD k (0,⟨#[]⟩)).1<t)∧Hid (∀k,j≤k→k<n→t≤(L.getD k (0,⟨#[]⟩)).1)∧Hid (Below w.heap.size w wr)) (fun x y _=>(intOf y).toNat-(intOf x).toNat)
 case atStart=>exact⟨0,n,by omega,by omega,rfl,rfl,fun k hk=>by omega,fun k hk hk2=>by omega,bR⟩
 case round =>
  obtain⟨i,j,hij,hjn,rfl,rfl,hlo,hhi,HB⟩:=hrel
  by_cases hlt:i<j
  ·have hltI:(i:Int)<j:=by omega
   have w1:IntKind.i64.wrap ((i:Int)+j)=(i:Int)+j:=by rw[IntKind.wrap_i64];omega
   have w2:IntKind.u64.wrap ((i:Int)+j)=(i:Int)+j:=wrap_u64_in _ (by omega) (by omega)
   obtain⟨m,hm⟩:∃m,(i+j)/2=m:=⟨_,rfl⟩
   have hmI:((i:Int)+j)/2=(m:Int):=by omega
   have hm0:(0:Int)≤m:=by omega
   have hmn:(m:Int)<n:=by omega
   have hm1:i≤m:=by omega
   have hm2:m<j:=by omega
   have w3:IntKind.i64.wrap ((m:Int)+1)=(m:Int)+1:=by rw[IntKind.wrap_i64];omega
   obtain⟨g,o,rfl,c1,c2⟩:=(h.out.later HB.out).at m (by rw[hn.out];omega)
   have hmem:L.getD m (0,⟨#[]⟩)∈L:=by
    rw[List.getD_eq_getElem?_getD,List.getElem?_eq_getElem (by rw[hn.out];omega)];exact List.getElem_mem _
   obtain⟨x1,x2⟩:=hx.out _ hmem
   obtain⟨y,hy⟩:∃y,(L.getD m (0,⟨#[]⟩)).1=y:=⟨_,rfl⟩
   rw[hy]at c1 x1 x2
   generalize (L.getD m (0,⟨#[]⟩)).2=z at c2
   have HC:=Hd (fun w'=>find_cmp y z t ⟨x1,x2⟩ ⟨ht.out.1,ht.out.2⟩ w')
   replace hy:=Hd hy
   replace hm:=Hd hm
   replace hij:=Hd hij
   replace hjn:=Hd hjn
   replace hm1:=Hd hm1
   replace hm2:=Hd hm2
   replace hlt:=Hd hlt
   clear hmem
   go_wp2_with fail
   refine(HC.out _).mono ?_
   rintro e w5 ⟨rfl,hb⟩
   have HB5:=Hd (bT HB.out hb)
   clear hb HC HB c1 c2
   by_cases hyt:y<t
   ·have b1:y-t<0:=by omega
    replace hyt:=Hd hyt
    go_wp2_with fail
    go_roundw
    case rel=>exact⟨m+1,j,hm2.out,hjn.out,rfl,rfl,fun k hk=>by
     by_cases hk':k=m
     · subst hk';rw[hy.out];exact hyt.out
     ·have hlt2:=hs.out k m (by omega) (by rw[hn.out];have:=hm2.out;have:=hjn.out;omega)
      rw[hy.out]at hlt2
      have:=hyt.out
      omega,hhi,HB5⟩
    case measure=>have:=hm1.out;have:=hm2.out;simp[intOf];omega
   ·have b1:¬y-t<0:=by omega
    replace hyt:=Hd hyt
    go_wp2_with fail
    go_roundw
    case rel=>exact⟨i,m,hm1.out,by have:=hm2.out;have:=hjn.out;omega,rfl,rfl,hlo,fun k hk hkn=>by
     by_cases hk':k=m
     · subst hk';rw[hy.out];have:=hyt.out;omega
     ·have hlt2:=hs.out m k (by omega) (by rw[hn.out];omega)
      rw[hy.out]at hlt2
      have:=hyt.out
      omega,HB5⟩
    case measure=>have:=hm1.out;have:=hm2.out;simp[intOf];omega
  ·obtain rfl:i=j:=by omega
   have hltI:¬(i:Int)<i:=by omega
   by_cases hin:i<n
   ·have hinI:(i:Int)<n:=by omega
    have hi0:(0:Int)≤i:=by omega
    obtain⟨g,o,rfl,c1,c2⟩:=(h.out.later HB.out).at i (by rw[hn.out];omega)
    have hmem:L.getD i (0,⟨#[]⟩)∈L:=by
     rw[List.getD_eq_getElem?_getD,List.getElem?_eq_getElem (by rw[hn.out];omega)];exact List.getElem_mem _
    obtain⟨x1,x2⟩:=hx.out _ hmem
    obtain⟨y,hy⟩:∃y,(L.getD i (0,⟨#[]⟩)).1=y:=⟨_,rfl⟩
    rw[hy]at c1 x1 x2
    generalize (L.getD i (0,⟨#[]⟩)).2=z at c2
    have HC:=Hd (fun w'=>find_cmp y z t ⟨x1,x2⟩ ⟨ht.out.1,ht.out.2⟩ w')
    replace hy:=Hd hy
    replace hin:=Hd hin
    clear hmem
    go_wp2_with fail
    refine(HC.out _).mono ?_
    rintro e w5 ⟨rfl,hb⟩
    have HB5:=Hd (bT HB.out hb)
    clear hb HC HB c1 c2
    by_cases hyt:y=t
    ·subst hyt
     have b1:(y-y==0)=true:=by simp
     go_wp2_with fail
     go_ret2
     exact⟨i,hjn,hlo.out,hhi.out,by rw[hy.out,show (decide (i<n)&&decide (y=y))=true by simp[hin.out]];rfl,HB5.out⟩
    ·have b1:(y-t==0)=false:=by
      rw[beq_eq_false_iff_ne];omega
     replace hyt:=Hd hyt
     go_wp2_with fail
     go_ret2
     exact⟨i,hjn,hlo.out,hhi.out,by rw[hy.out,show (decide (i<n)&&decide (y=t))=false by simp[hyt.out]];rfl,HB5.out⟩
   ·have hinI:¬(i:Int)<n:=by omega
    replace hin:=Hd hin
    go_wp2_with fail
    go_ret2
    exact⟨i,hjn,hlo.out,hhi.out,by rw[show decide (i<n)=false by simp[hin.out]];rfl,HB.out⟩
end Go.Proofs.YtimomjheanfbmaaGreatDoor
namespace Go.Proofs.YtimomjheanfbmaaGreatDoor
open Go.RowKit
def Sorted (L:List (Int×ByteArray)):Prop:=(∀x∈L,0≤x.1∧x.1≤1152921504606846976)∧∀i j,i<j→j<L.length→(L.getD i (0,⟨#[]⟩)).1<(L.getD j (0,⟨#[]⟩)).1
def Found (L:List (Int×ByteArray)) (t:Int) (i:Nat):Prop:=i≤L.length∧(∀k,k<i→(L.getD k (0,⟨#[]⟩)).1<t)∧(∀k,i≤k→k<L.length→t≤(L.getD k (0,⟨#[]⟩)).1)
theorem Found.uniq {L:List (Int×ByteArray)} {t:Int} {i j:Nat} (h:Found L t i) (h':Found L t j):i=j:=by
 obtain⟨a1,a2,a3⟩:=h
 obtain⟨b1,b2,b3⟩:=h'
 rcases Nat.lt_trichotomy i j with hlt | heq | hgt
 · have:=b2 i hlt;have:=a3 i (Nat.le_refl _) (by omega);omega
 · exact heq
 · have:=a2 j hgt;have:=b3 j (Nat.le_refl _) (by omega);omega
set_option maxRecDepth 100000 in
theorem wal_find (p dp:Nat) (G:Lg) (S:List Nat) (t:Int) (hs:Sorted G.list) (ht:0≤t∧t≤1152921504606846976) (w:World) (h:LogAt w p dp G S) :
  Calls Tryz.prog 61 #[.pointer (some ⟨p,0,none⟩),.int .i64 t] w fun e w'=>∃i,Found G.list t i∧e = .returned (.tuple #[.int .i64 (i:Int),.bool (decide (i<G.list.length)&&decide ((G.list.getD i (0,⟨#[]⟩)).1=t))])∧Below w.heap.size w w':=by
 obtain⟨hok,bv,lv,h1,h2,h3,hS,h6⟩:=h
 have c8:w.cell? ⟨p,8,none⟩=some lv:=cell_at h1 8
 obtain⟨a1,a2,a3,a4,a5,a6,a7,a8,a9,a10,-⟩:=hok
 have HB:=Hd (ent_search lv G.list t (by omega) hs.1 hs.2 ht (.slice none 0 0) w h3.ent)
 clear h1 h2 h3 hS h6
 go_enter Tryz.func61,Tryz.ntmps61
 go_wp2_with fail
 refine(HB.out).mono ?_
 rintro e w1 ⟨i,q1,q2,q3,rfl,hb⟩
 go_wp2_with fail
 go_ret2
 exact⟨i,⟨q1,q2,q3⟩,rfl,hb⟩
set_option maxRecDepth 100000 in
set_option maxHeartbeats 800000 in
theorem wal_read (p dp:Nat) (G:Lg) (S:List Nat) (t:Int) (hs:Sorted G.list) (ht:0≤t∧t≤1152921504606846976) (w:World) (h:LogAt w p dp G S) :
  Calls Tryz.prog 17 #[.pointer (some ⟨p,0,none⟩),.int .i64 t] w fun e w'=>∃i,Found G.list t i∧Below w.heap.size w w' ∧
   ((i<G.list.length∧(G.list.getD i (0,⟨#[]⟩)).1=t∧e = .returned (.tuple #[.string (G.list.getD i (0,⟨#[]⟩)).2,.int .i64 0]))∨(¬(i<G.list.length∧(G.list.getD i (0,⟨#[]⟩)).1=t)∧e = .returned (.tuple #[.string ⟨#[]⟩,.int .i64 150]))):=by
 have HF:=Hd (wal_find p dp G S t hs ht w h)
 have HL:=Hd h
 clear h
 go_enter Tryz.func17,Tryz.ntmps17
 go_wp2_with fail
 refine(HF.out).mono ?_
 rintro e w1 ⟨i,q1,rfl,hb⟩
 by_cases hf:i<G.list.length∧(G.list.getD i (0,⟨#[]⟩)).1=t
 ·rw[show (decide (i<G.list.length)&&decide ((G.list.getD i (0,⟨#[]⟩)).1=t))=true by rw[decide_eq_true hf.1,decide_eq_true hf.2];rfl]
  obtain⟨hok,bv,lv,h1,h2,h3,hS,h6⟩:=HL.out.later hb
  obtain⟨la,lc,rfl⟩:=h3.form
  have c8:w1.cell? ⟨p,8,none⟩=some (.slice la G.list.length lc):=cell_at h1 8
  obtain⟨g,o,rfl,c1,c2⟩:=h3.ent.at i hf.1
  have hiI:(i:Int)<G.list.length:=by omega
  have hi0:(0:Int)≤i:=by omega
  have q1:=Hd q1
  have hf:=Hd hf
  have hb:=Hd hb
  clear h1 h2 h3 hS h6 hok HL HF
  obtain⟨z,hz⟩:∃z,(G.list.getD i (0,⟨#[]⟩)).2=z:=⟨_,rfl⟩
  rw[hz]at c2
  replace hz:=Hd hz
  obtain⟨N,hN⟩:∃N,G.list.length=N:=⟨_,rfl⟩
  rw[hN]at c8 hiI
  replace hN:=Hd hN
  go_wp2_with fail
  go_ret2
  exact⟨i,q1.out,hb.out,.inl ⟨hf.out.1,hf.out.2,by rw[hz.out];rfl⟩⟩
 ·rw[show (decide (i<G.list.length)&&decide ((G.list.getD i (0,⟨#[]⟩)).1=t))=false by
   rw[Bool.and_eq_false_iff]
   by_cases h1:i<G.list.length
   · exact .inr (decide_eq_false (fun h2=>hf ⟨h1,h2⟩))
   · exact .inl (decide_eq_false h1)]
  have hf:=Hd hf
  have q1:=Hd q1
  have hb:=Hd hb
  clear HF HL
  go_wp2_with fail
  go_ret2
  exact⟨i,q1.out,hb.out,.inr ⟨hf.out,rfl⟩⟩
def BySl (w:World) (v:Value) (s:ByteArray):Prop:=∃a c,v = .slice a s.size c∧(0<s.size→∃g o,a=some ⟨g,o,none⟩∧g<w.heap.size∧Lib.Bytes w g o s)
theorem strCells_len (s:ByteArray):(Lib.strCells s).length=s.size:=by simp[Lib.strCells]
theorem strCells_at (s:ByteArray) (i:Nat) (h:i<s.size):(Lib.strCells s)[i]? = some (.int .u8 s[i].toNat):=by
 rw[Lib.strCells,List.getElem?_map]
 have:s.data.toList[i]? = some s[i]:=by
  rw[List.getElem?_eq_getElem (by simpa using h)]
  rfl
 rw[this];rfl
theorem strCells_one (s:ByteArray):∀u∈Lib.strCells s,u.oneCell'=true:=by
 intro u hu
 rw[Lib.strCells,List.mem_map]at hu
 obtain⟨b,_,rfl⟩:=hu
 rfl
set_option maxRecDepth 100000 in
set_option maxHeartbeats 800000 in
theorem by_clone (v:Value) (s:ByteArray) (hL:s.size≤221184) (w:World) (h:BySl w v s) :
  Calls Tryz.prog 167 #[v] w fun e w'=>∃v',OwnS w' 5 1 v' s.size (Lib.strCells s)∧(∀k∈blk v',w.heap.size≤k)∧e = .returned v'∧Below w.heap.size w w':=by
 obtain⟨i0,hj,hj0,hj1,hj2⟩:=info_parts Tryz.info_u8
 obtain⟨a,c,rfl,hc⟩:=h
 cases a with
 | none =>
  have hl:s.size=0:=Nat.eq_zero_of_not_pos (fun hp=>by obtain⟨g,o,he,_⟩:=hc hp;cases he)
  obtain rfl:=str_none hl
  have hnil:(binOp .eql 141 (.slice none 0 c) (.slice none 0 0)).run Tryz.prog w = .ok (.bool true) w:=run_eql_nil_slice (P:=Tryz.prog) w 141 5 none 0 c 0 0 Tryz.underlying141
  clear hc
  go_enter Tryz.func167,Tryz.ntmps167
  go_wp2_with fail
  go_ret
  exact⟨.slice none 0 0,OwnS.nil _ _ _,by simp[blk,Value.ownBlock],rfl,bR⟩
 | some a =>
  have hO:OwnS (w.alloc (.cells #[] 5)) 5 1 (.slice (some ⟨w.heap.size,0,none⟩) 0 0) 0 []:=⟨rfl,.inr ⟨w.heap.size,0,#[],rfl,Nat.zero_le _,hN rfl,Nat.le_refl _,by unfold maxLen;omega,rfl,rfl⟩⟩
  have hW:∀a',some a=some a'→∀j u,(Lib.strCells s)[j]? = some u→(w.alloc (.cells #[] 5)).cell? (a'.add j)=some u:=fun a' ha j u hj=>by
   have hjl:j<s.size:=by
    have:=(List.getElem?_eq_some_iff.1 hj).1
    rwa[strCells_len]at this
   obtain⟨g,o,he,hg,hcell⟩:=hc (by omega)
   obtain rfl:=Option.some.inj ha
   obtain rfl:=Option.some.inj he
   rw[strCells_at s j hjl]at hj
   rw[Addr.add_mid,cell_below (bA bR) hg,hcell j hjl]
   exact hj
  have hlen:=strCells_len s
  have hnil:(binOp .eql 141 (.slice (some a) s.size c) (.slice none 0 0)).run Tryz.prog w = .ok (.bool false) w:=run_eql_nil_slice (P:=Tryz.prog) w 141 5 (some a) s.size c 0 0 Tryz.underlying141
  clear hc
  go_enter Tryz.func167,Tryz.ntmps167
  go_wp2_with (at_builtin;(refine wpList_append_seg rfl _ _ 141 rfl 5 i0 (.int .u8 0) 1 1 Tryz.underlying141 hj hj0 hj1 hj2 rfl (by decide) _ _ _ rfl hO _ s.size _ (Lib.strCells s) rfl (by omega) hW (fun _=>rfl) (strCells_one s) (by unfold maxLen;omega) (by omega) ?_);intro v5 w5 ho5 hk5 hb5)
  go_ret
  refine⟨v5,by simpa using ho5,fun k hk=>?_,rfl,?_⟩
  ·rcases hb5 k hk with h' | h'
   ·have:k=w.heap.size:=by simpa[blk,Value.ownBlock,Act.eval]using h'
    omega
   · simp at h';omega
  · exact bK (bA bR) hk5 (fun k hk=>by
    have:k=w.heap.size:=by simpa[blk,Value.ownBlock,Act.eval]using hk
    omega)
theorem EntSl.drop {w:World} {a:Option Addr} {n c:Nat} {L:List (Int×ByteArray)} (h:EntSl w (.slice a n c) L) (j:Nat) (hj:j<L.length) (c':Nat):EntSl w (.slice (a.map fun x=>x.add (j*2)) (n-j) c') (L.drop j):=by
 obtain⟨a',c'',he,hc⟩:=h
 obtain⟨rfl,rfl,rfl⟩:a=a'∧n=L.length∧c=c'':=by simpa using he
 obtain⟨g,o,rfl,hg,hcell⟩:=hc (by omega)
 refine⟨some ⟨g,o+j*2,none⟩,c',by rw[List.length_drop];show Value.slice (some (Addr.add ⟨g,o,none⟩ (j*2))) _ _=_;rw[Addr.add_mid],fun _=>⟨g,o+j*2,rfl,hg,fun k u hk=>?_⟩⟩
 have:∀(L:List (Int×ByteArray)) (j k:Nat),(recV (L.drop j))[k]? = (recV L)[j*2+k]? := by
  intro L
  induction L with
  | nil=>intro j k;simp[recV]
  | cons x L ih =>
   intro j k
   obtain⟨x1,x2⟩:=x
   cases j with
   | zero=>simp
   | succ j =>
    rw[List.drop_succ_cons,ih j k,show (j+1)*2+k=(j*2+k)+2 by omega]
    rfl
 rw[this]at hk
 have:=hcell _ _ hk
 rw[show o+j*2+k=o+(j*2+k) by omega]
 exact this
theorem EntSl.none {w:World} (a:Option Addr) (c:Nat):EntSl w (.slice a 0 c) []:=⟨a,c,rfl,fun h=>absurd h (by simp)⟩
def Lg.cut (G:Lg) (t:Int) (i:Nat):Lg:={G with start:=t,base:=t/54*54,buf:=G.buf.extract (t/54*54-G.base).toNat G.buf.size,list:=G.list.drop i}
set_option maxRecDepth 100000 in
set_option maxHeartbeats 3200000 in
theorem wal_cut_rec (p dp:Nat) (G:Lg) (S:List Nat) (t:Int) (hs:Sorted G.list) (ht:0≤t∧t≤1152921504606846976) (i:Nat) (hi:Found G.list t i) (hc:i<G.list.length∧(G.list.getD i (0,⟨#[]⟩)).1=t∧t<G.fin) (hfm:t≤G.firm) (bb:Nat) (hbb:G.base=54*bb) (hbt:G.base≤t) (hl3:((G.list.length-i:Nat):Int)*3≤G.fin-t/54*54) (w:World) (h:LogAt w p dp G S) :
  Calls Tryz.prog 134 #[.pointer (some ⟨p,0,none⟩),.int .i64 t] w fun e w'=>e = .returned (.int .i64 0)∧∃S',LogAt w' p dp (Lg.cut G t i) S'∧Keeps (· ∈ S) w w'∧∀k∈S',k∈S∨w.heap.size≤k:=by
 have HF:=Hd (wal_find p dp G S t hs ht w h)
 have hok:=h.1
 obtain⟨a1,a2,a3,a4,a5,a6,a7,a8,a9,a10,a11,a12,a13,a14⟩:=h.1
 obtain⟨bv,lv,hmid,hSe⟩:=h.mid
 have HM:=Hd hmid
 clear h hmid
 have hs:=Hd hs
 obtain⟨N,hN⟩:∃N,G.list.length=N:=⟨_,rfl⟩
 obtain⟨Z,hZ⟩:∃Z,G.buf.size=Z:=⟨_,rfl⟩
 rw[hN]at HM hc hl3
 rw[hZ]at HM a9
 have hN3:(N:Int)*3≤G.fin-G.base:=by rw[←hN];exact a10
 have htf:t≤G.fin:=by omega
 obtain⟨lo,hlo⟩:∃lo:Nat,lo=(t/54*54-G.base).toNat:=⟨_,rfl⟩
 have hloZ:lo≤Z:=by omega
 have hloI:min (t/54*54-G.base) (Z:Int)=lo:=by omega
 have hsub:t/54*54-G.base=lo:=by omega
 have hwr1:IntKind.i64.wrap (t/54*54-G.base)=t/54*54-G.base:=by rw[IntKind.wrap_i64];omega
 obtain⟨EX,hEX⟩:∃EX,G.buf.extract lo Z=EX:=⟨_,rfl⟩
 have hex:EX.size=Z-lo:=by rw[←hEX,ByteArray.size_extract];omega
 have hok':Hid (LgOk (Lg.cut G t i)):=by
  refine⟨a1,a2,a3,a4,?_,?_,?_,?_,?_,?_,?_,?_,?_,?_⟩ <;> dsimp only[Lg.cut]
  · omega
  · omega
  · omega
  · omega
  · rw[←hlo,hZ,hEX,hex];omega
  · rw[List.length_drop,hN];exact hl3
  · omega
  · omega
  · omega
  · omega
 obtain⟨ba,bc,he7,hZc⟩:=HM.out.ob.cap
 subst he7
 obtain⟨la,lc,he8,hNc⟩:=HM.out.ol.cap
 subst he8
 obtain⟨hiN,hit,hne⟩:=hc
 ·go_enter Tryz.func134,Tryz.ntmps134
  go_wp2_with fail
  refine(HF.out).mono ?_
  rintro e w1 ⟨j,q1,rfl,hb⟩
  obtain rfl:=q1.uniq hi
  rw[show (decide (j<G.list.length)&&decide ((G.list.getD j (0,⟨#[]⟩)).1=t))=true by rw[decide_eq_true (show j<G.list.length by omega),decide_eq_true hit];rfl]
  replace HM:=Hd (HM.out.later hb)
  have C4:w1.cell? ⟨p,4,none⟩=some (.int .i64 G.fin):=cell_at HM.out.hp 4
  have C5:w1.cell? ⟨p,5,none⟩=some (.int .i64 G.firm):=cell_at HM.out.hp 5
  have C8:w1.cell? ⟨p,8,none⟩=some (.slice la N lc):=cell_at HM.out.hp 8
  have b1:¬G.firm<t:=by omega
  have b2:(t==G.fin)=false:=by rw[beq_eq_false_iff_ne];omega
  have hcj:¬lc=j:=by omega
  obtain⟨DL,hDL⟩:∃DL,G.list.drop j=DL:=⟨_,rfl⟩
  have HCl:=Hd (ent_clone _ DL (by rw[←hDL,List.length_drop];omega) w1 (hDL ▸ (by have:=HM.out.ol;rw[←hN]at this;rw[←hN];exact this.ent:EntSl w1 (.slice la N lc) G.list).drop j (by omega) (lc-j)))
  have hlt:lo<Z:=by omega
  replace hDL:=Hd hDL
  have hBI:(0:Int)≤lo∧(lo:Int)≤Z∧(lo:Int)≤bc:=by omega
  replace hbb:=Hd hbb
  replace a9:=Hd a9
  replace a10:=Hd a10
  replace hlo:=Hd hlo
  replace hZ:=Hd hZ
  replace hN:=Hd hN
  replace hEX:=Hd hEX
  replace hex:=Hd hex
  replace hl3:=Hd hl3
  replace hN3:=Hd hN3
  replace a7:=Hd a7
  replace a8:=Hd a8
  replace hit:=Hd hit
  clear q1 hi HF
  go_wp2_with fail
  refine(HCl.out).mono ?_
  rintro e w2 ⟨v2,ho2,hb2,rfl,hbw⟩
  replace HM:=Hd (HM.out.list ho2 (Keeps.of_below _ hbw) (fun k hk => .inr (hb2 k hk)))
  obtain⟨l2,m2,rfl⟩:=ho2.form
  have C8:w2.cell? ⟨p,8,none⟩=some (.slice la N lc):=cell_at HM.out.hp 8
  have F8:=free_at HM.out.hp 8
  clear C4 C5 HCl hbw hb2 ho2
  go_upto_region 9 with fail
  replace HM:=Hd (HM.out.cell 8 (.slice l2 DL.length m2))
  refine name_world (fun W=>Mid w W p S _ _ _ _ _ _ _) HM.out ?_
  clear HM C8 F8
  intro W1 HM
  replace HM:=Hd HM
  have C3:W1.cell? ⟨p,3,none⟩=some (.int .i64 G.start):=cell_at HM.out.hp 3
  have F3:=free_at HM.out.hp 3
  go_upto_region 11 with fail
  replace HM:=Hd (HM.out.cell 3 (.int .i64 t))
  refine name_world (fun W=>Mid w W p S _ _ _ _ _ _ _) HM.out ?_
  clear HM C3 F3
  intro W2 HM
  replace HM:=Hd HM
  obtain⟨g,hg⟩:∃g,ba=some ⟨g,0,none⟩:=by
   obtain⟨g,c,e⟩:=HM.out.ob.has (by omega)
   simp only[Value.slice.injEq]at e
   exact⟨g,e.1⟩
  subst hg
  have HBy:Hid (∀w',OwnS w' 5 1 (.slice (some ⟨g,0,none⟩) Z bc) Z (Lib.strCells G.buf)→Calls Tryz.prog 167 #[.slice (some ⟨g,lo,none⟩) (Z-lo) (bc-lo)] w' fun e w''=>∃v',OwnS w'' 5 1 v' EX.size (Lib.strCells EX)∧(∀k∈blk v',w'.heap.size≤k)∧e = .returned v'∧Below w'.heap.size w' w''):=fun w' ho=>by
   refine by_clone _ EX (by have:=hex.out;have:=a8.out;have:=a9.out;omega) w' ⟨some ⟨g,lo,none⟩,bc-lo,by rw[hex.out],fun _=>⟨g,lo,rfl,ho.lt (by simp[blk,Value.ownBlock]),?_⟩⟩
   rw[←hZ.out]at ho
   have:=Bytes.sub (OwnS.bytes ho) lo Z (by omega) (by rw[hZ.out];omega)
   rwa[Nat.zero_add,hEX.out]at this
  have hwl:IntKind.i64.wrap (lo:Int)=lo:=by rw[IntKind.wrap_i64];have:=a8.out;have:=a9.out;omega
  have hml:min (lo:Int) (Z:Int)=lo:=by omega
  have hbcl:¬bc=lo:=by omega
  have hlo0:(0:Int)≤lo:=by omega
  have hlob:(lo:Int)≤Z:=by omega
  have hlobc:(lo:Int)≤bc:=by omega
  have hS0:W2.drew.cell? ⟨p,6,none⟩=some (.int .i64 G.base):=cell_at HM.out.hp 6
  refine wp_region_held_drew (S:=fun w'=>w'.cell? ⟨p,6,none⟩=some (.int .i64 G.base)) (by kernel_rfl) hS0 (fun hHeld=>?_)
  clear hS0
  replace HM:Hid (Mid w W2.drew p S _ _ _ _ _ _ _):=HM.out.later (bD bR)
  refine tp 0 hHeld ?_
  go_frame
  refine tp 1 hHeld ?_
  go_frame
  refine tp 2 hHeld ?_
  go_frame
  refine tp 3 hHeld ?_
  go_frame
  refine tp 5 hHeld ?_
  go_frame
  refine tp 6 hHeld ?_
  go_frame
  refine tp 7 hHeld ?_
  go_frame
  refine tp 8 hHeld ?_
  go_frame
  refine tp 9 hHeld ?_
  go_frame
  refine tp 10 hHeld ?_
  go_frame
  refine tp 11 hHeld ?_
  go_frame
  refine tp 12 hHeld ?_
  go_frame
  refine tp 13 hHeld ?_
  go_frame
  refine rd2 4 14 (fun K hK=>?_) (fun K hK=>?_)
  ·have c7:(W2.drew).cell? ⟨p,7,none⟩=some (.slice (some ⟨g,0,none⟩) Z bc):=cell_at HM.out.hp 7
   go_simp
   clear c7
   refine hK.out _ _ (cell_at HM.out.hp 6) (fun hHeld=>?_)
   clear hK K
   try go_frame
   refine rd 14 (fun K hK=>?_)
   have c7:(W2.drew).cell? ⟨p,7,none⟩=some (.slice (some ⟨g,0,none⟩) Z bc):=cell_at HM.out.hp 7
   go_simp
   clear c7
   refine hK.out _ _ (cell_at HM.out.hp 6) (fun hHeld=>?_)
   clear hK K
   try go_frame
   refine tp 15 hHeld ?_
   go_frame
   refine tp 16 (v := .int .i64 (lo:Int)) hHeld ?_
   go_frame
   refine tp 17 (v := .slice (some ⟨g,lo,none⟩) (Z-lo) (bc-lo)) hHeld ?_
   go_frame
   refine rd 18 (fun K hK=>?_)
   go_simp
   go_at_call 167
   refine(HBy.out _ HM.out.ob).mono ?_
   rintro e w5 ⟨v5,ho5,hb5,rfl,hbw⟩
   replace HM:=Hd (HM.out.buf ho5 (Keeps.of_below _ hbw) (fun k hk => .inr (hb5 k hk)))
   obtain⟨a5,c5,rfl⟩:=ho5.form
   clear ho5 hb5 hbw HBy
   go_wp2_with fail
   refine hK.out _ _ (cell_at HM.out.hp 6) (fun hHeld=>?_)
   clear hK K
   try go_frame
   refine tp 19 hHeld ?_
   go_frame
   refine tp 20 hHeld ?_
   go_frame
   refine rd 21 (fun K hK=>?_)
   have F7:=free_at HM.out.hp 7
   have C7:w5.cell? ⟨p,7,none⟩=some (.slice (some ⟨g,0,none⟩) Z bc):=cell_at HM.out.hp 7
   go_simp
   clear F7 C7
   replace HM:=Hd (HM.out.cell 7 (.slice a5 EX.size c5))
   refine hK.out _ _ (cell_at HM.out.hp 6) (fun hHeld=>?_)
   clear hK K
   try go_frame
   clear hHeld
   refine wpAnyH_done (by kernel_rfl) ?_ _
   have C6:(w5.setCell ⟨p,7,none⟩ (.slice a5 EX.size c5)).cell? ⟨p,6,none⟩=some (.int .i64 G.base):=cell_at HM.out.hp 6
   have F6:=free_at HM.out.hp 6
   have HM6:=Hd (HM.out.cell 6 (.int .i64 (t/54*54)))
   clear HM
   go_wp2_with fail
   go_ret
   exact⟨rfl,HM6.out.log (G':=Lg.cut G t j) hok'.out (by show _=(G.buf.extract _ _).size;rw[←hlo.out,hZ.out,hEX.out]) (by show _=Lib.strCells (G.buf.extract _ _);rw[←hlo.out,hZ.out,hEX.out]) (by show _=(G.list.drop j).length;rw[hDL.out]) (by show _=recV (G.list.drop j);rw[hDL.out])⟩
  ·have c7:(W2.drew).cell? ⟨p,7,none⟩=some (.slice (some ⟨g,0,none⟩) Z bc):=cell_at HM.out.hp 7
   go_simp
   clear c7
   refine hK.out _ _ (cell_at HM.out.hp 6) (fun hHeld=>?_)
   clear hK K
   try go_frame
   refine tp 15 hHeld ?_
   go_frame
   refine tp 16 (v := .int .i64 (lo:Int)) hHeld ?_
   go_frame
   refine rd 4 (fun K hK=>?_)
   have c7:(W2.drew).cell? ⟨p,7,none⟩=some (.slice (some ⟨g,0,none⟩) Z bc):=cell_at HM.out.hp 7
   go_simp
   clear c7
   refine hK.out _ _ (cell_at HM.out.hp 6) (fun hHeld=>?_)
   clear hK K
   try go_frame
   refine tp 17 (v := .slice (some ⟨g,lo,none⟩) (Z-lo) (bc-lo)) hHeld ?_
   go_frame
   refine rd 18 (fun K hK=>?_)
   go_simp
   go_at_call 167
   refine(HBy.out _ HM.out.ob).mono ?_
   rintro e w5 ⟨v5,ho5,hb5,rfl,hbw⟩
   replace HM:=Hd (HM.out.buf ho5 (Keeps.of_below _ hbw) (fun k hk => .inr (hb5 k hk)))
   obtain⟨a5,c5,rfl⟩:=ho5.form
   clear ho5 hb5 hbw HBy
   go_wp2_with fail
   refine hK.out _ _ (cell_at HM.out.hp 6) (fun hHeld=>?_)
   clear hK K
   try go_frame
   refine tp 19 hHeld ?_
   go_frame
   refine tp 20 hHeld ?_
   go_frame
   refine rd 21 (fun K hK=>?_)
   have F7:=free_at HM.out.hp 7
   have C7:w5.cell? ⟨p,7,none⟩=some (.slice (some ⟨g,0,none⟩) Z bc):=cell_at HM.out.hp 7
   go_simp
   clear F7 C7
   replace HM:=Hd (HM.out.cell 7 (.slice a5 EX.size c5))
   refine hK.out _ _ (cell_at HM.out.hp 6) (fun hHeld=>?_)
   clear hK K
   try go_frame
   clear hHeld
   refine wpAnyH_done (by kernel_rfl) ?_ _
   have C6:(w5.setCell ⟨p,7,none⟩ (.slice a5 EX.size c5)).cell? ⟨p,6,none⟩=some (.int .i64 G.base):=cell_at HM.out.hp 6
   have F6:=free_at HM.out.hp 6
   have HM6:=Hd (HM.out.cell 6 (.int .i64 (t/54*54)))
   clear HM
   go_wp2_with fail
   go_ret
   exact⟨rfl,HM6.out.log (G':=Lg.cut G t j) hok'.out (by show _=(G.buf.extract _ _).size;rw[←hlo.out,hZ.out,hEX.out]) (by show _=Lib.strCells (G.buf.extract _ _);rw[←hlo.out,hZ.out,hEX.out]) (by show _=(G.list.drop j).length;rw[hDL.out]) (by show _=recV (G.list.drop j);rw[hDL.out])⟩
end Go.Proofs.YtimomjheanfbmaaGreatDoor
namespace Go.Proofs.YtimomjheanfbmaaGreatDoor
open Go.RowKit
theorem extract_sub (B:ByteArray) (o a b:Nat) (hab:a≤b) (hb:o+b≤B.size):(B.extract o B.size).extract a b=B.extract (o+a) (o+b):=extract_extract B o B.size a b hab hb (Nat.le_refl _)
theorem SecOk.shift {bb n q f j:Nat} {B:ByteArray} {d:ByteArray} (h:SecOk bb B f (q+j) d) (hq:54*q≤B.size) (hf:54*q≤f):SecOk (bb+q) (B.extract (54*q) B.size) (f-54*q) j d:=by
 have hs:(B.extract (54*q) B.size).size=B.size-54*q:=by rw[ByteArray.size_extract];omega
 rcases h with⟨h1,h2⟩ | ⟨m,h1,h2,h3,h4,h5⟩
 · exact .inl ⟨by rw[Nat.add_assoc];exact h1,by omega⟩
 ·refine .inr ⟨m,h1,h2,by omega,?_,by omega⟩
  rw[extract_sub _ _ _ _ (by omega) (by omega),Nat.add_assoc bb q j,show 54*q+54*j=54*(q+j) by omega,show 54*q+(54*j+m)=54*(q+j)+m by omega]
  exact h4
theorem DevHas.shift {D:Dev} {first n bb q f:Nat} {B:ByteArray} (h:DevHas D first n bb B f) (hq:54*q≤B.size) (hf:54*q≤f) (hfB:f≤B.size) (hB:B.size≤54*n) (hn:0<n) (hbb:bb+n<72057594037927936):DevHas D first n (bb+q) (B.extract (54*q) B.size) (f-54*q):=by
 refine⟨h.1,h.2.1,h.2.2.mono (fun p d hp=>⟨hp.1,fun j hj he=>?_⟩)⟩
 by_cases hlt:q+j<n
 · exact(hp.2 (q+j) hlt (by rw[←Nat.add_assoc];exact he)).shift (n:=n) hq hf
 ·have hqn:q≤n:=by omega
  have hj2:q+j-n<n:=by omega
  have hpl:(bb+q+j)%n=(bb+(q+j-n))%n:=by
   rw[show bb+q+j=bb+(q+j-n)+n by omega,Nat.add_mod_right]
  rw[hpl]at he
  have hO:=hp.2 (q+j-n) hj2 he
  refine .inl ⟨?_,by omega⟩
  rcases hO with⟨h1,_⟩ | ⟨m,m1,m2,m3,m4,_⟩
  · omega
  ·have hsz:(B.extract (54*(q+j-n)) (54*(q+j-n)+m)).size=m:=by rw[ByteArray.size_extract];omega
   obtain⟨t1,-,-⟩:=secS_tell (bb+(q+j-n)) (B.extract (54*(q+j-n)) (54*(q+j-n)+m)) (by rw[show (256:Nat)^8=18446744073709551616 by decide];omega) (by omega)
   rw[m4,t1]
   omega
theorem plL_drop:∀(p:Int) (rs:List ByteArray) (k:Nat),(plL p rs).drop k=plL (p+lenL (rs.take k)) (rs.drop k)
 | p,[],k=>by simp[plL]
 | p,r::rs,0=>by simp[lenL]
 | p,r::rs,k+1=>by
  rw[plL,List.drop_succ_cons,plL_drop _ rs k,List.take_succ_cons,List.drop_succ_cons,lenL]
  congr 1
  push_cast
  omega
def cutP (bb:Nat) (P:ByteArray) (rs:List ByteArray) (k:Nat):ByteArray:=(P++encL rs).extract (54*((54*bb+P.size+lenL (rs.take k))/54-bb)) (P.size+lenL (rs.take k))
def cutB (bb:Nat) (P:ByteArray) (rs:List ByteArray) (k:Nat):Nat:=(54*bb+P.size+lenL (rs.take k))/54
theorem cutP_size (bb:Nat) (P:ByteArray) (rs:List ByteArray) (k:Nat):(cutP bb P rs k).size=(54*bb+P.size+lenL (rs.take k))-54*cutB bb P rs k:=by
 unfold cutP cutB
 have:=lenL_take_le rs k
 rw[ByteArray.size_extract,ByteArray.size_append,encL_size]
 omega
theorem cut_bytes (bb:Nat) (P:ByteArray) (rs:List ByteArray) (k:Nat):(P++encL rs).extract (54*((54*bb+P.size+lenL (rs.take k))/54-bb)) (P++encL rs).size=cutP bb P rs k++encL (rs.drop k):=by
 have hle:=lenL_take_le rs k
 have hsz:(P++encL rs).size=P.size+lenL rs:=by rw[ByteArray.size_append,encL_size]
 have hspl:P++encL rs=(P++encL (rs.take k))++encL (rs.drop k):=by rw[bytes_assoc,←encL_append,List.take_append_drop]
 have hs1:(P++encL (rs.take k)).size=P.size+lenL (rs.take k):=by rw[ByteArray.size_append,encL_size]
 have e2:(P++encL rs).extract (P.size+lenL (rs.take k)) (P++encL rs).size=encL (rs.drop k):=by
  have:=bytes_right (P++encL (rs.take k)) (encL (rs.drop k))
  rw[hs1,←hspl]at this
  exact this
 rw[cutP,←e2]
 generalize hq:54*((54*bb+P.size+lenL (rs.take k))/54-bb)=q
 have h1:q≤P.size+lenL (rs.take k):=by omega
 have hcB:P.size+lenL (rs.take k)≤(P++encL rs).size:=by omega
 generalize P++encL rs=B at *
 generalize P.size+lenL (rs.take k)=c at *
 apply ByteArray.ext
 apply Array.toList_inj.1
 rw[ByteArray.data_append,ByteArray.data_extract,ByteArray.data_extract,ByteArray.data_extract,Array.toList_append,Array.toList_extract,Array.toList_extract,Array.toList_extract]
 simp only[List.extract]
 rw[show B.size-q=(c-q)+(B.size-c) by omega,List.take_add,List.drop_drop,show q+(c-q)=c by omega]
theorem mkLg_cut {first n bb:Nat} {P:ByteArray} {rs:List ByteArray} {i0 k:Nat} (hk:k≤i0) (hi:i0≤rs.length) :
  (mkLg first n bb P rs i0).cut ((54*bb+P.size+lenL (rs.take k):Nat):Int) k=mkLg first n (cutB bb P rs k) (cutP bb P rs k) (rs.drop k) (i0-k):=by
 have h1:=cutP_size bb P rs k
 have hb:54*cutB bb P rs k≤54*bb+P.size+lenL (rs.take k):=by unfold cutB;omega
 have e1:54*cutB bb P rs k+(cutP bb P rs k).size=54*bb+P.size+lenL (rs.take k):=by omega
 have e2:lenL rs=lenL (rs.take k)+lenL (rs.drop k):=by
  have:=lenL_append (rs.take k) (rs.drop k)
  rwa[List.take_append_drop]at this
 have e3:lenL (rs.take i0)=lenL (rs.take k)+lenL ((rs.drop k).take (i0-k)):=by
  have:=lenL_append (rs.take k) ((rs.drop k).take (i0-k))
  rw[←this]
  congr 1
  rw[←List.take_add,show k+(i0-k)=i0 by omega]
 have e4:=cut_bytes bb P rs k
 have e5:(((54*bb+P.size+lenL (rs.take k):Nat):Int)/54*54-((54*bb:Nat):Int)).toNat=54*((54*bb+P.size+lenL (rs.take k))/54-bb):=by omega
 have e6:((54*bb+P.size+lenL (rs.take k):Nat):Int)/54*54=((54*cutB bb P rs k:Nat):Int):=by unfold cutB;omega
 have e7:=plL_drop ((54*bb+P.size:Nat):Int) rs k
 have e8:((54*bb+P.size:Nat):Int)+lenL (rs.take k)=((54*bb+P.size+lenL (rs.take k):Nat):Int):=by omega
 rw[e8]at e7
 unfold Lg.cut mkLg
 dsimp only
 rw[e5,e4,e6,e7,e1]
 simp only[Lg.mk.injEq,true_and,and_true]
 omega
theorem DevHas.cut {D:Dev} {first n bb:Nat} {P:ByteArray} {rs:List ByteArray} {i0 k:Nat} (h:DevHas D first n bb (P++encL rs) (P.size+lenL (rs.take i0))) (hk:k≤i0) (hi:i0≤rs.length) (hB:P.size+lenL rs≤54*n) (hn:0<n) (hbb:bb+n<72057594037927936) :
  DevHas D first n (cutB bb P rs k) (cutP bb P rs k++encL (rs.drop k)) ((cutP bb P rs k).size+lenL ((rs.drop k).take (i0-k))):=by
 have hsz:(P++encL rs).size=P.size+lenL rs:=by rw[ByteArray.size_append,encL_size]
 have e3:lenL (rs.take i0)=lenL (rs.take k)+lenL ((rs.drop k).take (i0-k)):=by
  have:=lenL_append (rs.take k) ((rs.drop k).take (i0-k))
  rw[←this]
  congr 1
  rw[←List.take_add,show k+(i0-k)=i0 by omega]
 have hle:=lenL_take_le rs i0
 have h1:=cutP_size bb P rs k
 have hq:(54*bb+P.size+lenL (rs.take k))/54-bb+bb=cutB bb P rs k:=by unfold cutB;omega
 have:=h.shift (q:=(54*bb+P.size+lenL (rs.take k))/54-bb) (by omega) (by omega) (by omega) (by omega) hn hbb
 rw[cut_bytes,Nat.add_comm bb,hq]at this
 have e9:P.size+lenL (rs.take i0)-54*((54*bb+P.size+lenL (rs.take k))/54-bb)=(cutP bb P rs k).size+lenL ((rs.drop k).take (i0-k)):=by
  unfold cutB at h1
  omega
 rwa[e9]at this
theorem plL_get:∀(p:Int) (rs:List ByteArray) (k:Nat),k<rs.length→(plL p rs).getD k (0,⟨#[]⟩)=(p+lenL (rs.take k),rs.getD k ⟨#[]⟩)
 | p,r::rs,0,_=>by simp[plL,lenL]
 | p,r::rs,k+1,h=>by
  rw[plL,List.getD_cons_succ,plL_get _ rs k (by simpa using h),List.take_succ_cons,lenL,List.getD_cons_succ]
  congr 1
  push_cast
  omega
theorem lenL_take_mono {rs:List ByteArray} (hr:RecOk rs) {i j:Nat} (h:i<j) (hj:j≤rs.length):lenL (rs.take i)<lenL (rs.take j):=by
 have h1:rs.take j=rs.take i++(rs.drop i).take (j-i):=by rw[←List.take_add,show i+(j-i)=j by omega]
 rw[h1,lenL_append]
 have:lenL ((rs.drop i).take (j-i))≠0:=fun h0=>by
  have h2:=congrArg List.length (lenL_pos.1 h0)
  rw[List.length_take,List.length_drop]at h2
  simp at h2
  omega
 omega
theorem plL_sorted {p:Nat} {rs:List ByteArray} (hr:RecOk rs) (hp:p+lenL rs≤1152921504606846976):Sorted (plL (p:Int) rs):=by
 refine⟨fun x hx=>?_,fun i j hij hj=>?_⟩
 ·obtain⟨k,hk,rfl⟩:=List.mem_iff_getElem.1 hx
  have hk':k<rs.length:=by rwa[plL_length]at hk
  have h1:=plL_get (p:Int) rs k hk'
  rw[List.getD_eq_getElem?_getD,List.getElem?_eq_getElem hk,Option.getD_some]at h1
  rw[h1]
  have:=lenL_take_le rs k
  dsimp only
  omega
 ·rw[plL_length]at hj
  rw[plL_get _ _ _ (by omega),plL_get _ _ _ hj]
  have:=lenL_take_mono hr hij (by omega)
  dsimp only
  omega
theorem plL_found {p:Nat} {rs:List ByteArray} (hr:RecOk rs) {k:Nat} (hk:k≤rs.length):Found (plL (p:Int) rs) ((p:Int)+lenL (rs.take k)) k:=by
 refine⟨by rw[plL_length];exact hk,fun j hj=>?_,fun j hj hjl=>?_⟩
 ·rw[plL_get _ _ _ (by omega)]
  have:=lenL_take_mono hr hj hk
  dsimp only
  omega
 ·rw[plL_length]at hjl
  rw[plL_get _ _ _ hjl]
  dsimp only
  by_cases he:j=k
  · subst he;omega
  ·have:=lenL_take_mono hr (show k<j by omega) (by omega)
   omega
end Go.Proofs.YtimomjheanfbmaaGreatDoor
namespace Go.Proofs.YtimomjheanfbmaaGreatDoor
open Go.RowKit
theorem ws_cut {w:World} {p dp first n bb:Nat} {P:ByteArray} {rs:List ByteArray} {i0 k:Nat} {S Sd:List Nat} {D:Dev} (h:Ws w p dp first n bb P rs i0 S Sd D) (hk:k<rs.length) (hk0:k≤i0) (hbb:cutB bb P rs k≤10000000000000000) :
  Calls Tryz.prog 134 #[.pointer (some ⟨p,0,none⟩),.int .i64 ((54*bb+P.size+lenL (rs.take k):Nat):Int)] w fun e w'=>e = .returned (.int .i64 0)∧∃S',Ws w' p dp first n (cutB bb P rs k) (cutP bb P rs k) (rs.drop k) (i0-k) S' Sd D∧Keeps (· ∈ S) w w'∧∀k∈S',k∈S∨w.heap.size≤k:=by
 obtain⟨n1,n2,n3⟩:=h.len
 have hb:=h.bbs
 have hle:=lenL_take_le rs k
 have hlt:=lenL_take_mono h.rok hk (Nat.le_refl _)
 rw[List.take_length]at hlt
 have hP:=cutP_size bb P rs k
 have hPl:(cutP bb P rs k).size<54:=by rw[hP];unfold cutB;omega
 have e2:lenL rs=lenL (rs.take k)+lenL (rs.drop k):=by
  have:=lenL_append (rs.take k) (rs.drop k)
  rwa[List.take_append_drop]at this
 have hdr:RecOk (rs.drop k):=fun x hx=>h.rok x (List.mem_of_mem_drop hx)
 have hl3:=lenL_len hdr
 rw[List.length_drop]at hl3
 have hfi:lenL (rs.take k)≤lenL (rs.take i0):=by
  have:=lenL_take_le (rs.take i0) k
  rwa[List.take_take,Nat.min_eq_left hk0]at this
 have hC:=wal_cut_rec p dp (mkLg first n bb P rs i0) S ((54*bb+P.size+lenL (rs.take k):Nat):Int) (plL_sorted h.rok (by omega)) (by omega) k (by
   have:=plL_found (p:=54*bb+P.size) h.rok (k:=k) (by omega)
   rw[show ((54*bb+P.size:Nat):Int)+lenL (rs.take k)=((54*bb+P.size+lenL (rs.take k):Nat):Int) by omega]at this
   exact this) ⟨by show k<(plL _ rs).length;rw[plL_length];exact hk,by
   show ((plL _ rs).getD k (0,⟨#[]⟩)).1=_
   rw[plL_get _ _ _ hk]
   show ((54*bb+P.size:Nat):Int)+lenL (rs.take k)=_
   omega,by show _<((54*bb+P.size+lenL rs:Nat):Int);omega⟩ (by show _≤((54*bb+P.size+lenL (rs.take i0):Nat):Int);omega) bb (by show ((54*bb:Nat):Int)=54*(bb:Int);omega) (by show ((54*bb:Nat):Int)≤_;omega) (by
   show (((plL _ rs).length-k:Nat):Int)*3≤((54*bb+P.size+lenL rs:Nat):Int)-_
   rw[plL_length]
   omega) w h.log
 refine hC.mono fun e w' ⟨he,S',hl,hkp,hs⟩=>⟨he,S',⟨?_,h.dsk.keep hkp (fun j hj hj'=>h.dis j hj' hj),h.has.cut hk0 h.le n3 (by omega) (by omega),fun j hj hjd=>?_,hdr,by rw[List.length_drop];have:=h.le;omega,hPl,hbb,h.soft⟩,hkp,hs⟩
 ·rw[mkLg_cut hk0 h.le]at hl
  exact hl
 ·rcases hs j hj with h' | h'
  · exact h.dis j h' hjd
  · have:=h.dsk.lt j hjd;omega
section
variable {w0 w w':World} {p dp:Nat} {rs:List ByteArray} {i0:Nat} {S Sd:List Nat} {D:Dev} {av sv:Value} {A:List Int} {T:List ByteArray}
end
end Go.Proofs.YtimomjheanfbmaaGreatDoor
