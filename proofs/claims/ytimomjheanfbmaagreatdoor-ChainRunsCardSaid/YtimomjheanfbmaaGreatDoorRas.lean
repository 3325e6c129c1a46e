import Derived.Test.YtimomjheanfbmaaGreatDoorQaa
import Derived.Test.YtimomjheanfbmaaGreatDoorRar
import Derived.Test.YtimomjheanfbmaaGreatDoorRae
set_option linter.unusedSimpArgs false
set_option linter.unusedVariables false
namespace Go.Proofs.YtimomjheanfbmaaGreatDoor.G
open Go.RowKit
theorem lenL_up (rs:List ByteArray) {i j:Nat} (h:i≤j):lenL (rs.take i)≤lenL (rs.take j):=by
 have:=lenL_take_le (rs.take j) i
 rwa[List.take_take,Nat.min_eq_left h]at this
theorem lenL_step (rs:List ByteArray) {m:Nat} (h:m<rs.length):lenL (rs.take m)+2≤lenL (rs.take (m+1)):=by
 rw[List.take_add_one,List.getElem?_eq_getElem h,Option.toList_some,lenL_append,lenL,lenL];omega
def AtR (b:Nat) (recs:List Rc) (t:Int) (R:Rc):Prop:=∃i:Nat,recs[i]? = some R∧t=((b+lenL ((recs.map rcS).take i):Nat):Int)
theorem AtR.more {b:Nat} {recs:List Rc} {t:Int} {R Q:Rc} (h:AtR b recs t R):AtR b (recs++[Q]) t R:=by
 obtain⟨i,h1,h2⟩:=h
 have hi:=(List.getElem?_eq_some_iff.1 h1).1
 refine⟨i,by rw[List.getElem?_append_left hi];exact h1,?_⟩
 rw[List.map_append,List.take_append_of_le_length (by rw[List.length_map];omega)]
 exact h2
theorem AtR.last (b:Nat) (recs:List Rc) (R:Rc):AtR b (recs++[R]) ((b+lenL (recs.map rcS):Nat):Int) R:=by
 refine⟨recs.length,by rw[List.getElem?_append_right (Nat.le_refl _),Nat.sub_self];rfl,?_⟩
 rw[List.map_append,List.take_append_of_le_length (by rw[List.length_map];omega),List.take_of_length_le (by rw[List.length_map];omega)]
theorem AtR.lo {b:Nat} {recs:List Rc} {t:Int} {R:Rc} (h:AtR b recs t R):(b:Int)≤t∧t<((b+lenL (recs.map rcS):Nat):Int):=by
 obtain⟨i,h1,rfl⟩:=h
 have hi:=(List.getElem?_eq_some_iff.1 h1).1
 have h2:=lenL_step (recs.map rcS) (m:=i) (by rw[List.length_map];exact hi)
 have h3:=lenL_take_le (recs.map rcS) (i+1)
 omega
theorem AtR.mem {b:Nat} {recs:List Rc} {t:Int} {R:Rc} (h:AtR b recs t R):R∈recs:=by
 obtain⟨i,h1,_⟩:=h
 exact List.mem_of_getElem? h1
theorem lenL_lt (rs:List ByteArray) {a c:Nat} (hac:a<c) (hc:c≤rs.length):lenL (rs.take a)<lenL (rs.take c):=by
 have h5:=lenL_step rs (m:=a) (by omega)
 have h6:=lenL_up rs (show a+1≤c by omega)
 omega
theorem AtR.drop {b:Nat} {recs:List Rc} {t:Int} {R:Rc} (h:AtR b recs t R) {k:Nat} (hk:((b+lenL ((recs.map rcS).take k):Nat):Int)≤t):AtR (b+lenL ((recs.map rcS).take k)) (recs.drop k) t R:=by
 obtain⟨i,h1,rfl⟩:=h
 have hi:=(List.getElem?_eq_some_iff.1 h1).1
 have hki:k≤i:=by
  rcases Nat.lt_or_ge i k with h | h
  ·rcases Nat.lt_or_ge recs.length k with h2 | h2
   ·have h3:=lenL_lt (recs.map rcS) (a:=i) (c:=recs.length) hi (by rw[List.length_map];omega)
    have h4:(recs.map rcS).take k=(recs.map rcS).take recs.length:=by rw[List.take_of_length_le (by rw[List.length_map];omega),List.take_of_length_le (by rw[List.length_map];omega)]
    rw[h4]at hk
    omega
   ·have:=lenL_lt (recs.map rcS) (a:=i) (c:=k) h (by rw[List.length_map];omega)
    omega
  · exact h
 refine⟨i-k,by rw[List.getElem?_drop,show k+(i-k)=i by omega];exact h1,?_⟩
 have e:lenL ((recs.map rcS).take i)=lenL ((recs.map rcS).take k)+lenL (((recs.drop k).map rcS).take (i-k)):=by
  rw[List.map_drop,←lenL_append]
  congr 1
  rw[show i=k+(i-k) by omega,List.take_add,show k+(i-k)-k=i-k by omega]
 omega
inductive Stk (b:Nat) (recs:List Rc) (lo:Int):Int→List (Int×Rc)→Prop
 | nil:Stk b recs lo 0 []
 | clr {t:Int} {R:Rc} {l:List (Int×Rc)}:AtR b recs t R→lo≤t→R.kind=2→0≤R.next→R.next<t→Stk b recs lo R.next l→Stk b recs lo t l
 | upd {t:Int} {R:Rc} {l:List (Int×Rc)}:AtR b recs t R→lo≤t→R.kind=1→0≤R.prev→R.prev<t→Stk b recs lo R.prev l→Stk b recs lo t ((t,R)::l)
theorem Stk.more {b:Nat} {recs:List Rc} {lo t:Int} {l:List (Int×Rc)} (Q:Rc) (h:Stk b recs lo t l):Stk b (recs++[Q]) lo t l:=by
 induction h with
 | nil=>exact .nil
 | clr h1 h0 h2 h3 h4 _ ih=>exact .clr h1.more h0 h2 h3 h4 ih
 | upd h1 h0 h2 h3 h4 _ ih=>exact .upd h1.more h0 h2 h3 h4 ih
theorem Stk.drop {b:Nat} {recs:List Rc} {lo t:Int} {l:List (Int×Rc)} (h:Stk b recs lo t l) {k:Nat} (hk:((b+lenL ((recs.map rcS).take k):Nat):Int)≤lo):Stk (b+lenL ((recs.map rcS).take k)) (recs.drop k) lo t l:=by
 induction h with
 | nil=>exact .nil
 | clr h1 h0 h2 h3 h4 _ ih=>exact .clr (h1.drop (by omega)) h0 h2 h3 h4 ih
 | upd h1 h0 h2 h3 h4 _ ih=>exact .upd (h1.drop (by omega)) h0 h2 h3 h4 ih
theorem Stk.lo {b:Nat} {recs:List Rc} {lo t:Int} {l:List (Int×Rc)} (h:Stk b recs lo t l):(t=0∨(b:Int)≤t)∧(t<((b+lenL (recs.map rcS):Nat):Int)∨t=0):=by
 cases h with
 | nil=>exact⟨.inl rfl,.inr rfl⟩
 | clr h1=>exact⟨.inr h1.lo.1,.inl h1.lo.2⟩
 | upd h1=>exact⟨.inr h1.lo.1,.inl h1.lo.2⟩
theorem Stk.le {b:Nat} {recs:List Rc} {lo t:Int} {l:List (Int×Rc)} (h:Stk b recs lo t l):∀y∈l,y.1≤t:=by
 induction h with
 | nil=>intro y hy;cases hy
 | clr h1 h0 h2 h3 h4 _ ih=>intro y hy;have:=ih y hy;omega
 | upd h1 h0 h2 h3 h4 _ ih =>
  intro y hy
  rcases List.mem_cons.1 hy with rfl | hy
  · exact Int.le_refl _
  · have:=ih y hy;omega
theorem Stk.pos {b:Nat} (hb:0<b) {recs:List Rc} {lo t:Int} {l:List (Int×Rc)} (h:Stk b recs lo t l):∀y∈l,0<y.1:=by
 induction h with
 | nil=>intro y hy;cases hy
 | clr h1 h0 h2 h3 h4 _ ih=>exact ih
 | upd h1 h0 h2 h3 h4 _ ih =>
  intro y hy
  rcases List.mem_cons.1 hy with rfl | hy
  · have:=h1.lo.1;show 0<_;omega
  · exact ih y hy
theorem Stk.zero {b:Nat} (hb:0<b) {recs:List Rc} {lo:Int} {l:List (Int×Rc)} (h:Stk b recs lo 0 l):l=[]:=by
 cases h with
 | nil=>rfl
 | clr h1=>have:=h1.lo.1;omega
 | upd h1=>have:=h1.lo.1;omega
theorem Stk.head {b:Nat} {recs:List Rc} {lo u:Int} {l:List (Int×Rc)} (h:Stk b recs lo u l):∀{t:Int} {R:Rc} {rest:List (Int×Rc)},l=(t,R)::rest→AtR b recs t R∧lo≤t∧0≤R.prev∧R.prev<t∧t≤u∧Stk b recs lo R.prev rest:=by
 induction h with
 | nil=>intro t R rest e;cases e
 | clr h1 h0 h2 h3 h4 _ ih =>
  intro t R rest e
  obtain⟨a,a2,b,c,d,e⟩:=ih e
  exact⟨a,a2,b,c,by omega,e⟩
 | upd h1 h0 h2 h3 h4 h5 ih =>
  intro t R rest e
  simp only[List.cons.injEq,Prod.mk.injEq]at e
  obtain⟨⟨rfl,rfl⟩,rfl⟩:=e
  exact⟨h1,h0,h3,h4,Int.le_refl _,h5⟩
def GoodU (R:Rc):Prop:=R.uk=1∧(0≤R.up∧R.up<6)∧(0≤R.ul∧R.ul<6)∧ClOk R.bs R.bd
def clrR (x last:Int) (R:Rc) (P:Pg):Rc:={kind:=2,xct:=x,prev:=last,next:=R.prev,uk:=0,us:=0,up:=0,ul:=0,key:=⟨#[]⟩,bs:=0,bd:=⟨#[]⟩,fresh:=0,ims:=[(R.up,P)],lvs:=[]}
def CS.undone (σ:CS) (x:Int) (i:Nat) (s:Lv) (R:Rc) (P:Pg):CS :=
 {σ with recs:=σ.recs++[clrR x s.2.2 R P],M:=putIms σ.M [(R.up,P)] (σ.fin:Int),lives:=σ.lives.set i (s.1,s.2.1,(σ.fin:Int)),B:=subB σ.B x 320 1,T:=(σ.T.1-320,σ.T.2-1),cnt:=σ.cnt+1}
inductive Und (x:Int) (i:Nat):CS→List (Int×Rc)→CS→Prop
 | nil (σ:CS):Und x i σ [] σ
 | snoc {σ σ1:CS} {l:List (Int×Rc)} {t:Int} {R:Rc} {s:Lv} {P:Pg}:Und x i σ l σ1→σ1.lives[i]? = some s→s.1=x→pgC P=pgC (setCl (σ1.M R.up.toNat).1 R.ul.toNat R.bs R.bd)→Und x i σ (l++[(t,R)]) (σ1.undone x i s R P)
theorem setCl_ok {P:Pg} (h:PgOk P) {k:Nat} {bs:Int} {bd:ByteArray} (hc:ClOk bs bd):PgOk (setCl P k bs bd):=by
 refine⟨h.1,fun i hi=>?_⟩
 show ClOk (if i=k then bs else P.st i) (if i=k then bd else P.dt i)
 by_cases e:i=k
 · rw[if_pos e,if_pos e];exact hc
 · rw[if_neg e,if_neg e];exact h.2 i hi
theorem pgC_ok {P Q:Pg} (h:pgC P=pgC Q) (hQ:PgOk Q):PgOk P:=by
 simp only[pgC,Array.mk.injEq,List.cons.injEq,Value.int.injEq,Value.string.injEq,true_and,and_true]at h
 obtain⟨e1,e2,e3,e4,a0,b0,a1,b1,a2,b2,a3,b3,a4,b4,a5,b5⟩:=h
 refine PgOk.congr e1 e2 e3 e4 (fun i hi=>?_) hQ
 match i,hi with
 | 0,_=>exact⟨a0,b0⟩
 | 1,_=>exact⟨a1,b1⟩
 | 2,_=>exact⟨a2,b2⟩
 | 3,_=>exact⟨a3,b3⟩
 | 4,_=>exact⟨a4,b4⟩
 | 5,_=>exact⟨a5,b5⟩
section
variable {w0 w w':World} {L:List Nat} {c lp p dp pg lb mb n:Nat} {lv:Value} {σ:CS}
theorem Cx.pages (h:Cx w0 w L c lp p dp pg lb mb n lv σ) (id:Nat) (hid:id<6):PgOk (σ.M id).1:=by
 obtain⟨i0,X,sv,S,Sl,Sd,D,hk⟩:=h.kx
 exact(hk.inv.mok id (by rw[hk.pg6];exact hid)).1
theorem cx_read (h:Cx w0 w L c lp p dp pg lb mb n lv σ) {t:Int} {R:Rc} (hR:AtR σ.org σ.recs t R) :
  Calls Tryz.prog 17 #[.pointer (some ⟨lp,0,none⟩),.int .i64 t] w fun e w'=>e = .returned (.tuple #[.string (rcS R),.int .i64 0])∧Below w.heap.size w w':=by
 have hcount:=h.count
 obtain⟨i0,X,sv,S,Sl,Sd,D,hk⟩:=h.kx
 obtain⟨i,h1,rfl⟩:=hR
 have hi:=(List.getElem?_eq_some_iff.1 h1).1
 have hrok:RecOk σ.rs:=hk.pw.ws.rok
 have hil:i<σ.rs.length:=by unfold CS.rs;rw[List.length_map];exact hi
 have hlist:(mkLg 0 128 σ.bb σ.P σ.rs i0).list=plL ((σ.org:Nat):Int) σ.rs:=rfl
 have hle:=lenL_take_le σ.rs i
 have ht:((σ.org+lenL ((σ.recs.map rcS).take i):Nat):Int)=((σ.org:Nat):Int)+lenL (σ.rs.take i):=by unfold CS.rs;omega
 have hu:σ.org+lenL σ.rs≤60000000000:=h.fin
 rw[ht]
 refine(wal_read lp dp (mkLg 0 128 σ.bb σ.P σ.rs i0) Sl _ (by rw[hlist];exact plL_sorted hrok (by omega)) ⟨by omega,by omega⟩ w hk.pw.ws.log).mono fun e w' ⟨j,hj,hb,hres⟩=>?_
 rw[hlist]at hj hres
 obtain rfl:=hj.uniq (plL_found hrok (Nat.le_of_lt hil))
 have hg:=plL_get ((σ.org:Nat):Int) σ.rs j hil
 have hv:σ.rs.getD j ⟨#[]⟩=rcS R:=by
  unfold CS.rs
  rw[List.getD_eq_getElem?_getD,List.getElem?_map,h1];rfl
 rcases hres with⟨_,he⟩ | ⟨hno,_⟩
 ·rw[hg,hv]at he
  exact⟨he.2,hb⟩
 · exact absurd ⟨by rw[plL_length];exact hil,by rw[hg]⟩ hno
end
end Go.Proofs.YtimomjheanfbmaaGreatDoor.G
namespace Go.Proofs.YtimomjheanfbmaaGreatDoor.G
open Go.RowKit
theorem sl_one {w:World} {ib:Nat} {y:Int×Pg} {T:TypeId} (h:w.heap[ib]? = some (.cells (imA y) T (0,0))):Sl w (.slice (some ⟨ib,0,none⟩) 1 1) 17 ([y].map imL):=by
 refine⟨some ⟨ib,0,none⟩,1,rfl,by show 1≤maxLen;unfold maxLen;omega,fun _=>⟨ib,0,rfl,block_lt h,fun i hi j hj=>?_⟩⟩
 have hi0:i=0:=by have:i<1:=hi;omega
 subst hi0
 rw[cell_at h]
 show (imA y)[0+0*17+j]? = (imL y)[j]?
 rw[show 0+0*17+j=j by omega,←Array.getElem?_toList]
 rfl
def above (bd:Int) (l:List (Int×Rc)):Nat:=(l.filter (fun y=>decide (bd<y.1))).length
theorem above_app (bd:Int) {a b:List (Int×Rc)} (h1:∀y∈a,bd<y.1):above bd (a++b)=a.length+above bd b:=by
 unfold above
 rw[List.filter_append,List.filter_eq_self.2 (fun y hy=>decide_eq_true (h1 y hy)),List.length_append]
theorem above_none (bd:Int) {b:List (Int×Rc)} (h1:∀y∈b,y.1≤bd):above bd b=0:=by
 unfold above
 rw[List.filter_eq_nil_iff.2 (fun y hy=>by have:=h1 y hy;simp;omega)];rfl
theorem above_cons (bd:Int) {y:Int×Rc} {b:List (Int×Rc)} (h:bd<y.1):above bd (y::b)=above bd b+1:=by
 unfold above
 rw[List.filter_cons,if_pos (decide_eq_true h)];rfl
structure BkSt (x:Int) (i:Nat) (bd lo:Int) (l:List (Int×Rc)) (σ σk:CS) (next:Int) (rest:List (Int×Rc)):Prop where
 und:∃done,Und x i σ done σk∧l=done++rest∧(∀y∈done,bd<y.1)∧σk.used=σ.used+267*done.length
 org:σk.org=σ.org
 stk:Stk σ.org σk.recs lo next rest
 good:∀y∈rest,GoodU y.2
 bk:320*rest.length≤(σk.B x).1∧rest.length≤(σk.B x).2
 liv:∃s,σk.lives[i]? = some s∧s.1=x∧0≤s.2.2∧s.2.2≤100000000000
 len:σk.lives.length=σ.lives.length
 cnt:σk.cnt+rest.length≤σ.cnt+l.length
theorem undone_rs (σ:CS) (x:Int) (i:Nat) (s:Lv) (R:Rc) (P:Pg):(σ.undone x i s R P).rs=σ.rs++[rcS (clrR x s.2.2 R P)]:=by unfold CS.rs CS.undone;rw[List.map_append];rfl
theorem BkSt.step {x:Int} {i:Nat} {bd lo:Int} {l:List (Int×Rc)} {σ σk:CS} {next:Int} {R:Rc} {rest:List (Int×Rc)} (h:BkSt x i bd lo l σ σk next ((next,R)::rest)) (hn:bd<next) (hkk:Stk σ.org σk.recs lo R.prev rest) {s:Lv} (hs:σk.lives[i]? = some s∧s.1=x) {P:Pg}
  (hP:pgC P=pgC (setCl (σk.M R.up.toNat).1 R.ul.toNat R.bs R.bd)) (hsz:(rcS (clrR x s.2.2 R P)).size=265) (hfin:σk.fin≤100000000000):BkSt x i bd lo l σ (σk.undone x i s R P) R.prev rest:=by
 obtain⟨done,h1,h2,h3,h4⟩:=h.und
 have hi:=(List.getElem?_eq_some_iff.1 hs.1).1
 have hrs:=undone_rs σk x i s R P
 have hb:=h.bk
 have hc:=h.cnt
 rw[List.length_cons]at hb hc
 refine⟨⟨done++[(next,R)],.snoc h1 hs.1 hs.2 hP,by rw[h2];simp,fun y hy=>?_,?_⟩,h.org,hkk.more _,fun y hy=>h.good y (by simp[hy]),?_,?_,?_,?_⟩
 ·rcases List.mem_append.1 hy with hy | hy
  · exact h3 y hy
  · rw[List.mem_singleton.1 hy];exact hn
 ·unfold CS.used at h4 ⊢
  rw[hrs,lenL_append,lenL,lenL,hsz,List.length_append,List.length_singleton]
  show σk.P.size+_=_
  omega
 ·have e:(σk.undone x i s R P).B x=((σk.B x).1-320,(σk.B x).2-1):=if_pos rfl
  rw[e]
  exact⟨by show _≤(σk.B x).1-320;omega,by show _≤(σk.B x).2-1;omega⟩
 · exact⟨(s.1,s.2.1,(σk.fin:Int)),List.getElem?_set_self hi,hs.2,by show (0:Int)≤(σk.fin:Int);omega,by show (σk.fin:Int)≤100000000000;omega⟩
 · show (σk.lives.set i _).length=_;rw[List.length_set];exact h.len
 · show σk.cnt+1+rest.length≤_;omega
theorem clr_ok {x:Int} {last:Int} {R:Rc} {P:Pg} (hx:0≤x∧x≤2147483647) (hl:0≤last∧last≤100000000000) (hp:0≤R.prev∧R.prev≤100000000000) (hu:0≤R.up∧R.up<6) (hP:PgOk P):RcOk (clrR x last R P):=by
 refine⟨⟨⟨by show (1:Int)≤2;decide,by show (2:Int)≤6;decide⟩,⟨hx.1,hx.2⟩,⟨hl.1,by show last≤1099511627776;omega⟩,⟨hp.1,by show R.prev≤1099511627776;omega⟩,⟨Int.le_refl _,by show (0:Int)≤2147483647;decide⟩,⟨Int.le_refl _,by show (0:Int)≤3;decide⟩,⟨Int.le_refl _,by show (0:Int)≤6;decide⟩,⟨Int.le_refl _,by show (0:Int)≤1023;decide⟩,⟨Int.le_refl _,by show (0:Int)≤5;decide⟩,?_,⟨Int.le_refl _,by show (0:Int)≤2;decide⟩,?_,?_,?_⟩,fun y hy=>?_,fun y hy=>by cases hy⟩
 · show (ByteArray.size ⟨#[]⟩)≤8;decide
 · show (ByteArray.size ⟨#[]⟩)≤34;decide
 · show 1≤24;decide
 · show 0≤8;decide
 ·obtain rfl:=List.mem_singleton.1 hy
  exact⟨⟨hu.1,by show R.up≤1023;omega⟩,hP⟩
theorem clr_size {x last:Int} {R:Rc} {P:Pg} (h:RcOk (clrR x last R P)):(rcS (clrR x last R P)).size=265:=rcS_size h
theorem BkSt.pass {x:Int} {i:Nat} {bd lo:Int} {l:List (Int×Rc)} {σ σk:CS} {next next':Int} {rest:List (Int×Rc)} (h:BkSt x i bd lo l σ σk next rest) (hk:Stk σ.org σk.recs lo next' rest):BkSt x i bd lo l σ σk next' rest :=
 ⟨h.und,h.org,hk,h.good,h.bk,h.liv,h.len,h.cnt⟩
theorem BkSt.top {x:Int} {i:Nat} {bd lo:Int} {l:List (Int×Rc)} {σ σk:CS} {next:Int} {rest:List (Int×Rc)} (h:BkSt x i bd lo l σ σk next rest) (hn:0<next):∃R,AtR σ.org σk.recs next R ∧
  ((R.kind=2∧0≤R.next∧R.next<next∧Stk σ.org σk.recs lo R.next rest)∨(R.kind=1∧0≤R.prev∧R.prev<next∧∃rest',rest=(next,R)::rest'∧Stk σ.org σk.recs lo R.prev rest')):=by
 have hst:=h.stk
 cases hst with
 | nil=>omega
 | clr h1 h0 h2 h3 h4 h5=>exact⟨_,h1,.inl ⟨h2,h3,h4,h5⟩⟩
 | upd h1 h0 h2 h3 h4 h5=>exact⟨_,h1,.inr ⟨h2,h3,h4,_,rfl,h5⟩⟩
def BackIs (w0 w:World) (L:List Nat) (c lp p dp pg lb mb:Nat) (lv:Value) (x:Int) (i:Nat) (bd lo:Int) (l:List (Int×Rc)) (σ:CS):Prop :=
 ∃σ' n' next rest,Cx w0 w L c lp p dp pg lb mb n' lv σ'∧BkSt x i bd lo l σ σ' next rest∧next≤bd
def BackFits (σ:CS) (bd:Int) (l:List (Int×Rc)):Prop:=σ.used+267*above bd l≤6912
def BackTo (w0 w:World) (L:List Nat) (c lp p dp pg lb mb:Nat) (lv:Value) (x:Int) (i:Nat) (bd lo:Int) (l:List (Int×Rc)) (σ:CS) (e:Ending):Prop :=
 (BackFits σ bd l∧e = .returned (.int .i64 0)∧BackIs w0 w L c lp p dp pg lb mb lv x i bd lo l σ)∨(¬BackFits σ bd l∧e = .returned (.int .i64 70))
section
variable {w0 w w':World} {L:List Nat} {c lp p dp pg lb mb n:Nat} {lv:Value} {σ:CS}
theorem restore_at (p : Nat) : ∀ w, (method (Tryz.prog.types.size + 100) 40 (.agg #[.pointer (some ⟨p, 0, none⟩)]) "Restore").run Tryz.prog w = .ok (213, .agg #[.pointer (some ⟨p, 0, none⟩)]) w := fun w => by kernel_rfl
def kitV (p:Nat):Value := .iface 40 (.agg #[.pointer (some ⟨p,0,none⟩)])
set_option maxRecDepth 100000 in
set_option maxHeartbeats 3200000 in
theorem cx_back (h:Cx w0 w L c lp p dp pg lb mb n lv σ) (x tu:Int) (hx:1≤x∧x≤2147483647) (i:Nat) (s:Lv) (hi:σ.lives[i]? = some s∧s.1=x∧(∀j s',j<i→σ.lives[j]? = some s'→s'.1≠x)) (lo:Int) (l:List (Int×Rc)) (hS:Stk σ.org σ.recs lo s.2.2 l) (hG:∀y∈l,GoodU y.2)
  (hB:320*l.length≤(σ.B x).1∧l.length≤(σ.B x).2) (hll:l.length≤1000) (hcnt:σ.cnt<10000000000) :
  Calls Tryz.prog 13 #[.pointer (some ⟨c,0,none⟩),.int .i64 x,.int .i64 tu,kitV p] w fun e w'=>Keeps (Own w0 L) w w'∧BackTo w0 w' L c lp p dp pg lb mb lv x i (max tu 0) lo l σ e:=by
 have H:=Hd h
 have HFi:=Hd (ch_find h.ch x)
 obtain⟨bd,hbd⟩:∃b,max tu 0=b:=⟨_,rfl⟩
 have hmx2:(if tu<0 then (0:Int) else tu)=bd:=by split <;> omega
 have hbd0:0≤bd:=by omega
 rw[hbd]
 have hlast:s.2.2≤100000000000∧0≤s.2.2:=by
  have h1:=hS.lo
  have h2:=h.fin
  unfold CS.fin CS.rs at h2
  omega
 have hl21:Hid (l.length≤1000):=hll
 have HBK:Hid (BkSt x i bd lo l σ σ s.2.2 l):=⟨⟨[],.nil σ,rfl,(fun y hy=>by cases hy),by simp⟩,rfl,hS,hG,hB,⟨s,hi.1,hi.2.1,hlast.2,hlast.1⟩,rfl,Nat.le_refl _⟩
 have hil:i<σ.lives.length:=(List.getElem?_eq_some_iff.1 hi.1).1
 obtain⟨sa,sc,hlv⟩:=h.ch.own.form
 subst hlv
 obtain⟨g,rfl⟩:=h.ch.own.spot (by omega)
 have mL:=restore_at p
 have hfin:=Hd hi
 have hxk:=Hd hx
 have hcn:=Hd hcnt
 have hbd2:=Hd hbd0
 clear h hS hG hB hll hlast hi hx hcnt hbd0
 unfold kitV
 go_enter Tryz.func13,Tryz.ntmps13
 go_wp2_with fail
 refine(HFi.out).mono ?_
 rintro e w1 ⟨hr,hb1⟩
 obtain rfl:e = .returned (.int .i64 i):=by
  rcases hr with⟨j,s',e1,e2,e3,he⟩ | ⟨e1,_⟩
  ·have:j=i:=by
    rcases Nat.lt_trichotomy j i with h | h | h
    · exact absurd e2 (hfin.out.2.2 j s' h e1)
    · exact h
    · exact absurd hfin.out.2.1 (e3 i s h hfin.out.1)
   subst this;exact he
  · exact absurd hfin.out.2.1 (e1 s (List.mem_of_getElem? hfin.out.1))
 have HX1:=Hd (H.out.later hb1)
 have HK1:Hid (Keeps (Own w0 L) w w1):=Keeps.of_below _ hb1
 have C3:w1.cell? ⟨c,3,none⟩=some (.slice (some ⟨g,0,none⟩) σ.lives.length sc):=cell_at HX1.out.ch.cell 3
 have hls:=lv_range HX1.out.ch.own i s hfin.out.1 2 _ rfl
 have hi0:¬(i:Int)<0:=by omega
 have hd0:decide ((i:Int)<0)=false:=decide_eq_false hi0
 have hi1:(i:Int)<σ.lives.length:=by omega
 have hilN:=Hd hil
 clear hr hb1 HFi hil
 go_wp2_with fail
 clear C3 hls hd0
 go_loopw [10] (fun y wr=>∃(next:Int) (σk:CS) (nk:Nat) (rest:List (Int×Rc)),y = .int .i64 next∧Hid (Cx w0 wr L c lp p dp pg lb mb nk (.slice (some ⟨g,0,none⟩) σ.lives.length sc) σk)∧Hid (BkSt x i bd lo l σ σk next rest)∧Hid (Keeps (Own w0 L) w wr)) (fun y _=>(intOf y).toNat)
 case atStart=>exact⟨s.2.2,σ,n,l,rfl,HX1,HBK,HK1⟩
 case round =>
  obtain⟨next,σk,nk,rest,rfl,HX,HBk,HK⟩:=hrel
  by_cases hgt:bd<next
  rotate_left
  ·have hdg:decide (bd<next)=false:=decide_eq_false hgt
   go_wp2_with fail
   go_ret
   obtain⟨done,-,hd1,hd2,hd3⟩:=HBk.out.und
   refine⟨HK.out,.inl ⟨?_,rfl,σk,nk,next,rest,HX.out,HBk.out,(by omega)⟩⟩
   unfold BackFits
   rw[hd1,above_app bd hd2,above_none bd (fun y hy=>by have:=HBk.out.stk.le y hy;omega)]
   have:=HX.out.count.2.1
   omega
  have hdg:decide (bd<next)=true:=decide_eq_true hgt
  have hgtN:=Hd hgt
  have hnx:0<next:=by have:=hbd2.out;omega
  obtain⟨R,hA,hcase⟩:=HBk.out.top hnx
  have hok:=HX.out.ok R hA.mem
  obtain⟨Q0,hdec0,hsame⟩:=dec_same hok
  have hRsz:=(rc_sizes hok).2
  have HRd:=Hd (cx_read HX.out (HBk.out.org.symm ▸ hA))
  have hAn:=Hd hA
  have hokN:=Hd hok
  obtain⟨S,hS⟩:∃S,rcS R=S:=⟨_,rfl⟩
  rw[hS]at hdec0 hRsz HRd
  have HDc:=Hd (fun w=>rc_decode S (by unfold maxLen;omega) w)
  have hdecN:=Hd hdec0
  have hsameN:=Hd hsame
  have hcaseN:=Hd hcase
  have C0:wr.cell? ⟨c,0,none⟩=some (.pointer (some ⟨lp,0,none⟩)):=cell_at HX.out.ch.cell 0
  clear hgt hnx hA hok hdec0 hsame hcase hRsz hS
  go_wp2_with fail
  refine(HRd.out).mono ?_
  rintro e w2 ⟨rfl,hb2⟩
  have HX2:=Hd (HX.out.later hb2)
  have HK2:Hid (Keeps (Own w0 L) w w2):=HK.out.trans (Keeps.of_below (fun _=>False) hb2) (fun _ _ h=>h.elim)
  clear hb2 HRd C0 HX HK hdg
  go_wp2_with fail
  refine(HDc.out _).mono ?_
  rintro e w3 ⟨hdi,hb3⟩
  obtain⟨Q,iv,lw,rfl,hsl,hsQ⟩:∃(Q:Rc) (iv lw:Value),e = .returned (.tuple #[.agg (rcC Q iv lw),.int .i64 0])∧RcSl w3 Q iv lw∧SameRc Q R:=by
   rcases hdi with⟨Q,iv,lw,hd,he,hsl⟩ | ⟨hd,_⟩
   ·have hq:Q=Q0:=by have:=hd.symm.trans hdecN.out;injection this
    exact⟨Q,iv,lw,he,hsl,hq ▸ hsameN.out⟩
   · rw[hdecN.out]at hd;cases hd
  have HX3:=Hd (HX2.out.later hb3)
  have HK3:Hid (Keeps (Own w0 L) w w3):=HK2.out.trans (Keeps.of_below (fun _=>False) hb3) (fun _ _ h=>h.elim)
  have hones:Hid (∀v∈(rcC Q iv lw).toList,v.oneCell'=true):=rcC_one (by obtain⟨a',m',c',rfl,_⟩:=sl_open hsl.1;rfl) (by obtain⟨a',m',c',rfl,_⟩:=sl_open hsl.2.1;rfl)
  have hbdz:=Hd hsl.2.2.2.1
  have HN3:Hid ((w3.alloc (.cells (rcC rcZ nilS nilS) 65)).heap[w3.heap.size]? = some (.cells (rcC rcZ nilS nilS) 65 (0,0))):=hN rfl
  have hsQN:=Hd hsQ
  clear hb3 hdi HX2 HK2 hsl HDc hsQ
  go_upto_region 12 with(refine wpList_store_whole rfl 65 _ _ rfl _ (rcC Q iv lw) rfl rfl _ (rcC rcZ nilS nilS) HN3.out rfl (by kernel_rfl) hones.out ?_;intro w4 HR4 K4;(have hk4:Keeps (fun _=>False) w3 w4:=((Keeps.refl (fun _=>False) w3).alloc _).trans K4.out (fun q hq e=>by omega));(have HX4:=Hd (HX3.out.push hk4.below w3.heap.size (Nat.le_refl _) (block_lt HR4.out)));(have HK4:Hid (Keeps (Own w0 L) w w4):=HK3.out.trans hk4 (fun _ _ h=>h.elim));clear K4 hk4 HN3 HX3 HK3)
  obtain⟨q1,q2,q3,q4,q5,q6,q7,q8,q9,q10,q11,q12,-,-⟩:=hsQN.out
  have R0:w4.cell? ⟨w3.heap.size,0,none⟩=some (.int .i64 R.kind):=by rw[←q1];exact cell_at HR4.out 0
  have R2:w4.cell? ⟨w3.heap.size,2,none⟩=some (.int .i64 R.prev):=by rw[←q3];exact cell_at HR4.out 2
  have R3:w4.cell? ⟨w3.heap.size,3,none⟩=some (.int .i64 R.next):=by rw[←q4];exact cell_at HR4.out 3
  have RU:Hid (w4.rangeAt w3.heap.size 4 (unL {uk:=R.uk,us:=R.us,up:=R.up,ul:=R.ul,key:=R.key,bs:=R.bs,bd:=R.bd})):=by
   show World.rangeAt _ _ _ _
   rw[←q6,←q7,←q8,←q9,←q10,←q11,←q12]
   exact World.rangeAt_of_block HR4.out 4 7
  have hbdR:Hid (R.bd.size≤maxLen):=by show _≤_;rw[←q12];exact hbdz.out
  clear q1 q2 q3 q4 q5 q6 q7 q8 q9 q10 q11 q12
  rcases hcaseN.out with⟨hk2,hn0,hnl,hst⟩ | ⟨hk1,hp0,hpl,rest',hre,hst⟩
  ·rw[hk2]at R0
   have HXl:=Hd HX4.out.pop
   have HBn:=Hd (HBk.out.pass hst)
   have hmeas:Hid (R.next.toNat<next.toNat):=by show _<_;omega
   clear hk2 hn0 hnl hst hcaseN
   go_wp2_with fail
   go_roundw
   case rel=>exact⟨R.next,σk,nk,rest,rfl,HXl,HBn,HK4⟩
   case measure=>simpa[intOf]using hmeas.out
  rw[hk1]at R0
  have hgood:=HBk.out.good (next,R) (by rw[hre];simp)
  obtain⟨g1,⟨g2,g3⟩,⟨g4,g5⟩,g6⟩:=hgood
  dsimp only at g1 g2 g3 g4 g5 g6
  obtain⟨up,hup⟩:∃k:Nat,R.up=k:=⟨R.up.toNat,by omega⟩
  obtain⟨ul,hul⟩:∃k:Nat,R.ul=k:=⟨R.ul.toNat,by omega⟩
  obtain⟨s2,hs2,hsx,hsl0,hsl1⟩:=HBk.out.liv
  have hul6:ul<6:=by omega
  have hupg:up<6:=by omega
  have hbk:=HBk.out.bk
  rw[hre,List.length_cons]at hbk
  have HRs:=Hd (cx_restore HX4.out {uk:=R.uk,us:=R.us,up:=R.up,ul:=R.ul,key:=R.key,bs:=R.bs,bd:=R.bd} g1 up ul hup hul hupg hul6 hbdR.out)
  have hpgm:=Hd (HX4.out.pages up hupg)
  have hle:=HX4.out.ch.lg.2.1.le x
  have hmost:=Hd HX4.out.most
  have hnk:=Hd HX4.out.cn
  have hcnk:Hid (σk.cnt≤20000000000):=by have:=HBk.out.cnt;have:=hl21.out;have:=hcn.out;show _≤_;omega
  have hbkN:=Hd hbk
  have hleN:=Hd hle
  have hg6:=Hd g6
  have hupN:=Hd hup
  have hulN:=Hd hul
  have hs2N:=Hd (And.intro hs2 (And.intro hsx (And.intro hsl0 hsl1)))
  have hul6N:=Hd hul6
  have hupgN:=Hd hupg
  have hpN:Hid (0≤R.prev∧R.prev≤100000000000∧R.prev<next):=⟨hp0,by have h1:=hAn.out.lo;have h2:=HX4.out.fin;have h3:=HBk.out.org;unfold CS.fin CS.rs at h2;omega,hpl⟩
  have hreN:=Hd hre
  have hstN:=Hd hst
  clear hk1 hp0 hpl hre hst hcaseN g1 g2 g3 g4 g5 g6 hup hul hs2 hsx hsl0 hsl1 hul6 hupg hbk hle R3
  go_wp2_with (refine wpList_load_mid rfl 42 _ rfl w3.heap.size 4 rfl (unL {uk:=R.uk,us:=R.us,up:=R.up,ul:=R.ul,key:=R.key,bs:=R.bs,bd:=R.bd}) _ RU.out Tryz.underlying42 rfl (by kernel_rfl) ?_)
  refine(HRs.out).mono ?_
  rintro e w5 ⟨ib,Q',hQ',rfl,hib,hx5,hk5⟩
  have HR5:=Hd (hk5.keep HR4.out (own_loc (by simp)))
  have HX5:=Hd hx5
  have HI5:=Hd hib
  have HK5:Hid (Keeps (Own w0 L) w w5):=HK4.out.trans hk5 (fun k _ h=>⟨h.1,fun h'=>h.2 (by simp[h'])⟩)
  obtain⟨P,hP⟩:∃P,setCl Q' ul R.bs R.bd=P:=⟨_,rfl⟩
  rw[hP]at HI5
  have hPok:PgOk P:=by rw[←hP];exact setCl_ok (pgC_ok hQ' hpgm.out) hg6.out
  have hPeq:pgC P=pgC (setCl (σk.M R.up.toNat).1 R.ul.toNat R.bs R.bd):=by
   rw[←hP,hupN.out,hulN.out,Int.toNat_natCast,Int.toNat_natCast]
   exact setCl_congr hQ' ul hul6N.out _ _
  have hokc:Hid (RcOk (clrR x s2.2.2 R P)):=clr_ok ⟨by have:=hxk.out.1;omega,hxk.out.2⟩ hs2N.out.2.2 ⟨hpN.out.1,hpN.out.2.1⟩ ⟨by rw[hupN.out];omega,by have:=hupgN.out;rw[hupN.out];omega⟩ hPok
  have hPokN:=Hd hPok
  have hPeqN:=Hd hPeq
  have HGv:=Hd (lg_give hx5.ch.lg hmost.out (by have:=hnk.out;have:=hcnk.out;omega) x ⟨by have:=hxk.out.1;omega,by have:=hxk.out.2;omega⟩ 320 1 ⟨by have:=hbkN.out.1;omega,by have:=hbkN.out.2;omega⟩)
  rw[flB_clr,flB_one]at HGv
  have C2:w5.cell? ⟨c,2,none⟩=some (.pointer (some ⟨lb,0,none⟩)):=cell_at hx5.ch.cell 2
  clear hx5 hib hk5 HRs HX4 HK4 HR4 RU hP hPok hPeq hQ' R0 R2
  go_wp2_with fail
  refine(HGv.out).mono ?_
  rintro e w6 ⟨rfl,hl6,hk6⟩
  have HX6:=Hd (HX5.out.book (q:=σk.cnt+1) hl6 hk6 ⟨by have:=hmost.out.1;show _-_≤_;omega,by have:=hmost.out.2;show _-_≤_;omega⟩ (by have:=hnk.out;omega))
  have hmbl:mb∉ib::w3.heap.size::L:=(HX5.out.hi mb (by simp[chL])).2
  have HR6:=Hd (hk6.keep HR5.out (fun e=>hmbl (by simp[e])))
  have HI6:=Hd (hk6.keep HI5.out (fun e=>hmbl (by simp[e])))
  have HK6:Hid (Keeps (Own w0 L) w w6):=HK5.out.trans hk6 (fun k _ e=>by subst e;exact⟨(HX5.out.hi _ (by simp[chL])).1,fun h'=>hmbl (by simp[h'])⟩)
  clear hl6 hk6 HGv C2 HX5 HR5 HI5 HK5 hmbl
  go_upto_region 20 with fail
  have hown6:OwnS w6 61 3 (.slice (some ⟨g,0,none⟩) σ.lives.length sc) σk.lives.length (lvV σk.lives):=HX6.out.ch.own
  have hlen:σk.lives.length=σ.lives.length:=HBk.out.len
  rw[hlen]at hown6
  have hS0:w6.drew.cell? ⟨c,3,none⟩=some (.slice (some ⟨g,0,none⟩) σ.lives.length sc)∧w6.drew.cell? ⟨g,i*3+2,none⟩=some (.int .i64 s2.2.2)∧w6.drew.cell? ⟨w3.heap.size,2,none⟩=some (.int .i64 R.prev) :=
   ⟨cell_at HX6.out.ch.cell 3,lv_range hown6 i s2 hs2N.out.1 2 _ rfl,by rw[←hsQN.out.2.2.1];exact cell_at HR6.out 2⟩
  have HXd:=Hd (HX6.out.later (bD bR))
  have HRd6:=Hd (hDr HR6.out)
  have HId:=Hd (hDr HI6.out)
  have HKd:Hid (Keeps (Own w0 L) w w6.drew):=HK6.out.drew
  clear HX6 HR6 HI6 HK6 hown6 hlen
  refine wp_region_held_drew (S:=fun W=>W.cell? ⟨c,3,none⟩=some (.slice (some ⟨g,0,none⟩) σ.lives.length sc)∧W.cell? ⟨g,i*3+2,none⟩=some (.int .i64 s2.2.2)∧W.cell? ⟨w3.heap.size,2,none⟩=some (.int .i64 R.prev)) (by kernel_rfl) hS0 (fun hHeld=>?_)
  refine tx3 0 hHeld ?_
  go_frame
  refine tx3 1 hHeld ?_
  go_frame
  refine tx3 2 hHeld ?_
  go_frame
  refine tx3 3 hHeld ?_
  go_frame
  refine tx3 4 hHeld ?_
  go_frame
  refine tx3 5 hHeld ?_
  go_frame
  refine tx3 6 hHeld ?_
  go_frame
  refine tx3 7 hHeld ?_
  go_frame
  refine tx3 8 hHeld ?_
  go_frame
  refine tx3 9 hHeld ?_
  go_frame
  refine tx3 10 hHeld ?_
  go_frame
  refine tx3 11 hHeld ?_
  go_frame
  refine tx3 12 hHeld ?_
  go_frame
  refine tk 13 (v := .agg (rcC (clrR x s2.2.2 R P) (.slice (some ⟨ib,0,none⟩) 1 1) nilS)) rfl (Or.inl ⟨by rfl,?_⟩) hHeld ?_
  ·intro w' hSw
   clear hSw
   go_simp
   try rfl
   try omega
  go_frame
  refine rd 14 (fun K hK=>?_)
  go_simp
  go_at_call 57
  have HW:=Hd (cx_write HXd.out (clrR x s2.2.2 R P) hokc.out (by show 1≤1;omega) (fun y hy=>by obtain rfl:=List.mem_singleton.1 hy;show R.up<_;rw[hupN.out];have:=hupgN.out;omega) (.slice (some ⟨ib,0,none⟩) 1 1) nilS (fun w' hk=>⟨by
   have:=sl_one (hk.keep HId.out (own_loc (by simp)))
   rw[←hupN.out]at this
   exact this,nil_sl w',by show 0≤maxLen;omega,by show 0≤maxLen;omega,fun y hy j hj=>by
   obtain rfl:=List.mem_singleton.1 hy
   have:=(hPokN.out.2 j hj).2.2.1
   unfold maxLen
   show (P.dt j).size≤_
   omega⟩))
  refine(HW.out).mono ?_
  rintro e w7 ⟨hres,hk7⟩
  have hsz:=clr_size hokc.out
  have HK7:Hid (Keeps (Own w0 L) w w7):=HKd.out.trans hk7 (fun k _ h=>⟨h.1,fun h'=>h.2 (by simp[h'])⟩)
  have HR7:=Hd (hk7.keep HRd6.out (own_loc (by simp)))
  have hlen:σk.lives.length=σ.lives.length:=HBk.out.len
  obtain⟨fv,ev,rfl,hown7,hch7,hhi7,hres2⟩:∃fv ev:Int,e = .returned (.tuple #[.int .i64 fv,.int .i64 ev])∧OwnS w7 61 3 (.slice (some ⟨g,0,none⟩) σ.lives.length sc) σ.lives.length (lvV σk.lives) ∧
    w7.cell? ⟨c,3,none⟩=some (.slice (some ⟨g,0,none⟩) σ.lives.length sc)∧(∀q∈chL c lb mb (.slice (some ⟨g,0,none⟩) σ.lives.length sc),w0.heap.size≤q∧q∉ib::w3.heap.size::L) ∧
    ((ev=70∧Full σk.used (rcS (clrR x s2.2.2 R P)))∨(fv=(σk.fin:Int)∧ev=0∧Cx w0 w7 (ib::w3.heap.size::L) c lp p dp pg lb mb (nk+1) (.slice (some ⟨g,0,none⟩) σ.lives.length sc) {σk with recs:=σk.recs++[clrR x s2.2.2 R P],M:=putIms σk.M [(R.up,P)] (σk.fin:Int),B:=subB σk.B x 320 1,T:=(σk.T.1-320,σk.T.2-1),cnt:=σk.cnt+1})):=by
   rcases hres with⟨hf,he,hx7⟩ | ⟨hf,he,hx7⟩
   ·have h1:OwnS w7 61 3 (.slice (some ⟨g,0,none⟩) σ.lives.length sc) σk.lives.length (lvV σk.lives):=hx7.ch.own
    rw[hlen]at h1
    exact⟨_,_,he,h1,cell_at hx7.ch.cell 3,hx7.hi,.inl ⟨rfl,hf⟩⟩
   ·have h1:OwnS w7 61 3 (.slice (some ⟨g,0,none⟩) σ.lives.length sc) σk.lives.length (lvV σk.lives):=hx7.ch.own
    rw[hlen]at h1
    exact⟨_,_,he,h1,cell_at hx7.ch.cell 3,hx7.hi,.inr ⟨rfl,rfl,hx7⟩⟩
  have Hres2:=Hd hres2
  have hS7:w7.cell? ⟨c,3,none⟩=some (.slice (some ⟨g,0,none⟩) σ.lives.length sc)∧w7.cell? ⟨g,i*3+2,none⟩=some (.int .i64 s2.2.2)∧w7.cell? ⟨w3.heap.size,2,none⟩=some (.int .i64 R.prev) :=
   ⟨hch7,lv_range hown7 i s2 hs2N.out.1 2 _ rfl,by rw[←hsQN.out.2.2.1];exact cell_at HR7.out 2⟩
  have HO7:=Hd hown7
  have hszN:=Hd hsz
  have hgb:g∈blk (.slice (some ⟨g,0,none⟩) σ.lives.length sc):=by simp[blk,Value.ownBlock]
  have hog:Hid (Own w0 L g):=⟨(hhi7 g (by simp[chL,hgb])).1,fun h=>(hhi7 g (by simp[chL,hgb])).2 (by simp[h])⟩
  have hgr:Hid (w3.heap.size≠g):=fun e=>(hhi7 g (by simp[chL,hgb])).2 (by simp[e])
  have hlenN:=Hd hlen
  clear hres hres2 hch7 hhi7 hk7 HW HXd HRd6 HId HKd hS0 hown7 hsz hlen
  go_wp2_with fail
  refine hK.out _ _ hS7 (fun hHeld=>?_)
  clear hK K
  try go_frame
  refine tc 15 hHeld ?_
  go_frame
  refine tc 16 hHeld ?_
  go_frame
  refine tc 17 hHeld ?_
  go_frame
  refine tc 18 hHeld ?_
  go_frame
  refine tc 19 hHeld ?_
  go_frame
  clear hHeld
  refine wpAnyH_done (by kernel_rfl) ?_ _
  obtain⟨C3,G2,-⟩:=hS7
  have F2:=own_free HO7.out (i*3+2)
  rcases Hres2.out with⟨rfl,hf⟩ | ⟨hfv,rfl,hx7⟩
  ·have hf2:=Hd hf
   clear hf C3 G2 F2 HR7 HO7 Hres2
   go_wp2_with fail
   go_ret
   refine⟨HK7.out,.inr ⟨fun hfit=>?_,rfl⟩⟩
   obtain⟨done,-,hd1,hd2,hd3⟩:=HBk.out.und
   unfold BackFits at hfit
   rw[hd1,above_app bd hd2,hreN.out,above_cons bd hgtN.out]at hfit
   have h1:=hf2.out
   unfold Full at h1
   have h2:=hszN.out
   omega
  have HX7:Hid (Cx w0 w7 L c lp p dp pg lb mb (nk+1) (.slice (some ⟨g,0,none⟩) σ.lives.length sc) {σk with recs:=σk.recs++[clrR x s2.2.2 R P],M:=putIms σk.M [(R.up,P)] (σk.fin:Int),B:=subB σk.B x 320 1,T:=(σk.T.1-320,σk.T.2-1),cnt:=σk.cnt+1}):=hx7.pop.pop
  obtain⟨fin,hfn⟩:∃f:Int,fv=f:=⟨_,rfl⟩
  rw[hfn]at hfv ⊢
  have HFN:Hid ((σk.fin:Int)=fin):=hfv.symm
  have hfin9:=Hd hx7.fin
  clear hfv hfn hx7 Hres2
  go_upto_region 24 with fail
  have hb9:BkSt x i bd lo l σ (σk.undone x i s2 R P) R.prev rest':=by
   have h9:=HBk.out
   rw[hreN.out]at h9
   exact h9.step hgtN.out hstN.out ⟨hs2N.out.1,hs2N.out.2.1⟩ hPeqN.out hszN.out (by
    have h1:=hfin9.out
    have h2:(⟨σk.bb,σk.P,σk.recs++[clrR x s2.2.2 R P],putIms σk.M [(R.up,P)] (σk.fin:Int),σk.lives,σk.fresh,subB σk.B x 320 1,(σk.T.1-320,σk.T.2-1),σk.cnt+1⟩:CS).fin=σk.fin+(2+(rcS (clrR x s2.2.2 R P)).size):=by
     unfold CS.fin CS.org CS.rs
     rw[List.map_append,lenL_append]
     simp only[List.map_cons,List.map_nil,lenL]
     omega
    rw[h2]at h1
    omega)
  have HB9:=Hd hb9
  have hun:Hid (σk.undone x i s2 R P={{σk with recs:=σk.recs++[clrR x s2.2.2 R P],M:=putIms σk.M [(R.up,P)] (σk.fin:Int),B:=subB σk.B x 320 1,T:=(σk.T.1-320,σk.T.2-1),cnt:=σk.cnt+1} with lives:=σk.lives.set i (s2.1,s2.2.1,fin)}):=by
   show _=_
   unfold CS.undone
   rw[HFN.out]
  clear hb9
  refine name_world (fun W=>Cx w0 W L c lp p dp pg lb mb (nk+1) (.slice (some ⟨g,0,none⟩) σ.lives.length sc) (σk.undone x i s2 R P)∧W.cell? ⟨w3.heap.size,2,none⟩=some (.int .i64 R.prev)∧Keeps (Own w0 L) w W) ⟨?_,?_,HK7.out.setCell _ _ (.inl hog.out)⟩ ?_
  ·rw[hun.out]
   refine HX7.out.setIn (l:=σk.lives.set i (s2.1,s2.2.1,fin)) ?_ ((Keeps.refl _ _).setCell _ _ (.inl hgb)) (by rw[List.length_set])
   have h2:=HO7.out.set (i*3+2) (.int .i64 fin)
   rw[lvV_set σk.lives i 2 s2 (s2.1,s2.2.1,fin) (.int .i64 fin) hs2N.out.1 (by decide) rfl]at h2
   rw[List.length_set,hlenN.out]
   exact h2
  ·rw[cell_at (hSO HR7.out hgr.out) 2]
   rw[←hsQN.out.2.2.1]
   rfl
  rintro W9 ⟨hx9,R9,hk9⟩
  have HX9:=Hd hx9
  have HK9:=Hd hk9
  have hmeas:Hid (R.prev.toNat<next.toNat):=by have:=hpN.out;show _<_;omega
  clear hx9 hk9 C3 G2 F2 HX7 HK7 HR7 HO7
  go_wp2_with fail
  go_roundw
  case rel=>exact⟨R.prev,σk.undone x i s2 R P,nk+1,rest',rfl,HX9,HB9,HK9⟩
  case measure=>simpa[intOf]using hmeas.out
end
end Go.Proofs.YtimomjheanfbmaaGreatDoor.G
