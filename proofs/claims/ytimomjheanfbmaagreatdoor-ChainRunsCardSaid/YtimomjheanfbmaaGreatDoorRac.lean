import Derived.Test.YtimomjheanfbmaaGreatDoorQaa
import Derived.Test.YtimomjheanfbmaaGreatDoorRab
import Derived.Test.YtimomjheanfbmaaGreatDoorRaa
import Derived.Test.YtimomjheanfbmaaGreatDoorQac
set_option linter.unusedSimpArgs false
set_option linter.unusedVariables false
namespace Go.Proofs.YtimomjheanfbmaaGreatDoor
open Go.RowKit
theorem EntSl.later {w w':World} {v:Value} {L:List (Int×ByteArray)} (h:EntSl w v L) (hb:Below w.heap.size w w'):EntSl w' v L:=by
 obtain⟨a,c,rfl,hc⟩:=h
 refine⟨a,c,rfl,fun hl=>?_⟩
 obtain⟨g,o,rfl,hg,hcell⟩:=hc hl
 exact⟨g,o,rfl,Nat.lt_of_lt_of_le hg hb.size,fun j u hj=>(cell_below hb hg).trans (hcell j u hj)⟩
theorem EntSl.at {w:World} {a:Option Addr} {n c:Nat} {L:List (Int×ByteArray)} (h:EntSl w (.slice a n c) L) (i:Nat) (hi:i<L.length):∃g o,a=some ⟨g,o,none⟩∧w.cell? ⟨g,o+i*2,none⟩=some (.int .i64 (L.getD i (0,⟨#[]⟩)).1)∧w.cell? ⟨g,o+i*2+1,none⟩=some (.string (L.getD i (0,⟨#[]⟩)).2):=by
 obtain⟨a',c',he,hc⟩:=h
 obtain⟨rfl,rfl,rfl⟩:a=a'∧n=L.length∧c=c':=by simpa using he
 obtain⟨g,o,rfl,hg,hcell⟩:=hc (by omega)
 have h2:=recV_get L i
 refine⟨g,o,rfl,?_,?_⟩
 ·rw[Nat.mul_comm]
  exact hcell _ _ (by rw[h2.1,List.getElem?_eq_getElem hi];simp[List.getD_eq_getElem?_getD,List.getElem?_eq_getElem hi])
 ·rw[Nat.mul_comm,Nat.add_assoc]
  exact hcell _ _ (by rw[h2.2,List.getElem?_eq_getElem hi];simp[List.getD_eq_getElem?_getD,List.getElem?_eq_getElem hi])
theorem EntSl.form {w:World} {v:Value} {L:List (Int×ByteArray)} (h:EntSl w v L):∃a c,v = .slice a L.length c:=by
 obtain⟨a,c,rfl,hc⟩:=h
 exact⟨a,c,rfl⟩
end Go.Proofs.YtimomjheanfbmaaGreatDoor
namespace Go.Proofs.YtimomjheanfbmaaGreatDoor
open Go.RowKit
end Go.Proofs.YtimomjheanfbmaaGreatDoor
namespace Go.Proofs.YtimomjheanfbmaaGreatDoor
open Go.RowKit
def encL:List ByteArray→ByteArray
 | []=>⟨#[]⟩
 | r::rs=>leS r.size 2++r++encL rs
def lenL:List ByteArray→Nat
 | []=>0
 | r::rs=>2+r.size+lenL rs
def plL (p:Int):List ByteArray→List (Int×ByteArray)
 | []=>[]
 | r::rs=>(p,r)::plL (p+(2+r.size)) rs
def RecOk (rs:List ByteArray):Prop:=∀r∈rs,0<r.size∧r.size≤65535
theorem encL_size:∀rs,(encL rs).size=lenL rs
 | []=>rfl
 | r::rs=>by rw[encL,lenL,ByteArray.size_append,ByteArray.size_append,leS_size,encL_size rs]
theorem lenL_append:∀a b,lenL (a++b)=lenL a+lenL b
 | [],b=>by simp[lenL]
 | r::rs,b=>by rw[List.cons_append,lenL,lenL,lenL_append rs b];omega
theorem encL_append:∀a b,encL (a++b)=encL a++encL b
 | [],b=>by rw[List.nil_append,encL,bytes_nil_left]
 | r::rs,b=>by rw[List.cons_append,encL,encL,encL_append rs b,bytes_assoc (leS r.size 2++r)]
theorem plL_append:∀p a b,plL p (a++b)=plL p a++plL (p+lenL a) b
 | p,[],b=>by simp[plL,lenL]
 | p,r::rs,b=>by
  rw[List.cons_append,plL,plL,plL_append _ rs b,lenL,List.cons_append]
  congr 3
  push_cast
  omega
theorem plL_length:∀p rs,(plL p rs).length=rs.length
 | p,[]=>rfl
 | p,r::rs=>by rw[plL,List.length_cons,List.length_cons,plL_length _ rs]
theorem lenL_pos {rs:List ByteArray}:lenL rs=0↔rs=[]:=by
 cases rs with
 | nil=>simp[lenL]
 | cons r rs=>simp[lenL]
theorem mid_extract (X Y Z:ByteArray):(X++Y++Z).extract X.size (X.size+Y.size)=Y:=by
 apply ByteArray.ext
 apply Array.toList_inj.1
 have h1:X.size=X.data.toList.length:=by simp
 have h2:Y.size=Y.data.toList.length:=by simp
 rw[ByteArray.data_extract,Array.toList_extract,h1,h2]
 simp[List.extract,ByteArray.data_append]
theorem cut_extract (B:ByteArray) (T a b:Nat) (hab:a≤b) (hb:b≤T) (hT:T≤B.size):(B.extract 0 T).extract a b=B.extract a b:=by
 have:=extract_extract B 0 T a b hab (by omega) hT
 simpa using this
end Go.Proofs.YtimomjheanfbmaaGreatDoor
namespace Go.Proofs.YtimomjheanfbmaaGreatDoor
open Go.RowKit
def AllP (P:Nat→ByteArray→Prop) (D:Dev):Prop:=(∀p,p<D.firm.length→P p (D.firm.getD p ⟨#[]⟩))∧(∀p,p<D.seen.length→P p (D.seen.getD p ⟨#[]⟩))∧∀x∈D.soft,P x.1.toNat x.2
theorem getD_set {α:Type} (l:List α) (i p:Nat) (x d:α) (hp:p<l.length):(l.set i x).getD p d=if i=p then x else l.getD p d:=by
 simp only[List.getD_eq_getElem?_getD,List.getElem?_set]
 by_cases h:i=p
 · subst h;simp[hp]
 · simp[h]
theorem AllP.mono {P Q:Nat→ByteArray→Prop} {D:Dev} (h:AllP P D) (hPQ:∀p d,P p d→Q p d):AllP Q D:=⟨fun p hp=>hPQ _ _ (h.1 p hp),fun p hp=>hPQ _ _ (h.2.1 p hp),fun x hx=>hPQ _ _ (h.2.2 x hx)⟩
def SameL (D D':Dev):Prop:=D'.firm=D.firm∧D'.seen=D.seen∧D'.soft=D.soft
theorem AllP.same {P:Nat→ByteArray→Prop} {D D':Dev} (h:AllP P D) (e:SameL D D'):AllP P D':=by
 obtain⟨e1,e2,e3⟩:=e
 unfold AllP
 rw[e1,e2,e3]
 exact h
theorem burn_down {D:Dev} (h:D.burn.2=false):D.burn.1.down=true:=by
 unfold Dev.burn at h ⊢
 split
 · rfl
 · rename_i h0;rw[if_neg h0]at h;cases h
theorem burn_alive {D:Dev} (h:¬D.burn.2=false):D.burn.1.down=D.down:=by
 unfold Dev.burn at h ⊢
 split
 · rename_i h0;rw[if_pos h0]at h;exact absurd rfl h
 · split <;> rfl
theorem write_cases (D:Dev) (s:Int) (d:ByteArray) (h0:0≤s) (h1:s<D.firm.length) (h2:d.size=64) :
  ((D.write s d).2=20∧SameL D (D.write s d).1∧(D.write s d).1.down=true) ∨
  (D.down=false∧(D.write s d).2=0∧(D.write s d).1.firm=D.firm∧(D.write s d).1.seen=D.seen.set s.toNat d∧(D.write s d).1.soft=D.soft++[(s,d)]∧(D.write s d).1.down=false):=by
 obtain⟨e1,e2,e3⟩:=burn_same D
 unfold Dev.write
 by_cases hd:D.down=true
 · rw[if_pos hd];exact .inl ⟨rfl,⟨rfl,rfl,rfl⟩,hd⟩
 ·rw[if_neg hd,if_neg (by omega)]
  by_cases hb:D.burn.2=false
  · rw[if_pos hb];exact .inl ⟨rfl,⟨e1,e2,e3⟩,burn_down hb⟩
  ·rw[if_neg hb]
   have hd':D.down=false:=by simpa using hd
   exact .inr ⟨hd',rfl,e1,by show D.burn.1.seen.set _ _=_;rw[e2],by show D.burn.1.soft++_=_;rw[e3],by show D.burn.1.down=_;rw[burn_alive hb,hd']⟩
theorem barrier_cases (D:Dev):(D.barrier.2=20∧SameL D D.barrier.1∧D.barrier.1.down=true)∨(D.down=false∧D.barrier.2=0∧D.barrier.1.firm=D.seen∧D.barrier.1.seen=D.seen∧D.barrier.1.soft=[]∧D.barrier.1.down=false):=by
 obtain⟨e1,e2,e3⟩:=burn_same D
 unfold Dev.barrier
 by_cases hd:D.down=true
 · rw[if_pos hd];exact .inl ⟨rfl,⟨rfl,rfl,rfl⟩,hd⟩
 ·rw[if_neg hd]
  by_cases hb:D.burn.2=false
  · rw[if_pos hb];exact .inl ⟨rfl,⟨e1,e2,e3⟩,burn_down hb⟩
  ·rw[if_neg hb]
   have hd':D.down=false:=by simpa using hd
   exact .inr ⟨hd',rfl,e2,e2,rfl,by show D.burn.1.down=_;rw[burn_alive hb,hd']⟩
theorem AllP.write {P:Nat→ByteArray→Prop} {D:Dev} (h:AllP P D) (s:Int) (d:ByteArray) (h0:0≤s) (h1:s<D.firm.length) (h2:d.size=64) (hl:D.seen.length=D.firm.length) (hP:P s.toNat d):AllP P (D.write s d).1:=by
 rcases write_cases D s d h0 h1 h2 with⟨_,hs,_⟩ | ⟨_,_,e1,e2,e3,_⟩
 · exact h.same hs
 ·unfold AllP
  rw[e1,e2,e3]
  refine⟨h.1,fun p hp=>?_,fun x hx=>?_⟩
  ·rw[List.length_set]at hp
   rw[getD_set _ _ _ _ _ hp]
   split
   · rename_i he;rw[←he];exact hP
   · exact h.2.1 p hp
  ·rw[List.mem_append,List.mem_singleton]at hx
   rcases hx with hx | rfl
   · exact h.2.2 x hx
   · exact hP
theorem AllP.barrier {P:Nat→ByteArray→Prop} {D:Dev} (h:AllP P D) (hl:D.seen.length=D.firm.length):AllP P D.barrier.1:=by
 rcases barrier_cases D with⟨_,hs,_⟩ | ⟨_,_,e1,e2,e3,_⟩
 · exact h.same hs
 ·unfold AllP
  rw[e1,e2,e3]
  exact⟨h.2.1,h.2.1,fun x hx=>by cases hx⟩
theorem write_len (D:Dev) (s:Int) (d:ByteArray):(D.write s d).1.firm.length=D.firm.length∧(D.write s d).1.seen.length=D.seen.length:=by
 obtain⟨e1,e2,e3⟩:=burn_same D
 unfold Dev.write
 split
 · exact⟨rfl,rfl⟩
 ·split
  · exact⟨rfl,rfl⟩
  ·split
   · rw[e1,e2];exact⟨rfl,rfl⟩
   · exact⟨by show D.burn.1.firm.length=_;rw[e1],by show (D.burn.1.seen.set _ _).length=_;rw[List.length_set,e2]⟩
def SecOk (bb:Nat) (B:ByteArray) (f j:Nat) (d:ByteArray):Prop :=
 (valS (d.extract 0 8)≤((bb+j:Nat):Int)∧f≤54*j)∨∃m,0<m∧m≤54∧54*j+m≤B.size∧d=secS ((bb+j:Nat):Int) (B.extract (54*j) (54*j+m))∧(f≤54*j+m∨m=54)
def RingP (first n bb:Nat) (B:ByteArray) (f:Nat) (p:Nat) (d:ByteArray):Prop:=d.size=64∧∀j,j<n→p=first+(bb+j)%n→SecOk bb B f j d
theorem SecOk.more {bb:Nat} {B B':ByteArray} {f j:Nat} {d:ByteArray} (h:SecOk bb B f j d) (hB:B'.extract 0 B.size=B) (hs:B.size≤B'.size):SecOk bb B' f j d:=by
 rcases h with h | ⟨m,h1,h2,h3,h4,h5⟩
 · exact .inl h
 ·refine .inr ⟨m,h1,h2,by omega,?_,h5⟩
  rw[h4,←hB,cut_extract _ _ _ _ (by omega) h3 hs]
theorem ring_inj {bb n i j:Nat} (hi:i<n) (hj:j<n) (h:(bb+i)%n=(bb+j)%n):i=j:=by
 have hn:0<n:=by omega
 have h1:=Nat.div_add_mod (bb+i) n
 have h2:=Nat.div_add_mod (bb+j) n
 rw[h]at h1
 rcases Nat.lt_trichotomy ((bb+i)/n) ((bb+j)/n) with hlt | heq | hgt
 ·have:n*((bb+i)/n)+n≤n*((bb+j)/n):=by
   have:=Nat.mul_le_mul_left n (show (bb+i)/n+1≤(bb+j)/n from hlt)
   rwa[Nat.mul_add,Nat.mul_one]at this
  omega
 · rw[heq]at h1;omega
 ·have:n*((bb+j)/n)+n≤n*((bb+i)/n):=by
   have:=Nat.mul_le_mul_left n (show (bb+j)/n+1≤(bb+i)/n from hgt)
   rwa[Nat.mul_add,Nat.mul_one]at this
  omega
theorem secS_tell (k:Nat) (s:ByteArray) (hk:k+1<256^8) (hs:s.size≤54):valS ((secS (k:Int) s).extract 0 8)=k+1∧valS ((secS (k:Int) s).extract 8 10)=s.size∧(secS (k:Int) s).extract 10 (10+s.size)=s:=by
 have e1:(secS (k:Int) s).extract 0 8=leS ((k:Int)+1) 8:=by
  unfold secS
  have:=mid_extract ⟨#[]⟩ (leS ((k:Int)+1) 8) (leS s.size 2++s++zeros (54-s.size))
  rw[bytes_nil_left,leS_size]at this
  simp only[bytes_assoc]at this ⊢
  exact this
 have e2:(secS (k:Int) s).extract 8 10=leS s.size 2:=by
  unfold secS
  have:=mid_extract (leS ((k:Int)+1) 8) (leS s.size 2) (s++zeros (54-s.size))
  rw[leS_size,leS_size]at this
  simp only[bytes_assoc]at this ⊢
  exact this
 have e3:(secS (k:Int) s).extract 10 (10+s.size)=s:=by
  unfold secS
  have:=mid_extract (leS ((k:Int)+1) 8++leS s.size 2) s (zeros (54-s.size))
  rw[ByteArray.size_append,leS_size,leS_size]at this
  exact this
 refine⟨?_,?_,e3⟩
 ·rw[e1]
  have:=valS_leS ((k:Int)+1) 8 (by omega) (by omega)
  exact this
 ·rw[e2]
  exact valS_leS _ _ (by omega) (by omega)
end Go.Proofs.YtimomjheanfbmaaGreatDoor
namespace Go.Proofs.YtimomjheanfbmaaGreatDoor
open Go.RowKit
def mkLg (first n bb:Nat) (P:ByteArray) (rs:List ByteArray) (i0:Nat):Lg :=
 {first:=first,n:=n,start:=((54*bb+P.size:Nat):Int),fin:=((54*bb+P.size+lenL rs:Nat):Int),firm:=((54*bb+P.size+lenL (rs.take i0):Nat):Int),base:=((54*bb:Nat):Int),buf:=P++encL rs,list:=plL ((54*bb+P.size:Nat):Int) rs}
def DevHas (D:Dev) (first n bb:Nat) (B:ByteArray) (f:Nat):Prop:=DevOk D∧first+n≤D.firm.length∧AllP (RingP first n bb B f) D
theorem place_lt {first n k:Nat} (hn:0<n):first+k%n<first+n:=by have:=Nat.mod_lt k hn;omega
theorem enc_cut (P:ByteArray) (rs:List ByteArray) (i:Nat):(P++encL rs).extract 0 (P.size+lenL (rs.take i))=P++encL (rs.take i):=by
 have h:P++encL rs=(P++encL (rs.take i))++encL (rs.drop i):=by
  rw[bytes_assoc,←encL_append,List.take_append_drop]
 rw[h]
 have:=bytes_left (P++encL (rs.take i)) (encL (rs.drop i))
 rw[ByteArray.size_append,encL_size]at this
 exact this
end Go.Proofs.YtimomjheanfbmaaGreatDoor
namespace Go.Proofs.YtimomjheanfbmaaGreatDoor
open Go.RowKit
theorem zeros_num:valS ((zeros 64).extract 0 8)=0:=by kernel_rfl
theorem SecOk.blank {bb:Nat} {B:ByteArray} {f j:Nat} (h:f≤54*j):SecOk bb B f j (zeros 64) := .inl ⟨by rw[zeros_num];omega,h⟩
theorem secAt_eq {G:Lg} {bb j:Nat} (hb:G.base=((54*bb:Nat):Int)) (hj:54*j<G.buf.size):G.secAt (bb+j)=secS ((bb+j:Nat):Int) (G.buf.extract (54*j) (54*j+min 54 (G.buf.size-54*j))):=by
 unfold Lg.secAt
 rw[hb,Int.toNat_natCast,show 54*(bb+j)-54*bb=54*j by omega,show min (54*j+54) G.buf.size=54*j+min 54 (G.buf.size-54*j) by omega]
theorem SecOk.now {bb j f:Nat} {B:ByteArray} (hj:54*j<B.size) (hf:f≤B.size):SecOk bb B f j (secS ((bb+j:Nat):Int) (B.extract (54*j) (54*j+min 54 (B.size-54*j)))) :=
 .inr ⟨min 54 (B.size-54*j),by omega,by omega,by omega,rfl,by omega⟩
theorem sec_size {k:Nat} {B:ByteArray} {j:Nat} (hj:54*j<B.size):(secS (k:Int) (B.extract (54*j) (54*j+min 54 (B.size-54*j)))).size=64:=secS_size _ _ (by rw[ByteArray.size_extract];omega)
theorem RingP.at {first n bb:Nat} {B:ByteArray} {f j:Nat} {d:ByteArray} (hj:j<n) (hs:d.size=64) (h:SecOk bb B f j d):RingP first n bb B f (first+(bb+j)%n) d:=⟨hs,fun i hi he=>by
 have:=ring_inj hi hj (show (bb+i)%n=(bb+j)%n by omega)
 subst this
 exact h⟩
theorem fl_law {D:Dev} {G:Lg} {first n bb f j0 cnt:Nat} (hG1:G.first=first) (hG2:G.n=n) (hb:G.base=((54*bb:Nat):Int)) (hn:0<n) (hB:G.buf.size≤54*n) (hf:f≤G.buf.size) (h:DevHas D first n bb G.buf f) (hcnt:∀k,k<cnt→54*(j0+k)<G.buf.size) :
  ∀k,k≤cnt→DevHas (G.fl D (bb+j0) k).1 first n bb G.buf f∧(G.fl D (bb+j0) k).1.firm.length=D.firm.length∧(((G.fl D (bb+j0) k).2=20∧(G.fl D (bb+j0) k).1.down=true)∨((G.fl D (bb+j0) k).2=0∧(D.down=false→(G.fl D (bb+j0) k).1.down=false) ∧
   ∀j,j<n→(G.fl D (bb+j0) k).1.seen.getD (first+(bb+j)%n) ⟨#[]⟩=if j0≤j∧j<j0+k then secS ((bb+j:Nat):Int) (G.buf.extract (54*j) (54*j+min 54 (G.buf.size-54*j))) else D.seen.getD (first+(bb+j)%n) ⟨#[]⟩))
 | 0,_=>⟨h,rfl,.inr ⟨rfl,fun h=>h,fun j hj=>by rw[if_neg (by omega)];rfl⟩⟩
 | k+1,hk=>by
  obtain⟨ih1,ih2,ih3⟩:=fl_law hG1 hG2 hb hn hB hf h hcnt k (by omega)
  rcases ih3 with⟨he,hd⟩ | ⟨he,hd,hs⟩
  ·have:G.fl D (bb+j0) (k+1)=G.fl D (bb+j0) k:=fl_stop (by rw[he];decide) (k+1) (by omega)
   rw[this]
   exact⟨ih1,ih2,.inl ⟨he,hd⟩⟩
  ·have hj:=hcnt k (by omega)
   have hjn:j0+k<n:=by omega
   have hstep:G.fl D (bb+j0) (k+1)=(G.fl D (bb+j0) k).1.write ((first+(bb+(j0+k))%n:Nat):Int) (secS ((bb+(j0+k):Nat):Int) (G.buf.extract (54*(j0+k)) (54*(j0+k)+min 54 (G.buf.size-54*(j0+k))))):=by
    rw[Lg.fl,if_neg (by rw[he];decide),show bb+j0+k=bb+(j0+k) by omega,secAt_eq hb hj,hG1,hG2]
    congr 1
   rw[hstep]
   generalize hE:G.fl D (bb+j0) k=E at *
   obtain⟨hok,hl,hA⟩:=ih1
   have hp:=place_lt (first:=first) (k:=bb+(j0+k)) hn
   have hsz:=sec_size (k:=bb+(j0+k)) hj
   have hSO:=SecOk.now (bb:=bb) (f:=f) hj hf
   generalize hX:secS ((bb+(j0+k):Nat):Int) (G.buf.extract (54*(j0+k)) (54*(j0+k)+min 54 (G.buf.size-54*(j0+k))))=X at *
   have hlen:=write_len E.1 ((first+(bb+(j0+k))%n:Nat):Int) X
   have hA':=hA.write ((first+(bb+(j0+k))%n:Nat):Int) X (by omega) (by omega) hsz hok.2.2.1 (by rw[Int.toNat_natCast];exact RingP.at hjn hsz hSO)
   refine⟨⟨Dev.write_ok hok _ _,by rw[hlen.1];exact hl,hA'⟩,by rw[hlen.1,ih2],?_⟩
   rcases write_cases E.1 ((first+(bb+(j0+k))%n:Nat):Int) X (by omega) (by omega) hsz with⟨c1,_,c2⟩ | ⟨c0,c1,_,c3,_,c4⟩
   · exact .inl ⟨c1,c2⟩
   ·refine .inr ⟨c1,fun _=>c4,fun j hj'=>?_⟩
    rw[c3,Int.toNat_natCast,getD_set _ _ _ _ _ (by have:=place_lt (first:=first) (k:=bb+j) hn;have:=hok.2.2.1;omega),hs j hj']
    by_cases hjj:j=j0+k
    ·subst hjj
     rw[if_pos rfl,if_pos (by omega)]
     exact hX.symm
    ·rw[if_neg (fun he=>hjj (ring_inj hj' hjn (show (bb+j)%n=(bb+(j0+k))%n by omega)))]
     by_cases hr:j0≤j∧j<j0+k
     · rw[if_pos hr,if_pos (by omega)]
     · rw[if_neg hr,if_neg (by omega)]
theorem flush_law {D:Dev} {G:Lg} {first n bb f j0 cnt:Nat} (hG1:G.first=first) (hG2:G.n=n) (hb:G.base=((54*bb:Nat):Int)) (hn:0<n) (hB:G.buf.size≤54*n) (hf:f≤G.buf.size) (hj0:j0=f/54) (h:DevHas D first n bb G.buf f) (hcnt:∀k,k<cnt↔54*(j0+k)<G.buf.size) :
  DevHas (G.flushed D (bb+j0) cnt).2.1 first n bb G.buf f∧(((G.flushed D (bb+j0) cnt).2.2=20∧(G.flushed D (bb+j0) cnt).1=G∧(G.flushed D (bb+j0) cnt).2.1.down=true)∨((G.flushed D (bb+j0) cnt).2.2=0∧(G.flushed D (bb+j0) cnt).1={G with firm:=G.fin}∧(D.down=false→(G.flushed D (bb+j0) cnt).2.1.down=false)∧(G.flushed D (bb+j0) cnt).2.1.soft=[]∧DevHas (G.flushed D (bb+j0) cnt).2.1 first n bb G.buf G.buf.size)):=by
 obtain⟨h1,h2,h3⟩:=fl_law hG1 hG2 hb hn hB hf h (fun k hk=>(hcnt k).1 hk) cnt (Nat.le_refl _)
 unfold Lg.flushed
 rcases h3 with⟨he,hd⟩ | ⟨he,hd,hs⟩
 ·rw[if_pos (by rw[he];decide)]
  exact⟨h1,.inl ⟨he,rfl,hd⟩⟩
 ·rw[if_neg (by rw[he];decide)]
  generalize hE:G.fl D (bb+j0) cnt=E at *
  obtain⟨hok,hl,hA⟩:=h1
  rcases barrier_cases E.1 with⟨c1,c2,c3⟩ | ⟨c0,c1,c2,c3,c4,c5⟩
  ·rw[if_pos (by rw[c1];decide)]
   exact⟨⟨Dev.barrier_ok hok,by rw[c2.1];exact hl,hA.same c2⟩,.inl ⟨c1,rfl,c3⟩⟩
  ·rw[if_neg (by rw[c1];decide)]
   refine⟨⟨Dev.barrier_ok hok,?_,hA.barrier hok.2.2.1⟩,.inr ⟨rfl,rfl,fun _=>c5,c4,Dev.barrier_ok hok,?_,?_⟩⟩
   · show _≤E.1.barrier.1.firm.length;rw[c2];have:=hok.2.2.1;omega
   · show _≤E.1.barrier.1.firm.length;rw[c2];have:=hok.2.2.1;omega
   ·have hseen:∀p,p<E.1.seen.length→RingP first n bb G.buf G.buf.size p (E.1.seen.getD p ⟨#[]⟩):=fun p hp=>by
     have hold:=hA.2.1 p hp
     refine⟨hold.1,fun j hj hpj=>?_⟩
     subst hpj
     rw[hs j hj]
     by_cases hr:j0≤j∧j<j0+cnt
     ·rw[if_pos hr]
      refine SecOk.now ?_ (Nat.le_refl _)
      have:=(hcnt (j-j0)).1 (by omega)
      rwa[show j0+(j-j0)=j by omega]at this
     ·rw[if_neg hr]
      have hO:=hold.2 j hj rfl
      rw[hs j hj,if_neg hr]at hO
      by_cases hjl:j<j0
      ·rcases hO with⟨_,h2⟩ | ⟨m,m1,m2,m3,m4,m5⟩
       · omega
       · exact .inr ⟨m,m1,m2,m3,m4,by omega⟩
      ·have hge:G.buf.size≤54*j:=by
        have h5:¬(j-j0<cnt):=by omega
        have:=mt (hcnt (j-j0)).2 h5
        rw[show j0+(j-j0)=j by omega]at this
        omega
       rcases hO with⟨h1,_⟩ | ⟨m,m1,m2,m3,m4,m5⟩
       · exact .inl ⟨h1,hge⟩
       · omega
    show AllP _ E.1.barrier.1
    unfold AllP
    rw[c2,c3,c4]
    exact⟨hseen,hseen,fun x hx=>by cases hx⟩
end Go.Proofs.YtimomjheanfbmaaGreatDoor
namespace Go.Proofs.YtimomjheanfbmaaGreatDoor
open Go.RowKit
end Go.Proofs.YtimomjheanfbmaaGreatDoor
namespace Go.Proofs.YtimomjheanfbmaaGreatDoor
open Go.RowKit
def SoftOk (D:Dev):Prop:=D.soft.length≤4000000000000∨(D.down=true∧D.soft.length≤4000000005000)
theorem SoftOk.none {D:Dev} (h:D.soft=[]):SoftOk D := .inl (by rw[h];simp)
structure Ws (w:World) (p dp first n bb:Nat) (P:ByteArray) (rs:List ByteArray) (i0:Nat) (S Sd:List Nat) (D:Dev):Prop where
 log:LogAt w p dp (mkLg first n bb P rs i0) S
 dsk:DiskAt w dp D Sd
 has:DevHas D first n bb (P++encL rs) (P.size+lenL (rs.take i0))
 dis:∀k∈S,k∉Sd
 rok:RecOk rs
 le:i0≤rs.length
 pre:P.size<54
 bbs:bb≤10000000000000000
 soft:SoftOk D
theorem SoftOk.len {D:Dev} (h:SoftOk D):D.soft.length≤4000000005000:=by
 rcases h with h | h
 · omega
 · exact h.2
theorem Ws.later {w w':World} {p dp first n bb:Nat} {P:ByteArray} {rs:List ByteArray} {i0:Nat} {S Sd:List Nat} {D:Dev} (h:Ws w p dp first n bb P rs i0 S Sd D) (hb:Below w.heap.size w w'):Ws w' p dp first n bb P rs i0 S Sd D :=
 ⟨h.log.later hb,h.dsk.later hb,h.has,h.dis,h.rok,h.le,h.pre,h.bbs,h.soft⟩
theorem lenL_take_le (rs:List ByteArray) (i:Nat):lenL (rs.take i)≤lenL rs:=by
 have:=lenL_append (rs.take i) (rs.drop i)
 rw[List.take_append_drop]at this
 omega
theorem mkLg_push {first n bb:Nat} {P:ByteArray} {rs:List ByteArray} {i0:Nat} (h:i0≤rs.length) (r:ByteArray):(mkLg first n bb P rs i0).push r=mkLg first n bb P (rs++[r]) i0:=by
 have e1:encL (rs++[r])=encL rs++leS r.size 2++r:=by rw[encL_append,encL,encL,bytes_nil_right,bytes_assoc]
 have e2:lenL (rs++[r])=lenL rs+(2+r.size):=by rw[lenL_append,lenL,lenL];omega
 have e3:plL ((54*bb+P.size:Nat):Int) (rs++[r])=plL ((54*bb+P.size:Nat):Int) rs++[(((54*bb+P.size+lenL rs:Nat):Int),r)]:=by
  rw[plL_append,plL,plL]
  push_cast
  rfl
 unfold Lg.push mkLg
 rw[e1,e2,e3,List.take_append_of_le_length h]
 simp only[bytes_assoc,Lg.mk.injEq,true_and,and_true]
 push_cast
 omega
theorem Ws.len {w:World} {p dp first n bb:Nat} {P:ByteArray} {rs:List ByteArray} {i0:Nat} {S Sd:List Nat} {D:Dev} (h:Ws w p dp first n bb P rs i0 S Sd D):128≤n∧n≤4096∧P.size+lenL rs≤54*n:=by
 obtain⟨a1,a2,a3,a4,a5,a6,a7,a8,-⟩:=h.log.1
 have h8:((54*bb+P.size+lenL rs:Nat):Int)-((54*bb:Nat):Int)≤(n:Int)*54:=a8
 have h1:(128:Int)≤n:=a1
 have h2:(n:Int)≤4096:=a2
 refine⟨by omega,by omega,?_⟩
 push_cast at h8
 omega
theorem DevHas.grow {D:Dev} {first n bb:Nat} {P:ByteArray} {rs:List ByteArray} {i0:Nat} (h:DevHas D first n bb (P++encL rs) (P.size+lenL (rs.take i0))) (hi:i0≤rs.length) (r:ByteArray):DevHas D first n bb (P++encL (rs++[r])) (P.size+lenL ((rs++[r]).take i0)):=by
 rw[List.take_append_of_le_length hi]
 refine⟨h.1,h.2.1,h.2.2.mono (fun p d hp=>⟨hp.1,fun j hj he=>(hp.2 j hj he).more ?_ ?_⟩)⟩
 ·have:=enc_cut P (rs++[r]) rs.length
  rw[List.take_left']at this
  · rw[ByteArray.size_append,encL_size];exact this
  · rfl
 · rw[ByteArray.size_append,ByteArray.size_append,encL_size,encL_size,lenL_append];omega
theorem take_all_of {rs:List ByteArray} {i:Nat} (hr:RecOk rs) (hi:i≤rs.length) (h:lenL (rs.take i)=lenL rs):i=rs.length:=by
 have h2:=lenL_append (rs.take i) (rs.drop i)
 rw[List.take_append_drop]at h2
 have h3:=lenL_pos.1 (show lenL (rs.drop i)=0 by omega)
 have:=List.drop_eq_nil_iff.1 h3
 omega
theorem fl_down {G:Lg} {D:Dev} {b k:Nat} (h:D.down=true):(G.fl D b k).1=D:=by
 induction k with
 | zero=>rfl
 | succ k ih =>
  rw[Lg.fl]
  split
  · exact ih
  · rw[ih];unfold Dev.write;rw[if_pos h]
theorem barrier_up {D:Dev} (h:D.up):D.barrier.1.up:=by rw[up_barrier h];exact h
theorem barrier_soft (D:Dev):D.barrier.1.soft.length≤D.soft.length:=by
 rcases barrier_cases D with⟨_,h,_⟩ | ⟨_,_,_,_,h,_⟩
 · rw[h.2.2];exact Nat.le_refl _
 · rw[h];simp
theorem flushed_soft {G:Lg} {D:Dev} {b k:Nat} (hk:k≤4097) (h:SoftOk D) (he:(G.flushed D b k).2.1.down=true∨(G.flushed D b k).2.1.soft=[]):SoftOk (G.flushed D b k).2.1:=by
 rcases he with he | he
 ·refine .inr ⟨he,?_⟩
  rcases h with h | ⟨hd,hl⟩
  ·have h1:=fl_soft (G:=G) (D:=D) (i:=b) k
   have h2:=barrier_soft (G.fl D b k).1
   unfold Lg.flushed
   repeat' split
   all_goals (dsimp only;omega)
  ·have h1:=fl_down (G:=G) (b:=b) (k:=k) hd
   have h2:=barrier_soft D
   unfold Lg.flushed
   rw[h1]
   repeat' split
   all_goals (dsimp only;omega)
 · exact SoftOk.none he
end Go.Proofs.YtimomjheanfbmaaGreatDoor
namespace Go.Proofs.YtimomjheanfbmaaGreatDoor
open Go.RowKit
end Go.Proofs.YtimomjheanfbmaaGreatDoor
namespace Go.Proofs.YtimomjheanfbmaaGreatDoor
open Go.RowKit
def P0:ByteArray:=⟨#[]⟩
theorem lenL_len:∀{rs:List ByteArray},RecOk rs→rs.length*3≤lenL rs
 | [],_=>by simp[lenL]
 | r::rs,h=>by
  have h1:=lenL_len (rs:=rs) (fun x hx=>h x (List.mem_cons_of_mem _ hx))
  have h2:=(h r List.mem_cons_self).1
  rw[lenL,List.length_cons];omega
section
variable {w0 w w':World} {p dp first:Nat} {rs:List ByteArray} {i0:Nat} {S Sd:List Nat} {D:Dev} {av:Value} {L:List (Int×ByteArray)}
end
theorem new_has (N first:Nat) (h0:first+128≤N) (hN:N≤16384):DevHas (Dev.new N) first 128 1 (P0++encL []) (P0.size+lenL (([]:List ByteArray).take 0)):=by
 have hz:RingP first 128 1 (P0++encL []) (P0.size+lenL (([]:List ByteArray).take 0))=fun p d=>RingP first 128 1 (P0++encL []) 0 p d:=rfl
 have hb:∀p,RingP first 128 1 (P0++encL []) 0 p (zeros 64):=fun p=>⟨zeros_size 64,fun j _ _=>SecOk.blank (Nat.zero_le _)⟩
 have hg:∀p,p<N→(List.replicate N (zeros 64)).getD p ⟨#[]⟩=zeros 64:=fun p hp=>by
  rw[List.getD_eq_getElem?_getD,List.getElem?_replicate,if_pos hp];rfl
 refine⟨Dev.new_ok N (by omega) hN,by show _≤(List.replicate N (zeros 64)).length;rw[List.length_replicate];exact h0,fun p hp=>?_,fun p hp=>?_,fun x hx=>by simp[Dev.new]at hx⟩
 ·have hp':p<N:=by have:(Dev.new N).firm.length=N:=List.length_replicate;omega
  show RingP _ _ _ _ _ p ((List.replicate N (zeros 64)).getD p ⟨#[]⟩)
  rw[hg p hp']
  exact hb p
 ·have hp':p<N:=by have:(Dev.new N).seen.length=N:=List.length_replicate;omega
  show RingP _ _ _ _ _ p ((List.replicate N (zeros 64)).getD p ⟨#[]⟩)
  rw[hg p hp']
  exact hb p
end Go.Proofs.YtimomjheanfbmaaGreatDoor
namespace Go.Proofs.YtimomjheanfbmaaGreatDoor
open Go.RowKit
structure Slot where
 id:Int
 P:Pg
 st:Int
 dirty:Bool
 warm:Bool
def slC (s:Slot):List Value := .int .i64 s.id::((pgC s.P).toList++[.int .i64 s.st,.bool s.dirty,.bool s.warm])
def slV:List Slot→List Value
 | []=>[]
 | s::l=>slC s++slV l
def slBlank:Slot:={id := -1,P:=pageZ,st:=0,dirty:=false,warm:=false}
theorem slC_length (s:Slot):(slC s).length=20:=rfl
theorem slV_length:∀l:List Slot,(slV l).length=l.length*20
 | []=>rfl
 | s::l=>by rw[slV,List.length_append,slC_length,slV_length l,List.length_cons];omega
theorem slV_append:∀l m:List Slot,slV (l++m)=slV l++slV m
 | [],m=>rfl
 | s::l,m=>by rw[List.cons_append,slV,slV,slV_append l m,List.append_assoc]
theorem slV_get:∀(l:List Slot) (i j:Nat),j<20→(slV l)[20*i+j]? = (l[i]?).bind (fun s=>(slC s)[j]?)
 | [],i,j,hj=>by simp[slV]
 | s::l,0,j,hj=>by
  rw[slV,List.getElem?_append_left (by rw[slC_length];omega)]
  simp
 | s::l,i+1,j,hj=>by
  rw[slV,List.getElem?_append_right (by rw[slC_length];omega),slC_length,show 20*(i+1)+j-20=20*i+j by omega,slV_get l i j hj]
  simp
theorem slV_set:∀(l:List Slot) (i j:Nat) (s s':Slot) (u:Value),l[i]? = some s→j<20→(slC s).set j u=slC s'→(slV l).set (20*i+j) u=slV (l.set i s')
 | [],i,j,s,s',u,h,_,_=>by simp at h
 | x::l,0,j,s,s',u,h,hj,he=>by
  simp only[List.getElem?_cons_zero,Option.some.injEq]at h
  subst h
  rw[slV,List.set_append_left _ _ (by rw[slC_length];omega),show 20*0+j=j by omega,he]
  rfl
 | x::l,i+1,j,s,s',u,h,hj,he=>by
  rw[slV,List.set_append_right _ _ (by rw[slC_length];omega),slC_length,show 20*(i+1)+j-20=20*i+j by omega,slV_set l i j s s' u (by simpa using h) hj he]
  rfl
def setL:List Value→Nat→List Value→List Value
 | xs,_,[]=>xs
 | xs,o,v::vs=>setL (xs.set o v) (o+1) vs
theorem setL_eq:∀(vs A B C:List Value),B.length=vs.length→setL (A++(B++C)) A.length vs=A++(vs++C)
 | [],A,B,C,h=>by
  have:B=[]:=List.eq_nil_of_length_eq_zero h
  subst this
  rfl
 | v::vs,A,[],C,h=>by simp at h
 | v::vs,A,b::B,C,h=>by
  have e:(A++(b::B++C)).set A.length v=(A++[v])++(B++C):=by
   rw[List.set_append_right _ _ (Nat.le_refl _),Nat.sub_self]
   simp
  have e2:A.length+1=(A++[v]).length:=by simp
  rw[setL,e,e2,setL_eq vs (A++[v]) B C (by simpa using h)]
  simp
theorem slV_put (l:List Slot) (i:Nat) (s:Slot) (hi:i<l.length):setL (slV l) (20*i) (slC s)=slV (l.set i s):=by
 have e1:l=l.take i++(l[i]::l.drop (i+1)):=by
  rw[←List.drop_eq_getElem_cons hi,List.take_append_drop]
 have e2:l.set i s=l.take i++(s::l.drop (i+1)):=by
  rw[List.set_eq_take_append_cons_drop,if_pos hi]
 have hl:(slV (l.take i)).length=20*i:=by rw[slV_length,List.length_take];omega
 rw[e2,slV_append,slV]
 conv=>lhs;rw[e1,slV_append,slV,←hl]
 exact setL_eq (slC s) (slV (l.take i)) (slC l[i]) (slV (l.drop (i+1))) (by rw[slC_length,slC_length])
theorem OwnS.cells {w:World} {e:TypeId} {size g n c:Nat} {xs:List Value} (h:OwnS w e size (.slice (some ⟨g,0,none⟩) n c) n xs):∀(vs:List Value) (o:Nat),
  OwnS (w.setCells g o vs) e size (.slice (some ⟨g,0,none⟩) n c) n (setL xs o vs):=by
 intro vs
 induction vs generalizing w xs with
 | nil=>exact fun o=>h
 | cons v vs ih=>exact fun o=>ih (h.set o v) (o+1)
theorem Keeps.setCells {S:Nat→Prop} {a:World} {b:Nat} (hb:S b∨a.heap.size≤b):∀(vs:List Value) (o:Nat) {w:World},Keeps S a w→Keeps S a (w.setCells b o vs)
 | [],o,w,h=>h
 | v::vs,o,w,h=>Keeps.setCells hb vs (o+1) (h.setCell ⟨b,o,none⟩ v hb)
structure Pl where
 base:Nat
 pages:Nat
 room:Nat
 slots:List Slot
 hand:Nat
def plC (dp lp:Nat) (X:Pl) (sv:Value):Array Value := #[.pointer (some ⟨dp,0,none⟩),.pointer (some ⟨lp,0,none⟩),.int .i64 X.base,.int .i64 X.pages,.int .i64 X.room,sv,.int .i64 X.hand]
def SlOk (pages:Nat) (s:Slot):Prop:=0≤s.id∧s.id<pages∧PgOk s.P∧0≤s.st∧s.st≤1152921504606846976
def PlOk (X:Pl):Prop:=X.base≤16384∧1≤X.pages∧X.pages≤1024∧4≤X.room∧X.room≤256∧X.slots.length≤X.room∧X.hand<X.room∧∀s∈X.slots,s.dirty=true→SlOk X.pages s
def PoolAt (w:World) (p dp lp:Nat) (X:Pl) (sv:Value) (S:List Nat):Prop:=PlOk X∧w.heap[p]? = some (.cells (plC dp lp X sv) 161 (0,0))∧OwnS w 166 20 sv X.slots.length (slV X.slots)∧S=p::blk sv∧S.Nodup
theorem PoolAt.keep {R:Nat→Prop} {w w':World} {p dp lp:Nat} {X:Pl} {sv:Value} {S:List Nat} (h:PoolAt w p dp lp X sv S) (hk:Keeps R w w') (hS:∀k∈S,¬R k):PoolAt w' p dp lp X sv S:=by
 obtain⟨hok,h1,h2,rfl,h6⟩:=h
 exact⟨hok,hk.keep h1 (hS _ (by simp)),h2.keep hk (fun k hkk=>hS k (by simp[hkk])),rfl,h6⟩
theorem PoolAt.later {w w':World} {p dp lp:Nat} {X:Pl} {sv:Value} {S:List Nat} (h:PoolAt w p dp lp X sv S) (hb:Below w.heap.size w w'):PoolAt w' p dp lp X sv S:=h.keep (Keeps.of_below (fun _=>False) hb) (fun _ _=>id)
theorem PoolAt.lt {w:World} {p dp lp:Nat} {X:Pl} {sv:Value} {S:List Nat} (h:PoolAt w p dp lp X sv S):∀k∈S,k<w.heap.size:=by
 obtain⟨hok,h1,h2,rfl,h6⟩:=h
 intro k hk
 simp only[List.mem_cons]at hk
 rcases hk with rfl | hk
 · exact block_lt h1
 · exact h2.lt hk
end Go.Proofs.YtimomjheanfbmaaGreatDoor
namespace Go.Proofs.YtimomjheanfbmaaGreatDoor
open Go.RowKit
def Dev.wr (D:Dev) (b:Nat) (P:Pg) (st:Int):Nat→Dev×Int
 | 0=>(D,0)
 | i+1=>if (D.wr b P st i).2≠0 then D.wr b P st i else (D.wr b P st i).1.write ((b+i:Nat):Int) (sec (pageS P) st i)
theorem page_sec_size {s:ByteArray} (hs:s.size=224) (st:Int) {i:Nat} (hi:i<4):(sec s st i).size=64:=by
 unfold sec
 rw[ByteArray.size_append,ByteArray.size_extract,leS_size,hs];omega
theorem wr_next {D:Dev} {b:Nat} {P:Pg} {st:Int} {i:Nat} (h:(D.wr b P st i).2=0):D.wr b P st (i+1)=(D.wr b P st i).1.write ((b+i:Nat):Int) (sec (pageS P) st i):=by
 rw[Dev.wr,if_neg (by rw[h];decide)]
theorem wr_stuck {D:Dev} {b:Nat} {P:Pg} {st:Int} {i:Nat} (h:(D.wr b P st i).2≠0):D.wr b P st (i+1)=D.wr b P st i:=by
 rw[Dev.wr,if_pos h]
structure WrLaw (D:Dev) (b:Nat) (P:Pg) (st:Int) (k:Nat) (D':Dev) (c:Int):Prop where
 ok:DevOk D'
 len:D'.firm.length=D.firm.length
 code:(c=20∧D'.down=true)∨(c=0∧(0<k→D'.down=false∧D.down=false)∧(k=0→D'=D))
 on:c=0→∀p,p<D.firm.length→D'.seen.getD p ⟨#[]⟩=if b≤p∧p<b+k then sec (pageS P) st (p-b) else D.seen.getD p ⟨#[]⟩
 all:∀Q:Nat→ByteArray→Prop,AllP Q D→(∀j,j<k→Q (b+j) (sec (pageS P) st j))→AllP Q D'
 soft:D'.soft.length≤D.soft.length+k
 up:D.up→D'.up∧c=0
 dead:D.down=true→D'=D
theorem wr_law {D:Dev} {b:Nat} {P:Pg} (st:Int) (hok:DevOk D) (hP:PgOk P):∀k,k≤4→b+k≤D.firm.length→WrLaw D b P st k (D.wr b P st k).1 (D.wr b P st k).2
 | 0,_,_=>⟨hok,rfl,.inr ⟨rfl,fun h=>absurd h (by omega),fun _=>rfl⟩,fun _ p hp=>by rw[if_neg (by omega)];rfl,fun Q h _=>h,Nat.le_refl _,fun h=>⟨h,rfl⟩,fun _=>rfl⟩
 | k+1,hk,hb=>by
  have ih:=wr_law (D:=D) (b:=b) (P:=P) st hok hP k (by omega) (by omega)
  have hsz:=page_sec_size (pageS_size hP) st (show k<4 by omega)
  generalize hE:D.wr b P st k=E at ih
  obtain⟨E,c⟩:=E
  dsimp only at ih
  rcases ih.code with⟨hc,hdn⟩ | ⟨hc,hdn,hz⟩
  ·rw[wr_stuck (by rw[hE];show c≠0;omega),hE]
   exact⟨ih.ok,ih.len,.inl ⟨hc,hdn⟩,fun h=>absurd (show (20:Int)=0 from hc ▸ h) (by decide),fun Q h1 h2=>ih.all Q h1 (fun j hj=>h2 j (by omega)),by have:=ih.soft;show E.soft.length≤_;omega,fun h=>absurd ((ih.up h).2) (by omega),ih.dead⟩
  ·subst hc
   rw[wr_next (by rw[hE]),hE]
   have hlt:((b+k:Nat):Int)<E.firm.length:=by rw[ih.len];omega
   have hl:=write_len E ((b+k:Nat):Int) (sec (pageS P) st k)
   have hok':=Dev.write_ok ih.ok ((b+k:Nat):Int) (sec (pageS P) st k)
   have hall:∀Q:Nat→ByteArray→Prop,AllP Q D→(∀j,j<k+1→Q (b+j) (sec (pageS P) st j))→AllP Q (E.write ((b+k:Nat):Int) (sec (pageS P) st k)).1:=fun Q h1 h2 =>
    (ih.all Q h1 (fun j hj=>h2 j (by omega))).write _ _ (by omega) hlt hsz ih.ok.2.2.1 (by rw[Int.toNat_natCast];exact h2 k (by omega))
   have hdead:D.down=true→(E.write ((b+k:Nat):Int) (sec (pageS P) st k)).1=D:=fun h=>by
    rw[ih.dead h];unfold Dev.write;rw[if_pos h]
   have hup:D.up→(E.write ((b+k:Nat):Int) (sec (pageS P) st k)).1.up∧(E.write ((b+k:Nat):Int) (sec (pageS P) st k)).2=0:=fun h=>by
    have h1:=up_write_up (ih.up h).1 ((b+k:Nat):Int) (sec (pageS P) st k)
    exact⟨h1.1,by
     rcases write_cases E ((b+k:Nat):Int) (sec (pageS P) st k) (by omega) hlt hsz with⟨_,_,hd⟩ | ⟨_,hc,_⟩
     · exact absurd hd (by rw[h1.1.2];decide)
     · exact hc⟩
   rcases write_cases E ((b+k:Nat):Int) (sec (pageS P) st k) (by omega) hlt hsz with⟨c1,c2,c3⟩ | ⟨c0,c1,c2,c3,c4,c5⟩
   · exact⟨hok',by rw[hl.1,ih.len],.inl ⟨c1,c3⟩,fun h=>absurd (show (20:Int)=0 from c1 ▸ h) (by decide),hall,by rw[c2.2.2];have:=ih.soft;omega,hup,hdead⟩
   ·refine⟨hok',by rw[hl.1,ih.len],.inr ⟨c1,fun _=>⟨c5,?_⟩,fun h=>by omega⟩,fun _ p hp=>?_,hall,by rw[c4,List.length_append];have:=ih.soft;simp only[List.length_singleton];omega,hup,hdead⟩
    ·cases hD:D.down with
     | false=>rfl
     | true=>rw[←ih.dead hD,c0]at hD;cases hD
    ·rw[c3,Int.toNat_natCast,getD_set _ _ _ _ _ (by rw[ih.ok.2.2.1,ih.len];exact hp),ih.on rfl p hp]
     by_cases h1:b+k=p
     ·subst h1
      rw[if_pos rfl,if_pos (by omega),show b+k-b=k by omega]
     ·rw[if_neg h1]
      by_cases h2:b≤p∧p<b+k
      · rw[if_pos h2,if_pos (by omega)]
      · rw[if_neg h2,if_neg (by omega)]
end Go.Proofs.YtimomjheanfbmaaGreatDoor
namespace Go.Proofs.YtimomjheanfbmaaGreatDoor
open Go.RowKit
section
variable {w0 w w':World} {p dp first:Nat} {rs:List ByteArray} {i0:Nat} {S Sd:List Nat} {D:Dev} {av:Value} {L:List (Int×ByteArray)}
end
end Go.Proofs.YtimomjheanfbmaaGreatDoor
