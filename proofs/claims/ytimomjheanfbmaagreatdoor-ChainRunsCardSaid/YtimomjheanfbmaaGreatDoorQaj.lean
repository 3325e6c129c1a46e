import Derived.Test.YtimomjheanfbmaaGreatDoorQaa
import Derived.WalkLawsBesides
import Derived.Test.YtimomjheanfbmaaGreatDoorProg
import Derived.Test.YtimomjheanfbmaaGreatDoorQac
import Derived.Test.YtimomjheanfbmaaGreatDoorQab
import Derived.Maps.OwnSet
import Derived.Maps.RangeWalk
set_option linter.unusedSimpArgs false
set_option linter.unusedVariables false
namespace Go.Proofs.YtimomjheanfbmaaGreatDoor
def flB (n:Nat):Nat:=if n=0 then 0 else (n.log2+1022)*2^52+n*2^(52-n.log2)
theorem log2_mul_pow (n j:Nat) (hn:n≠0):(n*2^j).log2=n.log2+j:=by
 have hp:0<2^j:=Nat.pos_of_ne_zero (by simp)
 have h0:n*2^j≠0:=by
  intro h
  rcases Nat.mul_eq_zero.1 h with h | h
  · exact hn h
  · omega
 apply Nat.le_antisymm
 ·have h1:n<2^(n.log2+1):=Nat.lt_log2_self
  have h2:n*2^j<2^(n.log2+1)*2^j:=Nat.mul_lt_mul_of_pos_right h1 hp
  rw[←Nat.pow_add]at h2
  have:=(Nat.log2_lt h0).2 h2
  omega
 ·rw[Nat.le_log2 h0,Nat.pow_add]
  exact Nat.mul_le_mul_right _ (Nat.log2_self_le hn)
theorem log2_le52 {n:Nat} (h:n<2^53):n.log2≤52:=by
 by_cases hn:n=0
 · subst hn;decide
 · have:=(Nat.log2_lt hn).2 h;omega
theorem cut_exact (n j:Nat):Ieee.Toward.even.cut false (n*2^j) j=n:=by
 unfold Ieee.Toward.cut
 by_cases hn:n=0
 ·subst hn
  simp only[Nat.zero_mul,Nat.zero_div,Nat.zero_mod]
  have hg:0<1 <<< min j (Nat.log2 0+2):=by rw[Nat.shiftLeft_eq];exact Nat.pos_of_ne_zero (by simp)
  generalize 1 <<< min j (Nat.log2 0+2)=g at hg ⊢
  have h1:¬g<2*0:=by omega
  have h2:¬g=0:=by omega
  simp[h1,h2]
 ·rw[log2_mul_pow n j hn,Nat.min_eq_left (by omega),Nat.shiftLeft_eq,Nat.one_mul]
  have hp:0<2^j:=Nat.pos_of_ne_zero (by simp)
  dsimp only
  rw[Nat.mul_div_cancel _ hp,Nat.mul_mod_left]
  have h2:¬2^j=0:=by omega
  simp[h2]
theorem near_eq (n j:Nat) (h:n<2^53):Ieee.double.nearest false (n*2^j) (-(j:Int))=flB n:=by
 unfold Ieee.Format.nearest flB
 have hp:0<2^j:=Nat.pos_of_ne_zero (by simp)
 by_cases hn:n=0
 · subst hn;rw[Nat.zero_mul,if_pos rfl,if_pos rfl];rfl
 have h0:n*2^j≠0:=by
  intro h
  rcases Nat.mul_eq_zero.1 h with h | h
  · exact hn h
  · omega
 rw[if_neg h0,if_neg hn,log2_mul_pow n j hn]
 have hk:=log2_le52 h
 have hlp:Ieee.double.leastPlace = -1074:=by decide
 have hfb:Ieee.double.fractionBits=52:=rfl
 have hbi:Ieee.double.binade=2^52:=rfl
 have hin:Ieee.double.infRung=2047*2^52:=by decide
 rw[hlp,hfb,hbi,hin]
 have hlast:max (-(j:Int)+((n.log2+j:Nat):Int)-((52:Nat):Int)) (-1074)=((n.log2:Nat):Int)-52:=by omega
 rw[hlast]
 dsimp only
 have e1:(((n.log2:Nat):Int)-52 - -1074).toNat=n.log2+1022:=by omega
 rw[e1]
 have hcut:Ieee.Toward.even.cut false ((n*2^j) <<< (-(j:Int)-(((n.log2:Nat):Int)-52)).toNat) ((((n.log2:Nat):Int)-52) - -(j:Int)).toNat=n*2^(52-n.log2):=by
  by_cases hj:j≤52-n.log2
  ·rw[show (-(j:Int)-(((n.log2:Nat):Int)-52)).toNat=52-n.log2-j by omega,show ((((n.log2:Nat):Int)-52) - -(j:Int)).toNat=0 by omega,Nat.shiftLeft_eq,Nat.mul_assoc,←Nat.pow_add,show j+(52-n.log2-j)=52-n.log2 by omega]
   have:=cut_exact (n*2^(52-n.log2)) 0
   rwa[Nat.pow_zero,Nat.mul_one]at this
  ·rw[show (-(j:Int)-(((n.log2:Nat):Int)-52)).toNat=0 by omega,show ((((n.log2:Nat):Int)-52) - -(j:Int)).toNat=j-(52-n.log2) by omega,Nat.shiftLeft_zero]
   have:=cut_exact (n*2^(52-n.log2)) (j-(52-n.log2))
   rwa[Nat.mul_assoc,←Nat.pow_add,show 52-n.log2+(j-(52-n.log2))=j by omega]at this
 rw[hcut]
 have hb:n*2^(52-n.log2)<2*2^52:=by
  have h1:n<2^(n.log2+1):=Nat.lt_log2_self
  have h2:n*2^(52-n.log2)<2^(n.log2+1)*2^(52-n.log2):=Nat.mul_lt_mul_of_pos_right h1 (Nat.pos_of_ne_zero (by simp))
  rw[←Nat.pow_add,show n.log2+1+(52-n.log2)=53 by omega]at h2
  omega
 rw[Nat.min_eq_left (by omega)]
 rfl
theorem read_fl (n:Nat) (h:n<2^53):∃e:Nat,Ieee.double.read (flB n) = .number false (n*2^e) (-(e:Int)):=by
 by_cases hn:n=0
 ·subst hn
  obtain⟨e,he⟩:∃e:Nat,Ieee.double.read (flB 0) = .number false 0 (-(e:Int)):=⟨1074,by decide +kernel⟩
  exact⟨e,by rw[he,Nat.zero_mul]⟩
 ·refine⟨52-n.log2,?_⟩
  have hk:=log2_le52 h
  have h1:n<2^(n.log2+1):=Nat.lt_log2_self
  have h2:n*2^(52-n.log2)<2^(n.log2+1)*2^(52-n.log2):=Nat.mul_lt_mul_of_pos_right h1 (Nat.pos_of_ne_zero (by simp))
  rw[←Nat.pow_add,show n.log2+1+(52-n.log2)=53 by omega]at h2
  have h3:2^n.log2*2^(52-n.log2)≤n*2^(52-n.log2):=Nat.mul_le_mul_right _ (Nat.log2_self_le hn)
  rw[←Nat.pow_add,show n.log2+(52-n.log2)=52 by omega]at h3
  have hfl:flB n=(n.log2+1022)*2^52+n*2^(52-n.log2):=by unfold flB;rw[if_neg hn]
  generalize hm:n*2^(52-n.log2)=m at h2 h3 hfl ⊢
  generalize flB n=x at hfl ⊢
  unfold Ieee.Format.read
  have hsw:Ieee.double.signWeight=2^63:=rfl
  have hbi:Ieee.double.binade=2^52:=rfl
  have hin:Ieee.double.infRung=2047*2^52:=by decide
  have hlp:Ieee.double.leastPlace = -1074:=by decide
  rw[hsw,hbi,hin,hlp]
  have e1:x/2^63=0:=by omega
  have e2:x%2^63=x:=by omega
  have e3:x/2^52=n.log2+1023:=by omega
  have e4:x%2^52=m-2^52:=by omega
  rw[e1,e2]
  dsimp only
  rw[if_neg (by omega),if_pos (by omega),e3,e4]
  rw[show 2^52+(m-2^52)=m by omega,show (-1074+((n.log2+1023-1:Nat):Int)) = -((52-n.log2:Nat):Int) by omega]
  rfl
theorem fl_of_int (n:Nat) (h:n<2^53):floatOfInt .f64 (n:Int)=flB n:=by
 have:=near_eq n 0 h
 rw[Nat.pow_zero,Nat.mul_one]at this
 rw[←this]
 unfold floatOfInt
 have h2:decide ((n:Int)<0)=false:=by apply decide_eq_false;omega
 show Ieee.double.nearest (decide ((n:Int)<0)) (n:Int).natAbs 0=_
 rw[h2,Int.natAbs_natCast]
 rfl
theorem signed_shift (a i M:Nat) (h:i≤M):Ieee.signed false (a*2^i) (-(i:Int) - -(M:Int)).toNat=((a*2^M:Nat):Int):=by
 unfold Ieee.signed
 rw[if_neg (by decide),show (-(i:Int) - -(M:Int)).toNat=M-i by omega,Nat.shiftLeft_eq,Nat.mul_assoc,←Nat.pow_add,show i+(M-i)=M by omega]
theorem signed_shift_neg (a i M:Nat) (h:i≤M):Ieee.signed true (a*2^i) (-(i:Int) - -(M:Int)).toNat = -((a*2^M:Nat):Int):=by
 unfold Ieee.signed
 rw[if_pos rfl,show (-(i:Int) - -(M:Int)).toNat=M-i by omega,Nat.shiftLeft_eq,Nat.mul_assoc,←Nat.pow_add,show i+(M-i)=M by omega]
theorem min_neg (i j:Nat):min (-(i:Int)) (-(j:Int)) = -((max i j:Nat):Int):=by omega
theorem fl_add (a b:Nat) (h:a+b<2^53):floatBits .add .f64 (flB a) (flB b)=some (flB (a+b)):=by
 obtain⟨i,hi⟩:=read_fl a (by omega)
 obtain⟨j,hj⟩:=read_fl b (by omega)
 show Ieee.double.add _ _=_
 unfold Ieee.Format.add
 rw[hi,hj]
 unfold Ieee.Datum.sum
 dsimp only
 rw[min_neg,signed_shift a i _ (by omega),signed_shift b j _ (by omega)]
 have ht:((a*2^max i j:Nat):Int)+((b*2^max i j:Nat):Int)=(((a+b)*2^max i j:Nat):Int):=by rw[Nat.add_mul];omega
 rw[ht]
 rw[Int.natAbs_natCast]
 have hs:(if (((a+b)*2^max i j:Nat):Int)=0 then (false&&false) else decide ((((a+b)*2^max i j:Nat):Int)<0))=false:=by
  split
  · rfl
  · apply decide_eq_false;omega
 rw[hs]
 show some (Ieee.double.nearest false ((a+b)*2^max i j) (-((max i j:Nat):Int)))=_
 rw[near_eq (a+b) _ h]
theorem fl_sub (a b:Nat) (h:a<2^53) (hb:b≤a):floatBits .sub .f64 (flB a) (flB b)=some (flB (a-b)):=by
 obtain⟨i,hi⟩:=read_fl a (by omega)
 obtain⟨j,hj⟩:=read_fl b (by omega)
 show Ieee.double.sub _ _=_
 unfold Ieee.Format.sub
 rw[hi,hj]
 unfold Ieee.Datum.opposite Ieee.Datum.sum
 dsimp only
 rw[min_neg,signed_shift a i _ (by omega),show (!false)=true from rfl,signed_shift_neg b j _ (by omega)]
 have hle:b*2^max i j≤a*2^max i j:=Nat.mul_le_mul_right _ hb
 have ht:((a*2^max i j:Nat):Int) + -((b*2^max i j:Nat):Int)=(((a-b)*2^max i j:Nat):Int):=by rw[Nat.sub_mul];omega
 rw[ht,Int.natAbs_natCast]
 have hs:(if (((a-b)*2^max i j:Nat):Int)=0 then (false&&true) else decide ((((a-b)*2^max i j:Nat):Int)<0))=false:=by
  split
  · rfl
  · apply decide_eq_false;omega
 rw[hs]
 show some (Ieee.double.nearest false ((a-b)*2^max i j) (-((max i j:Nat):Int)))=_
 rw[near_eq (a-b) _ (by omega)]
theorem fl_order (a b:Nat) (ha:a<2^53) (hb:b<2^53):Ieee.double.order (flB a) (flB b)=some (compare a b):=by
 obtain⟨i,hi⟩:=read_fl a ha
 obtain⟨j,hj⟩:=read_fl b hb
 unfold Ieee.Format.order
 rw[hi,hj]
 unfold Ieee.Datum.order
 dsimp only
 rw[min_neg,signed_shift a i _ (by omega),signed_shift b j _ (by omega)]
 have hp:0<2^max i j:=Nat.pos_of_ne_zero (by simp)
 congr 1
 rcases Nat.lt_trichotomy a b with h | h | h
 ·have h2:a*2^max i j<b*2^max i j:=Nat.mul_lt_mul_of_pos_right h hp
  rw[Nat.compare_eq_lt.2 h]
  exact Int.compare_eq_lt.2 (by omega)
 ·subst h
  rw[Nat.compare_eq_eq.2 rfl]
  exact Int.compare_eq_eq.2 rfl
 ·have h2:b*2^max i j<a*2^max i j:=Nat.mul_lt_mul_of_pos_right h hp
  rw[Nat.compare_eq_gt.2 h]
  exact Int.compare_eq_gt.2 (by omega)
end Go.Proofs.YtimomjheanfbmaaGreatDoor
namespace Go.Proofs.YtimomjheanfbmaaGreatDoor
open Go.RowKit
open Go.Maps (Keyed int_keyed keyOf_int_mk)
open Go.ChangeMaps (notKey putKey delKey)
def numN (x:Nat):Nat:=match Ieee.double.read x with
 | .number false m e=>m/2^(-e).toNat
 | _=>0
theorem numN_fl (n:Nat) (h:n<2^53):numN (flB n)=n:=by
 obtain⟨e,he⟩:=read_fl n h
 unfold numN
 rw[he]
 show n*2^e/2^(- -(e:Int)).toNat=n
 rw[show (- -(e:Int)).toNat=e by omega]
 exact Nat.mul_div_cancel _ (Nat.pos_of_ne_zero (by simp))
def dV (a b:Nat):DataW Unit := .agg [.lit (.int .i64 a),.lit (.int .i64 b)]
def valD:DataW Unit→Nat×Nat
 | .agg [.lit (.int _ a),.lit (.int _ b)]=>(a.toNat,b.toNat)
 | _=>(0,0)
theorem valD_dV (a b:Nat):valD (dV a b)=(a,b):=by simp[valD,dV]
def cxR:Value→Option (DataW Unit×List MemPlace)
 | .complex .f64 x y=>if (x=flB (numN x)∧y=flB (numN y))∧numN x<2^53∧numN y<2^53 then some (dV (numN x) (numN y),[]) else none
 | _=>none
theorem cxR_mk {a b:Nat} (ha:a<2^53) (hb:b<2^53):cxR (.complex .f64 (flB a) (flB b))=some (dV a b,[]):=by
 simp only[cxR]
 rw[numN_fl a ha,numN_fl b hb,if_pos ⟨⟨rfl,rfl⟩,ha,hb⟩]
theorem cxR_inv {v:Value} {z:DataW Unit×List MemPlace} (h:cxR v=some z):∃a b,a<2^53∧b<2^53∧v = .complex .f64 (flB a) (flB b)∧z=(dV a b,[]):=by
 unfold cxR at h
 split at h
 ·rename_i x y
  split at h
  ·rename_i hc
   obtain⟨⟨h1,h2⟩,h3,h4⟩:=hc
   injection h with h
   exact⟨numN x,numN y,h3,h4,by rw[←h1,←h2],h.symm⟩
  · cases h
 · cases h
def sumE (f:DataW Unit→Nat) (p:Lit→Bool):List (Lit×DataW Unit)→Nat
 | []=>0
 | x::l=>(if p x.1 then f x.2 else 0)+sumE f p l
theorem sumE_insert (f:DataW Unit→Nat) (p:Lit→Bool) (x:Lit×DataW Unit):∀l,sumE f p (DataW.insert x l)=(if p x.1 then f x.2 else 0)+sumE f p l
 | []=>rfl
 | y::l=>by
  unfold DataW.insert
  split
  · rfl
  · rw[sumE,sumE_insert f p x l,sumE];omega
theorem sumE_filter (f:DataW Unit→Nat) (p:Lit→Bool) (k:Lit):∀l,sumE f p (l.filter (notKey k))=sumE f (fun z=>p z && !z.sameKey k) l
 | []=>rfl
 | y::l=>by
  rw[List.filter_cons,sumE]
  by_cases h:y.1.sameKey k=true
  ·have:notKey k y=false:=by unfold notKey;rw[h];rfl
   rw[this,if_neg (by decide),sumE_filter f p k l,h]
   simp
  ·have h2:y.1.sameKey k=false:=by simpa using h
   have:notKey k y=true:=by unfold notKey;rw[h2];rfl
   rw[this,if_pos rfl,sumE,sumE_filter f p k l,h2]
   simp
theorem sumE_same (f:DataW Unit→Nat) (p q:Lit→Bool):∀(l:List (Lit×DataW Unit)),(∀x∈l,p x.1=q x.1)→sumE f p l=sumE f q l
 | [],_=>rfl
 | y::l,h=>by rw[sumE,sumE,h y (by simp),sumE_same f p q l (fun x hx=>h x (by simp[hx]))]
theorem sumE_out (f:DataW Unit→Nat) (p:Lit→Bool) (k:Lit) (z:DataW Unit) (hz:f z=0):∀(l:List (Lit×DataW Unit)),l.Pairwise (fun x y=>x.1≠y.1)→(∀x∈l,WideAt.IsKeyLit x.1)→(∀x∈l,x.1.sameKey k=true→p x.1=true) →
  sumE f p l=f ((DataW.map l).atKey k z)+sumE f (fun z=>p z && !z.sameKey k) l
 | [],_,_,_=>by show 0=f z+0;rw[hz]
 | y::l,hp,hk,hpk=>by
  obtain⟨h1,h2⟩:=List.pairwise_cons.1 hp
  have ih:=sumE_out f p k z hz l h2 (fun x hx=>hk x (by simp[hx])) (fun x hx=>hpk x (by simp[hx]))
  rw[sumE,sumE]
  by_cases h:y.1.sameKey k=true
  ·have e1:(DataW.map (y::l)).atKey k z=y.2:=by
    simp only[DataW.atKey,List.find?_cons,h]
   have hyk:y.1=k:=WideAt.sameKey_eq h
   rw[e1,hpk y (by simp) h,h,if_pos rfl]
   rw[sumE_same f (fun z=>p z && !z.sameKey k) p l (fun x hx=>by
    have hne:x.1.sameKey k=false:=by
     cases hc:x.1.sameKey k with
     | false=>rfl
     | true=>exact absurd ((hyk.trans (WideAt.sameKey_eq hc).symm)) (h1 x hx)
    rw[hne];simp)]
   simp
  ·have h3:y.1.sameKey k=false:=by simpa using h
   have e1:(DataW.map (y::l)).atKey k z=(DataW.map l).atKey k z:=by
    simp only[DataW.atKey,List.find?_cons,h3]
   rw[e1,ih,h3]
   simp
   omega
def fB (d:DataW Unit):Nat:=(valD d).1
def fP (d:DataW Unit):Nat:=(valD d).2
def entsOf:DataW Unit→List (Lit×DataW Unit)
 | .map es=>es
 | _=>[]
def totD (p:Lit→Bool) (D:DataW Unit):Nat×Nat:=(sumE fB p (entsOf D),sumE fP p (entsOf D))
def BkAt (w:World) (b n:Nat) (B:Int→Nat×Nat) (S:Nat×Nat):Prop:=∃D:DataW Unit,w.ownsMap Tryz.prog 3 cxR b n D∧(∀i:Int,valD (D.atKey (.int .i64 i) (dV 0 0))=B i)∧totD (fun _=>true) D=S
theorem BkAt.made (w:World):BkAt (w.alloc (.map #[] 0)) w.heap.size 0 (fun _=>(0,0)) (0,0) :=
 ⟨.map [],World.ownsMap_made _ _ _ _,fun i=>rfl,rfl⟩
theorem BkAt.keep {S:Nat→Prop} {w w':World} {b n:Nat} {B:Int→Nat×Nat} {T:Nat×Nat} (h:BkAt w b n B T) (hk:Keeps S w w') (hb:¬S b):BkAt w' b n B T:=by
 obtain⟨D,⟨es,clock,h1,h2⟩,h3⟩:=h
 exact⟨D,⟨es,clock,hk.keep h1 hb,h2⟩,h3⟩
theorem BkAt.lt {w:World} {b n:Nat} {B:Int→Nat×Nat} {T:Nat×Nat} (h:BkAt w b n B T):b<w.heap.size:=by
 obtain⟨D,h1,_⟩:=h
 exact h1.lt
theorem zero_cx (w:World):(zeroValue 96).run Tryz.prog w = .ok (.complex .f64 0 0) w:=by kernel_rfl
theorem i64_key {k:Int} (hk : -9223372036854775808≤k∧k≤9223372036854775807):keyOf Tryz.prog 3 (.int .i64 k)=some (.int .i64 k):=keyOf_int_mk (P:=Tryz.prog) (a:=k) Tryz.underlying3 (WalkArith.wf_i64 (by omega))
theorem split_tot {w:World} {b n:Nat} {D:DataW Unit} (h:w.ownsMap Tryz.prog 3 cxR b n D) (p:Lit→Bool) (k:Lit) (hp:∀x,x.sameKey k=true→p x=true):totD p D=((valD (D.atKey k (dV 0 0))).1+(totD (fun z=>p z && !z.sameKey k) D).1,(valD (D.atKey k (dV 0 0))).2+(totD (fun z=>p z && !z.sameKey k) D).2):=by
 obtain⟨es,rfl,h1,h2⟩:=h.entries (int_keyed Tryz.underlying3)
 unfold totD entsOf
 dsimp only
 rw[sumE_out fB p k (dV 0 0) rfl es h1 h2 (fun x _=>hp x.1),sumE_out fP p k (dV 0 0) rfl es h1 h2 (fun x _=>hp x.1)]
 rfl
theorem BkAt.le {w:World} {b n:Nat} {B:Int→Nat×Nat} {T:Nat×Nat} (h:BkAt w b n B T) (k:Int):(B k).1≤T.1∧(B k).2≤T.2:=by
 obtain⟨D,h1,h2,rfl⟩:=h
 rw[split_tot h1 _ (.int .i64 k) (fun _ _=>rfl),h2 k]
 exact⟨by show _≤_+_;omega,by show _≤_+_;omega⟩
set_option maxRecDepth 100000 in
theorem BkAt.get {w:World} {b n:Nat} {B:Int→Nat×Nat} {T:Nat×Nat} (h:BkAt w b n B T) (k:Int) (hk : -9223372036854775808≤k∧k≤9223372036854775807) :
  (Instr.lookup 192 (.map (some b)) (.int .i64 k) false).run Tryz.prog w = .ok (.complex .f64 (flB (B k).1) (flB (B k).2)) w:=by
 obtain⟨D,h1,h2,_⟩:=h
 obtain⟨v,ps,hr,hv⟩:=h1.lookup (t:=192) (int_keyed Tryz.underlying3) Tryz.underlying192 (zero_cx w) (zd:=dV 0 0) (zp:=[]) (cxR_mk (a:=0) (b:=0) (by decide) (by decide)) (i64_key hk)
 obtain⟨x,y,hx,hy,rfl,hz⟩:=cxR_inv hv
 have e1:D.atKey (.int .i64 k) (dV 0 0)=dV x y:=congrArg Prod.fst hz
 have e2:=h2 k
 rw[e1,valD_dV]at e2
 rw[hr,←e2]
theorem BkAt.put {w:World} {b n:Nat} {B:Int→Nat×Nat} {T:Nat×Nat} (h:BkAt w b n B T) (hn:n<maxLen) (k:Int) (hk : -9223372036854775808≤k∧k≤9223372036854775807) (x y:Nat) (hx:x<2^53) (hy:y<2^53) :
  ∃w',(Instr.mapUpdate 192 (.map (some b)) (.int .i64 k) (.complex .f64 (flB x) (flB y))).run Tryz.prog w = .ok () w'∧BkAt w' b (n+1) (fun i=>if i=k then (x,y) else B i) (T.1-(B k).1+x,T.2-(B k).2+y)∧Keeps (· = b) w w':=by
 obtain⟨D,h1,h2,h3⟩:=h
 obtain⟨w',hr,ho,hg⟩:=h1.update (t:=192) (int_keyed Tryz.underlying3) Tryz.underlying192 hn (i64_key hk) (cxR_mk hx hy)
 have hkl:WideAt.IsKeyLit (.int .i64 k):=(int_keyed Tryz.underlying3).key (i64_key hk)
 have hs:=split_tot h1 (fun _=>true) (.int .i64 k) (fun _ _=>rfl)
 have hm:=h1.isMap
 refine⟨w',hr,⟨_,ho,fun i=>?_,?_⟩,(Keeps.refl _ _).grown hg (fun j hj => .inl (by simpa[eq_comm]using hj))⟩
 ·by_cases e:i=k
  ·subst e
   rw[Maps.atKey_put_same hm hkl,valD_dV];exact(if_pos rfl).symm
  ·have hne:(Lit.int .i64 i)≠(Lit.int .i64 k):=fun h=>e (by injection h)
   rw[Maps.atKey_put_other hne]
   exact(h2 i).trans (if_neg e).symm
 ·rw[h3,h2 k]at hs
  obtain⟨es,rfl⟩:=hm
  rw[hs,DataW.put_eq]
  unfold totD entsOf putKey
  dsimp only
  rw[sumE_insert,sumE_insert,sumE_filter,sumE_filter,if_pos rfl,if_pos rfl]
  have e1:fB (dV x y)=x:=by unfold fB;rw[valD_dV]
  have e2:fP (dV x y)=y:=by unfold fP;rw[valD_dV]
  rw[e1,e2]
  ext <;> (simp;try omega)
theorem BkAt.del {w:World} {b n:Nat} {B:Int→Nat×Nat} {T:Nat×Nat} (h:BkAt w b n B T) (k:Int) (hk : -9223372036854775808≤k∧k≤9223372036854775807) (ty:TypeId) :
  ∃w',(Builtin.delete_ #[192,3] ty #[.map (some b),.int .i64 k]).run Tryz.prog w = .ok (.tuple #[]) w'∧BkAt w' b n (fun i=>if i=k then (0,0) else B i) (T.1-(B k).1,T.2-(B k).2)∧Keeps (· = b) w w':=by
 obtain⟨D,h1,h2,h3⟩:=h
 obtain⟨w',hr,ho,hg⟩:=h1.drop (t:=192) (int_keyed Tryz.underlying3) Tryz.underlying192 (i64_key hk) ty
 have hs:=split_tot h1 (fun _=>true) (.int .i64 k) (fun _ _=>rfl)
 have hm:=h1.isMap
 refine⟨w',hr,⟨_,ho,fun i=>?_,?_⟩,(Keeps.refl _ _).grown hg.grown (fun j hj => .inl (by simpa[eq_comm]using hj))⟩
 ·by_cases e:i=k
  ·subst e
   rw[Maps.atKey_del_same,valD_dV];exact(if_pos rfl).symm
  ·have hne:(Lit.int .i64 i)≠(Lit.int .i64 k):=fun h=>e (by injection h)
   rw[Maps.atKey_del_other hne]
   exact(h2 i).trans (if_neg e).symm
 ·rw[h3,h2 k]at hs
  obtain⟨es,rfl⟩:=hm
  rw[hs,DataW.del_eq]
  unfold totD entsOf delKey
  dsimp only
  rw[sumE_filter,sumE_filter]
  ext <;> (simp;try omega)
end Go.Proofs.YtimomjheanfbmaaGreatDoor
