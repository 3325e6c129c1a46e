import Derived.Test.YtimomjheanfbmaaGreatDoorQaa
import Derived.Test.YtimomjheanfbmaaGreatDoorQam
import Derived.Deep.RegionHeld3
import Derived.Maps.OwnSet
import Derived.Maps.StringElems
import Derived.Maps.OwnOps
set_option linter.unusedSimpArgs false
set_option linter.unusedVariables false
namespace Go.Proofs.YtimomjheanfbmaaGreatDoor
open Go.RowKit
def Dev.up (D:Dev):Prop:=D.fuel = -1∧D.down=false
theorem up_write {D:Dev} (h:D.up) (s:Int) (d:ByteArray):D.write s d=if 0≤s∧s<(D.firm.length:Int)∧d.size=64 then ({D with seen:=D.seen.set s.toNat d,soft:=D.soft++[(s,d)]},0) else (D,1):=by
 obtain⟨hf,hd⟩:=h
 have hb:D.burn=(D,true):=by
  unfold Dev.burn
  rw[if_neg (by omega),if_neg (by omega)]
 unfold Dev.write
 rw[hd,hb]
 simp only[Bool.false_eq_true,Bool.true_eq_false,if_false]
 by_cases hs:0≤s∧s<(D.firm.length:Int)∧d.size=64
 · rw[if_pos hs,if_neg (by omega),←hd]
 · rw[if_neg hs,if_pos (by omega)]
theorem up_write_up {D:Dev} (h:D.up) (s:Int) (d:ByteArray):(D.write s d).1.up∧(D.write s d).1.firm=D.firm∧(D.write s d).1.soft.length≤D.soft.length+1:=by
 rw[up_write h]
 split
 · exact⟨h,rfl,by simp⟩
 · exact⟨h,rfl,by simp⟩
theorem up_barrier {D:Dev} (h:D.up):D.barrier=({D with firm:=D.seen,soft:=[]},0):=by
 obtain⟨hf,hd⟩:=h
 have hb:D.burn=(D,true):=by
  unfold Dev.burn
  rw[if_neg (by omega),if_neg (by omega)]
 unfold Dev.barrier
 rw[hd,hb]
 simp only[Bool.false_eq_true,Bool.true_eq_false,if_false]
 rw[←hd]
theorem up_read {D:Dev} (h:D.down=false) (s:Int) (h0:0≤s) (h1:s<(D.firm.length:Int)):D.read s=(D.seen.getD s.toNat ⟨#[]⟩,0):=by
 unfold Dev.read
 rw[h]
 simp only[Bool.false_eq_true,if_false]
 rw[if_neg (by omega)]
theorem up_new (n:Nat):(Dev.new n).up:=⟨rfl,rfl⟩
end Go.Proofs.YtimomjheanfbmaaGreatDoor
namespace Go.Proofs.YtimomjheanfbmaaGreatDoor
open Go.RowKit
def secS (k:Int) (s:ByteArray):ByteArray:=leS (k+1) 8++leS s.size 2++s++zeros (54-s.size)
theorem secS_size (k:Int) (s:ByteArray) (hs:s.size≤54):(secS k s).size=64:=by
 unfold secS
 rw[ByteArray.size_append,ByteArray.size_append,ByteArray.size_append,leS_size,leS_size,zeros_size]
 omega
theorem Bytes_later {w w':World} {g o:Nat} {s:ByteArray} (h:Lib.Bytes w g o s) (hg:g<w.heap.size) (hb:Below w.heap.size w w'):Lib.Bytes w' g o s:=fun i hi=>by
 have:=h i hi
 rw[←this]
 simp[World.cell?,hb.block g hg]
set_option maxRecDepth 100000 in
set_option maxHeartbeats 800000 in
theorem wal_sector (k:Int) (hk:0≤k∧k≤1152921504606846976) (g o dc:Nat) (s:ByteArray) (hs:s.size≤54) (w:World) (hg:g<w.heap.size) (hB:Lib.Bytes w g o s) :
  Calls Tryz.prog 151 #[.int .i64 k,.slice (some ⟨g,o,none⟩) s.size dc] w fun e w'=>e = .returned (.string (secS k s))∧Below w.heap.size w w':=by
 have hu1:IntKind.u64.wrap (k+1)=k+1:=wrap_u64_in _ (by omega) (by omega)
 have hu2:IntKind.u64.wrap (s.size:Int)=s.size:=wrap_u64_in _ (by omega) (by omega)
 have HN1:=Hd (fun w2=>oct_num_ok (k+1) 8 (by omega) (by omega) (by omega) (fun h=>absurd h (by omega)) w2)
 have HN2:=Hd (fun w2=>oct_num_ok (s.size:Int) 2 (by omega) (by omega) (by omega) (fun _=>by rw[show (2:Int)^(8*(2:Int).toNat)=65536 by decide];omega) w2)
 have HZ:=Hd (fun w2=>str_zeros ⟨#[0]⟩ rfl (54-s.size) (by omega) w2)
 have hz:((54-s.size:Nat):Int)=54-(s.size:Int):=by omega
 rw[hz]at HZ
 have HC:Hid (∀w',Lib.Bytes w' g o s→(convert 141 9 (.slice (some ⟨g,o,none⟩) s.size dc)).run Tryz.prog w' = .ok (.string s) w'):=fun w' h =>
  Lib.run_convert_whole (P:=Tryz.prog) w' 141 5 9 Tryz.underlying141 Tryz.underlying5 Tryz.underlying9 g o s h dc
 have hm1:(leS (k+1) 8).size=8:=leS_size _ _
 have hm2:(leS (s.size:Int) 2).size=2:=leS_size _ _
 have hm3:=zeros_size (54-s.size)
 have hsec:Hid (secS k s=leS (k+1) 8++leS s.size 2++s++zeros (54-s.size)):=rfl
 rw[show (8:Int).toNat=8 from rfl]at HN1
 rw[show (2:Int).toNat=2 from rfl]at HN2
 generalize zeros (54-s.size)=Z at *
 generalize leS (k+1) 8=M1 at *
 generalize leS (s.size:Int) 2=M2 at *
 have hB:=Hd hB
 have hw54:IntKind.i64.wrap (54-(s.size:Int))=54-(s.size:Int):=by rw[IntKind.wrap_i64];omega
 have hl1:¬9223372036854775807<10+s.size:=by omega
 have hl2:¬9223372036854775807<10+s.size+Z.size:=by omega
 go_enter Tryz.func151,Tryz.ntmps151
 go_wp2_with fail
 refine(HN1.out w).mono ?_
 rintro e w1 ⟨rfl,hb⟩
 have HB1:=Hd hb
 clear hb HN1
 go_wp2_with fail
 refine(HN2.out w1).mono ?_
 rintro e w2 ⟨rfl,hb⟩
 have HB2:=Hd (bT HB1.out hb)
 clear hb HN2 HB1
 go_wp2_with fail
 have hS0:Lib.Bytes w2.drew g o s:=Bytes_later hB.out hg (bD HB2.out)
 refine wp_region_held_drew (S:=fun w'=>Lib.Bytes w' g o s) (by kernel_rfl) hS0 (fun hHeld=>?_)
 clear hS0
 refine tp 0 hHeld ?_
 go_frame
 refine tp 1 hHeld ?_
 go_frame
 refine tp 2 hHeld ?_
 go_frame
 refine tp 3 hHeld ?_
 go_frame
 refine tk 4 (v := .string s) rfl (Or.inl ⟨by rfl,?_⟩) hHeld ?_
 ·intro w' hSw
  have hcv:=HC.out w' hSw
  go_simp
  try with_reducible rfl
  try omega
 go_frame
 refine tp 5 (v := .string (M1++M2++s)) hHeld ?_
 go_frame
 refine tp 6 hHeld ?_
 go_frame
 refine tp 7 hHeld ?_
 go_frame
 refine tp 8 (v := .int .i64 (54-(s.size:Int))) hHeld ?_
 go_frame
 refine rd 9 (fun K hK=>?_)
 go_simp
 go_at_call 71
 refine(HZ.out _).mono ?_
 rintro e w3 ⟨rfl,hb⟩
 have HB3:=Hd (bT (bD HB2.out) hb)
 clear hb HB2 HZ hHeld
 go_wp2_with fail
 refine hK.out _ _ (Bytes_later hB.out hg HB3.out) (fun hHeld=>?_)
 clear hK K
 try go_frame
 refine tp 10 (v := .string (M1++M2++s++Z)) hHeld ?_
 go_frame
 refine tp 11 hHeld ?_
 go_frame
 refine wpAnyH_done (by kernel_rfl) ?_ _
 refine ‹∀(a:Act) (w:World),Code.wp Tryz.prog Code.ret _ a w→_› _ _ ?_
 go_wp2_with fail
 go_ret
 exact⟨by rw[hsec.out];rfl,HB3.out⟩
theorem wal_ring_yes (dp:Nat) (D:Dev) (Sd:List Nat) (first n:Int) (h1:128≤n) (h2:n≤4096) (h3:0≤first) (h4:first≤D.firm.length-n) (w:World) (h:DiskAt w dp D Sd) :
  Calls Tryz.prog 70 #[.pointer (some ⟨dp,0,none⟩),.int .i64 first,.int .i64 n] w fun e w'=>e = .returned (.bool true)∧w'=w:=by
 have HS:=Hd (dsk_size dp D Sd w h)
 have hl:=h.1.2.1
 have e1:IntKind.i64.wrap ((D.firm.length:Int)-n)=(D.firm.length:Int)-n:=by rw[IntKind.wrap_i64];omega
 clear h
 go_enter Tryz.func70,Tryz.ntmps70
 go_wp2_with fail
 refine(HS.out).mono ?_
 rintro e w1 ⟨rfl,rfl⟩
 go_wp2_with fail
 go_ret
 exact⟨rfl,rfl⟩
end Go.Proofs.YtimomjheanfbmaaGreatDoor
namespace Go.Proofs.YtimomjheanfbmaaGreatDoor
open Go.RowKit
def Lg.new (first n:Int):Lg:={first:=first,n:=n,start:=54,fin:=54,firm:=54,base:=54,buf:=⟨#[]⟩,list:=[]}
theorem Lg.new_ok (first n:Int) (h1:128≤n) (h2:n≤4096) (h3:0≤first) (h4:first≤16384):LgOk (Lg.new first n):=by
 refine⟨h1,h2,h3,h4,?_,?_,?_,?_,rfl,?_,?_,?_,?_,?_⟩ <;> simp[Lg.new] <;> omega
theorem replicate_set_same {α:Type} (a:α) (n i:Nat):(List.replicate n a).set i a=List.replicate n a:=by
 apply List.ext_getElem?
 intro j
 rw[List.getElem?_set,List.getElem?_replicate]
 by_cases h:i=j
 · subst h;simp
 · simp[h]
def Blank (D:Dev) (N i:Nat):Prop:=D.up∧D.firm=List.replicate N (zeros 64)∧D.seen=List.replicate N (zeros 64)∧D.soft.length=i
theorem Blank.write {D:Dev} {N i:Nat} (h:Blank D N i) (s:Int) (h0:0≤s) (h1:s<N):∃D2,D.write s (zeros 64)=(D2,0)∧Blank D2 N (i+1):=by
 obtain⟨hu,hf,hs,hl⟩:=h
 have hz:=zeros_size 64
 rw[up_write hu,if_pos ⟨h0,by rw[hf,List.length_replicate];exact h1,hz⟩]
 refine⟨_,rfl,hu,hf,?_,by simp[hl]⟩
 show D.seen.set _ _=_
 rw[hs,replicate_set_same]
theorem Blank.barrier {D:Dev} {N i:Nat} (h:Blank D N i):D.barrier=(Dev.new N,0):=by
 obtain⟨hu,hf,hs,hl⟩:=h
 rw[up_barrier hu]
 obtain⟨f,so,se,fu,dn⟩:=D
 obtain⟨h1,h2⟩:=hu
 simp only at hf hs hl h1 h2
 subst hf hs h1 h2
 rfl
set_option maxRecDepth 100000 in
set_option maxHeartbeats 1600000 in
theorem wal_create (dp N:Nat) (Sd:List Nat) (first n:Nat) (hNN:N≤16384) (h1:128≤n) (h2:n≤4096) (h3:first+n≤N) (w:World) (h:DiskAt w dp (Dev.new N) Sd) :
  Calls Tryz.prog 21 #[.pointer (some ⟨dp,0,none⟩),.int .i64 first,.int .i64 n] w fun e w'=>∃p S Sd',e = .returned (.tuple #[.pointer (some ⟨p,0,none⟩),.int .i64 0])∧LogAt w' p dp (Lg.new first n) S∧DiskAt w' dp (Dev.new N) Sd'∧Keeps (· ∈ Sd) w w'∧(∀k∈S,w.heap.size≤k∧k∉Sd')∧∀k∈Sd',k∈Sd∨w.heap.size≤k:=by
 have HG:=Hd (wal_ring_yes dp (Dev.new N) Sd first n (by omega) (by omega) (by omega) (by show (first:Int)≤((List.replicate N (zeros 64)).length:Int)-n;rw[List.length_replicate];omega) w h)
 have HZ:=Hd (fun w2=>str_zeros ⟨#[0]⟩ rfl 64 (by omega) w2)
 have hlg:=Hd (Lg.new_ok first n (by omega) (by omega) (by omega) (by omega))
 have hz64:=zeros_size 64
 have HD:=Hd h
 generalize hZ:zeros 64=Z at *
 clear h
 go_enter Tryz.func21,Tryz.ntmps21
 go_wp2_with fail
 refine(HG.out).mono ?_
 rintro e w1 ⟨rfl,rfl⟩
 go_wp2_with fail
 refine(HZ.out _).mono ?_
 rintro e w2 ⟨rfl,hb⟩
 have HD2:=Hd (HD.out.later hb)
 have HK2:Hid (Keeps (· ∈ Sd) w1 w2):=Keeps.of_below _ hb
 clear hb HZ HG HD
 go_wp2_with fail
 go_loopw [19] (fun s wr=>∃(i:Nat) (D':Dev) (S':List Nat),i≤n∧s = .int .i64 i∧Hid (DiskAt wr dp D' S')∧Hid (Blank D' N i)∧Hid (Keeps (· ∈ Sd) w1 wr)∧Hid (∀k∈S',k∈Sd∨w1.heap.size≤k)) (fun s _=>n-(intOf s).toNat)
 case atStart=>exact⟨0,_,_,by omega,rfl,HD2,⟨up_new N,rfl,rfl,rfl⟩,HK2,fun k hk => .inl hk⟩
 case round =>
  clear HD2 HK2
  obtain⟨i,D',S',hi,rfl,HD,HBl,HK,HS⟩:=hrel
  by_cases hin:i<n
  ·have hi':(i:Int)<n:=by omega
   have wri:IntKind.i64.wrap ((i:Int)+1)=(i:Int)+1:=by rw[IntKind.wrap_i64];omega
   have wrf:IntKind.i64.wrap ((first:Int)+i)=(first:Int)+i:=by rw[IntKind.wrap_i64];omega
   obtain⟨D2,hw,hbl2⟩:=HBl.out.write ((first:Int)+i) (by omega) (by omega)
   rw[hZ]at hw
   have HW:=Hd (dsk_write dp ((first:Int)+i) Z (by rw[hz64];unfold maxLen;omega) D' S' (by have:=HBl.out.2.2.2;omega) wr HD.out)
   rw[hw]at HW
   replace hbl2:=Hd hbl2
   replace hw:=Hd hw
   go_wp2_with fail
   refine(HW.out).mono ?_
   rintro e w3 ⟨rfl,S2,hd2,hk2,hs2⟩
   have HD3:=Hd hd2
   have HK3:Hid (Keeps (· ∈ Sd) w1 w3):=HK.out.trans hk2 (fun k hk h=>(HS.out k h).resolve_right (by omega))
   have HS3:Hid (∀k∈S2,k∈Sd∨w1.heap.size≤k):=fun k hk=>by
    rcases hs2 k hk with h | h
    · exact HS.out k h
    · have:=HK.out.size;exact .inr (by omega)
   clear hd2 hk2 hs2 HW
   go_wp2_with fail
   go_roundw
   case rel=>exact⟨i+1,D2,S2,by omega,rfl,HD3,hbl2,HK3,HS3⟩
   case measure=>simp[intOf];omega
  ·obtain rfl:i=n:=by omega
   have HW:=Hd (dsk_barrier dp D' S' wr HD.out)
   rw[HBl.out.barrier]at HW
   go_wp2_with fail
   refine(HW.out).mono ?_
   rintro e w3 ⟨rfl,S2,hd2,hk2,hs2⟩
   have HD3:=Hd hd2
   have HK3:Hid (Keeps (· ∈ Sd) w1 w3):=HK.out.trans hk2 (fun k hk h=>(HS.out k h).resolve_right (by omega))
   have HS3:Hid (∀k∈S2,k∈Sd∨w1.heap.size≤k):=fun k hk=>by
    rcases hs2 k hk with h | h
    · exact HS.out k h
    · have:=HK.out.size;exact .inr (by omega)
   clear hd2 hk2 hs2 HW
   go_wp2_with fail
   go_ret2
   refine⟨w3.heap.size,[w3.heap.size],S2,rfl,⟨hlg.out,.slice none 0 0,.slice none 0 0,hN rfl,OwnS.nil _ _ _,OwnS.nil _ _ _,rfl,by simp⟩,HD3.out.later (bA bR),HK3.out.trans ((Keeps.refl (fun _=>False) w3).alloc _) (fun _ _ h=>h.elim),fun k hk=>?_,HS3.out⟩
   have hk:k=w3.heap.size:=by simpa using hk
   subst hk
   exact⟨HK3.out.size,fun h=>by have:=HD3.out.lt _ h;omega⟩
end Go.Proofs.YtimomjheanfbmaaGreatDoor
namespace Go.Proofs.YtimomjheanfbmaaGreatDoor
open Go.RowKit
theorem cnt_le {b0 cnt:Nat} {firm fin base n:Int} (hcnt:∀k:Nat,k<cnt↔54*((b0+k:Nat):Int)<fin) (hb0:(b0:Int)=firm/54) (h:fin-base≤n*54) (hn:n≤4096) (hb:base≤firm):cnt≤4097:=by
 apply Classical.byContradiction
 intro hh
 obtain⟨K,hK⟩:∃K:Nat,K=4097:=⟨_,rfl⟩
 have h1:=(hcnt K).1 (by omega)
 have h2:((b0+K:Nat):Int)=b0+K:=by simp
 rw[h2]at h1
 omega
theorem fl_arith {b0 bb k I cnt:Nat} {firm fin base:Int} (hb0:(b0:Int)=firm/54) (hbb:base=54*bb) (hb:base≤firm) (hf:firm<fin) (hfin:fin≤1152921504606846976) (hI:I=b0+k) (hk:k≤cnt) (hc:cnt≤4097):(I:Int)≤21350398233464298∧54*bb≤54*I:=by
 have h1:bb≤b0:=by omega
 constructor
 · omega
 · omega
theorem burn_soft (D:Dev):D.burn.1.soft=D.soft:=(burn_same D).2.2
theorem write_soft (D:Dev) (s:Int) (d:ByteArray):(D.write s d).1.soft.length≤D.soft.length+1:=by
 unfold Dev.write
 have hb:=burn_soft D
 repeat' split
 all_goals (try simp only[List.length_append,List.length_singleton,hb])
 all_goals omega
def Lg.secAt (G:Lg) (k:Nat):ByteArray:=secS k (G.buf.extract (54*k-G.base.toNat) (min (54*k-G.base.toNat+54) G.buf.size))
def Lg.fl (G:Lg) (D:Dev) (i:Nat):Nat→Dev×Int
 | 0=>(D,0)
 | k+1=>if (Lg.fl G D i k).2≠0 then Lg.fl G D i k else (Lg.fl G D i k).1.write (G.first+((i+k:Nat):Int)%G.n) (G.secAt (i+k))
theorem fl_stop {G:Lg} {D:Dev} {i k:Nat} (h:(G.fl D i k).2≠0):∀j,k≤j→G.fl D i j=G.fl D i k:=by
 intro j hj
 obtain⟨d,rfl⟩:∃d,j=k+d:=⟨j-k,by omega⟩
 clear hj
 induction d with
 | zero=>rfl
 | succ d ih =>
  show (if (Lg.fl G D i (k+d)).2≠0 then Lg.fl G D i (k+d) else _)=_
  rw[ih,if_pos h]
theorem fl_soft {G:Lg} {D:Dev} {i:Nat}:∀k,(G.fl D i k).1.soft.length≤D.soft.length+k
 | 0=>Nat.le_refl _
 | k+1=>by
  have ih:=fl_soft (G:=G) (D:=D) (i:=i) k
  rw[Lg.fl]
  split
  · omega
  ·have:=write_soft (Lg.fl G D i k).1 (G.first+((i+k:Nat):Int)%G.n) (G.secAt (i+k))
   omega
def FlS (w:World) (p dp:Nat) (G:Lg) (g c f:Nat) (s:ByteArray) (w':World):Prop:=w'.cell? ⟨p,0,none⟩=some (.pointer (some ⟨dp,0,none⟩))∧w'.cell? ⟨p,1,none⟩=some (.int .i64 G.first)∧w'.cell? ⟨p,2,none⟩=some (.int .i64 G.n)∧w'.cell? ⟨p,7,none⟩=some (.slice (some ⟨g,0,none⟩) G.buf.size c)∧Lib.Bytes w' g f s
theorem OwnS.bytes {w:World} {g c:Nat} {s:ByteArray} (h:OwnS w 5 1 (.slice (some ⟨g,0,none⟩) s.size c) s.size (Lib.strCells s)):Lib.Bytes w g 0 s:=fun i hi=>by
 rw[Nat.zero_add,World.ownsRow.cellAt h i (by omega),Lib.strCells,List.getElem?_map]
 have:s.data.toList[i]? = some s[i]:=by
  rw[List.getElem?_eq_getElem (by simpa using hi)]
  rfl
 rw[this];rfl
theorem Bytes.sub {w:World} {g o:Nat} {s:ByteArray} (h:Lib.Bytes w g o s) (f t:Nat) (hf:f≤t) (ht:t≤s.size):Lib.Bytes w g (o+f) (s.extract f t):=fun i hi=>by
 have hsz:(s.extract f t).size=t-f:=by rw[ByteArray.size_extract];omega
 have h1:=h (f+i) (by omega)
 rw[Nat.add_assoc,h1]
 congr 3
 rw[ByteArray.getElem_extract]
theorem FlS.mk' {w w':World} {p dp:Nat} {G:Lg} {g c f t:Nat} {lv:Value} (hp:w'.heap[p]? = some (.cells (lgC dp G (.slice (some ⟨g,0,none⟩) G.buf.size c) lv) 144 (0,0))) (ho:OwnS w' 5 1 (.slice (some ⟨g,0,none⟩) G.buf.size c) G.buf.size (Lib.strCells G.buf)) (hf:f≤t) (ht:t≤G.buf.size):FlS w p dp G g c f (G.buf.extract f t) w':=by
 refine⟨cell_at hp 0,cell_at hp 1,cell_at hp 2,cell_at hp 7,?_⟩
 have:=Bytes.sub (OwnS.bytes ho) f t hf ht
 rwa[Nat.zero_add]at this
theorem wal_flush_not (p dp:Nat) (G:Lg) (S:List Nat) (at_:Int) (hat:at_<G.firm∨G.firm=G.fin) (w:World) (h:LogAt w p dp G S) :
  Calls Tryz.prog 122 #[.pointer (some ⟨p,0,none⟩),.int .i64 at_] w fun e w'=>e = .returned (.int .i64 0)∧Below w.heap.size w w':=by
 obtain⟨-,bv,lv,h1,-⟩:=h
 have c4:w.cell? ⟨p,4,none⟩=some (.int .i64 G.fin):=cell_at h1 4
 have c5:w.cell? ⟨p,5,none⟩=some (.int .i64 G.firm):=cell_at h1 5
 clear h1
 generalize G.fin=F at *
 generalize G.firm=M at *
 by_cases h0:at_<M
 ·have b1:decide (at_<M)=true:=by simpa using h0
  clear hat
  go_enter Tryz.func122,Tryz.ntmps122
  go_wp2_with fail
  go_quiet (fail)
  go_wp2_with fail
  go_ret
  exact⟨rfl,bN bR _⟩
 ·have b1:decide (at_<M)=false:=by simpa using h0
  obtain rfl:=hat.resolve_left h0
  go_enter Tryz.func122,Tryz.ntmps122
  go_wp2_with fail
  go_quiet (fail)
  go_wp2_with fail
  go_ret
  exact⟨rfl,bN bR _⟩
def Lg.flushed (G:Lg) (D:Dev) (i n:Nat):Lg×Dev×Int :=
 if (G.fl D i n).2≠0 then (G,(G.fl D i n).1,(G.fl D i n).2)
 else if (G.fl D i n).1.barrier.2≠0 then (G,(G.fl D i n).1.barrier.1,(G.fl D i n).1.barrier.2)
 else ({G with firm:=G.fin},(G.fl D i n).1.barrier.1,0)
set_option maxRecDepth 100000 in
set_option maxHeartbeats 3200000 in
theorem wal_flush (p dp:Nat) (G:Lg) (S Sd:List Nat) (D:Dev) (at_:Int) (b0 cnt:Nat) (hat:G.firm≤at_) (hff:G.firm<G.fin) (hbf:G.base≤G.firm) (bb:Nat) (hbb:G.base=54*bb) (hb0:(b0:Int)=G.firm/54) (hcnt:∀k:Nat,k<cnt↔54*((b0+k:Nat):Int)<G.fin) (hsoft:D.soft.length≤8000000000000)
  (w:World) (h:LogAt w p dp G S) (hd:DiskAt w dp D Sd) (hdis:∀k∈S,k∉Sd) :
  Calls Tryz.prog 122 #[.pointer (some ⟨p,0,none⟩),.int .i64 at_] w fun e w'=>e = .returned (.int .i64 (G.flushed D b0 cnt).2.2)∧∃Sd',LogAt w' p dp (G.flushed D b0 cnt).1 S∧DiskAt w' dp (G.flushed D b0 cnt).2.1 Sd'∧Keeps (fun k=>k∈S∨k∈Sd) w w'∧∀k∈Sd',k∈Sd∨w.heap.size≤k:=by
 have hlow:=Hd (show ∀k∈S,k<w.heap.size from fun k hk=>h.lt k hk)
 have hdis:=Hd hdis
 obtain⟨hok,bv,lv,h1,h2,h3,hS,h6⟩:=h
 obtain⟨a1,a2,a3,a4,a5,a6,a7,a8,a9,a10,a11,a12,a13,a14⟩:=id hok
 have hok:=Hd hok
 obtain⟨g,c,rfl,hnc⟩:=(show ∃g c,bv = .slice (some ⟨g,0,none⟩) G.buf.size c∧G.buf.size≤c from by
  rcases h2.2 with⟨_,e⟩ | ⟨g,cap,cur,rfl,_,_,hc,_⟩
  · omega
  · exact⟨g,cap,rfl,hc⟩)
 have HP:=Hd h1
 have HO:=Hd h2
 have HL:=Hd h3
 have HD:=Hd hd
 have hS:=Hd hS
 have h6:=Hd h6
 have b1:decide (at_<G.firm)=false:=by simpa using hat
 have b2:(G.firm==G.fin)=false:=by simp;omega
 have c4:w.cell? ⟨p,4,none⟩=some (.int .i64 G.fin):=cell_at h1 4
 have c5:w.cell? ⟨p,5,none⟩=some (.int .i64 G.firm):=cell_at h1 5
 have hq:G.firm.tdiv 54=(b0:Int):=by rw[hb0,Int.tdiv_eq_ediv_of_nonneg a13]
 have wb0:IntKind.i64.wrap (b0:Int)=b0:=by rw[IntKind.wrap_i64];omega
 have wb1:wrap64 (b0:Int)=b0:=by unfold wrap64;omega
 have hncI:(G.buf.size:Int)≤c:=by omega
 have hcl:Hid (cnt≤4097):=cnt_le hcnt hb0 a8 a2 hbf
 have hcnt:=Hd hcnt
 replace hb0:=Hd hb0
 replace hbb:=Hd hbb
 clear h1 h2 h3 hd
 go_enter Tryz.func122,Tryz.ntmps122
 go_wp2_with fail
 go_quiet (fail)
 have HP1:Hid ((w.drewN nq).heap[p]? = _):=HP.out
 have HO1:Hid (OwnS (w.drewN nq) _ _ _ _ _):=HO.out.keep ((show Keeps (fun _=>False) w (w.drewN nq) from⟨rfl,rfl,rfl,Nat.le_refl _,fun _ _ _=>rfl⟩)) (fun _ _ h=>h)
 have HL1:Hid (OwnS (w.drewN nq) _ _ _ _ _):=HL.out.keep ((show Keeps (fun _=>False) w (w.drewN nq) from⟨rfl,rfl,rfl,Nat.le_refl _,fun _ _ _=>rfl⟩)) (fun _ _ h=>h)
 have HD1:=Hd (HD.out.keep ((show Keeps (fun _=>False) w (w.drewN nq) from⟨rfl,rfl,rfl,Nat.le_refl _,fun _ _ _=>rfl⟩)) (fun _ _ h=>h))
 have HK1:Hid (Keeps (· ∈ Sd) w (w.drewN nq)):=⟨rfl,rfl,rfl,Nat.le_refl _,fun _ _ _=>rfl⟩
 clear HP HO HL HD
 go_wp2_with fail
 clear c4 c5
 go_loopw [5] (fun s wr=>∃(k I:Nat) (D':Dev) (S':List Nat),k≤cnt∧I=b0+k∧s = .int .i64 (I:Int)∧Hid (G.fl D b0 k=(D',0))∧Hid (DiskAt wr dp D' S')∧Hid (wr.heap[p]? = some (.cells (lgC dp G (.slice (some ⟨g,0,none⟩) G.buf.size c) lv) 144 (0,0)))∧Hid (OwnS wr 5 1 (.slice (some ⟨g,0,none⟩) G.buf.size c) G.buf.size (Lib.strCells G.buf))∧Hid (OwnS wr 140 2 lv G.list.length (recV G.list))∧Hid (Keeps (· ∈ Sd) w wr)∧Hid (∀k∈S',k∈Sd∨w.heap.size≤k)) (fun s _=>cnt+b0-(intOf s).toNat)
 case atStart=>exact⟨0,b0,D,Sd,by omega,rfl,by first | rfl | rw[wb1],rfl,HD1,HP1,HO1,HL1,HK1,fun k hk => .inl hk⟩
 case round =>
  clear HP1 HO1 HL1 HD1 HK1
  obtain⟨k,I,D',S',hk,hI,rfl,hfl,HD,HP,HO,HL,HK,HS⟩:=hrel
  have hsl:D'.soft.length≤8000000004097:=by
   have h1:=fl_soft (G:=G) (D:=D) (i:=b0) k
   rw[hfl.out]at h1
   have h2:D'.soft.length≤D.soft.length+k:=h1
   have:=hcl.out
   omega
  obtain⟨hIb,hbI⟩:=fl_arith hb0.out hbb.out hbf hff a7 hI hk hcl.out
  have hlt:=hcnt.out k
  rw[←hI]at hlt
  replace hI:=Hd hI
  have e1:IntKind.i64.wrap ((I:Int)*54)=(I:Int)*54:=by rw[IntKind.wrap_i64];omega
  have c4:wr.cell? ⟨p,4,none⟩=some (.int .i64 G.fin):=cell_at HP.out 4
  have wrI:IntKind.i64.wrap ((I:Int)+1)=(I:Int)+1:=by rw[IntKind.wrap_i64];omega
  by_cases hkc:k<cnt
  ·have hlt:=hlt.1 hkc
   have hltI:(I:Int)*54<G.fin:=by omega
   obtain⟨f,hf⟩:∃f:Nat,f=54*I-54*bb:=⟨_,rfl⟩
   have hfI:(f:Int)=54*I-G.base:=by have:=hbb.out;omega
   have hfs:f<G.buf.size:=by omega
   have e2:IntKind.i64.wrap ((I:Int)*54-G.base)=(f:Int):=by rw[IntKind.wrap_i64];omega
   have e3:IntKind.i64.wrap ((f:Int)+54)=(f:Int)+54:=by rw[IntKind.wrap_i64];omega
   have htm:(I:Int).tmod G.n=(I:Int)%G.n:=Int.tmod_eq_emod_of_nonneg (by omega)
   have hm1:0≤(I:Int)%G.n:=Int.emod_nonneg _ (by omega)
   have hm2:(I:Int)%G.n<G.n:=Int.emod_lt_of_pos _ (by omega)
   have e4:IntKind.i64.wrap (G.first+(I:Int)%G.n)=G.first+(I:Int)%G.n:=by rw[IntKind.wrap_i64];omega
   have c6:wr.cell? ⟨p,6,none⟩=some (.int .i64 G.base):=cell_at HP.out 6
   have c7:wr.cell? ⟨p,7,none⟩=some (.slice (some ⟨g,0,none⟩) G.buf.size c):=cell_at HP.out 7
   have hcf:¬c=f:=by omega
   have hf0:(0:Int)≤f:=by omega
   obtain⟨t,ht⟩:∃t:Nat,t=min (f+54) G.buf.size:=⟨_,rfl⟩
   have hmn:min ((f:Int)+54) (G.buf.size:Int)=t:=by omega
   have hft':f≤t:=by omega
   have hts':t≤G.buf.size:=by omega
   have ht54:t-f≤54:=by omega
   have hft:(f:Int)≤t:=by omega
   have htc:(t:Int)≤c:=by omega
   have ht0:(0:Int)≤t:=by omega
   have hse:Hid ((G.buf.extract f t).size=t-f):=by show _=_;rw[ByteArray.size_extract];omega
   have hsecAt:Hid (secS (I:Int) (G.buf.extract f t)=G.secAt I):=by
    show _=_
    unfold Lg.secAt
    rw[show 54*I-G.base.toNat=f by omega,show min (f+54) G.buf.size=t by omega]
   replace a1:=Hd a1
   replace a2:=Hd a2
   replace a3:=Hd a3
   replace a4:=Hd a4
   replace a5:=Hd a5
   replace a6:=Hd a6
   replace a7:=Hd a7
   replace a8:=Hd a8
   replace a9:=Hd a9
   replace a10:=Hd a10
   replace hf:=Hd hf
   replace hfI:=Hd hfI
   replace hat:=Hd hat
   replace hff:=Hd hff
   replace hbf:=Hd hbf
   replace hsl:=Hd hsl
   replace hIb:=Hd hIb
   replace hsoft:=Hd hsoft
   replace hlt:=Hd hlt
   replace hkc:=Hd hkc
   replace hk:=Hd hk
   clear ht hbI a11 a12 a13 a14 b1 b2 hq hnc
   go_wp2_with fail
   have hS0:FlS w p dp G g c f (G.buf.extract f t) wr.drew:=FlS.mk' (hDr HP.out) (HO.out.keep ((Keeps.refl (fun _=>False) _).drew) (fun _ _ h=>h)) hft' hts'
   refine wp_region_held_drew (S:=FlS w p dp G g c f (G.buf.extract f t)) (by kernel_rfl) hS0 (fun hHeld=>?_)
   clear hS0
   refine tx5 0 hHeld ?_
   go_frame
   refine tx5 1 hHeld ?_
   go_frame
   refine tx5 2 hHeld ?_
   go_frame
   refine tx5 3 hHeld ?_
   go_frame
   refine tx5 4 hHeld ?_
   go_frame
   refine tx5 5 hHeld ?_
   go_frame
   refine tx5 6 hHeld ?_
   go_frame
   refine tx5 7 hHeld ?_
   go_frame
   refine tx5 8 hHeld ?_
   go_frame
   refine tx5 9 hHeld ?_
   go_frame
   refine tx5 10 hHeld ?_
   go_frame
   refine tx5 11 hHeld ?_
   go_frame
   refine tx5 12 hHeld ?_
   go_frame
   refine tx5 13 (v := .int .i64 ((I:Int)%G.n)) hHeld ?_
   go_frame
   refine tx5 14 (v := .int .i64 (G.first+(I:Int)%G.n)) hHeld ?_
   go_frame
   refine tx5 15 hHeld ?_
   go_frame
   refine tx5 16 hHeld ?_
   go_frame
   refine tx5 17 hHeld ?_
   go_frame
   refine tx5 18 hHeld ?_
   go_frame
   refine tx5 19 hHeld ?_
   go_frame
   refine tx5 20 hHeld ?_
   go_frame
   refine tx5 21 hHeld ?_
   go_frame
   refine tx5 22 (v := .slice (some ⟨g,f,none⟩) (t-f) (c-f)) hHeld ?_
   go_frame
   refine rd 23 (fun K hK=>?_)
   go_simp
   go_at_call 151
   have HSx:=wal_sector (I:Int) (by have:=hIb.out;omega) g f (c-f) (G.buf.extract f t) (by rw[hse.out];exact ht54) wr.drew (HO.out.lt (by simp[blk,Value.ownBlock])) hHeld.2.2.2.2
   rw[hse.out]at HSx
   refine HSx.mono ?_
   rintro e w4 ⟨rfl,hb⟩
   rw[hsecAt.out]
   replace hb:Below wr.heap.size wr w4:=bT (bD bR) hb
   have HP4:=Hd (hBs hb HP.out)
   have HO4:=Hd (HO.out.keep (Keeps.of_below (fun _=>False) hb) (fun _ _ h=>h))
   have HL4:=Hd (HL.out.keep (Keeps.of_below (fun _=>False) hb) (fun _ _ h=>h))
   have HD4:=Hd (HD.out.later hb)
   have HK4:Hid (Keeps (· ∈ Sd) w w4):=HK.out.trans (Keeps.of_below (fun _=>False) hb) (fun _ _ h=>h.elim)
   have hs4:=Hd hb.size
   clear hb HSx hHeld HP HO HL HD HK
   go_wp2_with fail
   refine hK.out _ _ (FlS.mk' HP4.out HO4.out hft' hts') (fun hHeld=>?_)
   clear hK K
   try go_frame
   refine rd 24 (fun K hK=>?_)
   go_simp
   go_at_call 72
   have HWx:=dsk_write dp (G.first+(I:Int)%G.n) (secS (I:Int) (G.buf.extract f t)) (by rw[secS_size _ _ (by rw[hse.out];exact ht54)];unfold maxLen;omega) D' S' (by have:=hsl.out;omega) w4 HD4.out
   rw[hsecAt.out]at HWx
   refine HWx.mono ?_
   rintro e w5 ⟨rfl,S5,hd5,hk5,hs5⟩
   have hnS:∀k∈p::(blk (.slice (some ⟨g,0,none⟩) G.buf.size c)++blk lv),k∉S':=fun k hk h=>by
    rcases HS.out k h with h' | h'
    · exact hdis.out k (by rw[hS.out];exact hk) h'
    · have:=hlow.out k (by rw[hS.out];exact hk);omega
   have HP5:=Hd (hk5.keep HP4.out (hnS p (by simp)))
   have HO5:=Hd (HO4.out.keep hk5 (fun k hk=>hnS k (by simp[hk])))
   have HL5:=Hd (HL4.out.keep hk5 (fun k hk=>hnS k (by simp[hk])))
   have HD5:=Hd hd5
   have HK5:Hid (Keeps (· ∈ Sd) w w5):=HK4.out.trans hk5 (fun k hk h=>(HS.out k h).resolve_right (by omega))
   have HS5:Hid (∀k∈S5,k∈Sd∨w.heap.size≤k):=fun k hk=>by
    rcases hs5 k hk with h | h
    · exact HS.out k h
    · have:=HK4.out.size;exact .inr (by omega)
   clear hk5 hs5 hd5 HWx HP4 HO4 HL4 HD4 HK4 hHeld hnS hs4
   go_wp2_with fail
   refine hK.out _ _ (FlS.mk' HP5.out HO5.out hft' hts') (fun hHeld=>?_)
   clear hK K
   try go_frame
   refine tx5 25 hHeld ?_
   go_frame
   clear hHeld
   refine wpAnyH_done (by kernel_rfl) ?_ _
   by_cases hwe:(D'.write (G.first+(I:Int)%G.n) (G.secAt I)).2=0
   ·have hn1:G.fl D b0 (k+1)=((D'.write (G.first+(I:Int)%G.n) (G.secAt I)).1,0):=by
     rw[Lg.fl,hfl.out,if_neg (by simp),←hI.out]
     exact Prod.ext rfl hwe
    have hn1:=Hd hn1
    rw[hwe]
    replace hwe:=Hd hwe
    go_wp2_with fail
    go_roundw
    case rel=>exact⟨k+1,I+1,_,S5,hkc.out,by have:=hI.out;omega,rfl,hn1,HD5,HP5,HO5,HL5,HK5,HS5⟩
    case measure=>have:=hI.out;have:=hkc.out;simp[intOf];omega
   ·have hn1:G.fl D b0 (k+1)=D'.write (G.first+(I:Int)%G.n) (G.secAt I):=by
     rw[Lg.fl,hfl.out,if_neg (by simp),←hI.out]
    have hn1:=Hd hn1
    have hwe2:((D'.write (G.first+(I:Int)%G.n) (G.secAt I)).2 != 0)=true:=by simpa using hwe
    replace hwe:=Hd hwe
    go_wp2_with fail
    go_ret
    have hst:=fl_stop (G:=G) (D:=D) (i:=b0) (k:=k+1) (by rw[hn1.out];exact hwe.out) cnt hkc.out
    have hfd:G.flushed D b0 cnt=(G,D'.write (G.first+(I:Int)%G.n) (G.secAt I)):=by
     unfold Lg.flushed
     rw[hst,hn1.out,if_pos hwe.out]
    rw[hfd]
    exact⟨rfl,S5,⟨hok.out,_,lv,HP5.out,HO5.out,HL5.out,hS.out,h6.out⟩,HD5.out,HK5.out.mono (fun _ _ h => .inr h),HS5.out⟩
  ·obtain rfl:k=cnt:=by omega
   have hge:¬((I:Int)*54<G.fin):=by
    have:¬(54*(I:Int)<G.fin):=fun h=>absurd (hlt.2 h) (by omega)
    omega
   have c0:wr.cell? ⟨p,0,none⟩=some (.pointer (some ⟨dp,0,none⟩)):=cell_at HP.out 0
   have HW:=Hd (dsk_barrier dp D' S' wr HD.out)
   replace hlt:=Hd hlt
   go_wp2_with fail
   refine(HW.out).mono ?_
   rintro e w5 ⟨rfl,S5,hd5,hk5,hs5⟩
   have hnS:∀k∈p::(blk (.slice (some ⟨g,0,none⟩) G.buf.size c)++blk lv),k∉S':=fun k hk h=>by
    rcases HS.out k h with h' | h'
    · exact hdis.out k (by rw[hS.out];exact hk) h'
    · have:=hlow.out k (by rw[hS.out];exact hk);omega
   have HP5:=Hd (hk5.keep HP.out (hnS p (by simp)))
   have HO5:=Hd (HO.out.keep hk5 (fun k hk=>hnS k (by simp[hk])))
   have HL5:=Hd (HL.out.keep hk5 (fun k hk=>hnS k (by simp[hk])))
   have HD5:=Hd hd5
   have HK5:Hid (Keeps (· ∈ Sd) w w5):=HK.out.trans hk5 (fun k hk h=>(HS.out k h).resolve_right (by omega))
   have HS5:Hid (∀k∈S5,k∈Sd∨w.heap.size≤k):=fun k hk=>by
    rcases hs5 k hk with h | h
    · exact HS.out k h
    · have:=HK.out.size;exact .inr (by omega)
   clear hk5 hs5 hd5 HW hnS c4 c0
   by_cases hbe:D'.barrier.2=0
   ·have hfd:G.flushed D b0 k=({G with firm:=G.fin},D'.barrier.1,0):=by
     unfold Lg.flushed
     rw[hfl.out]
     simp only[ne_eq,not_true_eq_false,if_false,hbe]
    have hfd:=Hd hfd
    rw[hbe]
    replace hbe:=Hd hbe
    have c4:w5.cell? ⟨p,4,none⟩=some (.int .i64 G.fin):=cell_at HP5.out 4
    have c5:w5.cell? ⟨p,5,none⟩=some (.int .i64 G.firm):=cell_at HP5.out 5
    have f5:=free_at HP5.out 5
    go_wp2_with fail
    go_ret
    rw[hfd.out]
    have hps:∀k∈p::(blk (.slice (some ⟨g,0,none⟩) G.buf.size c)++blk lv),k∉S5:=fun k hk h=>by
     rcases HS5.out k h with h' | h'
     · exact hdis.out k (by rw[hS.out];exact hk) h'
     · have:=hlow.out k (by rw[hS.out];exact hk);omega
    have hnd:=h6.out
    rw[hS.out]at hnd
    have hnp:=(List.nodup_cons.1 hnd).1
    have K1:Keeps (· = p) w5 (w5.setCell ⟨p,5,none⟩ (.int .i64 G.fin)):=(Keeps.refl _ _).setCell _ _ (.inl rfl)
    refine⟨rfl,S5,⟨?_,.slice (some ⟨g,0,none⟩) G.buf.size c,lv,heap_set HP5.out 5 _,HO5.out.keep K1 (fun k hk e=>hnp (by subst e;simp[hk])),HL5.out.keep K1 (fun k hk e=>hnp (by subst e;simp[hk])),hS.out,h6.out⟩,HD5.out.keep K1 (fun k hk e=>hps p (by simp) (e ▸ hk)),?_,HS5.out⟩
    ·obtain⟨q1,q2,q3,q4,q5,q6,q7,q8,q9,q10,q11,q12,q13,q14⟩:=hok.out
     exact⟨q1,q2,q3,q4,q5,q6,q7,q8,q9,q10,q11,q12,by show 0≤G.fin;omega,q7⟩
    ·refine(HK5.out.mono (T:=fun k=>k∈S∨k∈Sd) (fun _ _ h => .inr h)).setCell _ _ (.inl (.inl ?_))
     rw[hS.out];simp
   ·have hfd:G.flushed D b0 k=(G,D'.barrier):=by
     unfold Lg.flushed
     rw[hfl.out]
     simp only[ne_eq,not_true_eq_false,if_false]
     rw[if_pos hbe]
    have hfd:=Hd hfd
    have hbe2:(D'.barrier.2 != 0)=true:=by simpa using hbe
    replace hbe:=Hd hbe
    go_wp2_with fail
    go_ret
    rw[hfd.out]
    exact⟨rfl,S5,⟨hok.out,_,lv,HP5.out,HO5.out,HL5.out,hS.out,h6.out⟩,HD5.out,HK5.out.mono (fun _ _ h => .inr h),HS5.out⟩
end Go.Proofs.YtimomjheanfbmaaGreatDoor
namespace Go.Proofs.YtimomjheanfbmaaGreatDoor
open Go.RowKit
end Go.Proofs.YtimomjheanfbmaaGreatDoor
namespace Go.Proofs.YtimomjheanfbmaaGreatDoor
open Go.RowKit
open Go.Maps (Keyed int_keyed keyOf_int_mk)
end Go.Proofs.YtimomjheanfbmaaGreatDoor
namespace Go.Proofs.YtimomjheanfbmaaGreatDoor
open Go.RowKit
end Go.Proofs.YtimomjheanfbmaaGreatDoor
