import Derived.Test.YtimomjheanfbmaaGreatDoorQaa
import Derived.Test.YtimomjheanfbmaaGreatDoorQac
import Derived.ScopeJumps
set_option linter.unusedSimpArgs false
set_option linter.unusedVariables false
namespace Go.Proofs.YtimomjheanfbmaaGreatDoor
open Go.RowKit
theorem PgOk.small {P:Pg} (h:PgOk P):∀i,i<6→(P.dt i).size≤34:=fun i hi=>(h.2 i hi).2.2.1
theorem pg_check_ok (P:Pg) (hok:PgOk P) (w:World):Calls Tryz.prog 80 #[pgV P] w fun e w'=>e = .returned (.int .i64 0)∧Below w.heap.size w w' :=
 (pg_check P (fun i hi=>by have:=hok.small i hi;unfold maxLen;omega) w).mono fun e w' ⟨h,hb⟩=>⟨h.elim (fun h=>h.1) (fun h=>absurd hok h.2),hb⟩
def numP (P:Pg):Nat→Int
 | 0=>P.kind
 | 1=>P.level
 | 2=>P.store
 | _=>P.next
def widP:Nat→Nat
 | 0=>1
 | 1=>1
 | 2=>2
 | _=>4
def headN (P:Pg):Nat→List UInt8
 | 0=>[]
 | k+1=>headN P k++(leS (numP P k) (widP k)).data.toList
def cellL (s:Int) (d:ByteArray):List UInt8:=([UInt8.ofNat s.toNat]++(textS d).data.toList)++List.replicate (34-d.size) 0
def bodyL (P:Pg):Nat→List UInt8
 | 0=>headN P 4
 | n+1=>bodyL P n++cellL (P.st n) (P.dt n)
def pageS (P:Pg):ByteArray:=⟨(bodyL P 6).toArray⟩
theorem list_size (s:ByteArray):s.data.toList.length=s.size:=Array.length_toList
theorem headN_four (P:Pg):(headN P 4).length=8:=by simp[headN,list_size,leS_size,widP]
theorem headN_le (P:Pg) (k:Nat) (hk:k≤4):(headN P k).length≤8:=by
 match k,hk with
 | 0,_=>simp[headN,list_size,leS_size,widP]
 | 1,_=>simp[headN,list_size,leS_size,widP]
 | 2,_=>simp[headN,list_size,leS_size,widP]
 | 3,_=>simp[headN,list_size,leS_size,widP]
 | 4,_=>simp[headN,list_size,leS_size,widP]
theorem textS_size (t:ByteArray):(textS t).size=t.size+1:=by
 unfold textS;rw[bytes_size,strOfNums_one];omega
theorem cellL_length (s:Int) (d:ByteArray) (h:d.size≤34):(cellL s d).length=36:=by
 simp[cellL,list_size,textS_size];omega
theorem bodyL_length (P:Pg):∀n,(∀i,i<n→(P.dt i).size≤34)→(bodyL P n).length=8+36*n
 | 0,_=>headN_four P
 | n+1,h=>by
  rw[bodyL,List.length_append,bodyL_length P n (fun i hi=>h i (by omega)),cellL_length _ _ (h n (by omega))];omega
theorem pageS_size {P:Pg} (h:PgOk P):(pageS P).size=224:=by
 show (bodyL P 6).toArray.size=224
 rw[List.size_toArray,bodyL_length P 6 (fun i hi=>(h.2 i hi).2.2.1)]
theorem pg_range {w:World} {b:Nat} {P:Pg} {T:TypeId} {f:Nat×Nat} (h:w.heap[b]? = some (.cells (pgC P) T f)):w.rangeAt b 4 (pgA P).toList:=World.rangeAt_of_block h 4 12
def hdA (a b c d:Int):Array Value := #[.int .i64 a,.int .i64 1,.int .i64 b,.int .i64 1,.int .i64 c,.int .i64 2,.int .i64 d,.int .i64 4]
theorem run_index_hd (a b c d:Int):(∀w,(Instr.index 256 (.agg (hdA a b c d)) (.int .i64 0)).run Tryz.prog w = .ok (.agg #[.int .i64 a,.int .i64 1]) w)∧(∀w,(Instr.index 256 (.agg (hdA a b c d)) (.int .i64 1)).run Tryz.prog w = .ok (.agg #[.int .i64 b,.int .i64 1]) w)
  ∧ (∀w,(Instr.index 256 (.agg (hdA a b c d)) (.int .i64 2)).run Tryz.prog w = .ok (.agg #[.int .i64 c,.int .i64 2]) w)∧(∀w,(Instr.index 256 (.agg (hdA a b c d)) (.int .i64 3)).run Tryz.prog w = .ok (.agg #[.int .i64 d,.int .i64 4]) w):=by
 refine⟨fun w=>?_,fun w=>?_,fun w=>?_,fun w=>?_⟩ <;> simp[Instr.index,asIntOf,go_sem,hdA]
theorem pow_one:(2:Int)^(8*Int.toNat 1)=256:=by decide
theorem pow_two:(2:Int)^(8*Int.toNat 2)=65536:=by decide
theorem pow_four:(2:Int)^(8*Int.toNat 4)=4294967296:=by decide
theorem fit_one {n:Int} (h0:0≤n) (h:n≤255):n/2^(8*Int.toNat 1)=0:=by rw[pow_one];omega
theorem fit_two {n:Int} (h0:0≤n) (h:n≤65535):n/2^(8*Int.toNat 2)=0:=by rw[pow_two];omega
theorem fit_four {n:Int} (h0:0≤n) (h:n<1024):n/2^(8*Int.toNat 4)=0:=by rw[pow_four];omega
theorem bB {B b:Nat} {w w1 w2:World} (h:Below B w w1) (hb:B≤b) (k:Below b w1 w2):Below B w w2:=h.trans (k.mono hb)
set_option maxRecDepth 100000 in
set_option maxHeartbeats 16000000 in
theorem pg_encode_ok (P:Pg) (hok:PgOk P) (w:World):Calls Tryz.prog 123 #[pgV P] w fun e w'=>e = .returned (.tuple #[.string (pageS P),.int .i64 0])∧Below w.heap.size w w':=by
 have HC:=Hd (fun w=>pg_check_ok P hok w)
 have HQc:Hid ((w.alloc (.cells (pgC P) 49)).heap[w.heap.size]? = some (.cells (pgC P) 49 (0,0))):=hN rfl
 obtain⟨⟨h1,h2,h3,h4,h5,h6,h7,h8⟩,hcl⟩:=hok
 replace hcl:=Hd hcl
 have hut:=Hd Tryz.underlying47
 have hi12:Hid ((Tryz.prog.info? 47).map (·.size)=some (pgA P).toList.length):=(by kernel_rfl:(Tryz.prog.info? 47).map (·.size)=some (pgA P).toList.length)
 unfold pgV at *
 go_enter Tryz.func123,Tryz.ntmps123
 go_wp2_with (refine wpList_load_row rfl 49 _ rfl _ rfl 49 _ _ _ HQc.out Tryz.underlying49 rfl (by kernel_rfl) ?_)
 refine(HC.out _).mono ?_
 rintro e w1 ⟨rfl,hb⟩
 have HB1:=Hd (bT (bA bR) hb)
 have HQ1:=Hd (hBs hb HQc.out)
 have hw1:=block_lt HQ1.out
 clear hb HC HQc
 have p0:(w1.alloc (.cells #[.pointer none,.slice none 0 0] 212)).cell? ⟨w.heap.size,0,none⟩=some (.int .i64 P.kind):=cell_at (hO HQ1.out) 0
 have p1:(w1.alloc (.cells #[.pointer none,.slice none 0 0] 212)).cell? ⟨w.heap.size,1,none⟩=some (.int .i64 P.level):=cell_at (hO HQ1.out) 1
 have p2:(w1.alloc (.cells #[.pointer none,.slice none 0 0] 212)).cell? ⟨w.heap.size,2,none⟩=some (.int .i64 P.store):=cell_at (hO HQ1.out) 2
 have p3:(w1.alloc (.cells #[.pointer none,.slice none 0 0] 212)).cell? ⟨w.heap.size,3,none⟩=some (.int .i64 P.next):=cell_at (hO HQ1.out) 3
 go_wp2_with fail
 clear p0 p1 p2 p3
 go_loopw [32] (fun i wr=>∃(k:Nat),k≤4∧i = .int .i64 k∧Hid (BdAt wr w1.heap.size (headN P k))∧Hid (wr.heap[w.heap.size]? = some (.cells (pgC P) 49 (0,0)))∧Hid (Below w.heap.size w wr)) (fun i _=>4-(intOf i).toNat)
 case atStart=>exact⟨0,by omega,rfl,BdAt.new _,hO HQ1.out,bA HB1.out⟩
 case round =>
  obtain⟨k,hk,rfl,HBd,HQ,HB⟩:=hrel
  clear HB1 HQ1
  by_cases hk4:k<4
  ·have hlen:=headN_le P k hk
   have HX:=Hd (run_index_hd P.kind P.level P.store P.next)
   unfold hdA at HX
   obtain rfl | rfl | rfl | rfl:k=0∨k=1∨k=2∨k=3:=by omega
   ·go_wp2_with fail
    rw[HX.out.1]
    simp only[Result.andThen]
    rw[Oper.upon_value]
    go_wp2_with fail
    refine(oct_num_ok P.kind 1 (by decide) (by decide) (by omega) (fun _=>fit_one h1 (by omega)) _).mono ?_
    rintro e w2 ⟨rfl,hb⟩
    have HBd2:=Hd ((HBd.out.alloc (.cells #[.int .i64 P.kind,.int .i64 1] 255)).later hb)
    have HQ2:=Hd (hBs hb (hO HQ.out))
    have HB2:=Hd (bT (bA HB.out) hb)
    clear hb
    go_wp2_with fail
    refine(bd_string _ _ _ _ HBd2.out (by rw[leS_size];show _+1≤_;omega)).mono ?_
    rintro e w3 ⟨rfl,HBd3,hb,-⟩
    have HQ3:=Hd (hB hb hw1 HQ2.out)
    have HB3:=Hd (bB HB2.out (by omega) hb)
    replace HBd3:=Hd HBd3
    clear hb
    go_wp2_with fail
    go_roundw
    case rel=>exact⟨1,by omega,rfl,HBd3.out,HQ3,HB3⟩
    case measure=>simp[intOf]
   ·go_wp2_with fail
    rw[HX.out.2.1]
    simp only[Result.andThen]
    rw[Oper.upon_value]
    go_wp2_with fail
    refine(oct_num_ok P.level 1 (by decide) (by decide) (by omega) (fun _=>fit_one h3 h4) _).mono ?_
    rintro e w2 ⟨rfl,hb⟩
    have HBd2:=Hd ((HBd.out.alloc (.cells #[.int .i64 P.level,.int .i64 1] 255)).later hb)
    have HQ2:=Hd (hBs hb (hO HQ.out))
    have HB2:=Hd (bT (bA HB.out) hb)
    clear hb
    go_wp2_with fail
    refine(bd_string _ _ _ _ HBd2.out (by rw[leS_size];show _+1≤_;omega)).mono ?_
    rintro e w3 ⟨rfl,HBd3,hb,-⟩
    have HQ3:=Hd (hB hb hw1 HQ2.out)
    have HB3:=Hd (bB HB2.out (by omega) hb)
    replace HBd3:=Hd HBd3
    clear hb
    go_wp2_with fail
    go_roundw
    case rel=>exact⟨2,by omega,rfl,HBd3.out,HQ3,HB3⟩
    case measure=>simp[intOf]
   ·go_wp2_with fail
    rw[HX.out.2.2.1]
    simp only[Result.andThen]
    rw[Oper.upon_value]
    go_wp2_with fail
    refine(oct_num_ok P.store 2 (by decide) (by decide) (by omega) (fun _=>fit_two h5 h6) _).mono ?_
    rintro e w2 ⟨rfl,hb⟩
    have HBd2:=Hd ((HBd.out.alloc (.cells #[.int .i64 P.store,.int .i64 2] 255)).later hb)
    have HQ2:=Hd (hBs hb (hO HQ.out))
    have HB2:=Hd (bT (bA HB.out) hb)
    clear hb
    go_wp2_with fail
    refine(bd_string _ _ _ _ HBd2.out (by rw[leS_size];show _+2≤_;omega)).mono ?_
    rintro e w3 ⟨rfl,HBd3,hb,-⟩
    have HQ3:=Hd (hB hb hw1 HQ2.out)
    have HB3:=Hd (bB HB2.out (by omega) hb)
    replace HBd3:=Hd HBd3
    clear hb
    go_wp2_with fail
    go_roundw
    case rel=>exact⟨3,by omega,rfl,HBd3.out,HQ3,HB3⟩
    case measure=>simp[intOf]
   ·go_wp2_with fail
    rw[HX.out.2.2.2]
    simp only[Result.andThen]
    rw[Oper.upon_value]
    go_wp2_with fail
    refine(oct_num_ok P.next 4 (by decide) (by decide) (by omega) (fun _=>fit_four h7 h8) _).mono ?_
    rintro e w2 ⟨rfl,hb⟩
    have HBd2:=Hd ((HBd.out.alloc (.cells #[.int .i64 P.next,.int .i64 4] 255)).later hb)
    have HQ2:=Hd (hBs hb (hO HQ.out))
    have HB2:=Hd (bT (bA HB.out) hb)
    clear hb
    go_wp2_with fail
    refine(bd_string _ _ _ _ HBd2.out (by rw[leS_size];show _+4≤_;omega)).mono ?_
    rintro e w3 ⟨rfl,HBd3,hb,-⟩
    have HQ3:=Hd (hB hb hw1 HQ2.out)
    have HB3:=Hd (bB HB2.out (by omega) hb)
    replace HBd3:=Hd HBd3
    clear hb
    go_wp2_with fail
    go_roundw
    case rel=>exact⟨4,by omega,rfl,HBd3.out,HQ3,HB3⟩
    case measure=>simp[intOf]
  obtain rfl:k=4:=by omega
  replace HBd:Hid (BdAt wr w1.heap.size (bodyL P 0)):=HBd
  clear h1 h2 h3 h4 h5 h6 h7 h8
  have hpr:=Hd (pg_range HQ.out)
  have hix:=Hd (fun k hk=>run_index_pg P k hk)
  generalize pgA P=C at *
  go_wp2_with (refine wpList_load_mid rfl 47 _ rfl w.heap.size 4 rfl C.toList _ hpr.out hut.out rfl hi12.out ?_)
  clear hpr HQ
  go_loopw [49] (fun i wr=>∃(k:Nat),k≤6∧i = .int .i64 k∧Hid (BdAt wr w1.heap.size (bodyL P k))∧Hid (Below w.heap.size w wr)) (fun i _=>6-(intOf i).toNat)
  case atStart=>exact⟨0,by omega,rfl,HBd,HB⟩
  case round =>
   obtain⟨k,hk,rfl,HBd,HB⟩:=hrel
   have hbw:=HBd.out.lt
   by_cases hk6:k<6
   rotate_left
   ·obtain rfl:k=6:=by omega
    go_wp2_with fail
    refine(bd_done _ _ _ HBd.out).mono ?_
    rintro e w2 ⟨rfl,hb⟩
    have HB2:=Hd (bB HB.out (by omega) hb)
    clear hb
    go_wp2_with fail
    go_ret2
    exact⟨rfl,HB2.out⟩
   have hk6':(k:Int)<6:=by omega
   have hixk:=hix.out k hk6
   obtain⟨g1,g2,g3,g4⟩:=hcl.out k hk6
   have hlen:=bodyL_length P k (fun i hi=>(hcl.out i (by omega)).2.2.1)
   have hbody:Hid (bodyL P (k+1)=bodyL P k++cellL (P.st k) (P.dt k)):=rfl
   obtain⟨c,hc⟩:∃c:UInt8,P.st k=(c.toNat:Int):=⟨UInt8.ofNat (P.st k).toNat,by simp[UInt8.toNat_ofNat'];omega⟩
   obtain⟨d,ed⟩:∃d,P.dt k=d:=⟨_,rfl⟩
   have hcz:c.toNat≤2:=by omega
   unfold cellL at hbody
   rw[hc,ed,Int.toNat_natCast,UInt8.ofNat_toNat]at hbody
   rw[hc,ed]at hixk
   rw[ed]at g3
   clear g1 g2 g4 hc ed
   obtain⟨l,el⟩:∃l,bodyL P k=l:=⟨_,rfl⟩
   rw[el]at hbody hlen HBd
   clear el
   obtain⟨m,hm⟩:∃m:Nat,d.size+m=34:=⟨34-d.size,by omega⟩
   rw[show 34-d.size=m by omega]at hbody
   have hm':(34:Int)-d.size=m:=by omega
   have htl:(textS d).data.toList.length=d.size+1:=by rw[list_size,textS_size]
   have hts:=textS_size d
   have hC0:=Hd (hN (w:=wr) (o := .cells #[.int .i64 c.toNat,.string d] 33) rfl)
   go_wp2_with fail
   refine(oct_text_ok d (by omega) _).mono ?_
   rintro e w2 ⟨rfl,hb⟩
   have HBd2:=Hd ((HBd.out.alloc _).later hb)
   have HB2:=Hd (bT (bA HB.out) hb)
   have hC2:=Hd (hBs hb hC0.out)
   clear hb HBd HB hC0
   have c0:=cell_at hC2.out 0
   have c1:=cell_at hC2.out 1
   go_wp2_with fail
   refine(bd_byte _ _ c _ HBd2.out (by omega)).mono ?_
   rintro e w3 ⟨rfl,HBd3,hb,hk3⟩
   have HB3:=Hd (bB HB2.out (by omega) hb)
   have hC3:=Hd (kept_block hk3 hC2.out (by omega) (by decide))
   replace HBd3:=Hd HBd3
   clear hb hk3 HBd2 HB2 hC2 c0 c1
   go_wp2_with fail
   refine(bd_string _ _ _ _ HBd3.out (by rw[List.length_append,List.length_singleton,hts];omega)).mono ?_
   rintro e w4 ⟨rfl,HBd4,hb,hk4⟩
   have HB4:=Hd (bB HB3.out (by omega) hb)
   have hC4:=Hd (kept_block hk4 hC3.out (by omega) (by decide))
   replace HBd4:=Hd HBd4
   clear hb hk4 HBd3 HB3 hC3
   have c0:=cell_at hC4.out 0
   have c1:=cell_at hC4.out 1
   go_wp2_with fail
   refine(str_repeat m (by omega) _).mono ?_
   rintro e w5 ⟨rfl,hb⟩
   have HB5:=Hd (bT HB4.out hb)
   have HBd5:=Hd (HBd4.out.later hb)
   clear hb HB4 HBd4 hC4 c0 c1
   go_wp2_with fail
   refine(bd_string _ _ _ _ HBd5.out (by show _+(List.replicate m (0:UInt8)).toArray.size≤_;simp[htl];omega)).mono ?_
   rintro e w6 ⟨rfl,HBd6,hb,-⟩
   have HB6:=Hd (bB HB5.out (by omega) hb)
   replace HBd6:=Hd HBd6
   clear hb HB5 HBd5
   go_wp2_with fail
   go_roundw
   case rel =>
    refine⟨k+1,by omega,rfl,?_,HB6⟩
    rw[hbody.out,←List.append_assoc,←List.append_assoc]
    exact HBd6
   case measure=>simp[intOf];omega
end Go.Proofs.YtimomjheanfbmaaGreatDoor
namespace Go.Proofs.YtimomjheanfbmaaGreatDoor
open Go.RowKit
def stD (s:ByteArray) (i:Nat):Int:=valS (s.extract (8+36*i) (9+36*i))
def nD (s:ByteArray) (i:Nat):Int:=valS (s.extract (9+36*i) (10+36*i))
def bodD (s:ByteArray) (i:Nat):ByteArray:=s.extract (10+36*i) (44+36*i)
def dtD (s:ByteArray) (i:Nat):ByteArray:=(bodD s i).extract 0 (nD s i).toNat
def decP (s:ByteArray):Pg:={kind:=valS (s.extract 0 1),level:=valS (s.extract 1 2),store:=valS (s.extract 2 4),next:=valS (s.extract 4 8),st:=stD s,dt:=dtD s}
def bld (s:ByteArray) (k:Nat):Pg:={decP s with st:=fun i=>if i<k then stD s i else 0,dt:=fun i=>if i<k then dtD s i else ⟨#[]⟩}
def pageZ:Pg:={kind:=0,level:=0,store:=0,next:=0,st:=fun _=>0,dt:=fun _=>⟨#[]⟩}
def ClDec (s:ByteArray) (i:Nat):Prop:=nD s i≤34∧Lib.trimB ((bodD s i).extract (nD s i).toNat 34).data.toList 0=[]
def DecOk (s:ByteArray):Prop:=s.size=224∧(∀i,i<6→ClDec s i)∧PgOk (decP s)
theorem bld_next (s:ByteArray) (k:Nat) (hk:k<6) (t:Int) (d:ByteArray) (ht:stD s k=t) (hd:dtD s k=d):((pgC (bld s k)).setIfInBounds (4+k*2) (.int .i64 t)).setIfInBounds (4+k*2+1) (.string d)=pgC (bld s (k+1)):=by
 subst ht;subst hd
 match k,hk with
 | 0,_=>simp[pgC,bld]
 | 1,_=>simp[pgC,bld]
 | 2,_=>simp[pgC,bld]
 | 3,_=>simp[pgC,bld]
 | 4,_=>simp[pgC,bld]
 | 5,_=>simp[pgC,bld]
theorem bld_six (s:ByteArray):pgC (bld s 6)=pgC (decP s):=by simp[pgC,bld,decP]
theorem bld_none (s:ByteArray):pgC (bld s 0) = #[.int .i64 (valS (s.extract 0 1)),.int .i64 (valS (s.extract 1 2)),.int .i64 (valS (s.extract 2 4)),.int .i64 (valS (s.extract 4 8)),.int .i64 0,.string ⟨#[]⟩,.int .i64 0,.string ⟨#[]⟩,.int .i64 0,.string ⟨#[]⟩,.int .i64 0,.string ⟨#[]⟩,.int .i64 0,.string ⟨#[]⟩,.int .i64 0,.string ⟨#[]⟩]:=by simp[pgC,bld,decP]
theorem rd_bytes_at (s:ByteArray) (hs:s.size=224) (o n:Nat) (h:o+n≤224):rdBytes (s.extract o 224) false n=(s.extract o (o+n),s.extract (o+n) 224,false):=by
 have hz:(s.extract o 224).size=224-o:=by rw[ByteArray.size_extract];omega
 rw[rdBytes_yes ⟨rfl,by omega,by omega⟩,Int.toNat_natCast,hz,extract_extract s o 224 0 n (by omega) (by omega) (by omega),extract_extract s o 224 n (224-o) (by omega) (by omega) (by omega)]
 congr 2
 congr 1
 omega
theorem rd_num_at (s:ByteArray) (hs:s.size=224) (o n:Nat) (h:o+n≤224) (h1:1≤n) (h8:n≤8):rdNum (s.extract o 224) false n=(valS (s.extract o (o+n)),s.extract (o+n) 224,false):=by
 unfold rdNum
 rw[if_neg (by omega),rd_bytes_at s hs o n h]
theorem valS_lt (s:ByteArray):0≤valS s∧valS s<256^s.size:=by
 have h1:=valL_lt s.data.toList
 rw[list_size]at h1
 exact⟨valL_nonneg _,h1⟩
theorem valS_one_lt (s:ByteArray) (a b:Nat) (h:b≤a+1):0≤valS (s.extract a b)∧valS (s.extract a b)<256:=by
 have h1:=valS_lt (s.extract a b)
 have hz:(s.extract a b).size≤1:=by rw[ByteArray.size_extract];omega
 generalize (s.extract a b).size=m at *
 match m,hz with
 | 0,_=>exact⟨h1.1,by omega⟩
 | 1,_=>exact h1
theorem valS_two_lt (s:ByteArray) (a b:Nat) (h:b≤a+2):0≤valS (s.extract a b)∧valS (s.extract a b)<65536:=by
 have h1:=valS_lt (s.extract a b)
 have hz:(s.extract a b).size≤2:=by rw[ByteArray.size_extract];omega
 generalize (s.extract a b).size=m at *
 match m,hz with
 | 0,_=>exact⟨h1.1,by omega⟩
 | 1,_=>exact⟨h1.1,by omega⟩
 | 2,_=>exact h1
theorem valS_four_lt (s:ByteArray) (a b:Nat) (h:b≤a+4):0≤valS (s.extract a b)∧valS (s.extract a b)<4294967296:=by
 have h1:=valS_lt (s.extract a b)
 have hz:(s.extract a b).size≤4:=by rw[ByteArray.size_extract];omega
 generalize (s.extract a b).size=m at *
 match m,hz with
 | 0,_=>exact⟨h1.1,by omega⟩
 | 1,_=>exact⟨h1.1,by omega⟩
 | 2,_=>exact⟨h1.1,by omega⟩
 | 3,_=>exact⟨h1.1,by omega⟩
 | 4,_=>exact h1
theorem cl_dec_more {s:ByteArray} {k:Nat} (h:∀j,j<k→ClDec s j) (hk:ClDec s k):∀j,j<k+1→ClDec s j:=fun j hj=>by
 by_cases e:j=k
 · subst e;exact hk
 · exact h j (by omega)
theorem dtD_size (s:ByteArray) (i:Nat):(dtD s i).size≤34:=by
 unfold dtD bodD
 rw[ByteArray.size_extract,ByteArray.size_extract]
 omega
theorem heap_set_eq {w:World} {b j:Nat} {C C':Array Value} {T:TypeId} {f:Nat×Nat} {u:Value} (h:w.heap[b]? = some (.cells C T f)) (hC:C.setIfInBounds j u=C'):(w.setCell ⟨b,j,none⟩ u).heap[b]? = some (.cells C' T f):=by
 rw[heap_set h,hC]
theorem results_row_tmp {P:Program} {fn:Func} {p k:Tmp} {ty:TypeId} (h:fn.results = #[.cell p ty,.tmp k]) (tmps:Array Value) (w:World) (g:Nat) (t:TypeId) (cs:Array Value) (fr:Nat×Nat) (d:TypeDesc)
  (hp:tmps.getD p undef = .pointer (some ⟨g,0,none⟩)) (hg:w.heap[g]? = some (.cells cs t fr))
  (hu:P.underlying ty=some d) (hd:(match d with | .struct _ | .array _ _=>true | _=>false)=true) (hi:(P.info? ty).map (·.size)=some cs.size) :
  (results fn tmps).run P w = .ok (.tuple #[.agg cs,tmps.getD k undef]) w:=by
 have hp':tmps[p]?.getD undef = .pointer (some ⟨g,0,none⟩):=by simpa using hp
 simp[results,h,hp',asAddr,run_loadVar_row w g t ty cs fr d hg hu hd hi]
theorem wp_scope_loop {P:Program} {a:Act} {w:World} {Q:Exit→Act→World→Prop} {c X:Code} (l:Nat) (J:Act→World→Prop) (μ:Act→World→Nat) (hf:findLabel c l=some (Code.skip.seq X))
  (pass:∀a w,J a w→X.wp P (Exit.jump l (fun a' w'=>J a' w'∧μ a' w'<μ a w) Q) a w)
  (first:Hid (∀a w,J a w→X.wp P (Exit.jump l J Q) a w)→c.wp P (Exit.jump l J Q) a w):(Code.scope c).wp P Q a w:=by
 refine wp_scope_jumps l J μ hf (first (fun a w hJ=>wp_mono (pass a w hJ) fun e a' w' h=>?_)) (fun a w hJ=>wp_seq (wp_skip (pass a w hJ)))
 cases e with
 | goto l'=>exact⟨h.1,h.2.1⟩
 | _=>exact h
def FrOk (a:Act) (s:ByteArray) (z r p k:Nat):Prop:=a.defers=[]∧a.tmps.size=70∧a.tmps.getD 0 undef = .string s∧a.tmps.getD 2 undef = .pointer (some ⟨z,0,none⟩)∧a.tmps.getD 3 undef = .int .i64 0∧a.tmps.getD 4 undef = .pointer (some ⟨r,0,none⟩)∧a.tmps.getD 5 undef = .pointer (some ⟨p,0,none⟩)∧a.tmps.getD 6 undef = .int .i64 k
theorem lits (T:Array Value):T=((List.range T.size).map fun j=>T.getD j undef).toArray:=by
 apply Array.ext
 · simp
 ·intro i h1 h2
  simp[Array.getD,h1]
theorem lits70 (V:Nat→Value):((List.range 70).map V).toArray = #[V 0,V 1,V 2,V 3,V 4,V 5,V 6,V 7,V 8,V 9,V 10,V 11,V 12,V 13,V 14,V 15,V 16,V 17,V 18,V 19,V 20,V 21,V 22,V 23,V 24,V 25,V 26,V 27,V 28,V 29,V 30,V 31,V 32,V 33,V 34,V 35,V 36,V 37,V 38,V 39,V 40,V 41,V 42,V 43,V 44,V 45,V 46,V 47,V 48,V 49,V 50,V 51,V 52,V 53,V 54,V 55,V 56,V 57,V 58,V 59,V 60,V 61,V 62,V 63,V 64,V 65,V 66,V 67,V 68,V 69]:=rfl
theorem FrOk.lit {a:Act} {s:ByteArray} {z r p k:Nat} (h:FrOk a s z r p k):∃V:Nat→Value,a={tmps := #[.string s,V 1,.pointer (some ⟨z,0,none⟩),.int .i64 0,.pointer (some ⟨r,0,none⟩),.pointer (some ⟨p,0,none⟩),.int .i64 k,V 7,V 8,V 9,V 10,V 11,V 12,V 13,V 14,V 15,V 16,V 17,V 18,V 19,V 20,V 21,V 22,V 23,V 24,V 25,V 26,V 27,V 28,V 29,V 30,V 31,V 32,V 33,V 34,V 35,V 36,V 37,V 38,V 39,V 40,V 41,V 42,V 43,V 44,V 45,V 46,V 47,V 48,V 49,V 50,V 51,V 52,V 53,V 54,V 55,V 56,V 57,V 58,V 59,V 60,V 61,V 62,V 63,V 64,V 65,V 66,V 67,V 68,V 69],defers:=[]}:=by
 obtain⟨T,d⟩:=a
 obtain⟨h1,h2,e0,e2,e3,e4,e5,e6⟩:=h
 simp only at h1 h2 e0 e2 e3 e4 e5 e6
 subst h1
 refine⟨fun j=>T.getD j undef,?_⟩
 have hT:=lits T
 rw[h2,lits70]at hT
 rw[e0,e2,e3,e4,e5,e6]at hT
 exact congrArg (fun t=>({tmps:=t,defers:=[]}:Act)) hT
end Go.Proofs.YtimomjheanfbmaaGreatDoor
namespace Go.Proofs.YtimomjheanfbmaaGreatDoor
open Go.RowKit
theorem ext_list (s:ByteArray) (a b:Nat):(s.extract a b).data.toList=(s.data.toList.drop a).take (b-a):=by
 rw[ByteArray.data_extract,Array.toList_extract,List.extract_eq_take_drop]
theorem ba_ext {a b:ByteArray} (h:a.data.toList=b.data.toList):a=b:=by
 apply ByteArray.ext
 exact Array.toList_inj.1 h
theorem le_cons (n:Int) (k:Nat):le n (k+1)=n%256::le (n/256) k:=by
 unfold le
 rw[List.range_succ_eq_map,List.map_cons,List.map_map]
 congr 1
 · simp
 ·apply List.map_congr_left
  intro i _
  show n/2^(8*(i+1))%256=n/256/2^(8*i)%256
  rw[Int.ediv_ediv_of_nonneg (by omega),show 8*(i+1)=8*i+8 by omega,Int.pow_add,Int.mul_comm]
  rfl
theorem mid_list (A B C:List UInt8) (a n:Nat) (ha:A.length=a) (hn:B.length=n):((A++(B++C)).drop a).take n=B:=by
 subst ha;subst hn
 simp
theorem all_of_dropWhile (p:UInt8→Bool):∀l:List UInt8,(∀x∈l.dropWhile p,p x=true)→∀x∈l,p x=true
 | [],_=>fun x h=>by cases h
 | a::l,h=>by
  cases hp:p a with
  | false =>
   have:=h a (by rw[List.dropWhile_cons_of_neg (by simp[hp])];simp)
   rw[hp]at this;cases this
  | true =>
   rw[List.dropWhile_cons_of_pos hp]at h
   intro x hx
   rcases List.mem_cons.1 hx with rfl | hx
   · exact hp
   · exact all_of_dropWhile p l h x hx
theorem dropWhile_all (p:UInt8→Bool):∀l:List UInt8,(∀x∈l,p x=true)→l.dropWhile p=[]
 | [],_=>rfl
 | a::l,h=>by rw[List.dropWhile_cons_of_pos (h a (by simp)),dropWhile_all p l fun x hx=>h x (by simp[hx])]
theorem of_dropWhile_nil (p:UInt8→Bool):∀l:List UInt8,l.dropWhile p=[]→∀x∈l,p x=true:=fun l h=>all_of_dropWhile p l (by rw[h];intro x hx;cases hx)
theorem trim_nil (l:List UInt8):Lib.trimB l 0=[]↔l=List.replicate l.length 0:=by
 unfold Lib.trimB Lib.trimLeftB Lib.trimRightB
 constructor
 ·intro h
  have h1:=of_dropWhile_nil _ _ h
  have h2:=all_of_dropWhile (· == 0) l.reverse (fun x hx=>h1 x (by simpa using hx))
  rw[List.eq_replicate_iff]
  exact⟨rfl,fun b hb=>by simpa using h2 b (by simpa using hb)⟩
 ·intro h
  have h1:∀x∈l,x=0:=(List.eq_replicate_iff.1 h).2
  rw[dropWhile_all (· == 0) l.reverse (fun x hx=>by simp[h1 x (by simpa using hx)])]
  rfl
def chunk (s:ByteArray) (i:Nat):List UInt8:=(s.data.toList.drop (8+36*i)).take 36
theorem chunk_length {s:ByteArray} {i:Nat} (hs:s.size=224) (hi:i<6):(chunk s i).length=36:=by
 unfold chunk
 rw[List.length_take,List.length_drop,list_size,hs]
 omega
theorem chunk_spec {s:ByteArray} {i:Nat} (hs:s.size=224) (hi:i<6):∃a b R,chunk s i=a::b::R∧R.length=34∧stD s i=a.toNat∧nD s i=b.toNat∧(bodD s i).data.toList=R∧(dtD s i).data.toList=R.take b.toNat:=by
 have hl:=chunk_length hs hi
 obtain⟨a,b,R,hc⟩:∃a b R,chunk s i=a::b::R:=by
  match h:chunk s i with
  | []=>rw[h]at hl;simp at hl
  | [_]=>rw[h]at hl;simp at hl
  | a::b::R=>exact⟨a,b,R,rfl⟩
 rw[hc]at hl
 have e1:(s.extract (8+36*i) (9+36*i)).data.toList=[a]:=by
  rw[ext_list,show 9+36*i-(8+36*i)=1 by omega]
  have:(chunk s i).take 1=[a]:=by rw[hc];rfl
  rw[←this]
  unfold chunk
  rw[List.take_take]
  rfl
 have e2:(s.extract (9+36*i) (10+36*i)).data.toList=[b]:=by
  rw[ext_list,show 10+36*i-(9+36*i)=1 by omega]
  have:((chunk s i).drop 1).take 1=[b]:=by rw[hc];rfl
  rw[←this]
  unfold chunk
  rw[List.drop_take,List.drop_drop,List.take_take,show 8+36*i+1=9+36*i by omega]
  rfl
 have e3:(bodD s i).data.toList=R:=by
  unfold bodD
  rw[ext_list,show 44+36*i-(10+36*i)=34 by omega]
  have:(chunk s i).drop 2=R:=by rw[hc];rfl
  rw[←this]
  unfold chunk
  rw[List.drop_take,List.drop_drop,show 8+36*i+2=10+36*i by omega]
 have e4:nD s i=b.toNat:=by unfold nD valS;rw[e2];simp[valL]
 refine⟨a,b,R,hc,by simpa using hl,?_,e4,e3,?_⟩
 · unfold stD valS;rw[e1];simp[valL]
 ·unfold dtD
  rw[ext_list,e3,e4]
  simp
theorem cellL_cons (s:Int) (d:ByteArray):cellL s d=UInt8.ofNat s.toNat::UInt8.ofNat d.size::(d.data.toList++List.replicate (34-d.size) 0):=by
 have:(textS d).data.toList=UInt8.ofNat d.size::d.data.toList:=by
  unfold textS
  rw[ByteArray.data_append,Array.toList_append,strOfNums_data]
  simp
 unfold cellL
 rw[this]
 simp
theorem bodyL_split (P:Pg) (i:Nat) (hi:i<6):∃R,bodyL P 6=bodyL P i++(cellL (P.st i) (P.dt i)++R):=by
 match i,hi with
 | 0,_=>exact⟨_,by simp only[bodyL,List.append_assoc];rfl⟩
 | 1,_=>exact⟨_,by simp only[bodyL,List.append_assoc];rfl⟩
 | 2,_=>exact⟨_,by simp only[bodyL,List.append_assoc];rfl⟩
 | 3,_=>exact⟨_,by simp only[bodyL,List.append_assoc];rfl⟩
 | 4,_=>exact⟨_,by simp only[bodyL,List.append_assoc];rfl⟩
 | 5,_=>exact⟨[],by simp only[bodyL,List.append_assoc,List.append_nil]⟩
theorem chunk_page {P:Pg} (h:PgOk P) (i:Nat) (hi:i<6):chunk (pageS P) i=cellL (P.st i) (P.dt i):=by
 obtain⟨R,hR⟩:=bodyL_split P i hi
 unfold chunk
 show ((bodyL P 6).drop _).take 36=_
 rw[hR]
 exact mid_list _ _ _ _ _ (bodyL_length P i (fun j hj=>h.small j (by omega))) (cellL_length _ _ (h.small i hi))
theorem u8_back {n:Nat} (h:n<256):(UInt8.ofNat n).toNat=n:=by rw[UInt8.toNat_ofNat'];omega
theorem dec_cell {P:Pg} (h:PgOk P) (i:Nat) (hi:i<6):stD (pageS P) i=P.st i∧dtD (pageS P) i=P.dt i∧ClDec (pageS P) i:=by
 obtain⟨a,b,R,hc,hR,e1,e2,e3,e4⟩:=chunk_spec (pageS_size h) hi
 obtain⟨h1,h2,h3,h4⟩:=h.2 i hi
 rw[chunk_page h i hi,cellL_cons]at hc
 simp only[List.cons.injEq]at hc
 obtain⟨rfl,rfl,rfl⟩:=hc
 have hz:=u8_back (n:=(P.dt i).size) (by omega)
 have hl:=list_size (P.dt i)
 refine⟨?_,?_,?_,?_⟩
 · rw[e1,u8_back (by omega)];omega
 ·apply ba_ext
  rw[e4,hz,←hl]
  simp
 · rw[e2,hz];omega
 ·rw[ext_list,e3,e2,Int.toNat_natCast,hz,←hl,List.drop_left]
  rw[trim_nil]
  simp
theorem leS_list_length (n:Int) (k:Nat):(leS n k).data.toList.length=k:=by rw[list_size,leS_size]
theorem dec_head {P:Pg} (h:PgOk P):valS ((pageS P).extract 0 1)=P.kind∧valS ((pageS P).extract 1 2)=P.level∧valS ((pageS P).extract 2 4)=P.store∧valS ((pageS P).extract 4 8)=P.next:=by
 obtain⟨⟨h1,h2,h3,h4,h5,h6,h7,h8⟩,-⟩:=h
 obtain⟨R,hR⟩:∃R,(pageS P).data.toList=(leS P.kind 1).data.toList++((leS P.level 1).data.toList++((leS P.store 2).data.toList++((leS P.next 4).data.toList++R))):=by
  obtain⟨R,hR⟩:=bodyL_split P 0 (by omega)
  refine⟨cellL (P.st 0) (P.dt 0)++R,?_⟩
  show bodyL P 6=_
  rw[hR]
  simp only[bodyL,headN,numP,widP,List.nil_append,List.append_assoc]
 have l1:=leS_list_length P.kind 1
 have l2:=leS_list_length P.level 1
 have l3:=leS_list_length P.store 2
 have l4:=leS_list_length P.next 4
 refine⟨?_,?_,?_,?_⟩
 ·have e:((pageS P).extract 0 1).data.toList=(leS P.kind 1).data.toList:=by
   rw[ext_list,hR]
   exact mid_list [] _ _ 0 1 rfl l1
  rw[ba_ext e,valS_leS _ _ h1 (by omega)]
 ·have e:((pageS P).extract 1 2).data.toList=(leS P.level 1).data.toList:=by
   rw[ext_list,hR]
   exact mid_list _ _ _ 1 1 l1 l2
  rw[ba_ext e,valS_leS _ _ h3 (by omega)]
 ·have e:((pageS P).extract 2 4).data.toList=(leS P.store 2).data.toList:=by
   rw[ext_list,hR,←List.append_assoc]
   exact mid_list _ _ _ 2 2 (by rw[List.length_append];omega) l3
  rw[ba_ext e,valS_leS _ _ h5 (by omega)]
 ·have e:((pageS P).extract 4 8).data.toList=(leS P.next 4).data.toList:=by
   rw[ext_list,hR,←List.append_assoc,←List.append_assoc]
   exact mid_list _ _ _ 4 4 (by rw[List.length_append,List.length_append];omega) l4
  rw[ba_ext e,valS_leS _ _ h7 (by omega)]
theorem pgC_congr {P Q:Pg} (h1:P.kind=Q.kind) (h2:P.level=Q.level) (h3:P.store=Q.store) (h4:P.next=Q.next) (h5:∀i,i<6→P.st i=Q.st i∧P.dt i=Q.dt i):pgC P=pgC Q:=by
 unfold pgC
 rw[h1,h2,h3,h4,(h5 0 (by omega)).1,(h5 1 (by omega)).1,(h5 2 (by omega)).1,(h5 3 (by omega)).1,(h5 4 (by omega)).1,(h5 5 (by omega)).1,(h5 0 (by omega)).2,(h5 1 (by omega)).2,(h5 2 (by omega)).2,(h5 3 (by omega)).2,(h5 4 (by omega)).2,(h5 5 (by omega)).2]
theorem decP_eqs {s:ByteArray} {P:Pg} (h:valS (s.extract 0 1)=P.kind∧valS (s.extract 1 2)=P.level∧valS (s.extract 2 4)=P.store∧valS (s.extract 4 8)=P.next) (h5:∀i,i<6→stD s i=P.st i∧dtD s i=P.dt i):(decP s).kind=P.kind∧(decP s).level=P.level∧(decP s).store=P.store∧(decP s).next=P.next∧∀i,i<6→(decP s).st i=P.st i∧(decP s).dt i=P.dt i :=
 ⟨h.1,h.2.1,h.2.2.1,h.2.2.2,h5⟩
theorem dec_eqs {P:Pg} (h:PgOk P):(decP (pageS P)).kind=P.kind∧(decP (pageS P)).level=P.level∧(decP (pageS P)).store=P.store∧(decP (pageS P)).next=P.next∧∀i,i<6→(decP (pageS P)).st i=P.st i∧(decP (pageS P)).dt i=P.dt i :=
 decP_eqs (dec_head h) fun i hi=>⟨(dec_cell h i hi).1,(dec_cell h i hi).2.1⟩
theorem dec_enc {P:Pg} (h:PgOk P):pgC (decP (pageS P))=pgC P:=by
 obtain⟨h1,h2,h3,h4,h5⟩:=dec_eqs h
 exact pgC_congr h1 h2 h3 h4 h5
theorem PgOk.congr {P Q:Pg} (h1:P.kind=Q.kind) (h2:P.level=Q.level) (h3:P.store=Q.store) (h4:P.next=Q.next) (h5:∀i,i<6→P.st i=Q.st i∧P.dt i=Q.dt i) (h:PgOk Q):PgOk P:=by
 refine⟨?_,fun i hi=>?_⟩
 · unfold HdOk;rw[h1,h2,h3,h4];exact h.1
 · rw[(h5 i hi).1,(h5 i hi).2];exact h.2 i hi
theorem dec_ok {P:Pg} (h:PgOk P):DecOk (pageS P):=by
 obtain⟨h1,h2,h3,h4,h5⟩:=dec_eqs h
 exact⟨pageS_size h,fun i hi=>(dec_cell h i hi).2.2,PgOk.congr h1 h2 h3 h4 h5 h⟩
end Go.Proofs.YtimomjheanfbmaaGreatDoor
namespace Go.Proofs.YtimomjheanfbmaaGreatDoor
open Go.RowKit
theorem bodyL_congr {P Q:Pg} (h1:P.kind=Q.kind) (h2:P.level=Q.level) (h3:P.store=Q.store) (h4:P.next=Q.next):∀n,(∀j,j<n→P.st j=Q.st j∧P.dt j=Q.dt j)→bodyL P n=bodyL Q n
 | 0,_=>by
  show headN P 4=headN Q 4
  simp only[headN,numP,h1,h2,h3,h4]
 | n+1,h=>by
  rw[bodyL,bodyL,bodyL_congr h1 h2 h3 h4 n (fun j hj=>h j (by omega)),(h n (by omega)).1,(h n (by omega)).2]
theorem pageS_congr {P Q:Pg} (h:pgC P=pgC Q):pageS P=pageS Q:=by
 unfold pgC at h
 simp only[Array.mk.injEq,List.cons.injEq,Value.int.injEq,Value.string.injEq,true_and,and_true]at h
 obtain⟨h1,h2,h3,h4,h5,h6,h7,h8,h9,h10,h11,h12,h13,h14,h15,h16⟩:=h
 unfold pageS
 rw[bodyL_congr h1 h2 h3 h4 6 (fun j hj=>?_)]
 match j,hj with
 | 0,_=>exact⟨h5,h6⟩
 | 1,_=>exact⟨h7,h8⟩
 | 2,_=>exact⟨h9,h10⟩
 | 3,_=>exact⟨h11,h12⟩
 | 4,_=>exact⟨h13,h14⟩
 | 5,_=>exact⟨h15,h16⟩
end Go.Proofs.YtimomjheanfbmaaGreatDoor
