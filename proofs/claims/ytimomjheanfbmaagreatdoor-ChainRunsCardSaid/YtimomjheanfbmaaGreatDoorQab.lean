import Derived.Test.YtimomjheanfbmaaGreatDoorQaa
import Derived.Test.YtimomjheanfbmaaGreatDoorProg
import Derived.BigRegion
import Derived.Deep.QuietTactic
import Derived.BigQuiet
import Derived.ProofKit
import Derived.OpenShut
import Derived.Deep.Slices
import Derived.Deep.DeepAppendWide
set_option linter.unusedSimpArgs false
set_option linter.unusedVariables false
namespace Go.Proofs.YtimomjheanfbmaaGreatDoor
open Go.RowKit
theorem Tryz.info_u8:(Tryz.prog.info? 5).map (fun i=>(i.zero,i.size,i.bytes))=some (some (.int .u8 0),1,1):=by kernel_rfl
set_option maxHeartbeats 400000 in
set_option maxRecDepth 100000 in
theorem oct_num_ok (n width:Int) (h1:1≤width) (h8:width≤8) (hn:0≤n) (hf:width<8→n/2^(8*width.toNat)=0) (w:World) :
  Calls Tryz.prog 79 #[.int .u64 n,.int .i64 width] w fun e w'=>e = .returned (.tuple #[.string (leS n width.toNat),.int .i64 0])∧Below w.heap.size w w':=by
 obtain⟨k,rfl⟩:=Int.eq_ofNat_of_zero_le (show 0≤width by omega)
 rw[Int.toNat_natCast]at hf ⊢
 obtain⟨i0,hi,hz0,hz1,hz2⟩:=info_parts Tryz.info_u8
 have hlen:(k:Int)≤8:=by omega
 by_cases hk8:(k:Int)<8
 all_goals
  try have hf:=hf hk8
  go_enter Tryz.func79,Tryz.ntmps79
  go_wp2_with (first | (at_make;refine wpList_make_full _ rfl _ _ 141 rfl w.heap.size 5 i0 (.int .u8 0) 1 Tryz.underlying141 hi hz0 hz1 _ _ _ _ k rfl rfl rfl rfl (by rw[hz2];omega) (by unfold maxLen;omega) (Nat.le_refl _) ?_;rintro w1 hown hg))
  have hB:Below w.heap.size w w1:=(Below.refl _ _).grown hg (Nat.le_refl _) (by simp)
  have hown':w1.ownsRow w.heap.size 5 1 (.slice (some ⟨w.heap.size,0,none⟩) k k) k (leRow n k 0):=by
   rw[leRow_zero,←toList_madeCells_one];simpa[Value.cells]using hown
  clear hown hg
  go_loopw [29] (fun i wr=>∃j:Nat,j≤k∧i = .int .i64 j∧wr.ownsRow w.heap.size 5 1 (.slice (some ⟨w.heap.size,0,none⟩) k k) k (leRow n k j)∧Below w.heap.size w wr) (fun i _=>k-(intOf i).toNat)
  case atStart=>exact⟨0,by omega,rfl,hown',hB⟩
  case round =>
   obtain⟨j,hj,rfl,ho,hb⟩:=hrel
   by_cases hlt:j<k
   ·have hc:=ho.cellAt j (by omega)
    rw[leRow_at n k j hlt]at hc
    have hfz:=ho.frozenAt j
    have Hb:=Hd hb
    have Ho:=Hd ho
    clear hb ho
    go_wp2
    go_roundw
    case rel=>exact⟨j+1,by omega,by go_num,(leRow_set n k j hlt) ▸ (Ho.out.stored j _).1,Hb.out.setCell (by simp) _⟩
    case measure=>simp[intOf];omega
   ·have hjk:j=k:=by omega
    subst hjk
    have hx:=run_convert_bytes_arg (P:=Tryz.prog) wr 141 5 Tryz.underlying141 Tryz.underlying5 w.heap.size 0 j j (le n j) (le_length n j) (fun i hi=>by
     rw[Nat.zero_add,ho.cellAt i (by omega),leRow_full];simp[List.getD,le_length,hi]) 9 Tryz.underlying9
    have Hb:=Hd hb
    clear hb ho
    go_wp2
    go_ret2
    exact⟨rfl,Hb.out⟩
set_option maxHeartbeats 400000 in
theorem oct_val_bad (s:ByteArray) (h:(s.size:Int)<1∨8<(s.size:Int)) (w:World) (hs:s.size≤maxLen) :
  Calls Tryz.prog 108 #[.string s] w fun e w'=>e = .returned (.tuple #[.int .u64 0,.int .i64 1])∧w=w':=by
 unfold maxLen at hs
 rcases h with h | h
 ·go_enter Tryz.func108,Tryz.ntmps108
  go_wp2
  go_ret2
  exact⟨rfl,rfl⟩
 ·have h':¬(s.size:Int)<1:=by omega
  go_enter Tryz.func108,Tryz.ntmps108
  go_wp2
  go_ret2
  exact⟨rfl,rfl⟩
set_option maxHeartbeats 400000 in
theorem oct_val_ok (s:ByteArray) (h1:1≤(s.size:Int)) (h8:(s.size:Int)≤8) (w:World) :
  Calls Tryz.prog 108 #[.string s] w fun e w'=>e = .returned (.tuple #[.int .u64 (valS s),.int .i64 0])∧w=w':=by
 go_enter Tryz.func108,Tryz.ntmps108
 go_wp2
 go_loop [4,16] (fun n i=>∃k:Nat,k≤s.size∧i = .int .i64 k∧n = .int .u64 (valL (s.data.toList.take k))) (fun _ i=>s.size-(intOf i).toNat)
 case atStart=>exact⟨0,Nat.zero_le _,rfl,rfl⟩
 case round =>
  obtain⟨k,hk,rfl,rfl⟩:=hrel
  by_cases hlt:k<s.size
  ·have h0:=valL_nonneg (s.data.toList.take k)
   have H1:=Hd (valL_take_lt s k hk)
   have H2:=Hd (valL_take_succ s k hlt)
   go_wp2
   refine⟨⟨k+1,by omega,by go_num,?_⟩,?_⟩
   · rw[wrap_u64_byte,bits_or_step _ _ k (by omega) h0 H1.out (UInt8.toNat_lt _),H2.out]
   · simp[intOf];omega
  ·obtain rfl:k=s.size:=by omega
   have H1:Hid (valL (s.data.toList.take s.size)=valS s):=by unfold valS;rw[List.take_of_length_le (by simp)];rfl
   go_wp2
   go_ret2
   exact⟨by simp[H1.out],rfl⟩
set_option maxHeartbeats 400000 in
set_option maxRecDepth 100000 in
theorem oct_text_ok (s:ByteArray) (h:(s.size:Int)≤255) (w:World) :
  Calls Tryz.prog 138 #[.string s] w fun e w'=>e = .returned (.tuple #[.string (textS s),.int .i64 0])∧Below w.heap.size w w':=by
 have hx:=run_convert_bytes_arg (P:=Tryz.prog) (w.alloc (.cells #[.int .u8 s.size] 5)) 141 5 Tryz.underlying141 Tryz.underlying5 w.heap.size 0 1 1 [(s.size:Int)] rfl (fun i hi=>by
  obtain rfl:i=0:=by omega
  exact World.cell?_alloc_new _ _ _ _ ) 9 Tryz.underlying9
 have h1:=strOfNums_one (s.size:Int)
 go_enter Tryz.func138,Tryz.ntmps138
 go_wp2
 go_ret2
 exact⟨rfl,(Below.refl _ _).alloc (Nat.le_refl _) _⟩
set_option maxHeartbeats 400000 in
set_option maxRecDepth 100000 in
theorem ref_text_ok (s:ByteArray) (h:(s.size:Int)≤255) (w:World) :
  Calls Tryz.prog 165 #[.string s] w fun e w'=>e = .returned (.tuple #[.string (textS s),.bool true])∧Below w.heap.size w w':=by
 have hx:=run_convert_bytes_arg (P:=Tryz.prog) (w.alloc (.cells #[.int .u8 s.size] 5)) 141 5 Tryz.underlying141 Tryz.underlying5 w.heap.size 0 1 1 [(s.size:Int)] rfl (fun i hi=>by
  obtain rfl:i=0:=by omega
  exact World.cell?_alloc_new _ _ _ _ ) 9 Tryz.underlying9
 have h1:=strOfNums_one (s.size:Int)
 go_enter Tryz.func165,Tryz.ntmps165
 go_wp2
 go_ret2
 exact⟨rfl,(Below.refl _ _).alloc (Nat.le_refl _) _⟩
set_option maxHeartbeats 400000 in
set_option maxRecDepth 100000 in
theorem ref_num_ok (n width:Int) (h1:1≤width) (h8:width≤8) (hn:0≤n) (hn64:Hid (n<18446744073709551616)) (w:World) :
  Calls Tryz.prog 164 #[.int .u64 n,.int .i64 width] w fun e w'=>e = .returned (.tuple #[.string (leS n width.toNat),.bool (n/2^(8*width.toNat)==0)])∧Below w.heap.size w w':=by
 obtain⟨k,rfl⟩:=Int.eq_ofNat_of_zero_le (show 0≤width by omega)
 rw[Int.toNat_natCast]
 obtain⟨i0,hi,hz0,hz1,hz2⟩:=info_parts Tryz.info_u8
 have hlen:(k:Int)≤8:=by omega
 go_enter Tryz.func164,Tryz.ntmps164
 go_wp2
 go_loopw [0,6,7] (fun m v i wr=>∃j:Nat,j≤k∧i = .int .i64 j∧m = .int .u64 (n/2^(8*j))∧wr.ownsRow w.heap.size 5 1 v j ((le n j).map (Value.int .u8))∧Below w.heap.size w wr) (fun _ _ i _=>k-(intOf i).toNat)
 case atStart=>exact⟨0,by omega,rfl,by simp,World.ownsRow_nil _ _ _ _,Below.refl _ _⟩
 case round =>
  obtain⟨j,hj,rfl,rfl,ho,hb⟩:=hrel
  by_cases hlt:j<k
  ·have hn':0≤n/2^(8*j):=Int.ediv_nonneg hn (Int.le_of_lt (Int.pow_pos (by omega)))
   go_wp2_with (first | (at_builtin;go_must (refine wpList_append_own _ rfl _ _ 141 rfl w.heap.size 5 i0 (.int .u8 0) 1 1 Tryz.underlying141 hi hz0 hz1 hz2 rfl (by decide) _ _ _ rfl (ho.alloc _) ⟨wr.heap.size,0,none⟩ 1 1 [.int .u8 (n/2^(8*j)%256)] rfl rfl (cell_one_new _ _ _) (by simp[Value.oneCell']) (by unfold maxLen;omega) (by omega) (by have:=hb.size;simp;omega) ?_);rintro v' w1 ho1 hg1 _))
   have ho2:w1.ownsRow w.heap.size 5 1 v' (j+1) ((le n (j+1)).map (Value.int .u8)):=by rw[le_succ];simpa using ho1
   have hb2:Below w.heap.size w w1:=(hb.alloc (by have:=hb.size;omega) _).grown hg1 (by have:=hb.size;simp;omega) (fun q hq=>(ho.lt q hq).1)
   clear ho1 hg1 ho hb
   go_wp2
   go_roundw
   case rel=>exact⟨j+1,by omega,by go_num,by rw[tdiv_step n j hn hn64.out],ho2,hb2⟩
   case measure=>simp[intOf];omega
  ·obtain rfl:j=k:=by omega
   have hx:=convert_owned (P:=Tryz.prog) wr 141 5 Tryz.underlying141 Tryz.underlying5 _ _ _ _ ho 9 Tryz.underlying9
   clear ho
   go_wp2
   go_ret2
   exact⟨rfl,hb⟩
def Rd (w:World) (b:Nat) (s:ByteArray) (bad:Bool):Prop:=w.heap[b]? = some (.cells #[.string s,.bool bad] 201 (0,0))
theorem Rd.c0 {w b s bad} (h:Rd w b s bad):w.cell? ⟨b,0,none⟩=some (.string s):=cell_at h 0
theorem Rd.c1 {w b s bad} (h:Rd w b s bad):w.cell? ⟨b,1,none⟩=some (.bool bad):=cell_at h 1
theorem Rd.f (j:Nat) {w b s bad} (h:Rd w b s bad):w.frozen? ⟨b,j,none⟩=false:=free_at h j
set_option maxHeartbeats 400000 in
theorem oct_read (s:ByteArray) (w:World) :
  Calls Tryz.prog 62 #[.string s] w fun e w'=>e = .returned (.pointer (some ⟨w.heap.size,0,none⟩))∧Rd w' w.heap.size s false∧Below w.heap.size w w':=by
 go_enter Tryz.func62,Tryz.ntmps62
 go_wp2
 go_ret
 exact⟨rfl,heap_alloc_new _ _,(Below.refl _ _).alloc (Nat.le_refl _) _⟩
set_option maxHeartbeats 400000 in
theorem oct_bytes_ok (b:Nat) (s:ByteArray) (n:Int) (h0:0≤n) (hn:n≤s.size) (w:World) (hR:Rd w b s false) (hs:s.size≤maxLen) :
  Calls Tryz.prog 68 #[.pointer (some ⟨b,0,none⟩),.int .i64 n] w fun e w' =>
   e = .returned (.string (s.extract 0 n.toNat))∧Rd w' b (s.extract n.toNat s.size) false∧Keeps (· = b) w w':=by
 have c0:=hR.c0
 have c1:=hR.c1
 have f0:=hR.f 0
 have f1:=hR.f 1
 have HR:=Hd hR
 clear hR
 unfold maxLen at hs
 go_enter Tryz.func68,Tryz.ntmps68
 go_wp2
 go_ret
 refine⟨rfl,?_,(Keeps.refl _ _).setCell _ _ (Or.inl rfl)⟩
 have:=heap_set HR.out 0 (.string (s.extract n.toNat s.size))
 simpa[Rd]using this
set_option maxHeartbeats 400000 in
theorem oct_bytes_no (b:Nat) (s:ByteArray) (bad:Bool) (n:Int) (h:bad=true∨n<0∨s.size<n) (w:World) (hR:Rd w b s bad) (hs:s.size≤maxLen) :
  Calls Tryz.prog 68 #[.pointer (some ⟨b,0,none⟩),.int .i64 n] w fun e w' =>
   e = .returned (.string ⟨#[]⟩)∧Rd w' b s true∧Keeps (· = b) w w':=by
 have c0:=hR.c0
 have c1:=hR.c1
 have f0:=hR.f 0
 have f1:=hR.f 1
 have HR:=Hd hR
 have hk:Keeps (· = b) w (w.setCell ⟨b,1,none⟩ (.bool true)):=(Keeps.refl _ _).setCell _ _ (Or.inl rfl)
 have hr:Rd (w.setCell ⟨b,1,none⟩ (.bool true)) b s true:=by have:=heap_set hR 1 (.bool true);simpa[Rd]using this
 have HK:=Hd hk
 have HR':=Hd hr
 clear hR hk hr
 unfold maxLen at hs
 by_cases h1:bad=true
 ·subst h1
  go_enter Tryz.func68,Tryz.ntmps68
  go_wp2
  go_ret
  exact⟨rfl,HR'.out,HK.out⟩
 ·obtain rfl:bad=false:=by simpa using h1
  clear h1
  have h:n<0∨s.size<n:=by simpa using h
  rcases h with h | h
  ·go_enter Tryz.func68,Tryz.ntmps68
   go_wp2
   go_ret
   exact⟨rfl,HR'.out,HK.out⟩
  ·have h':¬n<0:=by omega
   go_enter Tryz.func68,Tryz.ntmps68
   go_wp2
   go_ret
   exact⟨rfl,HR'.out,HK.out⟩
def rdBytes (s:ByteArray) (bad:Bool) (n:Int):ByteArray×ByteArray×Bool :=
 if bad=false∧0≤n∧n≤s.size then (s.extract 0 n.toNat,s.extract n.toNat s.size,false) else (⟨#[]⟩,s,true)
def rdNum (s:ByteArray) (bad:Bool) (width:Int):Int×ByteArray×Bool :=
 if width<1∨8<width then (0,s,true) else (valS (rdBytes s bad width).1,(rdBytes s bad width).2)
def rdText (s:ByteArray) (bad:Bool):ByteArray×ByteArray×Bool :=
 rdBytes (rdNum s bad 1).2.1 (rdNum s bad 1).2.2 (rdNum s bad 1).1
theorem rdBytes_yes {s:ByteArray} {bad:Bool} {n:Int} (h:bad=false∧0≤n∧n≤s.size):rdBytes s bad n=(s.extract 0 n.toNat,s.extract n.toNat s.size,false):=if_pos h
theorem rdBytes_no {s:ByteArray} {bad:Bool} {n:Int} (h:¬(bad=false∧0≤n∧n≤s.size)):rdBytes s bad n=(⟨#[]⟩,s,true):=if_neg h
theorem oct_bytes (b:Nat) (s:ByteArray) (bad:Bool) (n:Int) (w:World) (hR:Rd w b s bad) (hs:s.size≤maxLen) :
  Calls Tryz.prog 68 #[.pointer (some ⟨b,0,none⟩),.int .i64 n] w fun e w' =>
   e = .returned (.string (rdBytes s bad n).1)∧Rd w' b (rdBytes s bad n).2.1 (rdBytes s bad n).2.2∧Keeps (· = b) w w':=by
 by_cases h:bad=false∧0≤n∧n≤s.size
 ·rw[rdBytes_yes h]
  obtain⟨rfl,h0,h1⟩:=h
  exact oct_bytes_ok b s n h0 h1 w hR hs
 ·rw[rdBytes_no h]
  exact oct_bytes_no b s bad n (by cases bad <;> simp_all;omega) w hR hs
theorem rdBytes_size (s:ByteArray) (bad:Bool) (n:Int):(rdBytes s bad n).2.1.size≤s.size∧(rdBytes s bad n).1.size≤s.size:=by
 unfold rdBytes;split
 · simp[ByteArray.size_extract];omega
 · exact⟨Nat.le_refl _,Nat.zero_le _⟩
theorem rdBytes_len (s:ByteArray) (bad:Bool) (n:Int):(rdBytes s bad n).1.size=n∨(rdBytes s bad n).1=⟨#[]⟩:=by
 unfold rdBytes;split
 · left;simp[ByteArray.size_extract];omega
 · right;rfl
set_option maxHeartbeats 400000 in
theorem oct_rnum_bad (b:Nat) (s:ByteArray) (bad:Bool) (n:Int) (h:n<1∨8<n) (w:World) (hR:Rd w b s bad) :
  Calls Tryz.prog 64 #[.pointer (some ⟨b,0,none⟩),.int .i64 n] w fun e w' =>
   e = .returned (.int .u64 0)∧Rd w' b s true∧Keeps (· = b) w w':=by
 have c1:=hR.c1
 have f1:=hR.f 1
 have hk:Keeps (· = b) w (w.setCell ⟨b,1,none⟩ (.bool true)):=(Keeps.refl _ _).setCell _ _ (Or.inl rfl)
 have hr:Rd (w.setCell ⟨b,1,none⟩ (.bool true)) b s true:=by have:=heap_set hR 1 (.bool true);simpa[Rd]using this
 have HK:=Hd hk
 have HR':=Hd hr
 clear hR hk hr
 rcases h with h | h
 ·go_enter Tryz.func64,Tryz.ntmps64
  go_wp2
  go_ret
  exact⟨rfl,HR'.out,HK.out⟩
 ·have h':¬n<1:=by omega
  go_enter Tryz.func64,Tryz.ntmps64
  go_wp2
  go_ret
  exact⟨rfl,HR'.out,HK.out⟩
def valE (s:ByteArray):Int:=if s.size=0 then 1 else 0
theorem oct_val (s:ByteArray) (h8:(s.size:Int)≤8) (w:World) :
  Calls Tryz.prog 108 #[.string s] w fun e w'=>e = .returned (.tuple #[.int .u64 (valS s),.int .i64 (valE s)])∧w=w':=by
 unfold valE
 by_cases h:s.size=0
 ·rw[if_pos h]
  have:valS s=0:=by
   unfold valS;rw[List.eq_nil_of_length_eq_zero (show s.data.toList.length=0 from by rw[Array.length_toList];exact h)];rfl
  rw[this]
  exact oct_val_bad s (by omega) w (by unfold maxLen;omega)
 ·rw[if_neg h]
  exact oct_val_ok s (by omega) h8 w
set_option maxHeartbeats 400000 in
theorem oct_rnum_good (b:Nat) (s:ByteArray) (bad:Bool) (n:Int) (h1:1≤n) (h8:n≤8) (w:World) (hR:Rd w b s bad) (hs:s.size≤maxLen) :
  Calls Tryz.prog 64 #[.pointer (some ⟨b,0,none⟩),.int .i64 n] w fun e w' =>
   e = .returned (.int .u64 (valS (rdBytes s bad n).1))∧Rd w' b (rdBytes s bad n).2.1 (rdBytes s bad n).2.2∧Keeps (· = b) w w':=by
 have hl:((rdBytes s bad n).1.size:Int)≤8:=by
  rcases rdBytes_len s bad n with h | h
  · omega
  · rw[h];decide
 have HB:=Hd (oct_bytes b s bad n w hR hs)
 clear hR
 generalize rdBytes s bad n=r at *
 go_enter Tryz.func64,Tryz.ntmps64
 go_wp2_with fail
 refine HB.out.mono ?_
 rintro e w1 ⟨rfl,hr1,hk1⟩
 have HR1:=Hd hr1
 have HK1:=Hd hk1
 clear hr1 hk1
 go_wp2_with fail
 refine(oct_val r.1 hl w1).mono ?_
 rintro e w2 ⟨rfl,rfl⟩
 go_wp2_with fail
 go_ret
 exact⟨rfl,HR1.out,HK1.out⟩
theorem oct_rnum (b:Nat) (s:ByteArray) (bad:Bool) (n:Int) (w:World) (hR:Rd w b s bad) (hs:s.size≤maxLen) :
  Calls Tryz.prog 64 #[.pointer (some ⟨b,0,none⟩),.int .i64 n] w fun e w' =>
   e = .returned (.int .u64 (rdNum s bad n).1)∧Rd w' b (rdNum s bad n).2.1 (rdNum s bad n).2.2∧Keeps (· = b) w w':=by
 unfold rdNum
 split
 ·rename_i h
  exact oct_rnum_bad b s bad n h w hR
 ·rename_i h
  exact oct_rnum_good b s bad n (by omega) (by omega) w hR hs
theorem rdNum_size (s:ByteArray) (bad:Bool) (n:Int):(rdNum s bad n).2.1.size≤s.size:=by
 unfold rdNum;split
 · exact Nat.le_refl _
 · exact(rdBytes_size s bad n).1
theorem rdNum_range (s:ByteArray) (bad:Bool) (n:Int):0≤(rdNum s bad n).1∧((rdNum s bad n).1<256^n.toNat):=by
 unfold rdNum;split
 · exact⟨Int.le_refl _,Int.pow_pos (by omega)⟩
 ·refine⟨valL_nonneg _,?_⟩
  rcases rdBytes_len s bad n with h | h
  ·have:=valL_lt (rdBytes s bad n).1.data.toList
   rw[Array.length_toList]at this
   have e:(rdBytes s bad n).1.data.size=n.toNat:=by
    have:(rdBytes s bad n).1.size=n:=h
    show (rdBytes s bad n).1.size=_
    omega
   rw[e]at this
   exact this
  · rw[h];exact Int.pow_pos (by omega)
set_option maxHeartbeats 400000 in
theorem oct_rtext (b:Nat) (s:ByteArray) (bad:Bool) (w:World) (hR:Rd w b s bad) (hs:s.size≤maxLen) :
  Calls Tryz.prog 65 #[.pointer (some ⟨b,0,none⟩)] w fun e w' =>
   e = .returned (.string (rdText s bad).1)∧Rd w' b (rdText s bad).2.1 (rdText s bad).2.2∧Keeps (· = b) w w':=by
 unfold rdText
 have HB:=Hd (oct_rnum b s bad 1 w hR hs)
 have hz:=rdNum_size s bad 1
 have hr:=rdNum_range s bad 1
 have h0:=hr.1
 have h1:(rdNum s bad 1).1<256:=hr.2
 clear hR hr
 generalize rdNum s bad 1=r at *
 have HD:=Hd (fun w1 h=>oct_bytes b r.2.1 r.2.2 r.1 w1 h (Nat.le_trans hz hs))
 generalize rdBytes r.2.1 r.2.2 r.1=q at *
 go_enter Tryz.func65,Tryz.ntmps65
 go_wp2_with fail
 refine HB.out.mono ?_
 rintro e w1 ⟨rfl,hr1,hk1⟩
 have HR1:=Hd hr1
 have HK1:=Hd hk1
 clear hr1 hk1
 go_wp2_with fail
 refine(HD.out w1 HR1.out).mono ?_
 rintro e w2 ⟨rfl,hr2,hk2⟩
 have HR2:=Hd hr2
 have HK2:=Hd (HK1.out.trans hk2 (fun _ _ h=>h))
 clear hr2 hk2
 go_wp2_with fail
 go_ret
 exact⟨rfl,HR2.out,HK2.out⟩
def rdLeft (s:ByteArray) (bad:Bool):Int:=if bad then 0 else s.size
set_option maxHeartbeats 400000 in
theorem oct_left (b:Nat) (s:ByteArray) (bad:Bool) (w:World) (hR:Rd w b s bad) (hs:s.size≤maxLen) :
  Calls Tryz.prog 69 #[.pointer (some ⟨b,0,none⟩)] w fun e w'=>e = .returned (.int .i64 (rdLeft s bad))∧w=w':=by
 have c0:=hR.c0
 have c1:=hR.c1
 clear hR
 unfold maxLen at hs
 unfold rdLeft
 cases bad
 ·go_enter Tryz.func69,Tryz.ntmps69
  go_wp2
  go_ret
  exact⟨rfl,rfl⟩
 ·go_enter Tryz.func69,Tryz.ntmps69
  go_wp2
  go_ret
  exact⟨rfl,rfl⟩
end Go.Proofs.YtimomjheanfbmaaGreatDoor
namespace Go.Proofs.YtimomjheanfbmaaGreatDoor
open Go.RowKit
theorem quiet_same {P:Program} {f:FuncId} {args:Array Value} {w:World} {n:Nat} {v:Value}
  (h:Calls P f args (w.drewN n) fun e w'=>e = .returned v∧w.drewN n=w'):Calls P f args (w.drewN n) fun e w''=>e = .returned v∧∃m,w''=w.drewN m :=
 h.mono fun _ _ ⟨he,hm⟩=>⟨he,n,hm.symm⟩
theorem bDN {B:Nat} {a w:World} (h:Below B a w) (n:Nat):Below B a (w.drewN n):=⟨h.os,h.tape,h.output,h.size,h.block⟩
def Sl (w:World) (v:Value) (n:Nat) (xs:List (List Value)):Prop :=
 ∃a cap,v = .slice a xs.length cap∧xs.length≤maxLen∧(xs≠[]→∃b off,a=some ⟨b,off,none⟩∧b<w.heap.size∧∀i,i<xs.length→∀j,j<n→w.cell? ⟨b,off+i*n+j,none⟩=(xs[i]?.getD [])[j]?)
theorem mapM_some {α β:Type} {f:α→Option β}:∀{l:List α} {r:List β},l.mapM f=some r→r.length=l.length∧∀(j:Nat) (a:α),l[j]? = some a→f a=r[j]?
 | [],r,h=>by simp at h;subst h;simp
 | x::l,r,h=>by
  simp only[List.mapM_cons,Option.bind_eq_bind,Option.bind_eq_some_iff]at h
  obtain⟨y,hy,ys,hys,hr⟩:=h
  obtain rfl:y::ys=r:=by simpa using hr
  obtain⟨h1,h2⟩:=mapM_some hys
  refine⟨by simp[h1],fun j a ha=>?_⟩
  cases j with
  | zero=>simp at ha;subst ha;simpa using hy
  | succ j=>simpa using h2 j a (by simpa using ha)
theorem cells?_at {w:World} {a:Addr} {n:Nat} {cs:List Value} (h:w.cells? 0 a n=some cs):cs.length=n∧∀j,j<n→w.cell? (a.add j)=cs[j]? := by
 unfold World.cells? at h
 rw[if_pos (Nat.zero_le _)]at h
 obtain⟨h1,h2⟩:=mapM_some h
 exact⟨by simpa using h1,fun j hj=>h2 j j (by simp[hj])⟩
theorem Sl_of {H:Type} {enc:TypeId×Value→H} {P:Program} {W:World} {sp:Nat→Bool} {held:Bool} {t e:TypeId} {v:Value} {d:DataW H} {ps:List MemPlace} {n:Nat} (ht:P.underlying t=some (.slice e)) (hn:P.cellsOf e=n) (hpos:0<n)
  (hok:∃a len cap,v = .slice a len cap) (h:DataW.Trod enc P W 0 sp held t v d ps) :
  ∃xs:List (List Value),Sl W v n xs∧∀x∈xs,x.length=n∧∃fuel y,DataW.trod enc P W 0 sp held fuel e x=some y:=by
 obtain⟨fuel,hf⟩:=h
 obtain⟨a,len,cap,rfl⟩:=hok
 rcases Deep.open_slice ht hf with⟨hcs,_⟩ | ⟨a',len',cap',m,k,D,Pl,hcs,_,hl,hm,hmm,hx,hel⟩
 ·simp[Value.cells]at hcs
  obtain⟨rfl,rfl,rfl⟩:=hcs
  exact⟨[],⟨none,0,rfl,Nat.zero_le _,fun h=>(h rfl).elim⟩,by simp⟩
 ·simp[Value.cells]at hcs
  obtain⟨rfl,rfl,rfl⟩:=hcs
  rw[hn]at hel
  have hlm:len≤m:=by rw[hmm];split <;> omega
  let xs:List (List Value):=(List.range len).map fun i=>(W.cells? 0 (a'.add (i*n)) n).getD []
  have hlen:xs.length=len:=by simp[xs]
  have hget:∀i,i<len→∃cs,xs[i]? = some cs∧W.cells? 0 (a'.add (i*n)) n=some cs∧∃y,DataW.trod enc P W 0 sp held k e cs=some y:=by
   intro i hi
   obtain⟨cs,h1,h2⟩:=hel i (by omega)
   exact⟨cs,by simp[xs,hi,h1],h1,_,h2⟩
  refine⟨xs,⟨some a',cap,by rw[hlen],by omega,fun hne=>?_⟩,?_⟩
  ·have h0:0<len:=by
    rcases Nat.eq_zero_or_pos len with h | h
    · exact(hne (List.eq_nil_of_length_eq_zero (by rw[hlen,h]))).elim
    · exact h
   obtain⟨cs0,_,hc0,_⟩:=hget 0 h0
   have hz:=(cells?_at hc0).2 0 hpos
   have hl0:=(cells?_at hc0).1
   have hsome:W.cell? a'=some (cs0[0]'(by omega)):=by
    simpa[Addr.add,List.getElem?_eq_getElem (show 0<cs0.length by omega)]using hz
   have hspot:a'.spot=none:=World.cell?_spot hsome
   obtain⟨b,off,sp'⟩:=a'
   dsimp only at hspot
   subst hspot
   refine⟨b,off,rfl,World.block_lt_of_cell? W _ hsome,fun i hi j hj=>?_⟩
   obtain⟨cs,h1,h2,_⟩:=hget i (by omega)
   have:=(cells?_at h2).2 j hj
   rw[h1]
   rw[←show (Addr.add (Addr.add ⟨b,off,none⟩ (i*n)) j)=⟨b,off+i*n+j,none⟩ from by unfold Addr.add;split <;> split <;> simp_all]
   exact this
  ·intro x hx
   simp only[xs,List.mem_map,List.mem_range]at hx
   obtain⟨i,hi,rfl⟩:=hx
   obtain⟨cs,_,h2,y,h3⟩:=hget i hi
   rw[h2]
   exact⟨(cells?_at h2).1,k,y,h3⟩
theorem Sl.later {w w':World} {v:Value} {n:Nat} {xs:List (List Value)} (h:Sl w v n xs) (hb:Below w.heap.size w w'):Sl w' v n xs:=by
 obtain⟨a,cap,hv,hl,hx⟩:=h
 refine⟨a,cap,hv,hl,fun hne=>?_⟩
 obtain⟨b,off,ha,hbk,hc⟩:=hx hne
 exact⟨b,off,ha,Nat.lt_of_lt_of_le hbk hb.size,fun i hi j hj=>(hb.cell (p:=⟨b,off+i*n+j,none⟩) hbk).trans (hc i hi j hj)⟩
end Go.Proofs.YtimomjheanfbmaaGreatDoor
namespace Go.Proofs.YtimomjheanfbmaaGreatDoor
open Go.RowKit
def OwnS (w:World) (e:TypeId) (size:Nat) (v:Value) (n:Nat) (xs:List Value):Prop:=w.ownsRow 0 e size v n xs
def blk (v:Value):List Nat:=v.ownBlock.toList
theorem mem_blk {v:Value} {k:Nat}:k∈blk v↔v.ownBlock=some k:=by
 unfold blk;cases v.ownBlock <;> simp[eq_comm]
theorem OwnS.lt {w:World} {e:TypeId} {size:Nat} {v:Value} {n:Nat} {xs:List Value} (h:OwnS w e size v n xs) {k:Nat} (hk:k∈blk v):k<w.heap.size:=(World.ownsRow.lt h k (mem_blk.1 hk)).2
theorem OwnS.keep {S:Nat→Prop} {w w':World} {e:TypeId} {size:Nat} {v:Value} {n:Nat} {xs:List Value} (h:OwnS w e size v n xs) (hk:Keeps S w w') (hS:∀k∈blk v,¬S k):OwnS w' e size v n xs:=by
 refine⟨h.1,?_⟩
 rcases h.2 with h2 | ⟨g,cap,cur,rfl,hb,hg,r⟩
 · exact .inl h2
 · exact .inr ⟨g,cap,cur,rfl,hb,hk.keep hg (hS g (by simp[blk,Value.ownBlock])),r⟩
theorem OwnS.rebase {w:World} {e:TypeId} {size:Nat} {v:Value} {n:Nat} {xs:List Value} (h:OwnS w e size v n xs) (B:Nat) (hB:∀k∈blk v,B≤k):w.ownsRow B e size v n xs:=by
 refine⟨h.1,?_⟩
 rcases h.2 with h2 | ⟨g,cap,cur,rfl,hb,r⟩
 · exact .inl h2
 · exact .inr ⟨g,cap,cur,rfl,hB g (by simp[blk,Value.ownBlock]),r⟩
theorem OwnS.of {w:World} {B:Nat} {e:TypeId} {size:Nat} {v:Value} {n:Nat} {xs:List Value} (h:w.ownsRow B e size v n xs):OwnS w e size v n xs:=by
 refine⟨h.1,?_⟩
 rcases h.2 with h2 | ⟨g,cap,cur,rfl,hb,r⟩
 · exact .inl h2
 · exact .inr ⟨g,cap,cur,rfl,Nat.zero_le _,r⟩
theorem OwnS.nil (w:World) (e:TypeId) (size:Nat):OwnS w e size (.slice none 0 0) 0 []:=World.ownsRow_nil w 0 e size
section
variable {P:Program} (w:World)
theorem run_append_frame (t ty e:TypeId) (i:TypeInfo) (z:Value) (size bytes:Nat) (ht:P.underlying t=some (.slice e)) (hi:P.info? e=some i) (hz:i.zero=some z)
  (hsize:i.size=size) (hby:i.bytes=bytes) (hzs:z.cells.size=size) (hsz:0<size)
  (v:Value) (n:Nat) (xs:List Value) (hown:OwnS w e size v n xs)
  (a:Addr) (m c:Nat) (news:List Value) (hl:news.length=m*size) (hnews:∀j u,news[j]? = some u→w.cell? (a.add j)=some u) (h1:∀u∈news,u.oneCell'=true)
  (h63:n+m≤maxLen) (hbytes:((n+m)+(n+m)/4+192)*bytes≤281474976710656) :
  ∃v' w',(Builtin.append_ #[t,t] ty #[v,.slice (some a) m c]).run P w = .ok v' w'∧OwnS w' e size v' (n+m) (xs++news)∧Keeps (· ∈ blk v) w w'∧(∀k∈blk v',k∈blk v∨w.heap.size≤k) ∧
   (v' = .slice none 0 0↔v = .slice none 0 0∧m=0):=by
 have keeps:∀{w':World},w.grownBy w' v.ownBlock→Keeps (· ∈ blk v) w w':=fun hg=>(Keeps.refl _ _).grown hg (fun k hk => .inl (mem_blk.2 hk))
 rcases hown.2 with⟨rfl,rfl⟩ | ⟨g,cap,cur,rfl,hbg,hg,hnc,hcm,hcs,htake⟩
 ·obtain⟨v',w',hr,h2,h3,h4⟩:=run_append_own_wide (P:=P) w w.heap.size t ty e i z size bytes ht hi hz hsize hby hzs hsz _ _ xs (hown.rebase _ (by simp[blk,Value.ownBlock])) a m c news hl hnews h1 h63 hbytes (Nat.le_refl _)
  exact⟨v',w',hr,OwnS.of h2,keeps h3,fun k hk => .inr (h2.lt k (mem_blk.1 hk)).1,h4⟩
 ·obtain⟨v',w',hr,h2,h3,h4⟩:=run_append_own_wide (P:=P) w 0 t ty e i z size bytes ht hi hz hsize hby hzs hsz _ _ xs hown a m c news hl hnews h1 h63 hbytes (Nat.zero_le _)
  refine⟨v',w',hr,h2,keeps h3,?_,h4⟩
  subst hsize hby
  by_cases hroom:n+m≤cap
  ·have hr':=run_append_room (P:=P) w t ty e i ht hi g n cap cur hg a m c news hl hnews h1 hroom (by rw[hl,hcs,←Nat.add_mul];exact Nat.mul_le_mul_right _ hroom)
   rw[hr']at hr
   obtain⟨rfl,-⟩:=Result.ok.inj hr
   intro k hk
   exact .inl (by simpa[blk,Value.ownBlock]using hk)
  ·have holds:∀j u,xs[j]? = some u→w.cell? ((⟨g,0,none⟩:Addr).add j)=some u:=World.ownsRow.cells hown (g:=g) rfl
   have hr':=run_append_grow (P:=P) w t ty e i z ht hi hz ⟨g,0,none⟩ n cap xs hown.1 holds a m c news hl hnews (by omega) (by unfold maxLen at h63;omega) (growslice_fits_wide (by omega) hbytes)
   rw[hr']at hr
   obtain⟨rfl,-⟩:=Result.ok.inj hr
   intro k hk
   have:k=w.heap.size:=by simpa[blk,Value.ownBlock,eq_comm]using hk
   exact .inr (by omega)
theorem wpList_append_frame {ops:Array Oper} {rest:List Oper} {o:Oper} {a:Act} {Q:Exit→Act→World→Prop} (hgd:o.guard=none) (s x:Operand) (t:TypeId)
  (ho:o.op = .call {callee := .builtin .append,args := #[s,x],argTypes := #[t,t]})
  (e:TypeId) (i:TypeInfo) (z:Value) (size bytes:Nat) (ht:P.underlying t=some (.slice e)) (hi:P.info? e=some i) (hz:i.zero=some z)
  (hsize:i.size=size) (hby:i.bytes=bytes) (hzs:z.cells.size=size) (hsz:0<size)
  (v:Value) (n:Nat) (xs:List Value) (hs:a.eval s=v) (hown:OwnS w e size v n xs)
  (ad:Addr) (m c:Nat) (news:List Value) (hx:a.eval x = .slice (some ad) m c) (hl:news.length=m*size) (hnews:∀j u,news[j]? = some u→w.cell? (ad.add j)=some u) (h1:∀u∈news,u.oneCell'=true)
  (h63:n+m≤maxLen) (hbytes:((n+m)+(n+m)/4+192)*bytes≤281474976710656)
  (h:∀v' w',OwnS w' e size v' (n+m) (xs++news)→Keeps (· ∈ blk v) w w'→(∀k∈blk v',k∈blk v∨w.heap.size≤k)→(v' = .slice none 0 0↔v = .slice none 0 0∧m=0)→wpList P ops Q rest (a.put o.dst v') w'):wpList P ops Q (o::rest) a w:=by
 obtain⟨v',w',hr,h2,h3,h4,h5⟩:=run_append_frame (P:=P) w t o.type e i z size bytes ht hi hz hsize hby hzs hsz v n xs hown ad m c news hl hnews h1 h63 hbytes
 refine wpList_plain hgd fun K hK=>?_
 unfold Oper.wp execOp
 simp only[ho,resolve,invoke,builtin,Sem.run_bind,Sem.run_pure,Result.andThen_ok,List.map_toArray,List.map_cons,List.map_nil,hs,hx,hr]
 exact hK _ _ (h v' w' h2 h3 h4 h5)
end
end Go.Proofs.YtimomjheanfbmaaGreatDoor
