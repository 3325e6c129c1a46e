import Derived.Test.YtimomjheanfbmaaGreatDoorQaa
import Derived.Test.YtimomjheanfbmaaGreatDoorQac
import Derived.Test.YtimomjheanfbmaaGreatDoorQad
import Derived.Deep.RegionHeld3
import Derived.Test.YtimomjheanfbmaaGreatDoorQah
import Derived.Laws.StructEq
import Derived.Test.YtimomjheanfbmaaGreatDoorQan
set_option linter.unusedSimpArgs false
set_option linter.unusedVariables false
namespace Go.Proofs.YtimomjheanfbmaaGreatDoor
open Go.RowKit
set_option maxRecDepth 100000 in
set_option maxHeartbeats 16000000 in
theorem rf_right (P:Pg) (hd:∀i,i<6→(P.dt i).size≤maxLen) (w:World):Calls Tryz.prog 81 #[pgV P] w fun e w'=>(e = .returned (.bool true)∧PgOk P∨e = .returned (.bool false)∧¬PgOk P)∧Below w.heap.size w w':=by
 have hpc:pgC P = #[.int .i64 P.kind,.int .i64 P.level,.int .i64 P.store,.int .i64 P.next,.int .i64 (P.st 0),.string (P.dt 0),.int .i64 (P.st 1),.string (P.dt 1),.int .i64 (P.st 2),.string (P.dt 2),
 .int .i64 (P.st 3),.string (P.dt 3),.int .i64 (P.st 4),.string (P.dt 4),.int .i64 (P.st 5),.string (P.dt 5)]:=rfl
 replace hpc:=Hd hpc
 have hpa:Hid (pgA P = #[.int .i64 (P.st 0),.string (P.dt 0),.int .i64 (P.st 1),.string (P.dt 1),.int .i64 (P.st 2),.string (P.dt 2),.int .i64 (P.st 3),.string (P.dt 3),.int .i64 (P.st 4),.string (P.dt 4),.int .i64 (P.st 5),.string (P.dt 5)]):=rfl
 have HQ:Hid ((w.alloc (.cells (pgC P) 49)).heap[w.heap.size]? = some (.cells (pgC P) 49 (0,0))):=hN rfl
 unfold pgV
 rw[hpc.out]
 by_cases hh:HdOk P
 rotate_left
 ·have hbad:=Hd (not_hd hh)
  rcases hd_cases hh with h | ⟨h1,h⟩ | ⟨h1,h2,h⟩ | ⟨h1,h2,h3,h⟩ | ⟨h1,h2,h3,h4,h⟩ | ⟨h1,h2,h3,h4,h5,h⟩ | ⟨h1,h2,h3,h4,h5,h6,h⟩ | ⟨h1,h2,h3,h4,h5,h6,h7,h⟩
  all_goals
   clear hh HQ hpa hpc
   go_enter Tryz.func81,Tryz.ntmps81
   go_wp2_with fail
   go_ret
   exact⟨.inr ⟨rfl,hbad.out⟩,bA bR⟩
 obtain⟨h1,h2,h3,h4,h5,h6,h7,h8⟩:=hh
 have hH:Hid (HdOk P):=⟨h1,h2,h3,h4,h5,h6,h7,h8⟩
 go_enter Tryz.func81,Tryz.ntmps81
 go_wp2_with fail
 clear h1 h2 h3 h4 h5 h6 h7 h8
 rw[←hpc.out]
 try rw[←hpa.out]
 clear hpc hpa
 go_loopw [3] (fun i wr=>∃(k:Nat),k≤6∧i = .int .i64 k∧Hid (∀j,j<k→ClOk (P.st j) (P.dt j))∧Hid (wr.heap[w.heap.size]? = some (.cells (pgC P) 49 (0,0)))∧Hid (Below w.heap.size w wr)) (fun i _=>6-(intOf i).toNat)
 case atStart=>exact⟨0,by omega,rfl,fun j h=>by omega,HQ,bA bR⟩
 case round =>
  obtain⟨k,hk,rfl,hstep,HQ,HBr⟩:=hrel
  by_cases hk6:k<6
  rotate_left
  ·obtain rfl:k=6:=by omega
   go_wp2_with fail
   go_ret
   exact⟨.inl ⟨rfl,hH.out,hstep.out⟩,HBr.out⟩
  have hix:=run_index_pg P k hk6
  obtain⟨c0,c1⟩:=pg_at HQ.out k hk6
  have hqr:=block_lt HQ.out
  obtain⟨s,es⟩:∃s,P.st k=s:=⟨_,rfl⟩
  obtain⟨d,ed⟩:∃d,P.dt k=d:=⟨_,rfl⟩
  have hdz:d.size≤maxLen:=ed ▸ hd k hk6
  unfold maxLen at hdz
  have hiff:=Hd (cl_more hstep.out (k:=k))
  have hno:=Hd (not_cl (P:=P) hk6)
  rw[es,ed]at hix hiff hno
  rw[es]at c0
  rw[ed]at c1
  replace es:=Hd es
  replace ed:=Hd ed
  have hk6':(k:Int)<6:=by omega
  by_cases hc:ClOk s d
  ·have hcl:=Hd (hiff.out hc)
   obtain⟨h1,h2,h3,h4⟩:=hc
   by_cases e:s=0
   ·subst e
    obtain rfl:=str_none (h4 rfl)
    clear hiff hno h1 h2 h3 h4 hdz
    go_wp2_with fail
    go_roundw
    case rel=>exact⟨k+1,by omega,rfl,hcl.out,hO HQ.out,bA HBr.out⟩
    case measure=>simp[intOf];omega
   ·have e':(s==0)=false:=by simpa using e
    clear hiff hno h4
    go_wp2_with fail
    go_roundw
    case rel=>exact⟨k+1,by omega,rfl,hcl.out,hO HQ.out,bA HBr.out⟩
    case measure=>simp[intOf];omega
  ·have hbad:=Hd (hno.out hc)
   rcases cl_cases hc with h | ⟨h1,h⟩ | ⟨h1,h2,h⟩ | ⟨h1,h2,h⟩
   ·clear hc hiff hno hstep
    go_wp2_with fail
    go_ret
    exact⟨.inr ⟨rfl,hbad.out⟩,bA HBr.out⟩
   ·clear hc hiff hno hstep
    go_wp2_with fail
    go_ret
    exact⟨.inr ⟨rfl,hbad.out⟩,bA HBr.out⟩
   ·clear hc hiff hno hstep
    go_wp2_with fail
    go_ret
    exact⟨.inr ⟨rfl,hbad.out⟩,bA HBr.out⟩
   ·subst h1
    obtain⟨n1,n2⟩:=str_some h
    clear hc hiff hno hstep
    go_wp2_with fail
    go_ret
    exact⟨.inr ⟨rfl,hbad.out⟩,bA HBr.out⟩
end Go.Proofs.YtimomjheanfbmaaGreatDoor
namespace Go.Proofs.YtimomjheanfbmaaGreatDoor
open Go.RowKit
set_option maxRecDepth 100000 in
set_option maxHeartbeats 1600000 in
theorem ref_put (n width:Int) (h1:1≤width) (h8:width≤8) (hn:0≤n) (hn64:n<9223372036854775808) (w:World) :
  Calls Tryz.prog 131 #[.int .i64 n,.int .i64 width] w fun e w'=>e = .returned (.string (leS n width.toNat))∧Below w.heap.size w w':=by
 go_enter Tryz.func131,Tryz.ntmps131
 go_wp2_with fail
 refine(ref_num_ok n width h1 h8 hn (Hd (by omega)) _).mono ?_
 rintro e w1 ⟨rfl,hb⟩
 go_wp2_with fail
 go_ret
 exact⟨rfl,hb⟩
theorem step_make {P:Program} {w:World} {ops:Array Oper} {o:Oper} {a:Act} {K:Act→World→Prop} {Q:Exit→Act→World→Prop} {E:Prop} (hgd:o.guard=none) (l c:Operand) (t:TypeId) (ho:o.op = .makeSlice t l c) (e:TypeId) (i:TypeInfo) (z:Value)
  (ht:P.underlying t=some (.slice e)) (hi:P.info? e=some i) (hz:i.zero=some z) (n:Nat) (hl:a.eval l = .int .i64 (n:Int)) (hc:a.eval c = .int .i64 (n:Int)) (hb:(i.bytes:Int)*n≤281474976710656) (h63:(n:Int)≤9223372036854775807)
  (h:∀w',w'=w.alloc (.cells (madeCells z.cells (n*i.size)) e)→K (a.put o.dst (.slice (some ⟨w.heap.size,0,none⟩) n n)) w') :
  if Region.wanted o (yielded ops a.tmps)=true then Oper.wp P o a w K Q else E:=by
 have hw:Region.wanted o (yielded ops a.tmps)=true:=by simp[Region.wanted,hgd]
 rw[if_pos hw]
 have hr:=run_make (P:=P) w t e i z ht hi hz .i64 .i64 n n (by omega) (Int.le_refl _) hb h63
 simp only[Int.toNat_natCast]at hr
 unfold Oper.wp execOp
 simp only[ho,Sem.run_bind,Sem.run_pure,Result.andThen_ok,hl,hc,hr]
 exact h _ rfl
theorem step_convert {P:Program} {w:World} {ops:Array Oper} {o:Oper} {a:Act} {K:Act→World→Prop} {Q:Exit→Act→World→Prop} {E:Prop} (hgd:o.guard=none) (x:Operand) (src dst:TypeId) (ho:o.op = .convert src dst x) (X Y:Value) (hx:a.eval x=X)
  (hr:(convert src dst X).run P w = .ok Y w) (h:K (a.put o.dst Y) w) :
  if Region.wanted o (yielded ops a.tmps)=true then Oper.wp P o a w K Q else E:=by
 have hw:Region.wanted o (yielded ops a.tmps)=true:=by simp[Region.wanted,hgd]
 rw[if_pos hw]
 unfold Oper.wp execOp
 simp only[ho,Sem.run_bind,Sem.run_pure,Result.andThen_ok,hx,hr]
 exact h
theorem byte_list (n:Int) (h0:0≤n) (h:n<256):(leS n 1).data.toList=[UInt8.ofNat n.toNat]:=by
 unfold leS
 rw[strOfNums_data,le_cons,List.map_cons]
 have:n%256=n:=by omega
 rw[this]
 rfl
theorem zeros_list (m:Nat):(zeros m).data.toList=List.replicate m 0:=by
 unfold zeros;rw[strOfNums_data,List.map_replicate];rfl
theorem made_in {n:Nat} {w0 w:World} (h:Below n w0 w) (o:Obj):(w.alloc o).heap[w.heap.size]? = some o:=heap_alloc_new w o
def S8 (b:Nat) (c:Int) (d:ByteArray) (w:World):Prop:=w.cell? ⟨b,0,none⟩=some (.int .i64 c)∧w.cell? ⟨b,1,none⟩=some (.string d)
theorem made_zeros {w:World} {b m:Nat} {i:TypeInfo} (hz1:i.size=1) (h:w.heap[b]? = some (.cells (madeCells (Value.int .u8 0).cells (m*i.size)) 5 (0,0))):(convert 141 9 (.slice (some ⟨b,0,none⟩) m m)).run Tryz.prog w = .ok (.string (zeros m)) w:=by
 rw[hz1,Nat.mul_one]at h
 refine run_convert_bytes_arg (P:=Tryz.prog) w 141 5 Tryz.underlying141 Tryz.underlying5 b 0 m m (List.replicate m 0) (List.length_replicate) (fun i hi=>?_) 9 Tryz.underlying9
 rw[Nat.zero_add,cell_at h i]
 have e:(madeCells (Value.int .u8 0).cells m)=(List.replicate m (Value.int .u8 0)).toArray:=by
  apply Array.toList_inj.1
  rw[show m=m*1 by omega]
  simpa[Value.cells]using toList_madeCells_one (.int .u8 0) m
 rw[e]
 simp[hi,List.getD]
theorem pg_four {w:World} {b:Nat} {P:Pg} {T:TypeId} {f:Nat×Nat} (h:w.heap[b]? = some (.cells (pgC P) T f)):w.cell? ⟨b,0,none⟩=some (.int .i64 P.kind)∧w.cell? ⟨b,1,none⟩=some (.int .i64 P.level)∧w.cell? ⟨b,2,none⟩=some (.int .i64 P.store)∧w.cell? ⟨b,3,none⟩=some (.int .i64 P.next):=⟨cell_at h 0,cell_at h 1,cell_at h 2,cell_at h 3⟩
set_option maxRecDepth 100000 in
set_option maxHeartbeats 16000000 in
theorem rf_encode_ok (P:Pg) (hok:PgOk P) (w:World):Calls Tryz.prog 129 #[pgV P] w fun e w'=>e = .returned (.tuple #[.string (pageS P),.int .i64 0])∧Below w.heap.size w w':=by
 have HC:=Hd (fun w=>rf_right P (fun i hi=>by have:=hok.small i hi;unfold maxLen;omega) w)
 have HQc:Hid ((w.alloc (.cells (pgC P) 49)).heap[w.heap.size]? = some (.cells (pgC P) 49 (0,0))):=hN rfl
 have hokH:=Hd hok
 obtain⟨⟨h1,h2,h3,h4,h5,h6,h7,h8⟩,hcl⟩:=hok
 replace hcl:=Hd hcl
 unfold pgV at *
 go_enter Tryz.func129,Tryz.ntmps129
 go_wp2_with (refine wpList_load_row rfl 49 _ rfl _ rfl 49 _ _ _ HQc.out Tryz.underlying49 rfl (by kernel_rfl) ?_)
 refine(HC.out _).mono ?_
 rintro e w1 ⟨h,hb⟩
 obtain rfl:e = .returned (.bool true):=h.elim (fun h=>h.1) (fun h=>absurd hokH.out h.2)
 have HB1:=Hd (bT (bA bR) hb)
 have HQ1:=Hd (hBs hb HQc.out)
 have hw1:=block_lt HQ1.out
 clear hb HC HQc h
 go_wp2_with fail
 have K1:=(fun w=>ref_put P.kind 1 (by decide) (by decide) h1 (by omega) w)
 have K2:=(fun w=>ref_put P.level 1 (by decide) (by decide) h3 (by omega) w)
 have K3:=(fun w=>ref_put P.store 2 (by decide) (by decide) h5 (by omega) w)
 have K4:=(fun w=>ref_put P.next 4 (by decide) (by decide) h7 (by omega) w)
 have hh:Hid ((headN P 4).toArray=(leS P.kind 1++leS P.level 1++leS P.store 2++leS P.next 4).data):=by
  apply Array.toList_inj.1
  simp[headN,numP,widP,ByteArray.data_append]
 have zA:=leS_size P.kind 1
 obtain⟨A,eA⟩:∃x,leS P.kind 1=x:=⟨_,rfl⟩
 rw[show Int.toNat 1=1 from rfl,eA]at K1
 rw[eA]at hh zA
 replace K1:=Hd K1
 clear eA
 have zB:=leS_size P.level 1
 obtain⟨B,eB⟩:∃x,leS P.level 1=x:=⟨_,rfl⟩
 rw[show Int.toNat 1=1 from rfl,eB]at K2
 rw[eB]at hh zB
 replace K2:=Hd K2
 clear eB
 have zC:=leS_size P.store 2
 obtain⟨C,eC⟩:∃x,leS P.store 2=x:=⟨_,rfl⟩
 rw[show Int.toNat 2=2 from rfl,eC]at K3
 rw[eC]at hh zC
 replace K3:=Hd K3
 clear eC
 have zD:=leS_size P.next 4
 obtain⟨D,eD⟩:∃x,leS P.next 4=x:=⟨_,rfl⟩
 rw[show Int.toNat 4=4 from rfl,eD]at K4
 rw[eD]at hh zD
 replace K4:=Hd K4
 clear eD
 have zAB:(A++B).size=2:=by rw[bytes_size];omega
 have zABC:(A++B++C).size=4:=by rw[bytes_size];omega
 have SZ:=pg_four (hDr HQ1.out)
 go_region_held3 (fun w'=>w'.cell? ⟨w.heap.size,0,none⟩=some (.int .i64 P.kind)∧w'.cell? ⟨w.heap.size,1,none⟩=some (.int .i64 P.level)∧w'.cell? ⟨w.heap.size,2,none⟩=some (.int .i64 P.store)∧w'.cell? ⟨w.heap.size,3,none⟩=some (.int .i64 P.next))
  (first | exact SD | exact SC | exact SB | exact SA | exact SZ | go_keep)
  (first
   | (go_at_call 131;with_reducible refine(K4.out _).mono ?_;rintro e wD ⟨rfl,hb⟩;(have HQD:=Hd (hBs hb HQC.out));(have HBD:=Hd (bT HBC.out hb));(have SD:=pg_four HQD.out);clear hb)
   | (go_at_call 131;with_reducible refine(K3.out _).mono ?_;rintro e wC ⟨rfl,hb⟩;(have HQC:=Hd (hBs hb HQB.out));(have HBC:=Hd (bT HBB.out hb));(have SC:=pg_four HQC.out);clear hb)
   | (go_at_call 131;with_reducible refine(K2.out _).mono ?_;rintro e wB ⟨rfl,hb⟩;(have HQB:=Hd (hBs hb HQA.out));(have HBB:=Hd (bT HBA.out hb));(have SB:=pg_four HQB.out);clear hb)
   | (go_at_call 131;with_reducible refine(K1.out _).mono ?_;rintro e wA ⟨rfl,hb⟩;(have HQA:=Hd (hBs hb (hDr HQ1.out)));(have HBA:=Hd (bT (bD HB1.out) hb));(have SA:=pg_four HQA.out);clear hb))
 have HQ:=HQD
 have HB:=HBD
 clear HQD HBD HQC HBC HQA HBA HQB HBB SA SB SC SD SZ HQ1 HB1 K1 K2 K3 K4 zA zB zC zD zAB zABC h1 h2 h3 h4 h5 h6 h7 h8 ‹_∧_›
 have hh':Hid (A++B++C++D=⟨(bodyL P 0).toArray⟩):=by
  apply ByteArray.ext
  exact hh.out.symm
 rw[hh'.out]
 clear hh hh'
 have hw4:=block_lt HQ.out
 have hpr:=Hd (pg_range HQ.out)
 go_wp2_with fail
 go_loopw [4,5] (fun s i wr=>∃(k:Nat),k≤6∧i = .int .i64 k∧s = .string ⟨(bodyL P k).toArray⟩∧Hid (wr.heap[w.heap.size]? = some (.cells (pgC P) 49 (0,0)))∧Hid (Below w.heap.size w wr)) (fun _ i _=>6-(intOf i).toNat)
 case atStart=>exact⟨0,by omega,rfl,rfl,HQ,HB.out⟩
 case round =>
  clear HQ HB hpr hw4
  obtain⟨k,hk,rfl,rfl,HQ,HB⟩:=hrel
  have hqr:=block_lt HQ.out
  by_cases hk6:k<6
  rotate_left
  ·obtain rfl:k=6:=by omega
   have hfin:Hid ((⟨(bodyL P 6).toArray⟩:ByteArray)=pageS P):=rfl
   obtain⟨R,eR⟩:∃R,pageS P=R:=⟨_,rfl⟩
   rw[hfin.out,eR]
   replace eR:=Hd eR
   go_wp2_with fail
   go_ret2
   exact⟨by rw[eR.out];rfl,HB.out⟩
  have hk6':(k:Int)<6:=by omega
  obtain⟨g1,g2,g3,g4⟩:=hcl.out k hk6
  have hlen:=bodyL_length P k (fun i hi=>(hcl.out i (by omega)).2.2.1)
  have hbody:Hid (bodyL P (k+1)=bodyL P k++cellL (P.st k) (P.dt k)):=rfl
  obtain⟨c0,c1⟩:=pg_at HQ.out k hk6
  obtain⟨c,hc⟩:∃c,P.st k=c:=⟨_,rfl⟩
  obtain⟨d,ed⟩:∃d,P.dt k=d:=⟨_,rfl⟩
  rw[hc,ed]at hbody
  rw[hc]at c0 g1 g2
  rw[ed]at c1 g3
  clear g4 hc ed
  obtain⟨L,eL⟩:∃L,bodyL P k=L:=⟨_,rfl⟩
  rw[eL]at hbody hlen ⊢
  clear eL
  have zL:(⟨L.toArray⟩:ByteArray).size=8+36*k:=by show L.toArray.size=_;rw[List.size_toArray];exact hlen
  obtain⟨m,hm⟩:∃m:Nat,d.size+m=34:=⟨34-d.size,by omega⟩
  have hm':(34:Int)-d.size=m:=by omega
  obtain⟨i0,hi,hz0,hz1,hz2⟩:=info_parts Tryz.info_u8
  have wr1:IntKind.i64.wrap (34-(d.size:Int))=(m:Int):=by rw[IntKind.wrap_i64];omega
  have wr2:IntKind.i64.wrap (m:Int)=(m:Int):=by rw[IntKind.wrap_i64];omega
  have zU:=leS_size c 1
  have zV:=leS_size (d.size:Int) 1
  have zZ:=zeros_size m
  have K1:=fun w=>ref_put c 1 (by decide) (by decide) g1 (by omega) w
  have K2:=fun w=>ref_put (d.size:Int) 1 (by decide) (by decide) (by omega) (by omega) w
  have hpiece:Hid (⟨(L++cellL c d).toArray⟩=⟨L.toArray⟩++(leS c 1++leS (d.size:Int) 1++d++zeros m)):=by
   have e1:=byte_list c g1 (by omega)
   have e2:=byte_list (d.size:Int) (by omega) (by omega)
   apply ba_ext
   show (L++cellL c d)=_
   rw[cellL_cons]
   simp only[ByteArray.data_append,Array.toList_append]
   rw[e1,e2,zeros_list,show 34-d.size=m by omega]
   simp
  rw[←hbody.out]at hpiece
  obtain⟨U,eU⟩:∃x,leS c 1=x:=⟨_,rfl⟩
  obtain⟨V,eV⟩:∃x,leS (d.size:Int) 1=x:=⟨_,rfl⟩
  obtain⟨Z,eZ⟩:∃x,zeros m=x:=⟨_,rfl⟩
  rw[show Int.toNat 1=1 from rfl,eU]at K1
  rw[show Int.toNat 1=1 from rfl,eV]at K2
  rw[eU,eV,eZ]at hpiece
  rw[eU]at zU
  rw[eV]at zV
  rw[eZ]at zZ
  replace K1:=Hd K1
  replace K2:=Hd K2
  replace eZ:=Hd eZ
  obtain⟨Y,eY⟩:∃Y:ByteArray,(⟨L.toArray⟩:ByteArray)=Y:=⟨_,rfl⟩
  rw[eY]at hpiece zL
  rw[eY]
  have zUV:(U++V).size=2:=by rw[bytes_size];omega
  have zUVd:(U++V++d).size=2+d.size:=by rw[bytes_size];omega
  have zUVdZ:(U++V++d++Z).size=36:=by rw[bytes_size];omega
  clear eY eU eV hbody hlen
  have HCc:=Hd (hN (w:=wr) (o := .cells #[.int .i64 c,.string d] 33) rfl)
  have hY:Hid (∀wx:World,Hid (wx.heap[w.heap.size]? = some (.cells (pgC P) 49 (0,0)))→Hid (Below w.heap.size w wx)→∃k':Nat,k'=k+1∧k'≤6):=fun _ _ _=>⟨k+1,rfl,by omega⟩
  clear hY
  go_wp2_with fail
  replace HQ:=Hd (hDr (hO (o := .cells #[.int .i64 c,.string d] 33) HQ.out))
  replace HB:Hid (Below w.heap.size w (wr.alloc (.cells #[.int .i64 c,.string d] 33)).drew):=bD (bA HB.out)
  replace HCc:=Hd (hDr HCc.out)
  have SC:=And.intro (cell_at HCc.out 0) (cell_at HCc.out 1)
  clear c0 c1
  have hS0:S8 wr.heap.size c d (wr.alloc (.cells #[.int .i64 c,.string d] 33)).drew:=SC
  refine wp_region_held_drew (S:=S8 wr.heap.size c d) (by kernel_rfl) hS0 (fun hHeld=>?_)
  refine tx2 0 (v := .string Y) hHeld ?_
  go_frame
  refine tx2 1 (v := .pointer (some ⟨wr.heap.size,0,none⟩)) hHeld ?_
  go_frame
  refine tx2 2 (v := .int .i64 c) hHeld ?_
  go_frame
  refine tx2 4 (v := .pointer (some ⟨wr.heap.size,1,none⟩)) hHeld ?_
  go_frame
  refine tx2 5 (v := .string d) hHeld ?_
  go_frame
  refine tx2 6 (v := .int .i64 (d.size:Int)) hHeld ?_
  go_frame
  refine tx2 9 (v := .pointer (some ⟨wr.heap.size,1,none⟩)) hHeld ?_
  go_frame
  refine tx2 10 (v := .string d) hHeld ?_
  go_frame
  refine tx2 12 (v := .pointer (some ⟨wr.heap.size,1,none⟩)) hHeld ?_
  go_frame
  refine tx2 13 (v := .string d) hHeld ?_
  go_frame
  refine tx2 14 (v := .int .i64 (d.size:Int)) hHeld ?_
  go_frame
  refine tx2 15 (v := .int .i64 (m:Int)) hHeld ?_
  go_frame
  refine rd2 3 16 (fun K hK=>?_) (fun K hK=>?_)
  ·go_simp
   go_at_call 131
   refine(K1.out _).mono ?_
   rintro e wn ⟨rfl,hb⟩
   replace HQ:=Hd (hBs hb HQ.out)
   replace HB:=Hd (bT HB.out hb)
   replace HCc:=Hd (hBs hb HCc.out)
   have SC:=And.intro (cell_at HCc.out 0) (cell_at HCc.out 1)
   clear hb
   go_wp2_with fail
   refine hK.out _ _ SC (fun hHeld=>?_)
   clear hK K
   try go_frame
   refine rd2 7 16 (fun K hK=>?_) (fun K hK=>?_)
   ·go_simp
    go_at_call 131
    refine(K2.out _).mono ?_
    rintro e wn ⟨rfl,hb⟩
    replace HQ:=Hd (hBs hb HQ.out)
    replace HB:=Hd (bT HB.out hb)
    replace HCc:=Hd (hBs hb HCc.out)
    have SC:=And.intro (cell_at HCc.out 0) (cell_at HCc.out 1)
    clear hb
    go_wp2_with fail
    refine hK.out _ _ SC (fun hHeld=>?_)
    clear hK K
    try go_frame
    refine tx2 8 (v := .string (U++V)) hHeld ?_
    go_frame
    refine tx2 11 (v := .string (U++V++d)) hHeld ?_
    go_frame
    refine rd 16 (fun K hK=>?_)
    ·refine step_make rfl (.tmp 48) (.tmp 48) 141 rfl 5 i0 (.int .u8 0) Tryz.underlying141 hi hz0 m rfl rfl (by rw[hz2];omega) (by omega) ?_
     intro wm em
     have HM:Hid (wm.heap[_]? = _):=em ▸ made_in HB.out (.cells (madeCells (Value.int .u8 0).cells (m*i0.size)) 5)
     replace HQ:Hid (wm.heap[w.heap.size]? = _):=em ▸ hO HQ.out
     replace HB:Hid (Below w.heap.size w wm):=em ▸ bA HB.out
     replace HCc:Hid (wm.heap[wr.heap.size]? = _):=em ▸ hO HCc.out
     clear em
     have SC:=And.intro (cell_at HCc.out 0) (cell_at HCc.out 1)
     refine hK.out _ _ SC (fun hHeld=>?_)
     clear hK K
     try go_frame
     refine rd 17 (fun K hK=>?_)
     ·refine step_convert rfl (.tmp 49) 141 9 rfl _ (.string Z) rfl (by first | exact eZ.out ▸ made_zeros hz1 HM.out | (have h:=HM.out;rw[show (World.drew (wr.alloc (.cells #[.int .i64 c,.string d] 33))).heap.size=wr.heap.size+1 by simp]at h;exact eZ.out ▸ made_zeros hz1 h)) ?_
      have SC:=And.intro (cell_at HCc.out 0) (cell_at HCc.out 1)
      refine hK.out _ _ SC (fun hHeld=>?_)
      clear hK K
      try go_frame
      refine tx2 18 (v := .string (U++V++d++Z)) hHeld ?_
      go_frame
      refine tx2 19 (v := .string (Y++(U++V++d++Z))) hHeld ?_
      go_frame
      refine tx2 20 (v := .string (Y++(U++V++d++Z))) hHeld ?_
      go_frame
      refine wpAnyH_done (by kernel_rfl) ?_ _
      rw[←hpiece.out]
      go_wp2_with fail
      go_roundw
      case rel=>exact⟨k+1,by omega,rfl,rfl,HQ,HB.out⟩
      case measure=>simp[intOf];omega
   ·refine step_make rfl (.tmp 48) (.tmp 48) 141 rfl 5 i0 (.int .u8 0) Tryz.underlying141 hi hz0 m rfl rfl (by rw[hz2];omega) (by omega) ?_
    intro wm em
    have HM:Hid (wm.heap[_]? = _):=em ▸ made_in HB.out (.cells (madeCells (Value.int .u8 0).cells (m*i0.size)) 5)
    replace HQ:Hid (wm.heap[w.heap.size]? = _):=em ▸ hO HQ.out
    replace HB:Hid (Below w.heap.size w wm):=em ▸ bA HB.out
    replace HCc:Hid (wm.heap[wr.heap.size]? = _):=em ▸ hO HCc.out
    clear em
    have SC:=And.intro (cell_at HCc.out 0) (cell_at HCc.out 1)
    refine hK.out _ _ SC (fun hHeld=>?_)
    clear hK K
    try go_frame
    refine rd2 7 17 (fun K hK=>?_) (fun K hK=>?_)
    ·go_simp
     go_at_call 131
     refine(K2.out _).mono ?_
     rintro e wn ⟨rfl,hb⟩
     replace HQ:=Hd (hBs hb HQ.out)
     replace HB:=Hd (bT HB.out hb)
     replace HCc:=Hd (hBs hb HCc.out)
     replace HM:=Hd (hBs hb HM.out)
     have SC:=And.intro (cell_at HCc.out 0) (cell_at HCc.out 1)
     clear hb
     go_wp2_with fail
     refine hK.out _ _ SC (fun hHeld=>?_)
     clear hK K
     try go_frame
     refine tx2 8 (v := .string (U++V)) hHeld ?_
     go_frame
     refine tx2 11 (v := .string (U++V++d)) hHeld ?_
     go_frame
     refine rd 17 (fun K hK=>?_)
     ·refine step_convert rfl (.tmp 49) 141 9 rfl _ (.string Z) rfl (by first | exact eZ.out ▸ made_zeros hz1 HM.out | (have h:=HM.out;rw[show (World.drew (wr.alloc (.cells #[.int .i64 c,.string d] 33))).heap.size=wr.heap.size+1 by simp]at h;exact eZ.out ▸ made_zeros hz1 h)) ?_
      have SC:=And.intro (cell_at HCc.out 0) (cell_at HCc.out 1)
      refine hK.out _ _ SC (fun hHeld=>?_)
      clear hK K
      try go_frame
      refine tx2 18 (v := .string (U++V++d++Z)) hHeld ?_
      go_frame
      refine tx2 19 (v := .string (Y++(U++V++d++Z))) hHeld ?_
      go_frame
      refine tx2 20 (v := .string (Y++(U++V++d++Z))) hHeld ?_
      go_frame
      refine wpAnyH_done (by kernel_rfl) ?_ _
      rw[←hpiece.out]
      go_wp2_with fail
      go_roundw
      case rel=>exact⟨k+1,by omega,rfl,rfl,HQ,HB.out⟩
      case measure=>simp[intOf];omega
    ·refine step_convert rfl (.tmp 49) 141 9 rfl _ (.string Z) rfl (by first | exact eZ.out ▸ made_zeros hz1 HM.out | (have h:=HM.out;rw[show (World.drew (wr.alloc (.cells #[.int .i64 c,.string d] 33))).heap.size=wr.heap.size+1 by simp]at h;exact eZ.out ▸ made_zeros hz1 h)) ?_
     have SC:=And.intro (cell_at HCc.out 0) (cell_at HCc.out 1)
     refine hK.out _ _ SC (fun hHeld=>?_)
     clear hK K
     try go_frame
     refine rd 7 (fun K hK=>?_)
     ·go_simp
      go_at_call 131
      refine(K2.out _).mono ?_
      rintro e wn ⟨rfl,hb⟩
      replace HQ:=Hd (hBs hb HQ.out)
      replace HB:=Hd (bT HB.out hb)
      replace HCc:=Hd (hBs hb HCc.out)
      have SC:=And.intro (cell_at HCc.out 0) (cell_at HCc.out 1)
      clear hb
      go_wp2_with fail
      refine hK.out _ _ SC (fun hHeld=>?_)
      clear hK K
      try go_frame
      refine tx2 8 (v := .string (U++V)) hHeld ?_
      go_frame
      refine tx2 11 (v := .string (U++V++d)) hHeld ?_
      go_frame
      refine tx2 18 (v := .string (U++V++d++Z)) hHeld ?_
      go_frame
      refine tx2 19 (v := .string (Y++(U++V++d++Z))) hHeld ?_
      go_frame
      refine tx2 20 (v := .string (Y++(U++V++d++Z))) hHeld ?_
      go_frame
      refine wpAnyH_done (by kernel_rfl) ?_ _
      rw[←hpiece.out]
      go_wp2_with fail
      go_roundw
      case rel=>exact⟨k+1,by omega,rfl,rfl,HQ,HB.out⟩
      case measure=>simp[intOf];omega
  ·refine step_make rfl (.tmp 48) (.tmp 48) 141 rfl 5 i0 (.int .u8 0) Tryz.underlying141 hi hz0 m rfl rfl (by rw[hz2];omega) (by omega) ?_
   intro wm em
   have HM:Hid (wm.heap[_]? = _):=em ▸ made_in HB.out (.cells (madeCells (Value.int .u8 0).cells (m*i0.size)) 5)
   replace HQ:Hid (wm.heap[w.heap.size]? = _):=em ▸ hO HQ.out
   replace HB:Hid (Below w.heap.size w wm):=em ▸ bA HB.out
   replace HCc:Hid (wm.heap[wr.heap.size]? = _):=em ▸ hO HCc.out
   clear em
   have SC:=And.intro (cell_at HCc.out 0) (cell_at HCc.out 1)
   refine hK.out _ _ SC (fun hHeld=>?_)
   clear hK K
   try go_frame
   refine rd2 3 17 (fun K hK=>?_) (fun K hK=>?_)
   ·go_simp
    go_at_call 131
    refine(K1.out _).mono ?_
    rintro e wn ⟨rfl,hb⟩
    replace HQ:=Hd (hBs hb HQ.out)
    replace HB:=Hd (bT HB.out hb)
    replace HCc:=Hd (hBs hb HCc.out)
    replace HM:=Hd (hBs hb HM.out)
    have SC:=And.intro (cell_at HCc.out 0) (cell_at HCc.out 1)
    clear hb
    go_wp2_with fail
    refine hK.out _ _ SC (fun hHeld=>?_)
    clear hK K
    try go_frame
    refine rd2 7 17 (fun K hK=>?_) (fun K hK=>?_)
    ·go_simp
     go_at_call 131
     refine(K2.out _).mono ?_
     rintro e wn ⟨rfl,hb⟩
     replace HQ:=Hd (hBs hb HQ.out)
     replace HB:=Hd (bT HB.out hb)
     replace HCc:=Hd (hBs hb HCc.out)
     replace HM:=Hd (hBs hb HM.out)
     have SC:=And.intro (cell_at HCc.out 0) (cell_at HCc.out 1)
     clear hb
     go_wp2_with fail
     refine hK.out _ _ SC (fun hHeld=>?_)
     clear hK K
     try go_frame
     refine tx2 8 (v := .string (U++V)) hHeld ?_
     go_frame
     refine tx2 11 (v := .string (U++V++d)) hHeld ?_
     go_frame
     refine rd 17 (fun K hK=>?_)
     ·refine step_convert rfl (.tmp 49) 141 9 rfl _ (.string Z) rfl (by first | exact eZ.out ▸ made_zeros hz1 HM.out | (have h:=HM.out;rw[show (World.drew (wr.alloc (.cells #[.int .i64 c,.string d] 33))).heap.size=wr.heap.size+1 by simp]at h;exact eZ.out ▸ made_zeros hz1 h)) ?_
      have SC:=And.intro (cell_at HCc.out 0) (cell_at HCc.out 1)
      refine hK.out _ _ SC (fun hHeld=>?_)
      clear hK K
      try go_frame
      refine tx2 18 (v := .string (U++V++d++Z)) hHeld ?_
      go_frame
      refine tx2 19 (v := .string (Y++(U++V++d++Z))) hHeld ?_
      go_frame
      refine tx2 20 (v := .string (Y++(U++V++d++Z))) hHeld ?_
      go_frame
      refine wpAnyH_done (by kernel_rfl) ?_ _
      rw[←hpiece.out]
      go_wp2_with fail
      go_roundw
      case rel=>exact⟨k+1,by omega,rfl,rfl,HQ,HB.out⟩
      case measure=>simp[intOf];omega
    ·refine step_convert rfl (.tmp 49) 141 9 rfl _ (.string Z) rfl (by first | exact eZ.out ▸ made_zeros hz1 HM.out | (have h:=HM.out;rw[show (World.drew (wr.alloc (.cells #[.int .i64 c,.string d] 33))).heap.size=wr.heap.size+1 by simp]at h;exact eZ.out ▸ made_zeros hz1 h)) ?_
     have SC:=And.intro (cell_at HCc.out 0) (cell_at HCc.out 1)
     refine hK.out _ _ SC (fun hHeld=>?_)
     clear hK K
     try go_frame
     refine rd 7 (fun K hK=>?_)
     ·go_simp
      go_at_call 131
      refine(K2.out _).mono ?_
      rintro e wn ⟨rfl,hb⟩
      replace HQ:=Hd (hBs hb HQ.out)
      replace HB:=Hd (bT HB.out hb)
      replace HCc:=Hd (hBs hb HCc.out)
      have SC:=And.intro (cell_at HCc.out 0) (cell_at HCc.out 1)
      clear hb
      go_wp2_with fail
      refine hK.out _ _ SC (fun hHeld=>?_)
      clear hK K
      try go_frame
      refine tx2 8 (v := .string (U++V)) hHeld ?_
      go_frame
      refine tx2 11 (v := .string (U++V++d)) hHeld ?_
      go_frame
      refine tx2 18 (v := .string (U++V++d++Z)) hHeld ?_
      go_frame
      refine tx2 19 (v := .string (Y++(U++V++d++Z))) hHeld ?_
      go_frame
      refine tx2 20 (v := .string (Y++(U++V++d++Z))) hHeld ?_
      go_frame
      refine wpAnyH_done (by kernel_rfl) ?_ _
      rw[←hpiece.out]
      go_wp2_with fail
      go_roundw
      case rel=>exact⟨k+1,by omega,rfl,rfl,HQ,HB.out⟩
      case measure=>simp[intOf];omega
   ·refine step_convert rfl (.tmp 49) 141 9 rfl _ (.string Z) rfl (by first | exact eZ.out ▸ made_zeros hz1 HM.out | (have h:=HM.out;rw[show (World.drew (wr.alloc (.cells #[.int .i64 c,.string d] 33))).heap.size=wr.heap.size+1 by simp]at h;exact eZ.out ▸ made_zeros hz1 h)) ?_
    have SC:=And.intro (cell_at HCc.out 0) (cell_at HCc.out 1)
    refine hK.out _ _ SC (fun hHeld=>?_)
    clear hK K
    try go_frame
    refine rd 3 (fun K hK=>?_)
    ·go_simp
     go_at_call 131
     refine(K1.out _).mono ?_
     rintro e wn ⟨rfl,hb⟩
     replace HQ:=Hd (hBs hb HQ.out)
     replace HB:=Hd (bT HB.out hb)
     replace HCc:=Hd (hBs hb HCc.out)
     have SC:=And.intro (cell_at HCc.out 0) (cell_at HCc.out 1)
     clear hb
     go_wp2_with fail
     refine hK.out _ _ SC (fun hHeld=>?_)
     clear hK K
     try go_frame
     refine rd 7 (fun K hK=>?_)
     ·go_simp
      go_at_call 131
      refine(K2.out _).mono ?_
      rintro e wn ⟨rfl,hb⟩
      replace HQ:=Hd (hBs hb HQ.out)
      replace HB:=Hd (bT HB.out hb)
      replace HCc:=Hd (hBs hb HCc.out)
      have SC:=And.intro (cell_at HCc.out 0) (cell_at HCc.out 1)
      clear hb
      go_wp2_with fail
      refine hK.out _ _ SC (fun hHeld=>?_)
      clear hK K
      try go_frame
      refine tx2 8 (v := .string (U++V)) hHeld ?_
      go_frame
      refine tx2 11 (v := .string (U++V++d)) hHeld ?_
      go_frame
      refine tx2 18 (v := .string (U++V++d++Z)) hHeld ?_
      go_frame
      refine tx2 19 (v := .string (Y++(U++V++d++Z))) hHeld ?_
      go_frame
      refine tx2 20 (v := .string (Y++(U++V++d++Z))) hHeld ?_
      go_frame
      refine wpAnyH_done (by kernel_rfl) ?_ _
      rw[←hpiece.out]
      go_wp2_with fail
      go_roundw
      case rel=>exact⟨k+1,by omega,rfl,rfl,HQ,HB.out⟩
      case measure=>simp[intOf];omega
end Go.Proofs.YtimomjheanfbmaaGreatDoor
namespace Go.Proofs.YtimomjheanfbmaaGreatDoor
open Go.RowKit
end Go.Proofs.YtimomjheanfbmaaGreatDoor
namespace Go.Proofs.YtimomjheanfbmaaGreatDoor
open Go.RowKit
theorem Tryz.info_cell:(Tryz.prog.info? 33).map (fun i=>(i.zero,i.size,i.bytes))=some (some (.agg #[.int .i64 0,.string .empty]),2,24):=by kernel_rfl
def eqCl (s:Int) (d:ByteArray) (s':Int) (d':ByteArray):Bool:=s==s'&&d.toList==d'.toList
theorem eq_cell (s:Int) (d:ByteArray) (s':Int) (d':ByteArray) (w:World):(Op.equalIn 9998 33 (.agg #[.int .i64 s,.string d]) (.agg #[.int .i64 s',.string d'])).run Tryz.prog w = .ok (eqCl s d s' d') w:=by
 have u1:=Tryz.underlying33
 unfold eqCl
 cases h1:(s==s') <;> cases h2:(d.toList==d'.toList) <;> (go_simp)
theorem eq_arr6 (X Y:Pg) (w:World):(Op.equalIn 9999 47 (.agg (pgA X)) (.agg (pgA Y))).run Tryz.prog w =
  .ok (eqCl (X.st 0) (X.dt 0) (Y.st 0) (Y.dt 0)&&(eqCl (X.st 1) (X.dt 1) (Y.st 1) (Y.dt 1)&&(eqCl (X.st 2) (X.dt 2) (Y.st 2) (Y.dt 2)&&(eqCl (X.st 3) (X.dt 3) (Y.st 3) (Y.dt 3)&&(eqCl (X.st 4) (X.dt 4) (Y.st 4) (Y.dt 4)&&eqCl (X.st 5) (X.dt 5) (Y.st 5) (Y.dt 5)))))) w:=by
 obtain⟨i0,hi,hz0,hz1,hz2⟩:=info_parts Tryz.info_cell
 have hs:(sizeOf 33).run Tryz.prog w = .ok 2 w:=by simp[sizeOf,typeInfo,hi,hz1]
 unfold pgA
 rw[run_equalIn_array w 9998 47 33 6 i0 _ _ Tryz.underlying47 hi,hz1]
 have hr:List.range 6=[0,1,2,3,4,5]:=rfl
 rw[hr]
 have e0:=eq_cell (X.st 0) (X.dt 0) (Y.st 0) (Y.dt 0) w
 have e1:=eq_cell (X.st 1) (X.dt 1) (Y.st 1) (Y.dt 1) w
 have e2:=eq_cell (X.st 2) (X.dt 2) (Y.st 2) (Y.dt 2) w
 have e3:=eq_cell (X.st 3) (X.dt 3) (Y.st 3) (Y.dt 3) w
 have e4:=eq_cell (X.st 4) (X.dt 4) (Y.st 4) (Y.dt 4) w
 have e5:=eq_cell (X.st 5) (X.dt 5) (Y.st 5) (Y.dt 5) w
 generalize eqCl (X.st 0) _ _ _=b0 at *
 generalize eqCl (X.st 1) _ _ _=b1 at *
 generalize eqCl (X.st 2) _ _ _=b2 at *
 generalize eqCl (X.st 3) _ _ _=b3 at *
 generalize eqCl (X.st 4) _ _ _=b4 at *
 generalize eqCl (X.st 5) _ _ _=b5 at *
 cases b0 with
 | false=>simp[eqElems,part,isAgg,Sem.run_bind,run_underlying Tryz.underlying33,Result.andThen_ok,Sem.run_pure,Sem.run_ite,hs,e0,e1,e2,e3,e4,e5]
 | true =>
  cases b1 with
  | false=>simp[eqElems,part,isAgg,Sem.run_bind,run_underlying Tryz.underlying33,Result.andThen_ok,Sem.run_pure,Sem.run_ite,hs,e0,e1,e2,e3,e4,e5]
  | true =>
   cases b2 with
   | false=>simp[eqElems,part,isAgg,Sem.run_bind,run_underlying Tryz.underlying33,Result.andThen_ok,Sem.run_pure,Sem.run_ite,hs,e0,e1,e2,e3,e4,e5]
   | true =>
    cases b3 with
    | false=>simp[eqElems,part,isAgg,Sem.run_bind,run_underlying Tryz.underlying33,Result.andThen_ok,Sem.run_pure,Sem.run_ite,hs,e0,e1,e2,e3,e4,e5]
    | true =>
     cases b4 with
     | false=>simp[eqElems,part,isAgg,Sem.run_bind,run_underlying Tryz.underlying33,Result.andThen_ok,Sem.run_pure,Sem.run_ite,hs,e0,e1,e2,e3,e4,e5]
     | true =>
      cases b5 with
      | false=>simp[eqElems,part,isAgg,Sem.run_bind,run_underlying Tryz.underlying33,Result.andThen_ok,Sem.run_pure,Sem.run_ite,hs,e0,e1,e2,e3,e4,e5]
      | true =>
       simp[eqElems,part,isAgg,Sem.run_bind,run_underlying Tryz.underlying33,Result.andThen_ok,Sem.run_pure,Sem.run_ite,hs,e0,e1,e2,e3,e4,e5]
def eqPg (X Y:Pg):Bool:=X.kind==Y.kind&&(X.level==Y.level&&(X.store==Y.store&&(X.next==Y.next&&(eqCl (X.st 0) (X.dt 0) (Y.st 0) (Y.dt 0)&&(eqCl (X.st 1) (X.dt 1) (Y.st 1) (Y.dt 1)&&(eqCl (X.st 2) (X.dt 2) (Y.st 2) (Y.dt 2)&&(eqCl (X.st 3) (X.dt 3) (Y.st 3) (Y.dt 3)&&(eqCl (X.st 4) (X.dt 4) (Y.st 4) (Y.dt 4)&&eqCl (X.st 5) (X.dt 5) (Y.st 5) (Y.dt 5)))))))))
set_option maxRecDepth 100000 in
set_option maxHeartbeats 3200000 in
theorem run_eq_pg (X Y:Pg) (w:World):(binOp .eql 49 (.agg (pgC X)) (.agg (pgC Y))).run Tryz.prog w = .ok (.bool (eqPg X Y)) w:=by
 have u1:=Tryz.underlying49
 have h6:=eq_arr6 X Y w
 unfold eqPg
 unfold pgA at h6
 unfold pgC
 generalize (eqCl (X.st 0) _ _ _&&_)=b at *
 cases h1:(X.kind==Y.kind) <;> cases h2:(X.level==Y.level) <;> cases h3:(X.store==Y.store) <;> cases h4:(X.next==Y.next) <;> cases b <;> (go_simp)
theorem eqCl_iff (s:Int) (d:ByteArray) (s':Int) (d':ByteArray):eqCl s d s' d'=true↔s=s'∧d=d':=by
 unfold eqCl
 rw[Bool.and_eq_true,beq_iff_eq,beq_iff_eq]
 exact⟨fun h=>⟨h.1,by have:=h.2;rw[ByteArray.toList_eq,ByteArray.toList_eq]at this;exact ba_ext this⟩,fun h=>⟨h.1,by rw[h.2]⟩⟩
theorem eqPg_same {X Y:Pg} (h:pgC X=pgC Y):eqPg X Y=true:=by
 unfold pgC at h
 simp only[Array.mk.injEq,List.cons.injEq,Value.int.injEq,Value.string.injEq,true_and,and_true]at h
 obtain⟨h1,h2,h3,h4,h5,h6,h7,h8,h9,h10,h11,h12,h13,h14,h15,h16⟩:=h
 unfold eqPg
 simp only[Bool.and_eq_true,beq_iff_eq,eqCl_iff]
 simp[*]
end Go.Proofs.YtimomjheanfbmaaGreatDoor
namespace Go.Proofs.YtimomjheanfbmaaGreatDoor
open Go.RowKit
theorem wpList_eq_pg {ops:Array Oper} {rest:List Oper} {o:Oper} {a:Act} {w:World} {Q:Exit→Act→World→Prop} (hw:Region.wanted o (yielded ops a.tmps)=true) (x y:Operand) (r:TypeId) (ho:o.op = .binOp .eql 49 x y r)
  (X Y:Pg) (b:Bool) (hb:eqPg X Y=b) (hx:a.eval x = .agg (pgC X)) (hy:a.eval y = .agg (pgC Y)) (h:wpList Tryz.prog ops Q rest (a.put o.dst (.bool b)) w):wpList Tryz.prog ops Q (o::rest) a w :=
 wpList_want hw fun K hK=>by
  subst hb
  unfold Oper.wp execOp
  simp only[ho,hx,hy,Sem.run_bind,Sem.run_pure,Result.andThen_ok,run_eqGuard_agg (P:=Tryz.prog) w .eql 49 x y _ _ (by kernel_rfl),run_eq_pg X Y w]
  exact hK _ _ h
end Go.Proofs.YtimomjheanfbmaaGreatDoor
namespace Go.Proofs.YtimomjheanfbmaaGreatDoor
open Go.RowKit
theorem wal_create0 (dp N:Nat) (Sd:List Nat) (hN:N≤16384) (h3:128≤N) (w:World) (h:DiskAt w dp (Dev.new N) Sd) :
  Calls Tryz.prog 21 #[.pointer (some ⟨dp,0,none⟩),.int .i64 0,.int .i64 128] w fun e w'=>∃p S Sd',e = .returned (.tuple #[.pointer (some ⟨p,0,none⟩),.int .i64 0])∧LogAt w' p dp (Lg.new 0 128) S∧DiskAt w' dp (Dev.new N) Sd'∧Keeps (· ∈ Sd) w w'∧(∀k∈S,w.heap.size≤k∧k∉Sd')∧∀k∈Sd',k∈Sd∨w.heap.size≤k :=
 wal_create dp N Sd 0 128 hN (by omega) (by omega) (by omega) w h
end Go.Proofs.YtimomjheanfbmaaGreatDoor
namespace Go.Proofs.YtimomjheanfbmaaGreatDoor
open Go.RowKit
theorem refuse_none {G:Lg} {rec:ByteArray} (h:G.refuse rec=none):rec.size≠0∧rec.size≤65535∧2+(rec.size:Int)≤G.room:=by
 unfold Lg.refuse at h
 have h0:rec.size≠0:=fun e=>by rw[if_pos e]at h;cases h
 rw[if_neg h0]at h
 have h1:¬65535<rec.size:=fun e=>by rw[if_pos e]at h;cases h
 rw[if_neg h1]at h
 have h2:¬G.room<2+rec.size:=fun e=>by rw[if_pos e]at h;cases h
 exact⟨h0,by omega,by omega⟩
end Go.Proofs.YtimomjheanfbmaaGreatDoor
