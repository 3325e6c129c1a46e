import Derived.Test.YtimomjheanfbmaaGreatDoorQaa
import Derived.Test.YtimomjheanfbmaaGreatDoorQah
import Derived.Deep.RegionHeld3
import Derived.Deep.DeepCutAuto
import Derived.Deep.CutBlock
set_option linter.unusedSimpArgs false
set_option linter.unusedVariables false
namespace Go.Proofs.YtimomjheanfbmaaGreatDoor
open Go.RowKit
theorem rN_size (wd:Nat) (σ:St):(rN wd σ).2.1.size≤σ.1.size:=rdNum_size _ _ _
theorem rT_size (σ:St):(rT σ).2.1.size≤σ.1.size:=Nat.le_trans (rdBytes_size _ _ _).1 (rdNum_size _ _ _)
theorem rB_size (σ:St):(rB σ).2.1.size≤σ.1.size∧(rB σ).1.size≤σ.1.size:=rdBytes_size _ _ _
theorem dnum_any (wd:Nat) (h8:wd≤8) (σ:St) (hs:σ.1.size≤maxLen):∃X:Int×St,rN wd σ=X∧X.2.1.size≤maxLen ∧
  Hid (∀(rv rb:Nat) (w:World),rv≠rb→w.heap[rv]? = some (.cells #[.pointer (some ⟨rb,0,none⟩)] 145 (0,0))→Rd w rb σ.1 σ.2 →
   Calls Tryz.prog 63 #[.int .i64 wd,.pointer (some ⟨rv,0,none⟩)] w fun e w'=>e = .returned (.int .i64 X.1)∧Rd w' rb X.2.1 X.2.2∧Keeps (· = rb) w w') :=
 ⟨_,rfl,Nat.le_trans (rN_size wd σ) hs,fun rv rb w hne hV hR=>rc_dnum wd h8 rv rb σ hs w hne hV hR⟩
theorem dtext_any (σ:St) (hs:σ.1.size≤maxLen):∃X:ByteArray×St,rT σ=X∧X.2.1.size≤maxLen ∧
  Hid (∀(rb:Nat) (w:World),Rd w rb σ.1 σ.2→Calls Tryz.prog 65 #[.pointer (some ⟨rb,0,none⟩)] w fun e w'=>e = .returned (.string X.1)∧Rd w' rb X.2.1 X.2.2∧Keeps (· = rb) w w') :=
 ⟨_,rfl,Nat.le_trans (rT_size σ) hs,fun rb w hR=>oct_rtext rb σ.1 σ.2 w hR hs⟩
theorem dbytes_any (σ:St) (hs:σ.1.size≤maxLen):∃Y:ByteArray×St,rB σ=Y∧Y.1.size≤maxLen∧Y.2.1.size≤maxLen ∧
  Hid (∀(rb:Nat) (w:World),Rd w rb σ.1 σ.2→Calls Tryz.prog 68 #[.pointer (some ⟨rb,0,none⟩),.int .i64 224] w fun e w'=>e = .returned (.string Y.1)∧Rd w' rb Y.2.1 Y.2.2∧Keeps (· = rb) w w') :=
 ⟨_,rfl,Nat.le_trans (rB_size σ).2 hs,Nat.le_trans (rB_size σ).1 hs,fun rb w hR=>oct_bytes rb σ.1 σ.2 224 w hR hs⟩
theorem imgs_go {k:Nat} {σ:St} {acc:List (Int×Pg)} (hb:σ.2=false) {X:Int×St} (eX:rN 4 σ=X) {Y:ByteArray×St} (eY:rB X.2=Y):(DecOk Y.1→imgsR (k+1) σ acc=imgsR k Y.2 (acc++[(X.1,decP Y.1)]))∧(¬DecOk Y.1→imgsR (k+1) σ acc=none):=by
 subst eX eY
 constructor
 ·intro h
  rw[imgsR,if_neg (by rw[hb];decide),if_pos h]
 ·intro h
  rw[imgsR,if_neg (by rw[hb];decide),if_neg h]
theorem imgs_end {k:Nat} {σ:St} {acc:List (Int×Pg)} (h:k=0∨σ.2=true):imgsR k σ acc=some (acc,σ):=by
 cases k with
 | zero=>rfl
 | succ k =>
  rcases h with h | h
  · cases h
  · rw[imgsR,if_pos h]
theorem OwnS.shape {w:World} {e:TypeId} {size:Nat} {v:Value} {n:Nat} {xs:List Value} (h:OwnS w e size v n xs):∃a c,v = .slice a n c:=by
 rcases h.2 with⟨rfl,rfl⟩ | ⟨g,cap,cur,rfl,_⟩
 · exact⟨_,_,rfl⟩
 · exact⟨_,_,rfl⟩
theorem rT_len (σ:St):(rT σ).1.size≤255:=by
 have h:=rdNum_range σ.1 σ.2 1
 have e:(256:Int)^(1:Int).toNat=256:=by decide
 rw[e]at h
 rcases rdBytes_len (rdNum σ.1 σ.2 1).2.1 (rdNum σ.1 σ.2 1).2.2 (rdNum σ.1 σ.2 1).1 with h1 | h1
 ·have:((rT σ).1.size:Int)=(rdNum σ.1 σ.2 1).1:=h1
  omega
 ·have:(rT σ).1=⟨#[]⟩:=h1
  rw[this]
  exact Nat.zero_le _
theorem Keeps.drew_left {S:Nat→Prop} {w w':World} (h:Keeps S w.drew w'):Keeps S w w':=⟨h.os,h.tape,h.output,h.size,h.block⟩
theorem rN1_pos (σ:St) {X:Int×St} (h:rN 1 σ=X):∃n:Nat,X.1=n∧n≤255:=by
 have:=rN1_range σ
 rw[h]at this
 exact⟨X.1.toNat,by omega,by omega⟩
theorem lives_go {k:Nat} {σ:St} {acc:List (Int×Int×Int)} (hb:σ.2=false) {X Y Z:Int×St} (eX:rN 4 σ=X) (eY:rN 8 X.2=Y) (eZ:rN 8 Y.2=Z):livesR (k+1) σ acc=livesR k Z.2 (acc++[(X.1,Y.1,Z.1)]):=by
 subst eX eY eZ
 rw[livesR,if_neg (by rw[hb];decide)]
theorem lives_end {k:Nat} {σ:St} {acc:List (Int×Int×Int)} (h:k=0∨σ.2=true):livesR k σ acc=(acc,σ):=by
 cases k with
 | zero=>rfl
 | succ k =>
  rcases h with h | h
  · cases h
  · rw[livesR,if_pos h]
theorem tail_eq {R:Rc} {acc:List (Int×Pg)} {σ:St} {M:Int×St} (eM:rN 1 σ=M) {m0:Nat} (hm:M.1=m0) {l:List (Int×Int×Int)} {τ:St} (h:livesR m0 M.2 []=(l,τ)):tailR R (acc,σ)=endR {R with ims:=acc,lvs:=l} τ:=by
 unfold tailR
 dsimp only
 rw[eM,hm,Int.toNat_natCast,h]
theorem endR_none {R:Rc} {σ:St} (h:σ.2=true∨σ.1.size≠0∨¬RcOk R):endR R σ=none:=by
 unfold endR
 rw[if_neg]
 rintro⟨h1,h2,h3⟩
 rcases h with h | h | h
 · rw[h1]at h;cases h
 · exact h h2
 · exact h h3
theorem endR_some {R:Rc} {σ:St} (h1:σ.2=false) (h2:σ.1.size=0) (h3:RcOk R):endR R σ=some R:=by
 unfold endR
 rw[if_pos ⟨h1,h2,h3⟩]
def nilS:Value := .slice none 0 0
def rcZ:Rc:={kind:=0,xct:=0,prev:=0,next:=0,uk:=0,us:=0,up:=0,ul:=0,key:=⟨#[]⟩,bs:=0,bd:=⟨#[]⟩,fresh:=0,ims:=[],lvs:=[]}
theorem rcC_one {R:Rc} {iv lv:Value} (h1:iv.oneCell'=true) (h2:lv.oneCell'=true):∀v∈(rcC R iv lv).toList,v.oneCell'=true:=by
 intro v hv
 simp only[rcC,List.mem_cons,List.not_mem_nil,or_false]at hv
 rcases hv with h | h | h | h | h | h | h | h | h | h | h | h | h | h <;> (rw[h];first | rfl | assumption)
theorem cells_newR (w:World) (C:Array Value) (T:TypeId) {g:Nat} (hg:g=w.heap.size):∀j u,C.toList[j]? = some u→(w.alloc (.cells C T)).cell? ((⟨g,0,none⟩:Addr).add j)=some u:=fun j u h=>by
 subst hg
 rw[Addr.add_mid,Nat.zero_add,cell_at (hN rfl)]
 simpa using h
theorem flat_at {α:Type} (f:α→List Value) (n:Nat) (hf:∀x,(f x).length=n):∀(l:List α) (i j:Nat),j<n→(l.flatMap f)[i*n+j]? = ((l.map f)[i]?.getD [])[j]?
 | [],i,j,_=>by simp
 | x::l,0,j,hj=>by
  rw[List.flatMap_cons,Nat.zero_mul,Nat.zero_add,List.getElem?_append_left (by rw[hf];exact hj)]
  rfl
 | x::l,i+1,j,hj=>by
  rw[List.flatMap_cons,Nat.add_mul,Nat.one_mul,List.getElem?_append_right (by rw[hf];omega),hf,show i*n+n+j-n=i*n+j by omega,flat_at f n hf l i j hj]
  simp
theorem own_sl {w:World} {e:TypeId} {n m:Nat} {v:Value} {α:Type} (f:α→List Value) (hf:∀x,(f x).length=n) (l:List α) (h:OwnS w e n v m (l.flatMap f)) (hm:m=l.length) (hmax:m≤maxLen) (hn:0<n):Sl w v n (l.map f):=by
 subst hm
 rcases h.2 with⟨rfl,hnil⟩ | ⟨g,cap,cur,rfl,hb,hg,r⟩
 ·have:l=[]:=by
   cases l with
   | nil=>rfl
   | cons x l=>exact absurd hnil (by simp)
  subst this
  exact⟨none,0,rfl,Nat.zero_le _,fun hne=>(hne rfl).elim⟩
 ·refine⟨some ⟨g,0,none⟩,cap,by rw[List.length_map],by rw[List.length_map];exact hmax,fun _=>⟨g,0,rfl,block_lt hg,fun i hi j hj=>?_⟩⟩
  rw[List.length_map]at hi
  have hij:i*n+j<l.length*n:=by
   have:=Nat.mul_le_mul_right n (show i+1≤l.length from hi)
   rw[Nat.add_mul]at this
   omega
  rw[Nat.zero_add,World.ownsRow.cellAt h _ hij,flat_at f n hf l i j hj]
theorem Tryz.info_img:(Tryz.prog.info? 51).map (fun i=>(i.zero,i.size,i.bytes))=some (some (.agg (imA (0,pageZ))),17,184):=by kernel_rfl
theorem Tryz.info_alv:(Tryz.prog.info? 61).map (fun i=>(i.zero,i.size,i.bytes))=some (some (.agg #[.int .i64 0,.int .i64 0,.int .i64 0]),3,24):=by kernel_rfl
theorem hdR_eq {s:ByteArray} {X1 X2 X3 X4 X5 X6 X7 X8 X9 X11 X13:Int×St} {X10 X12:ByteArray×St} (e1:rN 1 (s,false)=X1) (e2:rN 4 X1.2=X2) (e3:rN 8 X2.2=X3) (e4:rN 8 X3.2=X4) (e5:rN 4 X4.2=X5) (e6:rN 1 X5.2=X6) (e7:rN 1 X6.2=X7) (e8:rN 4 X7.2=X8) (e9:rN 1 X8.2=X9)
  (e10:rT X9.2=X10) (e11:rN 1 X10.2=X11) (e12:rT X11.2=X12) (e13:rN 1 X12.2=X13) :
  (hdR s).1={kind:=X1.1,xct:=X2.1,prev:=X3.1,next:=X4.1,fresh:=X5.1,uk:=X6.1,us:=X7.1,up:=X8.1,ul:=X9.1,key:=X10.1,bs:=X11.1,bd:=X12.1,ims:=[],lvs:=[]}∧cntR s=X13:=by
 subst e1 e2 e3 e4 e5 e6 e7 e8 e9 e10 e11 e12 e13
 exact⟨rfl,rfl⟩
theorem append_flat {α:Type} (f:α→List Value) (l:List α) (x:α):(l++[x]).flatMap f=l.flatMap f++f x:=by
 rw[List.flatMap_append];simp
def DecIs (s:ByteArray) (e:Ending) (w':World):Prop:=(∃(R:Rc) (iv lv:Value),decR s=some R∧e = .returned (.tuple #[.agg (rcC R iv lv),.int .i64 0])∧RcSl w' R iv lv)∨(decR s=none∧e = .returned (.tuple #[.agg (rcC rcZ nilS nilS),.int .i64 40]))
set_option maxRecDepth 100000 in
set_option maxHeartbeats 16000000 in
theorem rc_decode (s:ByteArray) (hs:s.size≤maxLen) (w:World):Calls Tryz.prog 18 #[.string s] w fun e w'=>DecIs s e w'∧Below w.heap.size w w':=by
 obtain⟨X1,e1,z1,C1⟩:=dnum_any 1 (by decide) (s,false) hs
 obtain⟨X2,e2,z2,C2⟩:=dnum_any 4 (by decide) X1.2 z1
 obtain⟨X3,e3,z3,C3⟩:=dnum_any 8 (by decide) X2.2 z2
 obtain⟨X4,e4,z4,C4⟩:=dnum_any 8 (by decide) X3.2 z3
 obtain⟨X5,e5,z5,C5⟩:=dnum_any 4 (by decide) X4.2 z4
 obtain⟨X6,e6,z6,C6⟩:=dnum_any 1 (by decide) X5.2 z5
 obtain⟨X7,e7,z7,C7⟩:=dnum_any 1 (by decide) X6.2 z6
 obtain⟨X8,e8,z8,C8⟩:=dnum_any 4 (by decide) X7.2 z7
 obtain⟨X9,e9,z9,C9⟩:=dnum_any 1 (by decide) X8.2 z8
 obtain⟨X10,e10,z10,C10⟩:=dtext_any X9.2 z9
 obtain⟨X11,e11,z11,C11⟩:=dnum_any 1 (by decide) X10.2 z10
 obtain⟨X12,e12,z12,C12⟩:=dtext_any X11.2 z11
 obtain⟨X13,e13,z13,C13⟩:=dnum_any 1 (by decide) X12.2 z12
 have hkey:X10.1.size≤255:=by rw[←e10];exact rT_len _
 have hbd:X12.1.size≤255:=by rw[←e12];exact rT_len _
 obtain⟨hHd,hCt⟩:=hdR_eq e1 e2 e3 e4 e5 e6 e7 e8 e9 e10 e11 e12 e13
 obtain⟨q0,q1⟩:=rN1_range X12.2
 rw[e13]at q0 q1
 replace hHd:=Hd hHd
 replace hCt:=Hd hCt
 clear e1 e2 e3 e4 e5 e6 e7 e8 e9 e10 e11 e12 e13 z1 z2 z3 z4 z5 z6 z7 z8 z9 z10 z11 z12
 obtain⟨i0,hi,hi0,hi1,hi2⟩:=info_parts Tryz.info_img
 obtain⟨j0,hj,hj0,hj1,hj2⟩:=info_parts Tryz.info_alv
 have HZ0:Hid ((w.alloc (.cells (rcC rcZ nilS nilS) 65)).heap[w.heap.size]? = some (.cells (rcC rcZ nilS nilS) 65 (0,0))):=hN rfl
 have HB0:Hid (Below w.heap.size w (w.alloc (.cells (rcC rcZ nilS nilS) 65))):=bA bR
 go_enter Tryz.func18,Tryz.ntmps18
 go_wp2_with fail
 refine(oct_read s _).mono ?_
 rintro e w1 ⟨rfl,hr,hb⟩
 have HR1:Hid (Rd w1 (w.heap.size+1) s false):=by
  have e2:(w.alloc (.cells (rcC rcZ nilS nilS) 65)).heap.size=w.heap.size+1:=by simp
  exact e2 ▸ hr
 have HZ1:=Hd (hBs hb HZ0.out)
 have HB1:=Hd (bT HB0.out hb)
 clear hb hr HZ0 HB0
 have hrw:=block_lt HR1.out
 have HV:Hid ((w1.alloc (.cells #[.pointer (some ⟨w.heap.size+1,0,none⟩)] 145)).heap[w1.heap.size]? = some (.cells #[.pointer (some ⟨w.heap.size+1,0,none⟩)] 145 (0,0))):=hN rfl
 have HR:Hid (Rd (w1.alloc (.cells #[.pointer (some ⟨w.heap.size+1,0,none⟩)] 145)) (w.heap.size+1) s false):=hO HR1.out
 have HZ:Hid ((w1.alloc (.cells #[.pointer (some ⟨w.heap.size+1,0,none⟩)] 145)).heap[w.heap.size]? = _):=hO HZ1.out
 have HB:Hid (Below w.heap.size w (w1.alloc (.cells #[.pointer (some ⟨w.heap.size+1,0,none⟩)] 145))):=bA HB1.out
 clear HR1 HZ1 HB1
 go_wp2_with fail
 refine(C1.out w1.heap.size (w.heap.size+1) _ (by omega) HV.out HR.out).mono ?_
 rintro e wn ⟨rfl,hr,hk⟩
 replace HV:=Hd (hk.keep HV.out (by omega))
 replace HZ:=Hd (hk.keep HZ.out (by omega))
 replace HB:=Hd (bK HB.out hk (fun j hj=>by omega))
 replace HR:=Hd hr
 clear hr hk C1
 go_wp2_with fail
 refine(C2.out w1.heap.size (w.heap.size+1) _ (by omega) HV.out HR.out).mono ?_
 rintro e wn ⟨rfl,hr,hk⟩
 replace HV:=Hd (hk.keep HV.out (by omega))
 replace HZ:=Hd (hk.keep HZ.out (by omega))
 replace HB:=Hd (bK HB.out hk (fun j hj=>by omega))
 replace HR:=Hd hr
 clear hr hk C2
 go_wp2_with fail
 refine(C3.out w1.heap.size (w.heap.size+1) _ (by omega) HV.out HR.out).mono ?_
 rintro e wn ⟨rfl,hr,hk⟩
 replace HV:=Hd (hk.keep HV.out (by omega))
 replace HZ:=Hd (hk.keep HZ.out (by omega))
 replace HB:=Hd (bK HB.out hk (fun j hj=>by omega))
 replace HR:=Hd hr
 clear hr hk C3
 go_wp2_with fail
 refine(C4.out w1.heap.size (w.heap.size+1) _ (by omega) HV.out HR.out).mono ?_
 rintro e wn ⟨rfl,hr,hk⟩
 replace HV:=Hd (hk.keep HV.out (by omega))
 replace HZ:=Hd (hk.keep HZ.out (by omega))
 replace HB:=Hd (bK HB.out hk (fun j hj=>by omega))
 replace HR:=Hd hr
 clear hr hk C4
 go_wp2_with fail
 refine(C5.out w1.heap.size (w.heap.size+1) _ (by omega) HV.out HR.out).mono ?_
 rintro e wn ⟨rfl,hr,hk⟩
 replace HV:=Hd (hk.keep HV.out (by omega))
 replace HZ:=Hd (hk.keep HZ.out (by omega))
 replace HB:=Hd (bK HB.out hk (fun j hj=>by omega))
 replace HR:=Hd hr
 clear hr hk C5
 go_wp2_with fail
 have hwn:=block_lt HV.out
 have HX:Hid ((wn.alloc (.cells (rcC {rcZ with kind:=X1.1,xct:=X2.1,prev:=X3.1,next:=X4.1,fresh:=X5.1} nilS nilS) 65)).heap[wn.heap.size]? = some (.cells (rcC {rcZ with kind:=X1.1,xct:=X2.1,prev:=X3.1,next:=X4.1,fresh:=X5.1} nilS nilS) 65 (0,0))):=hN rfl
 have HV:Hid ((wn.alloc (.cells (rcC {rcZ with kind:=X1.1,xct:=X2.1,prev:=X3.1,next:=X4.1,fresh:=X5.1} nilS nilS) 65)).heap[w1.heap.size]? = some (.cells #[.pointer (some ⟨w.heap.size+1,0,none⟩)] 145 (0,0))):=hO HV.out
 have HR:Hid (Rd (wn.alloc (.cells (rcC {rcZ with kind:=X1.1,xct:=X2.1,prev:=X3.1,next:=X4.1,fresh:=X5.1} nilS nilS) 65)) (w.heap.size+1) X5.2.1 X5.2.2):=hO HR.out
 have HZ:Hid ((wn.alloc (.cells (rcC {rcZ with kind:=X1.1,xct:=X2.1,prev:=X3.1,next:=X4.1,fresh:=X5.1} nilS nilS) 65)).heap[w.heap.size]? = some (.cells (rcC rcZ nilS nilS) 65 (0,0))):=hO HZ.out
 have HB:Hid (Below w.heap.size w (wn.alloc (.cells (rcC {rcZ with kind:=X1.1,xct:=X2.1,prev:=X3.1,next:=X4.1,fresh:=X5.1} nilS nilS) 65))):=bA HB.out
 refine wp_region_held_drew (S:=fun w'=>w'.heap[w1.heap.size]? = some (.cells #[.pointer (some ⟨w.heap.size+1,0,none⟩)] 145 (0,0))) (by kernel_rfl) HV.out (fun hHeld=>?_)
 refine tp 0 (v := .func (.func 63) #[] #[.pointer (some ⟨w1.heap.size,0,none⟩)]) hHeld ?_
 go_frame
 refine tp 2 (v := .func (.func 63) #[] #[.pointer (some ⟨w1.heap.size,0,none⟩)]) hHeld ?_
 go_frame
 refine tp 4 (v := .func (.func 63) #[] #[.pointer (some ⟨w1.heap.size,0,none⟩)]) hHeld ?_
 go_frame
 refine tp 6 (v := .func (.func 63) #[] #[.pointer (some ⟨w1.heap.size,0,none⟩)]) hHeld ?_
 go_frame
 refine tk 8 (v := .pointer (some ⟨w.heap.size+1,0,none⟩)) rfl (Or.inl ⟨by rfl,?_⟩) hHeld ?_
 ·intro w' hSw
  have c0:=(show w'.cell? ⟨w1.heap.size,0,none⟩=some (.pointer (some ⟨w.heap.size+1,0,none⟩)) from cell_at hSw 0)
  go_simp
  try with_reducible rfl
  try omega
 go_frame
 refine rd 1 (fun K hK=>?_)
 go_simp
 go_at_call 63
 refine(C6.out w1.heap.size (w.heap.size+1) _ (by omega) ?_ ?_).mono ?_
 · exact HV.out
 · exact HR.out
 rintro e wm ⟨rfl,hr,hk⟩
 replace HV:=Hd (hk.keep HV.out (by omega))
 replace HZ:=Hd (hk.keep HZ.out (by omega))
 replace HX:=Hd (hk.keep HX.out (by omega))
 replace HB:=Hd (bK (bD HB.out) hk (fun j hj=>by omega))
 replace HR:=Hd hr
 clear hr hk
 go_wp2_with fail
 refine hK.out _ _ HV.out (fun hHeld=>?_)
 clear hK K
 try go_frame
 refine rd 3 (fun K hK=>?_)
 go_simp
 go_at_call 63
 refine(C7.out w1.heap.size (w.heap.size+1) _ (by omega) ?_ ?_).mono ?_
 · exact HV.out
 · exact HR.out
 rintro e wm ⟨rfl,hr,hk⟩
 replace HV:=Hd (hk.keep HV.out (by omega))
 replace HZ:=Hd (hk.keep HZ.out (by omega))
 replace HX:=Hd (hk.keep HX.out (by omega))
 replace HB:=Hd (bK HB.out hk (fun j hj=>by omega))
 replace HR:=Hd hr
 clear hr hk
 go_wp2_with fail
 refine hK.out _ _ HV.out (fun hHeld=>?_)
 clear hK K
 try go_frame
 refine rd 5 (fun K hK=>?_)
 go_simp
 go_at_call 63
 refine(C8.out w1.heap.size (w.heap.size+1) _ (by omega) ?_ ?_).mono ?_
 · exact HV.out
 · exact HR.out
 rintro e wm ⟨rfl,hr,hk⟩
 replace HV:=Hd (hk.keep HV.out (by omega))
 replace HZ:=Hd (hk.keep HZ.out (by omega))
 replace HX:=Hd (hk.keep HX.out (by omega))
 replace HB:=Hd (bK HB.out hk (fun j hj=>by omega))
 replace HR:=Hd hr
 clear hr hk
 go_wp2_with fail
 refine hK.out _ _ HV.out (fun hHeld=>?_)
 clear hK K
 try go_frame
 refine rd 7 (fun K hK=>?_)
 go_simp
 go_at_call 63
 refine(C9.out w1.heap.size (w.heap.size+1) _ (by omega) ?_ ?_).mono ?_
 · exact HV.out
 · exact HR.out
 rintro e wm ⟨rfl,hr,hk⟩
 replace HV:=Hd (hk.keep HV.out (by omega))
 replace HZ:=Hd (hk.keep HZ.out (by omega))
 replace HX:=Hd (hk.keep HX.out (by omega))
 replace HB:=Hd (bK HB.out hk (fun j hj=>by omega))
 replace HR:=Hd hr
 clear hr hk
 go_wp2_with fail
 refine hK.out _ _ HV.out (fun hHeld=>?_)
 clear hK K
 try go_frame
 refine rd 9 (fun K hK=>?_)
 go_simp
 go_at_call 65
 refine(C10.out (w.heap.size+1) _ ?_).mono ?_
 · exact HR.out
 rintro e wm ⟨rfl,hr,hk⟩
 replace HV:=Hd (hk.keep HV.out (by omega))
 replace HZ:=Hd (hk.keep HZ.out (by omega))
 replace HX:=Hd (hk.keep HX.out (by omega))
 replace HB:=Hd (bK HB.out hk (fun j hj=>by omega))
 replace HR:=Hd hr
 clear hr hk
 go_wp2_with fail
 refine hK.out _ _ HV.out (fun hHeld=>?_)
 clear hK K
 try go_frame
 refine tp 10 (v := .agg #[.int .i64 X6.1,.int .i64 X7.1,.int .i64 X8.1,.int .i64 X9.1,.string X10.1,.int .i64 0,.string ⟨#[]⟩]) hHeld ?_
 go_frame
 refine tp 11 (v := .pointer (some ⟨wn.heap.size,4,none⟩)) hHeld ?_
 go_frame
 refine rd 12 (fun K hK=>?_)
 refine step_store_part rfl 42 _ _ rfl wn.heap.size 4 #[.int .i64 X6.1,.int .i64 X7.1,.int .i64 X8.1,.int .i64 X9.1,.string X10.1,.int .i64 0,.string ⟨#[]⟩] rfl rfl _ _ HX.out (by simp[rcC]) (by kernel_rfl) (by simp[Value.oneCell']) ?_
 intro wz HRz KZ
 have HXz:Hid (wz.heap[wn.heap.size]? = some (.cells (rcC {rcZ with kind:=X1.1,xct:=X2.1,prev:=X3.1,next:=X4.1,fresh:=X5.1,uk:=X6.1,us:=X7.1,up:=X8.1,ul:=X9.1,key:=X10.1} nilS nilS) 65 (0,0))):=HRz
 replace HV:=Hd (KZ.out.keep HV.out (by omega))
 replace HZ:=Hd (KZ.out.keep HZ.out (by omega))
 replace HR:Hid (Rd wz _ _ _):=Hd (KZ.out.keep HR.out (by omega))
 replace HB:=Hd (bK HB.out KZ.out (fun j hj=>by omega))
 clear HX HRz KZ
 have HX:=HXz
 clear HXz
 refine hK.out _ _ HV.out (fun hHeld=>?_)
 clear hK K
 try go_frame
 refine wpAnyH_done (by kernel_rfl) ?_ _
 go_wp2_with fail
 refine wp_region_held_drew (S:=fun w'=>w'.heap[w1.heap.size]? = some (.cells #[.pointer (some ⟨w.heap.size+1,0,none⟩)] 145 (0,0))) (by kernel_rfl) HV.out (fun hHeld=>?_)
 refine tp 0 (v := .func (.func 63) #[] #[.pointer (some ⟨w1.heap.size,0,none⟩)]) hHeld ?_
 go_frame
 refine tk 2 (v := .pointer (some ⟨w.heap.size+1,0,none⟩)) rfl (Or.inl ⟨by rfl,?_⟩) hHeld ?_
 ·intro w' hSw
  have c0:=(show w'.cell? ⟨w1.heap.size,0,none⟩=some (.pointer (some ⟨w.heap.size+1,0,none⟩)) from cell_at hSw 0)
  go_simp
  try with_reducible rfl
  try omega
 go_frame
 refine rd 1 (fun K hK=>?_)
 go_simp
 go_at_call 63
 refine(C11.out w1.heap.size (w.heap.size+1) _ (by omega) ?_ ?_).mono ?_
 · exact HV.out
 · exact HR.out
 rintro e wm ⟨rfl,hr,hk⟩
 replace HV:=Hd (hk.keep HV.out (by omega))
 replace HZ:=Hd (hk.keep HZ.out (by omega))
 replace HX:=Hd (hk.keep HX.out (by omega))
 replace HB:=Hd (bK (bD HB.out) hk (fun j hj=>by omega))
 replace HR:=Hd hr
 clear hr hk
 go_wp2_with fail
 refine hK.out _ _ HV.out (fun hHeld=>?_)
 clear hK K
 try go_frame
 refine rd 3 (fun K hK=>?_)
 go_simp
 go_at_call 65
 refine(C12.out (w.heap.size+1) _ ?_).mono ?_
 · exact HR.out
 rintro e wm ⟨rfl,hr,hk⟩
 replace HV:=Hd (hk.keep HV.out (by omega))
 replace HZ:=Hd (hk.keep HZ.out (by omega))
 replace HX:=Hd (hk.keep HX.out (by omega))
 replace HB:=Hd (bK HB.out hk (fun j hj=>by omega))
 replace HR:=Hd hr
 clear hr hk
 go_wp2_with fail
 refine hK.out _ _ HV.out (fun hHeld=>?_)
 clear hK K
 try go_frame
 refine tp 4 (v := .agg #[.int .i64 X11.1,.string X12.1]) hHeld ?_
 go_frame
 refine tp 5 (v := .pointer (some ⟨wn.heap.size,4,none⟩)) hHeld ?_
 go_frame
 refine tp 6 (v := .pointer (some ⟨wn.heap.size,9,none⟩)) hHeld ?_
 go_frame
 refine rd 7 (fun K hK=>?_)
 refine step_store_part rfl 33 _ _ rfl wn.heap.size 9 #[.int .i64 X11.1,.string X12.1] rfl rfl _ _ HX.out (by simp[rcC]) (by kernel_rfl) (by simp[Value.oneCell']) ?_
 intro wz HRz KZ
 have HXz:Hid (wz.heap[wn.heap.size]? = some (.cells (rcC {kind:=X1.1,xct:=X2.1,prev:=X3.1,next:=X4.1,fresh:=X5.1,uk:=X6.1,us:=X7.1,up:=X8.1,ul:=X9.1,key:=X10.1,bs:=X11.1,bd:=X12.1,ims:=[],lvs:=[]} nilS nilS) 65 (0,0))):=HRz
 replace HV:=Hd (KZ.out.keep HV.out (by omega))
 replace HZ:=Hd (KZ.out.keep HZ.out (by omega))
 replace HR:Hid (Rd wz _ _ _):=Hd (KZ.out.keep HR.out (by omega))
 replace HB:=Hd (bK HB.out KZ.out (fun j hj=>by omega))
 clear HX HRz KZ
 have HX:=HXz
 clear HXz
 refine hK.out _ _ HV.out (fun hHeld=>?_)
 clear hK K
 try go_frame
 refine wpAnyH_done (by kernel_rfl) ?_ _
 obtain⟨RH,hRH⟩:∃RH:Rc,{kind:=X1.1,xct:=X2.1,prev:=X3.1,next:=X4.1,fresh:=X5.1,uk:=X6.1,us:=X7.1,up:=X8.1,ul:=X9.1,key:=X10.1,bs:=X11.1,bd:=X12.1,ims:=[],lvs:=[]}=RH:=⟨_,rfl⟩
 have hkb:Hid (RH.key.size≤255∧RH.bd.size≤255):=by rw[←hRH];exact⟨hkey,hbd⟩
 rw[hRH]at HX hHd
 replace hRH:=Hd hRH
 clear hkey hbd
 go_wp2_with fail
 refine(C13.out w1.heap.size (w.heap.size+1) _ (by omega) HV.out HR.out).mono ?_
 rintro e wp ⟨rfl,hr,hk⟩
 replace HV:=Hd (hk.keep HV.out (by omega))
 replace HZ:=Hd (hk.keep HZ.out (by omega))
 replace HB:=Hd (bK HB.out hk (fun j hj=>by omega))
 replace HX:=Hd (hk.keep HX.out (by omega))
 replace HR:=Hd hr
 clear hr hk C13
 obtain⟨n0,hn0⟩:∃n0:Nat,X13.1=n0:=⟨X13.1.toNat,by omega⟩
 have hdec:Hid (∀acc σ,imgsR n0 X13.2 []=some (acc,σ)→decR s=tailR RH (acc,σ)):=fun acc σ h=>by
  unfold decR
  rw[hCt.out,hn0,Int.toNat_natCast,h,hHd.out]
 have hdecN:Hid (imgsR n0 X13.2 []=none→decR s=none):=fun h=>by
  unfold decR
  rw[hCt.out,hn0,Int.toNat_natCast,h]
 rw[hn0]
 have hn255:n0≤255:=by omega
 clear hn0 q0 q1 hCt hHd hRH
 clear C6 C7 C8 C9 C10 C11 C12
 go_upto_block 0 with fail
 go_cut [] from 7 to 74 (fun wx=>∃(σ:St) (acc:List (Int×Pg)) (iv:Value),acc.length≤255∧σ.1.size≤maxLen∧Hid (decR s=tailR RH (acc,σ))∧Hid (wx.heap[w1.heap.size]? = some (.cells #[.pointer (some ⟨w.heap.size+1,0,none⟩)] 145 (0,0)))∧Hid (Rd wx (w.heap.size+1) σ.1 σ.2)
   ∧ Hid (wx.heap[w.heap.size]? = some (.cells (rcC rcZ nilS nilS) 65 (0,0)))∧Hid (wx.heap[wn.heap.size]? = some (.cells (rcC RH iv nilS) 65 (0,0)))∧Hid (OwnS wx 51 17 iv acc.length (acc.flatMap imL))∧Hid (∀j∈blk iv,wn.heap.size<j)∧Hid (∀x∈acc,∀i,i<6→(x.2.dt i).size≤maxLen)∧Hid (Below w.heap.size w wx))
 case first =>
  go_wp2_with fail
  go_loopw [7] (fun t wr=>∃(k:Nat) (σ:St) (acc:List (Int×Pg)) (iv:Value),t = .int .i64 k∧k+acc.length≤255∧σ.1.size≤maxLen∧Hid (imgsR n0 X13.2 []=imgsR k σ acc)∧Hid (wr.heap[w1.heap.size]? = some (.cells #[.pointer (some ⟨w.heap.size+1,0,none⟩)] 145 (0,0)))∧Hid (Rd wr (w.heap.size+1) σ.1 σ.2)
    ∧ Hid (wr.heap[w.heap.size]? = some (.cells (rcC rcZ nilS nilS) 65 (0,0)))∧Hid (wr.heap[wn.heap.size]? = some (.cells (rcC RH iv nilS) 65 (0,0)))∧Hid (OwnS wr 51 17 iv acc.length (acc.flatMap imL))∧Hid (∀j∈blk iv,wn.heap.size<j)∧Hid (∀x∈acc,∀i,i<6→(x.2.dt i).size≤maxLen)∧Hid (Below w.heap.size w wr)) (fun t _=>(intOf t).toNat)
  clear hHeld
  case atStart=>exact⟨n0,X13.2,[],nilS,rfl,by simp;omega,z13,rfl,HV.out,HR.out,HZ.out,HX.out,OwnS.nil _ _ _,Hd (by simp[blk,nilS,Value.ownBlock]),Hd (by simp),HB.out⟩
  case round =>
   clear HV HR HZ HX HB z13
   obtain⟨k,σ,acc,iv,rfl,hka,hσ,him,HV,HR,HZ,HX,HO,HF,HD,HB⟩:=hrel
   have hvr:=block_lt HV.out
   have hxr:=block_lt HX.out
   by_cases hex:k=0∨σ.2=true
   ·have hend:=Hd (hdec.out acc σ (him.out.trans (imgs_end hex)))
    by_cases hk0:k=0
    ·subst hk0
     go_wp2_with fail
     go_meet
     exact⟨σ,acc,iv,by omega,hσ,hend.out,HV.out,HR.out,HZ.out,HX.out,HO.out,HF.out,HD.out,HB.out⟩
    ·replace hex:=Hd (hex.resolve_left hk0)
     have hk0':0<(k:Int):=by omega
     have c0:wr.cell? ⟨w1.heap.size,0,none⟩=some (.pointer (some ⟨w.heap.size+1,0,none⟩)):=cell_at HV.out 0
     go_wp2_with fail
     refine(oct_bad _ _ _ _ HR.out).mono ?_
     rintro e w2 ⟨rfl,rfl⟩
     rw[hex.out]
     go_wp2_with fail
     go_meet
     exact⟨σ,acc,iv,by omega,hσ,hend.out,HV.out,HR.out,HZ.out,HX.out,HO.out,HF.out,HD.out,HB.out⟩
   have hk0:k≠0:=fun h=>hex (.inl h)
   have hk0':0<(k:Int):=by omega
   have c0:wr.cell? ⟨w1.heap.size,0,none⟩=some (.pointer (some ⟨w.heap.size+1,0,none⟩)):=cell_at HV.out 0
   go_wp2_with fail
   refine(oct_bad _ _ _ _ HR.out).mono ?_
   rintro e w2 ⟨rfl,rfl⟩
   have hbad:σ.2=false:=by
    cases h:σ.2
    · rfl
    · exact(hex (.inr h)).elim
   clear hex c0
   obtain⟨k',rfl⟩:∃k',k=k'+1:=⟨k-1,by omega⟩
   obtain⟨X,eX,zX,CX⟩:=dnum_any 4 (by decide) σ hσ
   obtain⟨Y,eY,zY,zY2,CY⟩:=dbytes_any X.2 zX
   obtain⟨hgo,hstop⟩:=imgs_go (k:=k') (acc:=acc) hbad eX eY
   have CD:=Hd (fun w=>pg_decode Y.1 zY w)
   replace hgo:=Hd hgo
   replace hstop:=Hd hstop
   rw[hbad]at CX HR ⊢
   replace hbad:=Hd hbad
   clear eX eY
   go_wp2_with fail
   refine(CX.out (w1.heap.size) (w.heap.size+1) _ (by omega) HV.out HR.out).mono ?_
   rintro e w3 ⟨rfl,hr,hk⟩
   replace HV:=Hd (hk.keep HV.out (by omega))
   replace HZ:=Hd (hk.keep HZ.out (by omega))
   replace HX:=Hd (hk.keep HX.out (by omega))
   replace HO:=Hd (HO.out.keep hk (fun j hj=>by have:=HF.out j hj;omega))
   replace HB:=Hd (bK HB.out hk (fun j hj=>by omega))
   replace HR:=Hd hr
   have c0:w3.cell? ⟨w1.heap.size,0,none⟩=some (.pointer (some ⟨w.heap.size+1,0,none⟩)):=cell_at HV.out 0
   clear hr hk CX
   go_wp2_with fail
   refine(CY.out (w.heap.size+1) _ HR.out).mono ?_
   rintro e w4 ⟨rfl,hr,hk⟩
   replace HV:=Hd (hk.keep HV.out (by omega))
   replace HZ:=Hd (hk.keep HZ.out (by omega))
   replace HX:=Hd (hk.keep HX.out (by omega))
   replace HO:=Hd (HO.out.keep hk (fun j hj=>by have:=HF.out j hj;omega))
   replace HB:=Hd (bK HB.out hk (fun j hj=>by omega))
   replace HR:=Hd hr
   clear hr hk CY c0
   go_wp2_with fail
   refine(CD.out _).mono ?_
   rintro e w5 ⟨h,hb⟩
   replace HV:=Hd (hBs hb HV.out)
   replace HZ:=Hd (hBs hb HZ.out)
   replace HX:=Hd (hBs hb HX.out)
   replace HR:Hid (Rd w5 _ _ _):=Hd (hBs hb HR.out)
   replace HO:=Hd (HO.out.keep (Keeps.of_below (fun _=>False) hb) (fun _ _ h=>h))
   replace HB:=Hd (bT HB.out hb)
   have hx5:=block_lt HX.out
   clear hb CD
   have HP:Hid ((w5.alloc (.cells (pgC pageZ) 49)).heap[w5.heap.size]? = some (.cells (pgC pageZ) 49 (0,0))):=hN rfl
   have HVa:Hid ((w5.alloc (.cells (pgC pageZ) 49)).heap[w1.heap.size]? = _):=hO (o := .cells (pgC pageZ) 49) HV.out
   have HZa:Hid ((w5.alloc (.cells (pgC pageZ) 49)).heap[w.heap.size]? = _):=hO (o := .cells (pgC pageZ) 49) HZ.out
   have HXa:Hid ((w5.alloc (.cells (pgC pageZ) 49)).heap[wn.heap.size]? = _):=hO (o := .cells (pgC pageZ) 49) HX.out
   have HRa:Hid (Rd (w5.alloc (.cells (pgC pageZ) 49)) _ _ _):=hO (o := .cells (pgC pageZ) 49) HR.out
   have HOa:=Hd (HO.out.keep (Keeps.of_below (fun _=>False) (bA (o := .cells (pgC pageZ) 49) (bR (w:=w5)))) (fun _ _ h=>h))
   have HBa:Hid (Below w.heap.size w (w5.alloc (.cells (pgC pageZ) 49))):=bA HB.out
   have HOl:Hid (∀j∈blk iv,j<w5.heap.size):=fun j hj=>HO.out.lt hj
   clear HV HZ HX HR HO HB
   rcases h with⟨rfl,hok⟩ | ⟨rfl,hno⟩
   ·have him2:=Hd (him.out.trans (hgo.out hok))
    obtain⟨D,eD⟩:∃D,decP Y.1=D:=⟨_,rfl⟩
    have hDz:Hid (∀i,i<6→(D.dt i).size≤maxLen):=fun i hi=>by
     have:=dtD_size Y.1 i
     rw[←eD]
     unfold maxLen
     show (dtD Y.1 i).size≤_
     omega
    unfold pgV
    rw[eD]at him2 ⊢
    replace eD:=Hd eD
    have hpc:pgC D = #[.int .i64 D.kind,.int .i64 D.level,.int .i64 D.store,.int .i64 D.next,.int .i64 (D.st 0),.string (D.dt 0),.int .i64 (D.st 1),.string (D.dt 1),.int .i64 (D.st 2),.string (D.dt 2),.int .i64 (D.st 3),.string (D.dt 3),.int .i64 (D.st 4),.string (D.dt 4),.int .i64 (D.st 5),.string (D.dt 5)]:=rfl
    replace hpc:=Hd hpc
    have hone:∀u∈imL (X.1,D),u.oneCell'=true:=imA_one (X.1,D)
    clear hgo hstop hok him
    go_wp2_with (first
     | (refine wpList_store_whole rfl 49 _ _ rfl _ (pgC D) rfl rfl _ (pgC pageZ) HP.out rfl (by kernel_rfl) (pgC_one _) ?_;intro wz HRz KZ;(have hzz:=KZ.out.size);(have HVz:Hid ((wz.alloc (.cells (imA (X.1,D)) 51)).heap[w1.heap.size]? = _):=hO (KZ.out.keep HVa.out (by omega)));(have HZz:Hid ((wz.alloc (.cells (imA (X.1,D)) 51)).heap[w.heap.size]? = _):=hO (KZ.out.keep HZa.out (by omega)));(have HXz:=Hd (KZ.out.keep HXa.out (by omega)));(have HXq:Hid ((wz.alloc (.cells (imA (X.1,D)) 51)).heap[wn.heap.size]? = _):=hO HXz.out);(have HRRz:Hid (Rd (wz.alloc (.cells (imA (X.1,D)) 51)) _ _ _):=Hd (hO (KZ.out.keep HRa.out (by omega))));(have HOz:=Hd ((HOa.out.keep KZ.out (fun j hj=>by have:=HOl.out j hj;omega)).keep (Keeps.of_below (fun _=>False) (bA (o := .cells (imA (X.1,D)) 51) (bR (w:=wz)))) (fun _ _ h=>h)));(have HBz:Hid (Below w.heap.size w (wz.alloc (.cells (imA (X.1,D)) 51))):=bA (bK HBa.out KZ.out (fun j hj=>by omega)));(have c11:wz.cell? ⟨wn.heap.size,11,none⟩=some iv:=cell_at HXz.out 11);clear HP KZ HVa HZa HXa HRa HOa HBa HXz)
     | (refine wpList_load_row rfl 49 _ rfl _ rfl 49 _ _ _ HRz.out Tryz.underlying49 rfl (by kernel_rfl) ?_;(have hpc':=hpc.out);(have hwz:w5.heap.size<wz.heap.size:=block_lt HRz.out);clear HRz)
     | (at_builtin;refine wpList_append_frame _ rfl _ _ 43 rfl 51 i0 (.agg (imA (0,pageZ))) 17 184 Tryz.underlying43 hi hi0 hi1 hi2 rfl (by decide) _ _ _ rfl HOz.out ⟨wz.heap.size,0,none⟩ 1 1 (imL (X.1,D)) rfl rfl (cells_newR wz (imA (X.1,D)) 51 rfl) hone (by unfold maxLen;omega) (by omega) ?_;intro v9 w9 ho9 hk9 hb9 hn9;(have HV9:=Hd (hk9.keep HVz.out (fun h=>by have:=HF.out _ h;omega)));(have HZ9:=Hd (hk9.keep HZz.out (fun h=>by have:=HF.out _ h;omega)));(have HX9:=Hd (hk9.keep HXq.out (fun h=>by have:=HF.out _ h;omega)));(have HR9:Hid (Rd w9 _ _ _):=Hd (hk9.keep HRRz.out (fun h=>by have:=HF.out _ h;omega)));(have HB9:=Hd (bK HBz.out hk9 (fun j h=>by have:=HF.out _ h;have:=HB.out.size;omega)));(have HO9:=Hd ho9);(have hF9:=Hd hb9);(obtain⟨av,cv,rfl⟩:=OwnS.shape ho9);(have d11:w9.cell? ⟨wn.heap.size,11,none⟩=some iv:=cell_at HX9.out 11);(have f11:=free_at HX9.out 11);(have h9:=block_lt HX9.out);clear ho9 hk9 hb9 hn9 hpc' HVz HZz HXq HRRz HOz HBz c11))
    go_roundw
    case rel =>
     refine⟨k',Y.2,acc++[(X.1,D)],.slice av (acc.length+1) cv,rfl,by rw[List.length_append];simp;omega,zY2,him2.out,hSO HV9.out (by show _≠wn.heap.size;omega),hSO HR9.out (by show _≠wn.heap.size;omega),hSO HZ9.out (by show _≠wn.heap.size;omega),heap_set_eq HX9.out rfl,?_,?_,?_,bS HB9.out (by show _≤wn.heap.size;omega)⟩
     ·have hne:∀j∈blk (.slice av (acc.length+1) cv),¬j=wn.heap.size:=fun j hj=>by
       rcases hF9.out j hj with h | h
       · have:=HF.out j h;omega
       · simp at h;omega
      have h:=HO9.out.keep ((Keeps.refl (· = wn.heap.size) w9).setCell ⟨wn.heap.size,11,none⟩ (.slice av (acc.length+1) cv) (.inl rfl)) hne
      rw[append_flat]
      exact Hd (by simpa using h)
     ·intro j hj
      rcases hF9.out j hj with h | h
      · exact HF.out j h
      ·have h':wz.heap.size≤j:=Nat.le_trans (by simp) h
       omega
     ·intro x hx
      rcases List.mem_append.1 hx with h | h
      · exact HD.out x h
      · rw[List.mem_singleton.1 h];exact hDz.out
    case measure=>simp[intOf] <;> omega
   ·have hnone:=Hd (hdecN.out (him.out.trans (hstop.out hno)))
    clear hgo hstop hno him hdec hdecN
    unfold pgV
    go_wp2_with (first
     | (refine wpList_store_whole rfl 49 _ _ rfl _ (pgC pageZ) rfl rfl _ (pgC pageZ) HP.out rfl (by kernel_rfl) (pgC_one _) ?_;intro wz HRz KZ;(have hzz:=KZ.out.size);(have HZz:=Hd (KZ.out.keep HZa.out (by omega)));(have HBz:=Hd (bK HBa.out KZ.out (fun j hj=>by omega)));clear HP KZ HVa HZa HXa HRa HOa HBa)
     | (refine wpList_store_whole rfl 65 _ _ rfl _ (rcC rcZ nilS nilS) rfl rfl _ (rcC rcZ nilS nilS) HZz.out rfl (by kernel_rfl) (rcC_one rfl rfl) ?_;intro wy HRy KY))
    refine bodyPost_ret (results_row_tmp Tryz.results18 _ _ _ _ _ _ _ rfl HRy.out Tryz.underlying65 rfl (by kernel_rfl)) rfl ⟨.inr ⟨hnone.out,rfl⟩,bK HBz.out KY.out (fun j hj=>by omega)⟩
 case rest =>
  obtain⟨σ,acc,iv,hacc,hσ,hend,HV,HR,HZ,HX,HO,HF,HD,HB⟩:=hcut
  obtain⟨M,eM,zM,CM⟩:=dnum_any 1 (by decide) σ hσ
  obtain⟨m0,hm0,hm255⟩:=rN1_pos σ eM
  have htail:Hid (∀l τ,livesR m0 M.2 []=(l,τ)→decR s=endR {RH with ims:=acc,lvs:=l} τ):=fun l τ h=>hend.out.trans (tail_eq eM hm0 h)
  rw[hm0]at CM
  clear eM hm0 hdec hdecN hend
  go_wp2_with fail
  refine(CM.out (w1.heap.size) (w.heap.size+1) _ (by omega) HV.out HR.out).mono ?_
  rintro e wq ⟨rfl,hr,hk⟩
  have HV0:=Hd (hk.keep HV.out (by omega))
  have HZ0:=Hd (hk.keep HZ.out (by omega))
  have HX0:=Hd (hk.keep HX.out (by omega))
  have HO0:=Hd (HO.out.keep hk (fun j hj=>by have:=HF.out j hj;omega))
  have HB0:=Hd (bK HB.out hk (fun j hj=>by omega))
  have HR0:=Hd hr
  have HI:Hid (∀j∈blk iv,wn.heap.size<j∧j<wq.heap.size):=fun j hj=>⟨HF.out j hj,Nat.lt_of_lt_of_le (HO.out.lt hj) hk.size⟩
  clear hr hk CM HV HZ HX HO HB HR HF
  go_upto_block 2 with fail
  go_cut [] from 11 to 97 (fun wx=>∃(τ:St) (l:List (Int×Int×Int)) (lv:Value),l.length≤255∧τ.1.size≤maxLen∧Hid (decR s=endR {RH with ims:=acc,lvs:=l} τ)∧Hid (wx.heap[w1.heap.size]? = some (.cells #[.pointer (some ⟨w.heap.size+1,0,none⟩)] 145 (0,0)))∧Hid (Rd wx (w.heap.size+1) τ.1 τ.2)
    ∧ Hid (wx.heap[w.heap.size]? = some (.cells (rcC rcZ nilS nilS) 65 (0,0)))∧Hid (wx.heap[wn.heap.size]? = some (.cells (rcC RH iv lv) 65 (0,0)))∧Hid (OwnS wx 51 17 iv acc.length (acc.flatMap imL))∧Hid (OwnS wx 61 3 lv l.length (l.flatMap lvL))∧Hid (∀j∈blk lv,wn.heap.size<j)∧Hid (Below w.heap.size w wx))
  case first =>
   go_wp2_with fail
   go_loopw [11] (fun t wr=>∃(k:Nat) (σ:St) (acc2:List (Int×Int×Int)) (lv:Value),t = .int .i64 k∧k+acc2.length≤255∧σ.1.size≤maxLen∧Hid (livesR m0 M.2 []=livesR k σ acc2)∧Hid (wr.heap[w1.heap.size]? = some (.cells #[.pointer (some ⟨w.heap.size+1,0,none⟩)] 145 (0,0)))∧Hid (Rd wr (w.heap.size+1) σ.1 σ.2)
     ∧ Hid (wr.heap[w.heap.size]? = some (.cells (rcC rcZ nilS nilS) 65 (0,0)))∧Hid (wr.heap[wn.heap.size]? = some (.cells (rcC RH iv lv) 65 (0,0)))∧Hid (OwnS wr 51 17 iv acc.length (acc.flatMap imL))∧Hid (OwnS wr 61 3 lv acc2.length (acc2.flatMap lvL))∧Hid (∀j∈blk lv,wq.heap.size≤j)∧wn.heap.size<wq.heap.size∧wq.heap.size≤wr.heap.size∧Hid (Below w.heap.size w wr)) (fun t _=>(intOf t).toNat)
   case atStart=>exact⟨m0,M.2,[],nilS,rfl,by simp;omega,zM,rfl,HV0.out,HR0.out,HZ0.out,HX0.out,HO0.out,OwnS.nil _ _ _,Hd (by simp[blk,nilS,Value.ownBlock]),block_lt HX0.out,Nat.le_refl _,HB0.out⟩
   case round =>
    clear HV0 HR0 HZ0 HX0 HO0 HB0 zM
    obtain⟨k,σ,acc2,lv,rfl,hka,hσ,hli,HV,HR,HZ,HX,HO,HL,HJ,hwq,hqr,HB⟩:=hrel
    have hvr:=block_lt HV.out
    by_cases hex:k=0∨σ.2=true
    ·have hend:=Hd (htail.out acc2 σ (hli.out.trans (lives_end hex)))
     by_cases hk0:k=0
     ·subst hk0
      go_wp2_with fail
      go_meet
      exact⟨σ,acc2,lv,by omega,hσ,hend.out,HV.out,HR.out,HZ.out,HX.out,HO.out,HL.out,fun j hj=>by have:=HJ.out j hj;omega,HB.out⟩
     ·replace hex:=Hd (hex.resolve_left hk0)
      have hk0':0<(k:Int):=by omega
      have c0:wr.cell? ⟨w1.heap.size,0,none⟩=some (.pointer (some ⟨w.heap.size+1,0,none⟩)):=cell_at HV.out 0
      go_wp2_with fail
      refine(oct_bad _ _ _ _ HR.out).mono ?_
      rintro e w2 ⟨rfl,rfl⟩
      rw[hex.out]
      go_wp2_with fail
      go_meet
      exact⟨σ,acc2,lv,by omega,hσ,hend.out,HV.out,HR.out,HZ.out,HX.out,HO.out,HL.out,fun j hj=>by have:=HJ.out j hj;omega,HB.out⟩
    have hk0:k≠0:=fun h=>hex (.inl h)
    have hk0':0<(k:Int):=by omega
    have c0:wr.cell? ⟨w1.heap.size,0,none⟩=some (.pointer (some ⟨w.heap.size+1,0,none⟩)):=cell_at HV.out 0
    go_wp2_with fail
    refine(oct_bad _ _ _ _ HR.out).mono ?_
    rintro e w2 ⟨rfl,rfl⟩
    have hbad:σ.2=false:=by
     cases h:σ.2
     · rfl
     · exact(hex (.inr h)).elim
    clear hex c0
    obtain⟨k',rfl⟩:∃k',k=k'+1:=⟨k-1,by omega⟩
    obtain⟨X,eX,zX,CX⟩:=dnum_any 4 (by decide) σ hσ
    obtain⟨Y,eY,zY,CY⟩:=dnum_any 8 (by decide) X.2 zX
    obtain⟨Z,eZ,zZ,CZ⟩:=dnum_any 8 (by decide) Y.2 zY
    have hli2:=Hd (hli.out.trans (lives_go (k:=k') (acc:=acc2) hbad eX eY eZ))
    have hone:∀u∈lvL (X.1,Y.1,Z.1),u.oneCell'=true:=by simp[lvL,Value.oneCell']
    rw[hbad]at CX HR ⊢
    replace hbad:=Hd hbad
    clear eX eY eZ zX zY hli
    go_wp2_with fail
    refine wp_region_held_drew (S:=fun w'=>w'.heap[w1.heap.size]? = some (.cells #[.pointer (some ⟨w.heap.size+1,0,none⟩)] 145 (0,0))) (by kernel_rfl) HV.out (fun hHeld=>?_)
    refine tp 0 (v := .pointer (some ⟨wn.heap.size,12,none⟩)) hHeld ?_
    go_frame
    refine tp 2 (v := .func (.func 63) #[] #[.pointer (some ⟨w1.heap.size,0,none⟩)]) hHeld ?_
    go_frame
    refine tp 4 (v := .func (.func 63) #[] #[.pointer (some ⟨w1.heap.size,0,none⟩)]) hHeld ?_
    go_frame
    refine tp 6 (v := .func (.func 63) #[] #[.pointer (some ⟨w1.heap.size,0,none⟩)]) hHeld ?_
    go_frame
    refine rd2 1 3 (fun K hK=>?_) (fun K hK=>?_)
    ·have c12:World.cell? _ ⟨wn.heap.size,12,none⟩=some lv:=cell_at HX.out 12
     go_simp
     refine hK.out _ _ HV.out (fun hHeld=>?_)
     clear hK K c12
     try go_frame
     refine rd 3 (fun K hK=>?_)
     ·go_simp
      go_at_call 63
      refine(CX.out (w1.heap.size) (w.heap.size+1) _ (by omega) ?_ ?_).mono ?_
      · exact HV.out
      · exact HR.out
      rintro e wm ⟨rfl,hr,hk⟩
      replace HV:=Hd (hk.keep HV.out (by omega))
      replace HZ:=Hd (hk.keep HZ.out (by omega))
      replace HX:=Hd (hk.keep HX.out (by omega))
      replace HB:=Hd (bK (bD HB.out) hk (fun j hj=>by omega))
      replace HO:=Hd (HO.out.keep (Keeps.drew_left hk) (fun j hj=>by have:=HI.out j hj;omega))
      replace HL:=Hd (HL.out.keep (Keeps.drew_left hk) (fun j hj=>by have:=HJ.out j hj;omega))
      replace HR:=Hd hr
      have hqm:wq.heap.size≤wm.heap.size:=Nat.le_trans hqr hk.size
      clear hr hk hqr CX
      have hqr:=hqm
      clear hqm
      go_wp2_with fail
      refine hK.out _ _ HV.out (fun hHeld=>?_)
      clear hK K
      try go_frame
      refine rd 5 (fun K hK=>?_)
      ·go_simp
       go_at_call 63
       refine(CY.out (w1.heap.size) (w.heap.size+1) _ (by omega) ?_ ?_).mono ?_
       · exact HV.out
       · exact HR.out
       rintro e wm ⟨rfl,hr,hk⟩
       replace HV:=Hd (hk.keep HV.out (by omega))
       replace HZ:=Hd (hk.keep HZ.out (by omega))
       replace HX:=Hd (hk.keep HX.out (by omega))
       replace HB:=Hd (bK HB.out hk (fun j hj=>by omega))
       replace HO:=Hd (HO.out.keep hk (fun j hj=>by have:=HI.out j hj;omega))
       replace HL:=Hd (HL.out.keep hk (fun j hj=>by have:=HJ.out j hj;omega))
       replace HR:=Hd hr
       have hqm:wq.heap.size≤wm.heap.size:=Nat.le_trans hqr hk.size
       clear hr hk hqr CY
       have hqr:=hqm
       clear hqm
       go_wp2_with fail
       refine hK.out _ _ HV.out (fun hHeld=>?_)
       clear hK K
       try go_frame
       refine rd 7 (fun K hK=>?_)
       ·go_simp
        go_at_call 63
        refine(CZ.out (w1.heap.size) (w.heap.size+1) _ (by omega) ?_ ?_).mono ?_
        · exact HV.out
        · exact HR.out
        rintro e wm ⟨rfl,hr,hk⟩
        replace HV:=Hd (hk.keep HV.out (by omega))
        replace HZ:=Hd (hk.keep HZ.out (by omega))
        replace HX:=Hd (hk.keep HX.out (by omega))
        replace HB:=Hd (bK HB.out hk (fun j hj=>by omega))
        replace HO:=Hd (HO.out.keep hk (fun j hj=>by have:=HI.out j hj;omega))
        replace HL:=Hd (HL.out.keep hk (fun j hj=>by have:=HJ.out j hj;omega))
        replace HR:=Hd hr
        have hqm:wq.heap.size≤wm.heap.size:=Nat.le_trans hqr hk.size
        clear hr hk hqr CZ
        have hqr:=hqm
        clear hqm
        go_wp2_with fail
        refine hK.out _ _ HV.out (fun hHeld=>?_)
        clear hK K
        try go_frame
        refine tp 8 (v := .agg #[.int .i64 X.1,.int .i64 Y.1,.int .i64 Z.1]) hHeld ?_
        go_frame
        refine rd 9 (fun K hK=>?_)
        ·have HBw:=Hd (bA (o := .cells #[.int .i64 X.1,.int .i64 Y.1,.int .i64 Z.1] 61) (bR (w:=wm)))
         have HVa:=Hd (hBs HBw.out HV.out)
         have HZa:=Hd (hBs HBw.out HZ.out)
         have HXa:=Hd (hBs HBw.out HX.out)
         have HRa:Hid (Rd (wm.alloc (.cells #[.int .i64 X.1,.int .i64 Y.1,.int .i64 Z.1] 61)) _ _ _):=hBs HBw.out HR.out
         have HOa:=Hd (HO.out.keep (Keeps.of_below (fun _=>False) HBw.out) (fun _ _ h=>h))
         have HLa:=Hd (HL.out.keep (Keeps.of_below (fun _=>False) HBw.out) (fun _ _ h=>h))
         have HBa:=Hd (bT HB.out HBw.out)
         go_simp
         refine hK.out _ _ HVa.out (fun hHeld=>?_)
         clear hK K HV HZ HX HR HO HL HB
         try go_frame
         refine rd 10 (fun K hK=>?_)
         refine step_append_one rfl _ _ 58 rfl 61 j0 (.agg #[.int .i64 0,.int .i64 0,.int .i64 0]) 3 24 Tryz.underlying58 hj hj0 hj1 hj2 rfl (by decide) _ _ _ rfl HLa.out ⟨wm.heap.size,0,none⟩ 1 1 (lvL (X.1,Y.1,Z.1)) rfl rfl (cells_newR wm #[.int .i64 X.1,.int .i64 Y.1,.int .i64 Z.1] 61 rfl) hone (by unfold maxLen;omega) (by omega) ?_
         intro v9 w9 ho9 hk9 hb9
         have HV9:=Hd (hk9.keep HVa.out (fun h=>by have:=HJ.out _ h;omega))
         have HZ9:=Hd (hk9.keep HZa.out (fun h=>by have:=HJ.out _ h;omega))
         have HX9:=Hd (hk9.keep HXa.out (fun h=>by have:=HJ.out _ h;omega))
         have HR9:Hid (Rd w9 _ _ _):=Hd (hk9.keep HRa.out (fun h=>by have:=HJ.out _ h;omega))
         have HO9:=Hd (HOa.out.keep hk9 (fun j hj h=>by have:=HJ.out _ h;have:=HI.out j hj;omega))
         have HB9:=Hd (bK HBa.out hk9 (fun j h=>by have:=HJ.out _ h;omega))
         have HL9:=Hd ho9
         have hF9:=Hd hb9
         have hs9:=hk9.size
         obtain⟨av,cv,rfl⟩:=OwnS.shape ho9
         have d12:w9.cell? ⟨wn.heap.size,12,none⟩=some lv:=cell_at HX9.out 12
         have f12:=free_at HX9.out 12
         have h9:=block_lt HX9.out
         clear ho9 hk9 hb9 HVa HZa HXa HRa HOa HLa HBa HBw
         refine hK.out _ _ HV9.out (fun hHeld=>?_)
         clear hK K
         try go_frame
         refine tp 11 (v := .pointer (some ⟨wn.heap.size,12,none⟩)) hHeld ?_
         go_frame
         have HXe:Hid ((w9.setCell ⟨wn.heap.size,12,none⟩ (.slice av (acc2.length+1) cv)).heap[wn.heap.size]? = some (.cells (rcC RH iv (.slice av (acc2.length+1) cv)) 65 (0,0))):=heap_set_eq HX9.out rfl
         refine rd 12 (fun K hK=>?_)
         go_simp
         refine hK.out _ _ (hSO HV9.out (by show _≠wn.heap.size;omega)) (fun hHeld=>?_)
         clear hK K
         try go_frame
         refine wpAnyH_done (by kernel_rfl) ?_ _
         go_wp2_with fail
         go_roundw
         case rel =>
          refine⟨k',Z.2,acc2++[(X.1,Y.1,Z.1)],.slice av (acc2.length+1) cv,rfl,by rw[List.length_append];simp;omega,zZ,hli2.out,hSO HV9.out (by show _≠wn.heap.size;omega),hSO HR9.out (by show _≠wn.heap.size;omega),hSO HZ9.out (by show _≠wn.heap.size;omega),HXe.out,?_,?_,?_,hwq,by have h:=hs9;simp at h ⊢;omega,bS HB9.out (by show _≤wn.heap.size;omega)⟩
          · exact HO9.out.keep ((Keeps.refl (· = wn.heap.size) w9).setCell ⟨wn.heap.size,12,none⟩ (.slice av (acc2.length+1) cv) (.inl rfl)) (fun j hj h=>by have:=HI.out j hj;omega)
          ·have hne:∀j∈blk (.slice av (acc2.length+1) cv),¬j=wn.heap.size:=fun j hj=>by
            rcases hF9.out j hj with h | h
            · have:=HJ.out j h;omega
            · simp at h;omega
           have h:=HL9.out.keep ((Keeps.refl (· = wn.heap.size) w9).setCell ⟨wn.heap.size,12,none⟩ (.slice av (acc2.length+1) cv) (.inl rfl)) hne
           rw[append_flat]
           exact Hd (by simpa using h)
          ·intro j hj
           rcases hF9.out j hj with h | h
           · exact HJ.out j h
           ·have h':wm.heap.size≤j:=Nat.le_trans (by simp) h
            omega
         case measure=>simp[intOf] <;> omega
    ·go_simp
     go_at_call 63
     refine(CX.out (w1.heap.size) (w.heap.size+1) _ (by omega) ?_ ?_).mono ?_
     · exact HV.out
     · exact HR.out
     rintro e wm ⟨rfl,hr,hk⟩
     replace HV:=Hd (hk.keep HV.out (by omega))
     replace HZ:=Hd (hk.keep HZ.out (by omega))
     replace HX:=Hd (hk.keep HX.out (by omega))
     replace HB:=Hd (bK (bD HB.out) hk (fun j hj=>by omega))
     replace HO:=Hd (HO.out.keep (Keeps.drew_left hk) (fun j hj=>by have:=HI.out j hj;omega))
     replace HL:=Hd (HL.out.keep (Keeps.drew_left hk) (fun j hj=>by have:=HJ.out j hj;omega))
     replace HR:=Hd hr
     have hqm:wq.heap.size≤wm.heap.size:=Nat.le_trans hqr hk.size
     clear hr hk hqr CX
     have hqr:=hqm
     clear hqm
     go_wp2_with fail
     refine hK.out _ _ HV.out (fun hHeld=>?_)
     clear hK K
     try go_frame
     refine rd2 1 5 (fun K hK=>?_) (fun K hK=>?_)
     ·have c12:World.cell? _ ⟨wn.heap.size,12,none⟩=some lv:=cell_at HX.out 12
      go_simp
      refine hK.out _ _ HV.out (fun hHeld=>?_)
      clear hK K c12
      try go_frame
      refine rd 5 (fun K hK=>?_)
      ·go_simp
       go_at_call 63
       refine(CY.out (w1.heap.size) (w.heap.size+1) _ (by omega) ?_ ?_).mono ?_
       · exact HV.out
       · exact HR.out
       rintro e wm ⟨rfl,hr,hk⟩
       replace HV:=Hd (hk.keep HV.out (by omega))
       replace HZ:=Hd (hk.keep HZ.out (by omega))
       replace HX:=Hd (hk.keep HX.out (by omega))
       replace HB:=Hd (bK HB.out hk (fun j hj=>by omega))
       replace HO:=Hd (HO.out.keep hk (fun j hj=>by have:=HI.out j hj;omega))
       replace HL:=Hd (HL.out.keep hk (fun j hj=>by have:=HJ.out j hj;omega))
       replace HR:=Hd hr
       have hqm:wq.heap.size≤wm.heap.size:=Nat.le_trans hqr hk.size
       clear hr hk hqr CY
       have hqr:=hqm
       clear hqm
       go_wp2_with fail
       refine hK.out _ _ HV.out (fun hHeld=>?_)
       clear hK K
       try go_frame
       refine rd 7 (fun K hK=>?_)
       ·go_simp
        go_at_call 63
        refine(CZ.out (w1.heap.size) (w.heap.size+1) _ (by omega) ?_ ?_).mono ?_
        · exact HV.out
        · exact HR.out
        rintro e wm ⟨rfl,hr,hk⟩
        replace HV:=Hd (hk.keep HV.out (by omega))
        replace HZ:=Hd (hk.keep HZ.out (by omega))
        replace HX:=Hd (hk.keep HX.out (by omega))
        replace HB:=Hd (bK HB.out hk (fun j hj=>by omega))
        replace HO:=Hd (HO.out.keep hk (fun j hj=>by have:=HI.out j hj;omega))
        replace HL:=Hd (HL.out.keep hk (fun j hj=>by have:=HJ.out j hj;omega))
        replace HR:=Hd hr
        have hqm:wq.heap.size≤wm.heap.size:=Nat.le_trans hqr hk.size
        clear hr hk hqr CZ
        have hqr:=hqm
        clear hqm
        go_wp2_with fail
        refine hK.out _ _ HV.out (fun hHeld=>?_)
        clear hK K
        try go_frame
        refine tp 8 (v := .agg #[.int .i64 X.1,.int .i64 Y.1,.int .i64 Z.1]) hHeld ?_
        go_frame
        refine rd 9 (fun K hK=>?_)
        ·have HBw:=Hd (bA (o := .cells #[.int .i64 X.1,.int .i64 Y.1,.int .i64 Z.1] 61) (bR (w:=wm)))
         have HVa:=Hd (hBs HBw.out HV.out)
         have HZa:=Hd (hBs HBw.out HZ.out)
         have HXa:=Hd (hBs HBw.out HX.out)
         have HRa:Hid (Rd (wm.alloc (.cells #[.int .i64 X.1,.int .i64 Y.1,.int .i64 Z.1] 61)) _ _ _):=hBs HBw.out HR.out
         have HOa:=Hd (HO.out.keep (Keeps.of_below (fun _=>False) HBw.out) (fun _ _ h=>h))
         have HLa:=Hd (HL.out.keep (Keeps.of_below (fun _=>False) HBw.out) (fun _ _ h=>h))
         have HBa:=Hd (bT HB.out HBw.out)
         go_simp
         refine hK.out _ _ HVa.out (fun hHeld=>?_)
         clear hK K HV HZ HX HR HO HL HB
         try go_frame
         refine rd 10 (fun K hK=>?_)
         refine step_append_one rfl _ _ 58 rfl 61 j0 (.agg #[.int .i64 0,.int .i64 0,.int .i64 0]) 3 24 Tryz.underlying58 hj hj0 hj1 hj2 rfl (by decide) _ _ _ rfl HLa.out ⟨wm.heap.size,0,none⟩ 1 1 (lvL (X.1,Y.1,Z.1)) rfl rfl (cells_newR wm #[.int .i64 X.1,.int .i64 Y.1,.int .i64 Z.1] 61 rfl) hone (by unfold maxLen;omega) (by omega) ?_
         intro v9 w9 ho9 hk9 hb9
         have HV9:=Hd (hk9.keep HVa.out (fun h=>by have:=HJ.out _ h;omega))
         have HZ9:=Hd (hk9.keep HZa.out (fun h=>by have:=HJ.out _ h;omega))
         have HX9:=Hd (hk9.keep HXa.out (fun h=>by have:=HJ.out _ h;omega))
         have HR9:Hid (Rd w9 _ _ _):=Hd (hk9.keep HRa.out (fun h=>by have:=HJ.out _ h;omega))
         have HO9:=Hd (HOa.out.keep hk9 (fun j hj h=>by have:=HJ.out _ h;have:=HI.out j hj;omega))
         have HB9:=Hd (bK HBa.out hk9 (fun j h=>by have:=HJ.out _ h;omega))
         have HL9:=Hd ho9
         have hF9:=Hd hb9
         have hs9:=hk9.size
         obtain⟨av,cv,rfl⟩:=OwnS.shape ho9
         have d12:w9.cell? ⟨wn.heap.size,12,none⟩=some lv:=cell_at HX9.out 12
         have f12:=free_at HX9.out 12
         have h9:=block_lt HX9.out
         clear ho9 hk9 hb9 HVa HZa HXa HRa HOa HLa HBa HBw
         refine hK.out _ _ HV9.out (fun hHeld=>?_)
         clear hK K
         try go_frame
         refine tp 11 (v := .pointer (some ⟨wn.heap.size,12,none⟩)) hHeld ?_
         go_frame
         have HXe:Hid ((w9.setCell ⟨wn.heap.size,12,none⟩ (.slice av (acc2.length+1) cv)).heap[wn.heap.size]? = some (.cells (rcC RH iv (.slice av (acc2.length+1) cv)) 65 (0,0))):=heap_set_eq HX9.out rfl
         refine rd 12 (fun K hK=>?_)
         go_simp
         refine hK.out _ _ (hSO HV9.out (by show _≠wn.heap.size;omega)) (fun hHeld=>?_)
         clear hK K
         try go_frame
         refine wpAnyH_done (by kernel_rfl) ?_ _
         go_wp2_with fail
         go_roundw
         case rel =>
          refine⟨k',Z.2,acc2++[(X.1,Y.1,Z.1)],.slice av (acc2.length+1) cv,rfl,by rw[List.length_append];simp;omega,zZ,hli2.out,hSO HV9.out (by show _≠wn.heap.size;omega),hSO HR9.out (by show _≠wn.heap.size;omega),hSO HZ9.out (by show _≠wn.heap.size;omega),HXe.out,?_,?_,?_,hwq,by have h:=hs9;simp at h ⊢;omega,bS HB9.out (by show _≤wn.heap.size;omega)⟩
          · exact HO9.out.keep ((Keeps.refl (· = wn.heap.size) w9).setCell ⟨wn.heap.size,12,none⟩ (.slice av (acc2.length+1) cv) (.inl rfl)) (fun j hj h=>by have:=HI.out j hj;omega)
          ·have hne:∀j∈blk (.slice av (acc2.length+1) cv),¬j=wn.heap.size:=fun j hj=>by
            rcases hF9.out j hj with h | h
            · have:=HJ.out j h;omega
            · simp at h;omega
           have h:=HL9.out.keep ((Keeps.refl (· = wn.heap.size) w9).setCell ⟨wn.heap.size,12,none⟩ (.slice av (acc2.length+1) cv) (.inl rfl)) hne
           rw[append_flat]
           exact Hd (by simpa using h)
          ·intro j hj
           rcases hF9.out j hj with h | h
           · exact HJ.out j h
           ·have h':wm.heap.size≤j:=Nat.le_trans (by simp) h
            omega
         case measure=>simp[intOf] <;> omega
     ·go_simp
      go_at_call 63
      refine(CY.out (w1.heap.size) (w.heap.size+1) _ (by omega) ?_ ?_).mono ?_
      · exact HV.out
      · exact HR.out
      rintro e wm ⟨rfl,hr,hk⟩
      replace HV:=Hd (hk.keep HV.out (by omega))
      replace HZ:=Hd (hk.keep HZ.out (by omega))
      replace HX:=Hd (hk.keep HX.out (by omega))
      replace HB:=Hd (bK HB.out hk (fun j hj=>by omega))
      replace HO:=Hd (HO.out.keep hk (fun j hj=>by have:=HI.out j hj;omega))
      replace HL:=Hd (HL.out.keep hk (fun j hj=>by have:=HJ.out j hj;omega))
      replace HR:=Hd hr
      have hqm:wq.heap.size≤wm.heap.size:=Nat.le_trans hqr hk.size
      clear hr hk hqr CY
      have hqr:=hqm
      clear hqm
      go_wp2_with fail
      refine hK.out _ _ HV.out (fun hHeld=>?_)
      clear hK K
      try go_frame
      refine rd2 1 7 (fun K hK=>?_) (fun K hK=>?_)
      ·have c12:World.cell? _ ⟨wn.heap.size,12,none⟩=some lv:=cell_at HX.out 12
       go_simp
       refine hK.out _ _ HV.out (fun hHeld=>?_)
       clear hK K c12
       try go_frame
       refine rd 7 (fun K hK=>?_)
       ·go_simp
        go_at_call 63
        refine(CZ.out (w1.heap.size) (w.heap.size+1) _ (by omega) ?_ ?_).mono ?_
        · exact HV.out
        · exact HR.out
        rintro e wm ⟨rfl,hr,hk⟩
        replace HV:=Hd (hk.keep HV.out (by omega))
        replace HZ:=Hd (hk.keep HZ.out (by omega))
        replace HX:=Hd (hk.keep HX.out (by omega))
        replace HB:=Hd (bK HB.out hk (fun j hj=>by omega))
        replace HO:=Hd (HO.out.keep hk (fun j hj=>by have:=HI.out j hj;omega))
        replace HL:=Hd (HL.out.keep hk (fun j hj=>by have:=HJ.out j hj;omega))
        replace HR:=Hd hr
        have hqm:wq.heap.size≤wm.heap.size:=Nat.le_trans hqr hk.size
        clear hr hk hqr CZ
        have hqr:=hqm
        clear hqm
        go_wp2_with fail
        refine hK.out _ _ HV.out (fun hHeld=>?_)
        clear hK K
        try go_frame
        refine tp 8 (v := .agg #[.int .i64 X.1,.int .i64 Y.1,.int .i64 Z.1]) hHeld ?_
        go_frame
        refine rd 9 (fun K hK=>?_)
        ·have HBw:=Hd (bA (o := .cells #[.int .i64 X.1,.int .i64 Y.1,.int .i64 Z.1] 61) (bR (w:=wm)))
         have HVa:=Hd (hBs HBw.out HV.out)
         have HZa:=Hd (hBs HBw.out HZ.out)
         have HXa:=Hd (hBs HBw.out HX.out)
         have HRa:Hid (Rd (wm.alloc (.cells #[.int .i64 X.1,.int .i64 Y.1,.int .i64 Z.1] 61)) _ _ _):=hBs HBw.out HR.out
         have HOa:=Hd (HO.out.keep (Keeps.of_below (fun _=>False) HBw.out) (fun _ _ h=>h))
         have HLa:=Hd (HL.out.keep (Keeps.of_below (fun _=>False) HBw.out) (fun _ _ h=>h))
         have HBa:=Hd (bT HB.out HBw.out)
         go_simp
         refine hK.out _ _ HVa.out (fun hHeld=>?_)
         clear hK K HV HZ HX HR HO HL HB
         try go_frame
         refine rd 10 (fun K hK=>?_)
         refine step_append_one rfl _ _ 58 rfl 61 j0 (.agg #[.int .i64 0,.int .i64 0,.int .i64 0]) 3 24 Tryz.underlying58 hj hj0 hj1 hj2 rfl (by decide) _ _ _ rfl HLa.out ⟨wm.heap.size,0,none⟩ 1 1 (lvL (X.1,Y.1,Z.1)) rfl rfl (cells_newR wm #[.int .i64 X.1,.int .i64 Y.1,.int .i64 Z.1] 61 rfl) hone (by unfold maxLen;omega) (by omega) ?_
         intro v9 w9 ho9 hk9 hb9
         have HV9:=Hd (hk9.keep HVa.out (fun h=>by have:=HJ.out _ h;omega))
         have HZ9:=Hd (hk9.keep HZa.out (fun h=>by have:=HJ.out _ h;omega))
         have HX9:=Hd (hk9.keep HXa.out (fun h=>by have:=HJ.out _ h;omega))
         have HR9:Hid (Rd w9 _ _ _):=Hd (hk9.keep HRa.out (fun h=>by have:=HJ.out _ h;omega))
         have HO9:=Hd (HOa.out.keep hk9 (fun j hj h=>by have:=HJ.out _ h;have:=HI.out j hj;omega))
         have HB9:=Hd (bK HBa.out hk9 (fun j h=>by have:=HJ.out _ h;omega))
         have HL9:=Hd ho9
         have hF9:=Hd hb9
         have hs9:=hk9.size
         obtain⟨av,cv,rfl⟩:=OwnS.shape ho9
         have d12:w9.cell? ⟨wn.heap.size,12,none⟩=some lv:=cell_at HX9.out 12
         have f12:=free_at HX9.out 12
         have h9:=block_lt HX9.out
         clear ho9 hk9 hb9 HVa HZa HXa HRa HOa HLa HBa HBw
         refine hK.out _ _ HV9.out (fun hHeld=>?_)
         clear hK K
         try go_frame
         refine tp 11 (v := .pointer (some ⟨wn.heap.size,12,none⟩)) hHeld ?_
         go_frame
         have HXe:Hid ((w9.setCell ⟨wn.heap.size,12,none⟩ (.slice av (acc2.length+1) cv)).heap[wn.heap.size]? = some (.cells (rcC RH iv (.slice av (acc2.length+1) cv)) 65 (0,0))):=heap_set_eq HX9.out rfl
         refine rd 12 (fun K hK=>?_)
         go_simp
         refine hK.out _ _ (hSO HV9.out (by show _≠wn.heap.size;omega)) (fun hHeld=>?_)
         clear hK K
         try go_frame
         refine wpAnyH_done (by kernel_rfl) ?_ _
         go_wp2_with fail
         go_roundw
         case rel =>
          refine⟨k',Z.2,acc2++[(X.1,Y.1,Z.1)],.slice av (acc2.length+1) cv,rfl,by rw[List.length_append];simp;omega,zZ,hli2.out,hSO HV9.out (by show _≠wn.heap.size;omega),hSO HR9.out (by show _≠wn.heap.size;omega),hSO HZ9.out (by show _≠wn.heap.size;omega),HXe.out,?_,?_,?_,hwq,by have h:=hs9;simp at h ⊢;omega,bS HB9.out (by show _≤wn.heap.size;omega)⟩
          · exact HO9.out.keep ((Keeps.refl (· = wn.heap.size) w9).setCell ⟨wn.heap.size,12,none⟩ (.slice av (acc2.length+1) cv) (.inl rfl)) (fun j hj h=>by have:=HI.out j hj;omega)
          ·have hne:∀j∈blk (.slice av (acc2.length+1) cv),¬j=wn.heap.size:=fun j hj=>by
            rcases hF9.out j hj with h | h
            · have:=HJ.out j h;omega
            · simp at h;omega
           have h:=HL9.out.keep ((Keeps.refl (· = wn.heap.size) w9).setCell ⟨wn.heap.size,12,none⟩ (.slice av (acc2.length+1) cv) (.inl rfl)) hne
           rw[append_flat]
           exact Hd (by simpa using h)
          ·intro j hj
           rcases hF9.out j hj with h | h
           · exact HJ.out j h
           ·have h':wm.heap.size≤j:=Nat.le_trans (by simp) h
            omega
         case measure=>simp[intOf] <;> omega
      ·go_simp
       go_at_call 63
       refine(CZ.out (w1.heap.size) (w.heap.size+1) _ (by omega) ?_ ?_).mono ?_
       · exact HV.out
       · exact HR.out
       rintro e wm ⟨rfl,hr,hk⟩
       replace HV:=Hd (hk.keep HV.out (by omega))
       replace HZ:=Hd (hk.keep HZ.out (by omega))
       replace HX:=Hd (hk.keep HX.out (by omega))
       replace HB:=Hd (bK HB.out hk (fun j hj=>by omega))
       replace HO:=Hd (HO.out.keep hk (fun j hj=>by have:=HI.out j hj;omega))
       replace HL:=Hd (HL.out.keep hk (fun j hj=>by have:=HJ.out j hj;omega))
       replace HR:=Hd hr
       have hqm:wq.heap.size≤wm.heap.size:=Nat.le_trans hqr hk.size
       clear hr hk hqr CZ
       have hqr:=hqm
       clear hqm
       go_wp2_with fail
       refine hK.out _ _ HV.out (fun hHeld=>?_)
       clear hK K
       try go_frame
       refine tp 8 (v := .agg #[.int .i64 X.1,.int .i64 Y.1,.int .i64 Z.1]) hHeld ?_
       go_frame
       refine rd2 1 9 (fun K hK=>?_) (fun K hK=>?_)
       ·have c12:World.cell? _ ⟨wn.heap.size,12,none⟩=some lv:=cell_at HX.out 12
        go_simp
        refine hK.out _ _ HV.out (fun hHeld=>?_)
        clear hK K c12
        try go_frame
        refine rd 9 (fun K hK=>?_)
        ·have HBw:=Hd (bA (o := .cells #[.int .i64 X.1,.int .i64 Y.1,.int .i64 Z.1] 61) (bR (w:=wm)))
         have HVa:=Hd (hBs HBw.out HV.out)
         have HZa:=Hd (hBs HBw.out HZ.out)
         have HXa:=Hd (hBs HBw.out HX.out)
         have HRa:Hid (Rd (wm.alloc (.cells #[.int .i64 X.1,.int .i64 Y.1,.int .i64 Z.1] 61)) _ _ _):=hBs HBw.out HR.out
         have HOa:=Hd (HO.out.keep (Keeps.of_below (fun _=>False) HBw.out) (fun _ _ h=>h))
         have HLa:=Hd (HL.out.keep (Keeps.of_below (fun _=>False) HBw.out) (fun _ _ h=>h))
         have HBa:=Hd (bT HB.out HBw.out)
         go_simp
         refine hK.out _ _ HVa.out (fun hHeld=>?_)
         clear hK K HV HZ HX HR HO HL HB
         try go_frame
         refine rd 10 (fun K hK=>?_)
         refine step_append_one rfl _ _ 58 rfl 61 j0 (.agg #[.int .i64 0,.int .i64 0,.int .i64 0]) 3 24 Tryz.underlying58 hj hj0 hj1 hj2 rfl (by decide) _ _ _ rfl HLa.out ⟨wm.heap.size,0,none⟩ 1 1 (lvL (X.1,Y.1,Z.1)) rfl rfl (cells_newR wm #[.int .i64 X.1,.int .i64 Y.1,.int .i64 Z.1] 61 rfl) hone (by unfold maxLen;omega) (by omega) ?_
         intro v9 w9 ho9 hk9 hb9
         have HV9:=Hd (hk9.keep HVa.out (fun h=>by have:=HJ.out _ h;omega))
         have HZ9:=Hd (hk9.keep HZa.out (fun h=>by have:=HJ.out _ h;omega))
         have HX9:=Hd (hk9.keep HXa.out (fun h=>by have:=HJ.out _ h;omega))
         have HR9:Hid (Rd w9 _ _ _):=Hd (hk9.keep HRa.out (fun h=>by have:=HJ.out _ h;omega))
         have HO9:=Hd (HOa.out.keep hk9 (fun j hj h=>by have:=HJ.out _ h;have:=HI.out j hj;omega))
         have HB9:=Hd (bK HBa.out hk9 (fun j h=>by have:=HJ.out _ h;omega))
         have HL9:=Hd ho9
         have hF9:=Hd hb9
         have hs9:=hk9.size
         obtain⟨av,cv,rfl⟩:=OwnS.shape ho9
         have d12:w9.cell? ⟨wn.heap.size,12,none⟩=some lv:=cell_at HX9.out 12
         have f12:=free_at HX9.out 12
         have h9:=block_lt HX9.out
         clear ho9 hk9 hb9 HVa HZa HXa HRa HOa HLa HBa HBw
         refine hK.out _ _ HV9.out (fun hHeld=>?_)
         clear hK K
         try go_frame
         refine tp 11 (v := .pointer (some ⟨wn.heap.size,12,none⟩)) hHeld ?_
         go_frame
         have HXe:Hid ((w9.setCell ⟨wn.heap.size,12,none⟩ (.slice av (acc2.length+1) cv)).heap[wn.heap.size]? = some (.cells (rcC RH iv (.slice av (acc2.length+1) cv)) 65 (0,0))):=heap_set_eq HX9.out rfl
         refine rd 12 (fun K hK=>?_)
         go_simp
         refine hK.out _ _ (hSO HV9.out (by show _≠wn.heap.size;omega)) (fun hHeld=>?_)
         clear hK K
         try go_frame
         refine wpAnyH_done (by kernel_rfl) ?_ _
         go_wp2_with fail
         go_roundw
         case rel =>
          refine⟨k',Z.2,acc2++[(X.1,Y.1,Z.1)],.slice av (acc2.length+1) cv,rfl,by rw[List.length_append];simp;omega,zZ,hli2.out,hSO HV9.out (by show _≠wn.heap.size;omega),hSO HR9.out (by show _≠wn.heap.size;omega),hSO HZ9.out (by show _≠wn.heap.size;omega),HXe.out,?_,?_,?_,hwq,by have h:=hs9;simp at h ⊢;omega,bS HB9.out (by show _≤wn.heap.size;omega)⟩
          · exact HO9.out.keep ((Keeps.refl (· = wn.heap.size) w9).setCell ⟨wn.heap.size,12,none⟩ (.slice av (acc2.length+1) cv) (.inl rfl)) (fun j hj h=>by have:=HI.out j hj;omega)
          ·have hne:∀j∈blk (.slice av (acc2.length+1) cv),¬j=wn.heap.size:=fun j hj=>by
            rcases hF9.out j hj with h | h
            · have:=HJ.out j h;omega
            · simp at h;omega
           have h:=HL9.out.keep ((Keeps.refl (· = wn.heap.size) w9).setCell ⟨wn.heap.size,12,none⟩ (.slice av (acc2.length+1) cv) (.inl rfl)) hne
           rw[append_flat]
           exact Hd (by simpa using h)
          ·intro j hj
           rcases hF9.out j hj with h | h
           · exact HJ.out j h
           ·have h':wm.heap.size≤j:=Nat.le_trans (by simp) h
            omega
         case measure=>simp[intOf] <;> omega
       ·have HBw:=Hd (bA (o := .cells #[.int .i64 X.1,.int .i64 Y.1,.int .i64 Z.1] 61) (bR (w:=wm)))
        have HVa:=Hd (hBs HBw.out HV.out)
        have HZa:=Hd (hBs HBw.out HZ.out)
        have HXa:=Hd (hBs HBw.out HX.out)
        have HRa:Hid (Rd (wm.alloc (.cells #[.int .i64 X.1,.int .i64 Y.1,.int .i64 Z.1] 61)) _ _ _):=hBs HBw.out HR.out
        have HOa:=Hd (HO.out.keep (Keeps.of_below (fun _=>False) HBw.out) (fun _ _ h=>h))
        have HLa:=Hd (HL.out.keep (Keeps.of_below (fun _=>False) HBw.out) (fun _ _ h=>h))
        have HBa:=Hd (bT HB.out HBw.out)
        go_simp
        refine hK.out _ _ HVa.out (fun hHeld=>?_)
        clear hK K HV HZ HX HR HO HL HB
        try go_frame
        refine rd 1 (fun K hK=>?_)
        ·have c12:World.cell? _ ⟨wn.heap.size,12,none⟩=some lv:=cell_at HXa.out 12
         go_simp
         refine hK.out _ _ HVa.out (fun hHeld=>?_)
         clear hK K c12
         try go_frame
         refine rd 10 (fun K hK=>?_)
         refine step_append_one rfl _ _ 58 rfl 61 j0 (.agg #[.int .i64 0,.int .i64 0,.int .i64 0]) 3 24 Tryz.underlying58 hj hj0 hj1 hj2 rfl (by decide) _ _ _ rfl HLa.out ⟨wm.heap.size,0,none⟩ 1 1 (lvL (X.1,Y.1,Z.1)) rfl rfl (cells_newR wm #[.int .i64 X.1,.int .i64 Y.1,.int .i64 Z.1] 61 rfl) hone (by unfold maxLen;omega) (by omega) ?_
         intro v9 w9 ho9 hk9 hb9
         have HV9:=Hd (hk9.keep HVa.out (fun h=>by have:=HJ.out _ h;omega))
         have HZ9:=Hd (hk9.keep HZa.out (fun h=>by have:=HJ.out _ h;omega))
         have HX9:=Hd (hk9.keep HXa.out (fun h=>by have:=HJ.out _ h;omega))
         have HR9:Hid (Rd w9 _ _ _):=Hd (hk9.keep HRa.out (fun h=>by have:=HJ.out _ h;omega))
         have HO9:=Hd (HOa.out.keep hk9 (fun j hj h=>by have:=HJ.out _ h;have:=HI.out j hj;omega))
         have HB9:=Hd (bK HBa.out hk9 (fun j h=>by have:=HJ.out _ h;omega))
         have HL9:=Hd ho9
         have hF9:=Hd hb9
         have hs9:=hk9.size
         obtain⟨av,cv,rfl⟩:=OwnS.shape ho9
         have d12:w9.cell? ⟨wn.heap.size,12,none⟩=some lv:=cell_at HX9.out 12
         have f12:=free_at HX9.out 12
         have h9:=block_lt HX9.out
         clear ho9 hk9 hb9 HVa HZa HXa HRa HOa HLa HBa HBw
         refine hK.out _ _ HV9.out (fun hHeld=>?_)
         clear hK K
         try go_frame
         refine tp 11 (v := .pointer (some ⟨wn.heap.size,12,none⟩)) hHeld ?_
         go_frame
         have HXe:Hid ((w9.setCell ⟨wn.heap.size,12,none⟩ (.slice av (acc2.length+1) cv)).heap[wn.heap.size]? = some (.cells (rcC RH iv (.slice av (acc2.length+1) cv)) 65 (0,0))):=heap_set_eq HX9.out rfl
         refine rd 12 (fun K hK=>?_)
         go_simp
         refine hK.out _ _ (hSO HV9.out (by show _≠wn.heap.size;omega)) (fun hHeld=>?_)
         clear hK K
         try go_frame
         refine wpAnyH_done (by kernel_rfl) ?_ _
         go_wp2_with fail
         go_roundw
         case rel =>
          refine⟨k',Z.2,acc2++[(X.1,Y.1,Z.1)],.slice av (acc2.length+1) cv,rfl,by rw[List.length_append];simp;omega,zZ,hli2.out,hSO HV9.out (by show _≠wn.heap.size;omega),hSO HR9.out (by show _≠wn.heap.size;omega),hSO HZ9.out (by show _≠wn.heap.size;omega),HXe.out,?_,?_,?_,hwq,by have h:=hs9;simp at h ⊢;omega,bS HB9.out (by show _≤wn.heap.size;omega)⟩
          · exact HO9.out.keep ((Keeps.refl (· = wn.heap.size) w9).setCell ⟨wn.heap.size,12,none⟩ (.slice av (acc2.length+1) cv) (.inl rfl)) (fun j hj h=>by have:=HI.out j hj;omega)
          ·have hne:∀j∈blk (.slice av (acc2.length+1) cv),¬j=wn.heap.size:=fun j hj=>by
            rcases hF9.out j hj with h | h
            · have:=HJ.out j h;omega
            · simp at h;omega
           have h:=HL9.out.keep ((Keeps.refl (· = wn.heap.size) w9).setCell ⟨wn.heap.size,12,none⟩ (.slice av (acc2.length+1) cv) (.inl rfl)) hne
           rw[append_flat]
           exact Hd (by simpa using h)
          ·intro j hj
           rcases hF9.out j hj with h | h
           · exact HJ.out j h
           ·have h':wm.heap.size≤j:=Nat.le_trans (by simp) h
            omega
         case measure=>simp[intOf] <;> omega
  case rest =>
   clear HV0 HR0 HZ0 HX0 HO0 HB0 zM htail
   obtain⟨τ,l,lv,hl,hτ,hend,HV,HR,HZ,HX,HO,HL,HJ,HB⟩:=hcut
   have hRFc:Hid (rcC {RH with ims:=acc,lvs:=l} iv lv=rcC RH iv lv):=rfl
   have hsl:∀(wx:World),OwnS wx 51 17 iv acc.length (acc.flatMap imL)→OwnS wx 61 3 lv l.length (l.flatMap lvL)→RcSl wx {RH with ims:=acc,lvs:=l} iv lv:=fun wx h1 h2 =>
    ⟨own_sl imL imL_length acc h1 rfl (by unfold maxLen;omega) (by omega),own_sl lvL lvL_length l h2 rfl (by unfold maxLen;omega) (by omega),(by have:=hkb.out.1;unfold maxLen;show RH.key.size≤_;omega),(by have:=hkb.out.2;unfold maxLen;show RH.bd.size≤_;omega),HD.out⟩
   replace hsl:=Hd hsl
   obtain⟨RF,hRF⟩:∃RF:Rc,({RH with ims:=acc,lvs:=l}:Rc)=RF:=⟨_,rfl⟩
   rw[hRF]at hRFc hsl hend
   clear hRF
   rw[←hRFc.out]at HX
   clear hRFc
   have c0:=(cell_at HV.out 0:World.cell? _ ⟨w1.heap.size,0,none⟩=some (.pointer (some ⟨w.heap.size+1,0,none⟩)))
   go_wp2_with fail
   refine(oct_bad _ _ _ _ HR.out).mono ?_
   rintro e w2 ⟨rfl,rfl⟩
   cases hbad:τ.2
   rotate_left
   ·have hnone:=Hd (hend.out.trans (endR_none (.inl hbad)))
    clear hend hsl
    go_wp2_with (refine wpList_store_whole rfl 65 _ _ rfl _ (rcC rcZ nilS nilS) rfl rfl _ (rcC rcZ nilS nilS) HZ.out rfl (by kernel_rfl) (rcC_one rfl rfl) ?_;intro wy HRy KY)
    refine bodyPost_ret (results_row_tmp Tryz.results18 _ _ _ _ _ _ _ rfl HRy.out Tryz.underlying65 rfl (by kernel_rfl)) rfl ⟨.inr ⟨hnone.out,rfl⟩,bK HB.out KY.out (fun j hj=>by omega)⟩
   rw[hbad]at HR
   go_wp2_with fail
   refine(oct_left _ _ _ _ HR.out hτ).mono ?_
   rintro e w3 ⟨rfl,rfl⟩
   rw[show rdLeft τ.1 false=(τ.1.size:Int) from rfl]
   unfold maxLen at hτ
   by_cases hz:τ.1.size=0
   rotate_left
   ·have hnone:=Hd (hend.out.trans (endR_none (.inr (.inl hz))))
    have hz':decide ((0:Int)<(τ.1.size:Int))=true:=decide_eq_true (by omega)
    have hz2:decide (0<τ.1.size)=true:=decide_eq_true (by omega)
    have hz3:0<τ.1.size:=by omega
    clear hend hsl hz
    go_wp2_with (refine wpList_store_whole rfl 65 _ _ rfl _ (rcC rcZ nilS nilS) rfl rfl _ (rcC rcZ nilS nilS) HZ.out rfl (by kernel_rfl) (rcC_one rfl rfl) ?_;intro wy HRy KY)
    refine bodyPost_ret (results_row_tmp Tryz.results18 _ _ _ _ _ _ _ rfl HRy.out Tryz.underlying65 rfl (by kernel_rfl)) rfl ⟨.inr ⟨hnone.out,rfl⟩,bK HB.out KY.out (fun j hj=>by omega)⟩
   have hend2:=Hd (fun h=>hend.out.trans (endR_some (R:=RF) hbad hz h))
   have hend3:=Hd (fun h=>hend.out.trans (endR_none (R:=RF) (σ:=τ) (.inr (.inr h))))
   have HCk:=Hd (rc_check RF iv lv _ (hsl.out _ HO.out HL.out))
   have h1c:iv.oneCell'=true:=by obtain⟨_,_,e⟩:=OwnS.shape HO.out;rw[e];rfl
   have h2c:lv.oneCell'=true:=by obtain⟨_,_,e⟩:=OwnS.shape HL.out;rw[e];rfl
   have h1c:=Hd h1c
   have h2c:=Hd h2c
   rw[show (τ.1.size:Int)=0 by omega]
   clear hz hend hbad hτ
   go_wp2_with (refine wpList_load_want (by rfl) 65 _ rfl wn.heap.size rfl 65 _ _ _ HX.out Tryz.underlying65 rfl (by kernel_rfl) ?_)
   refine HCk.out.mono ?_
   rintro e w4 ⟨h,hb⟩
   replace HZ:=Hd (hBs hb HZ.out)
   replace HX:=Hd (hBs hb HX.out)
   replace HO:=Hd (HO.out.keep (Keeps.of_below (fun _=>False) hb) (fun _ _ h=>h))
   replace HL:=Hd (HL.out.keep (Keeps.of_below (fun _=>False) hb) (fun _ _ h=>h))
   replace HB:=Hd (bT HB.out hb)
   clear hb HCk HV HR c0
   rcases h with⟨rfl,hok⟩ | ⟨rfl,hno⟩
   ·have hsome:=Hd (hend2.out hok)
    clear hend2 hend3 hok
    go_wp2_with (first
     | (refine wpList_load_row rfl 65 _ rfl _ rfl 65 _ _ _ HX.out Tryz.underlying65 rfl (by kernel_rfl) ?_)
     | (refine wpList_store_whole rfl 65 _ _ rfl _ (rcC RF iv lv) rfl rfl _ (rcC rcZ nilS nilS) HZ.out rfl (by kernel_rfl) (rcC_one h1c.out h2c.out) ?_;intro wy HRy KY))
    refine bodyPost_ret (results_row_tmp Tryz.results18 _ _ _ _ _ _ _ rfl HRy.out Tryz.underlying65 rfl (by kernel_rfl)) rfl ⟨.inl ⟨RF,iv,lv,hsome.out,rfl,hsl.out _ (HO.out.keep KY.out (fun j hj=>by have:=HI.out j hj;omega)) (HL.out.keep KY.out (fun j hj=>by have:=HJ.out j hj;omega))⟩,bK HB.out KY.out (fun j hj=>by omega)⟩
   ·have hnone:=Hd (hend3.out hno)
    clear hend2 hend3 hno
    go_wp2_with (refine wpList_store_whole rfl 65 _ _ rfl _ (rcC rcZ nilS nilS) rfl rfl _ (rcC rcZ nilS nilS) HZ.out rfl (by kernel_rfl) (rcC_one rfl rfl) ?_;intro wy HRy KY)
    refine bodyPost_ret (results_row_tmp Tryz.results18 _ _ _ _ _ _ _ rfl HRy.out Tryz.underlying65 rfl (by kernel_rfl)) rfl ⟨.inr ⟨hnone.out,rfl⟩,bK HB.out KY.out (fun j hj=>by omega)⟩
end Go.Proofs.YtimomjheanfbmaaGreatDoor
