import Derived.Test.YtimomjheanfbmaaGreatDoorQaa
import Derived.Test.YtimomjheanfbmaaGreatDoorRay
import Derived.Test.YtimomjheanfbmaaGreatDoorRad
import Derived.Test.YtimomjheanfbmaaGreatDoorRas
set_option linter.unusedSimpArgs false
set_option linter.unusedVariables false
namespace Go.Proofs.YtimomjheanfbmaaGreatDoor.G
open Go.RowKit
theorem Tryz.info_imgG:(Tryz.prog.info? 51).map (fun i=>(i.zero,i.size,i.bytes))=some (some (.agg (imA (0,pageZ))),17,184):=by kernel_rfl
theorem sl_own {w:World} {g c:Nat} {T:TypeId} {y:Int×Pg} (h:OwnS w T 17 (.slice (some ⟨g,0,none⟩) 1 c) 1 (imL y)):Sl w (.slice (some ⟨g,0,none⟩) 1 c) 17 ([y].map imL):=by
 refine⟨some ⟨g,0,none⟩,c,rfl,by show 1≤maxLen;unfold maxLen;omega,fun _=>⟨g,0,rfl,h.lt (by simp[blk,Value.ownBlock]),fun i hi j hj=>?_⟩⟩
 have hi0:i=0:=by have:i<1:=hi;omega
 subst hi0
 obtain⟨u,hu⟩:∃u,(imL y)[j]? = some u:=⟨_,List.getElem?_eq_getElem (by show j<17;exact hj)⟩
 have:=World.ownsRow.cells h (g:=g) rfl j u hu
 rw[Addr.add_mid]at this
 rw[show 0+0*17+j=0+j by omega,this]
 exact hu.symm
theorem xSum_at {l:List Xc} {i:Nat} {x:Xc} (h:l[i]? = some x):x.bytes≤(xSum l).1∧x.pages≤(xSum l).2:=by
 have h1:=xSum_next h
 have h2:=xSum_le l (i+1)
 rw[h1]at h2
 dsimp only at h2
 omega
theorem xFind_get {l:List Xc} {x:Int} {i:Nat} (h:xFind l x=some i):∃y,l[i]? = some y∧y.num=x∧y.over=false:=by
 unfold xFind at h
 rw[List.findIdx?_eq_some_iff_getElem]at h
 obtain⟨hl,hy,-⟩:=h
 refine⟨l[i],List.getElem?_eq_getElem hl,?_,?_⟩
 · simp only[Bool.and_eq_true,beq_iff_eq,Bool.not_eq_true']at hy;exact hy.1
 · simp only[Bool.and_eq_true,beq_iff_eq,Bool.not_eq_true']at hy;exact hy.2
def RS.changed (ρ:RS) (i:Nat) (y:Xc) (R:Rc) (q:Nat):RS:=({ρ with xs:=ρ.xs.set i {y with bytes:=y.bytes+q,pages:=y.pages+1}}:RS).mined i {y with bytes:=y.bytes+q,pages:=y.pages+1} R
def ChgTo (w:World) (m g:Nat) (B:RB) (ρ:RS) (x:Int) (u:Un) (pi:Nat) (P:Pg) (mi:Int) (e:Ending) (w':World):Prop :=
 (
  (xFind ρ.xs x=none∧e = .returned (.int .i64 191)∧Below w.heap.size w w') ∨
  ∃(i:Nat) (y:Xc),xFind ρ.xs x=some i∧ρ.xs[i]? = some y ∧
   (
    (¬(RcOk (chgR x y.last u [((pi:Int),P)])∧0≤mi∧mi≤1048576)∧e = .returned (.int .i64 1)∧Below w.heap.size w w') ∨
    ((RcOk (chgR x y.last u [((pi:Int),P)])∧0≤mi∧mi≤1048576)∧ρ.room<(((xSum ρ.xs).1+(320+mi.toNat)+(rcS (chgR x y.last u [((pi:Int),P)])).size+2:Nat):Int)∧e = .returned (.int .i64 70)∧Below w.heap.size w w') ∨
    ((RcOk (chgR x y.last u [((pi:Int),P)])∧0≤mi∧mi≤1048576)∧¬ρ.room<(((xSum ρ.xs).1+(320+mi.toNat)+(rcS (chgR x y.last u [((pi:Int),P)])).size+2:Nat):Int)∧e = .returned (.int .i64 0)∧∃B',Rr w' m g B' (ρ.changed i y (chgR x y.last u [((pi:Int),P)]) (320+mi.toNat))∧Stp w w' m g B B' [])))
def CgS (m gx i ub n xc:Nat) (last:Int) (u:Un) (w:World):Prop:=w.cell? ⟨m,0,none⟩=some (.slice (some ⟨gx,0,none⟩) n xc)∧w.cell? ⟨gx,i*6+2,none⟩=some (.int .i64 last)∧w.heap[ub]? = some (.cells (unL u).toArray 42 (0,0))
theorem CgS.keep {m gx i ub n xc:Nat} {last:Int} {u:Un} {S:Nat→Prop} {w w':World} (h:CgS m gx i ub n xc last u w) (hk:Keeps S w w') (h1:¬S m) (h2:¬S gx) (h3:¬S ub):CgS m gx i ub n xc last u w' :=
 ⟨cell_keepS hk h1 h.1,cell_keepS hk h2 h.2.1,hk.keep h.2.2 h3⟩
section
variable {w w':World} {m g:Nat} {B:RB} {ρ:RS}
set_option maxRecDepth 100000 in
set_option maxHeartbeats 16000000 in
theorem rr_change (h:Rr w m g B ρ) (x:Int) (u:Un) (huk:u.uk≠0) (hkey:u.key.size≤maxLen) (hbd:u.bd.size≤maxLen) (pi:Nat) (P:Pg) (hpi:pi<6) (hdt:∀i,i<6→(P.dt i).size≤maxLen) (ib:Nat) (hI:w.heap[ib]? = some (.cells (imA ((pi:Int),P)) 51 (0,0))) (mi:Int)
   (hs:(xSum ρ.xs).1≤1000000000∧(xSum ρ.xs).2≤1000000000) (hxl:ρ.xs.length≤1000000) (hlen:B.Q.length≤1000000∧ρ.ats.length≤1000000) (hfin:0≤ρ.fin∧ρ.fin≤100000000000) (hroom : -100000000000≤ρ.room∧ρ.room≤100000000000) :
   Calls Tryz.prog 38 #[.pointer (some ⟨m,0,none⟩),.int .i64 x,.agg (unL u).toArray,.slice (some ⟨ib,0,none⟩) 1 1,.int .i64 mi] w fun e w' =>
     ChgTo w m g B ρ x u pi P mi e w':=by
 have hb0:Below w.heap.size w (w.alloc (.cells (unL u).toArray 42)):=bA bR
 have H:=Hd (h.later hb0)
 have HB0:=Hd hb0
 have HU:Hid ((w.alloc (.cells (unL u).toArray 42)).heap[w.heap.size]? = some (.cells (unL u).toArray 42 (0,0))):=hN rfl
 have HI:Hid ((w.alloc (.cells (unL u).toArray 42)).heap[ib]? = some (.cells (imA ((pi:Int),P)) 51 (0,0))):=hO hI
 have HFi:=Hd (rr_find (h.later hb0) x hxl)
 have hmlt:=Hd h.mlt
 have hiblt:Hid (ib<w.heap.size):=block_lt hI
 obtain⟨q,hq⟩:∃q:Nat,320+mi.toNat=q:=⟨_,rfl⟩
 replace hq:=Hd hq
 have hsN:=Hd hs
 have hxlN:=Hd hxl
 have hlenN:=Hd hlen
 have hfinN:=Hd hfin
 have hroomN:=Hd hroom
 have hpiN:=Hd hpi
 have hszN:=Hd (And.intro hkey (And.intro hbd hdt))
 have hukd:(u.uk==0)=false:=by simpa using huk
 clear h hkey hbd hdt hs hxl hlen hfin hroom hpi huk hI hb0
 go_enter Tryz.func38,Tryz.ntmps38
 go_wp2_with fail
 refine(HFi.out).mono ?_
 rintro e w1 ⟨rfl,hb1⟩
 have H1:=Hd (H.out.later hb1)
 have HU1:=Hd (hBs hb1 HU.out)
 have HI1:=Hd (hBs hb1 HI.out)
 have HB1:=Hd (bT HB0.out hb1)
 clear hb1 HFi H HU HI HB0
 rcases hfo:xFind ρ.xs x with _ | i
 ·
   have hfoN:=Hd hfo
   clear hfo
   unfold idxI
   go_wp2_with fail
   go_ret
   exact .inl ⟨hfoN.out,rfl,HB1.out⟩
 unfold idxI
 dsimp only
 obtain⟨y,hy,-,-⟩:=xFind_get hfo
 obtain⟨n,hn⟩:∃n,ρ.xs.length=n:=⟨_,rfl⟩
 have hin:i<n:=by rw[←hn];exact(List.getElem?_eq_some_iff.1 hy).1
 obtain⟨xa,xc,hxv⟩:=H1.out.xs.form
 rw[hn]at hxv
 have hox:OwnS w1 112 6 (.slice xa n xc) n (xcV ρ.xs):=by have:=H1.out.xs;rw[hxv,hn]at this;exact this
 obtain⟨gx,rfl⟩:=hox.spot (by omega)
 have C0:w1.cell? ⟨m,0,none⟩=some (.slice (some ⟨gx,0,none⟩) n xc):=by have:=cell_at H1.out.cell 0;rw[←hxv];exact this
 have hr:=flat_range xcL 6 xcL_length hox i y hy
 have c2:w1.cell? ⟨gx,i*6+2,none⟩=some (.int .i64 y.last):=hr 2 _ rfl
 have hi0:¬(i:Int)<0:=by omega
 have hd0:decide ((i:Int)<0)=false:=decide_eq_false hi0
 have hiI:(i:Int)<n:=by omega
 have hyN:=Hd hy
 have hnN:=Hd hn
 have hxvN:=Hd hxv
 have hinN:=Hd hin
 have hgxl:Hid (gx<w1.heap.size):=hox.lt (by simp[blk,Value.ownBlock])
 have hm1:Hid (m<w1.heap.size):=H1.out.mlt
 have hfoN:=Hd hfo
 obtain⟨last,hlast⟩:∃l,y.last=l:=⟨_,rfl⟩
 rw[hlast]at c2
 have hlastN:=Hd hlast
 clear hr hox hin hy hn hxv hfo hlast
 have hS0:CgS m gx i w.heap.size n xc last u w1.drew:=⟨C0,c2,hDr HU1.out⟩
 obtain⟨ji,hj,hy0,hy1,hy2⟩:=info_parts Tryz.info_imgG
 clear C0 c2
 go_upto_region 4 with fail
 refine' cut_ways (Rel:=fun W gi ci rb=>Hid (Keeps (fun _=>False) w1 W)∧Hid (OwnS W 51 17 (.slice (some ⟨gi,0,none⟩) 1 ci) 1 (imL ((pi:Int),P)))∧Hid (w1.heap.size≤gi∧w1.heap.size≤rb)∧Hid (W.heap[rb]? = some (.cells (rcC (chgR x last u [((pi:Int),P)]) (.slice (some ⟨gi,0,none⟩) 1 ci) nilS) 65 (0,0)))) ?ways ?rest
 case ways =>
  intro key
  refine wp_region_held_drew (S:=CgS m gx i w.heap.size n xc last u) (by kernel_rfl) hS0 (fun hHeld=>?_)
  refine tk 0 (v:=?_) rfl (Or.inl ⟨by rfl,?_⟩) hHeld ?_
  rotate_left
  ·
    intro w' hSw
    obtain⟨s0,s1,s2⟩:=hSw
    go_simp
    try with_reducible rfl
    try omega
  go_frame
  refine tk 1 (v:=?_) rfl (Or.inl ⟨by rfl,?_⟩) hHeld ?_
  rotate_left
  ·
    intro w' hSw
    obtain⟨s0,s1,s2⟩:=hSw
    go_simp
    try with_reducible rfl
    try omega
  go_frame
  refine tk 2 (v:=?_) rfl (Or.inl ⟨by rfl,?_⟩) hHeld ?_
  rotate_left
  ·
    intro w' hSw
    obtain⟨s0,s1,s2⟩:=hSw
    go_simp
    try with_reducible rfl
    try omega
  go_frame
  refine tk 3 (v:=?_) rfl (Or.inl ⟨by rfl,?_⟩) hHeld ?_
  rotate_left
  ·
    intro w' hSw
    obtain⟨s0,s1,s2⟩:=hSw
    go_simp
    try with_reducible rfl
    try omega
  go_frame
  refine tk 4 (v:=?_) rfl (Or.inl ⟨by rfl,?_⟩) hHeld ?_
  rotate_left
  ·
    intro w' hSw
    obtain⟨s0,s1,s2⟩:=hSw
    go_simp
    try with_reducible rfl
    try omega
  go_frame
  refine tk 5 (v:=?_) rfl (Or.inl ⟨by rfl,?_⟩) hHeld ?_
  rotate_left
  ·
    intro w' hSw
    obtain⟨s0,s1,s2⟩:=hSw
    go_simp
    try with_reducible rfl
    try omega
  go_frame
  refine tk 6 (v:=?_) rfl (Or.inl ⟨by rfl,?_⟩) hHeld ?_
  rotate_left
  ·
    intro w' hSw
    obtain⟨s0,s1,s2⟩:=hSw
    go_simp
    try with_reducible rfl
    try omega
  go_frame
  refine tk 7 (v:=?_) rfl (Or.inl ⟨by rfl,?_⟩) hHeld ?_
  rotate_left
  ·
    intro w' hSw
    obtain⟨s0,s1,s2⟩:=hSw
    go_simp
    try with_reducible rfl
    try omega
  go_frame
  refine tk 8 (v:=?_) rfl (Or.inl ⟨by rfl,?_⟩) hHeld ?_
  rotate_left
  ·
    intro w' hSw
    obtain⟨s0,s1,s2⟩:=hSw
    go_simp
    try with_reducible rfl
    try omega
  go_frame
  refine tk 9 (v := .agg (unL u).toArray) rfl (yieldsIf_load_mid (by rfl) _ _ rfl w.heap.size 0 rfl (unL u) _ (fun _ h=>range_of h.2.2) Tryz.underlying42 rfl (by kernel_rfl)) hHeld ?_
  go_frame
  refine tk 10 (v:=?_) rfl (Or.inl ⟨by rfl,?_⟩) hHeld ?_
  rotate_left
  ·
    intro w' hSw
    obtain⟨s0,s1,s2⟩:=hSw
    go_simp
    try with_reducible rfl
    try omega
  go_frame
  refine rd2 11 13 (fun K hK=>?_) (fun K hK=>?_)
  ·
    refine step_append_frame rfl _ _ 43 rfl 51 ji _ 17 184 Tryz.underlying43 hj hy0 hy1 hy2 rfl (by decide) (.slice none 0 0) 0 [] rfl (OwnS.nil _ _ _) ⟨ib,0,none⟩ 1 1 (imL ((pi:Int),P)) rfl rfl (fun j v hv=>?cells) (by simpa[imA]using imA_one ((pi:Int),P)) (by unfold maxLen;omega) (by omega) (by omega) ?_
    case cells =>
      rw[Addr.add_mid]
      exact range_of (hDr HI1.out) j v (by simpa[imA]using hv)
    intro gi ci w2 ho2 hk2 hb2
    have hk2':Keeps (fun _=>False) w1.drew w2:=hk2.mono (fun q _ h=>by simp[blk,Value.ownBlock]at h)
    have hS2:Hid (CgS m gx i w.heap.size n xc last u w2):=hS0.keep hk2' (fun h=>h) (fun h=>h) (fun h=>h)
    have HK2:Hid (Keeps (fun _=>False) w1 w2):=((Keeps.refl _ w1).drew).trans hk2' (fun _ _ h=>h)
    have HO2:Hid (OwnS w2 51 17 (.slice (some ⟨gi,0,none⟩) 1 ci) 1 (imL ((pi:Int),P))):=ho2
    have hgi:Hid (w1.heap.size≤gi):=by
      rcases hb2 gi (by simp[blk,Value.ownBlock]) with h | h
      · simp[blk,Value.ownBlock]at h
      · exact h
    refine hK.out _ _ hS2.out (fun hHeld=>?_)
    clear hK K
    try go_frame
    refine tk 12 (v := .agg (rcC (chgR x last u [((pi:Int),P)]) (.slice (some ⟨gi,0,none⟩) 1 ci) nilS)) rfl (Or.inl ⟨by rfl,?_⟩) hHeld ?_
    ·
      intro w' hSw
      clear hSw
      simp only[unL]
      go_simp
      try with_reducible rfl
      try rfl
    go_frame
    refine rd 13 (fun K hK=>?_)
    go_simp
    have hS3:Hid (CgS m gx i w.heap.size n xc last u (w2.alloc (.cells (rcC rcZ nilS nilS) 65))):=hS2.out.keep ((Keeps.refl (fun _=>False) _).alloc _) (fun h=>h) (fun h=>h) (fun h=>h)
    refine hK.out _ _ hS3.out (fun hHeld=>?_)
    clear hK K
    try go_frame
    refine rd 14 (fun K hK=>?_)
    have hones:Hid (∀v∈(rcC (chgR x last u [((pi:Int),P)]) (.slice (some ⟨gi,0,none⟩) 1 ci) nilS).toList,v.oneCell'=true):=rcC_one rfl rfl
    have HZ:Hid ((w2.alloc (.cells (rcC rcZ nilS nilS) 65)).heap[w2.heap.size]? = some (.cells (rcC rcZ nilS nilS) 65 (0,0))):=hN rfl
    refine step_store_whole rfl 65 _ _ rfl w2.heap.size (rcC (chgR x last u [((pi:Int),P)]) (.slice (some ⟨gi,0,none⟩) 1 ci) nilS) rfl rfl _ _ HZ.out rfl (by kernel_rfl) hones.out ?_
    intro w3 HR3 K3
    have hk3:Keeps (fun _=>False) w2 w3:=((Keeps.refl (fun _=>False) w2).alloc _).trans K3.out (fun q hq e=>by omega)
    have hS3':=hS2.out.keep hk3 (fun h=>h) (fun h=>h) (fun h=>h)
    have HK3:Hid (Keeps (fun _=>False) w1 w3):=HK2.out.trans hk3 (fun _ _ h=>h)
    have HO3:=Hd (HO2.out.keep hk3 (fun _ _ h=>h))
    refine hK.out _ _ hS3' (fun hHeld=>?_)
    clear hK K
    try go_frame
    refine wpAnyH_done (by kernel_rfl) ?_ _
    have hrel:=And.intro HK3 (And.intro HO3 (And.intro (show Hid (w1.heap.size≤gi∧w1.heap.size≤w2.heap.size) from⟨hgi.out,HK2.out.size⟩) HR3))
    revert hrel
    generalize w2.heap.size=rb
    intro hrel
    exact key w3 gi ci rb hrel
  ·
    go_simp
    have hS1:Hid (CgS m gx i w.heap.size n xc last u (w1.drew.alloc (.cells (rcC rcZ nilS nilS) 65))):=hS0.keep ((Keeps.refl (fun _=>False) _).alloc _) (fun h=>h) (fun h=>h) (fun h=>h)
    have HK1:Hid (Keeps (fun _=>False) w1 (w1.drew.alloc (.cells (rcC rcZ nilS nilS) 65))):=((Keeps.refl _ w1).drew).alloc _
    refine hK.out _ _ hS1.out (fun hHeld=>?_)
    clear hK K
    try go_frame
    refine rd 11 (fun K hK=>?_)
    refine step_append_frame rfl _ _ 43 rfl 51 ji _ 17 184 Tryz.underlying43 hj hy0 hy1 hy2 rfl (by decide) (.slice none 0 0) 0 [] rfl (OwnS.nil _ _ _) ⟨ib,0,none⟩ 1 1 (imL ((pi:Int),P)) rfl rfl (fun j v hv=>?cells) (by simpa[imA]using imA_one ((pi:Int),P)) (by unfold maxLen;omega) (by omega) (by omega) ?_
    case cells =>
      rw[Addr.add_mid]
      exact range_of (hO (hDr HI1.out)) j v (by simpa[imA]using hv)
    intro gi ci w2 ho2 hk2 hb2
    have hk2':Keeps (fun _=>False) (w1.drew.alloc (.cells (rcC rcZ nilS nilS) 65)) w2:=hk2.mono (fun q _ h=>by simp[blk,Value.ownBlock]at h)
    have hS2:Hid (CgS m gx i w.heap.size n xc last u w2):=hS1.out.keep hk2' (fun h=>h) (fun h=>h) (fun h=>h)
    have HK2:Hid (Keeps (fun _=>False) w1 w2):=HK1.out.trans hk2' (fun _ _ h=>h)
    have HO2:Hid (OwnS w2 51 17 (.slice (some ⟨gi,0,none⟩) 1 ci) 1 (imL ((pi:Int),P))):=ho2
    have hgi:Hid (w1.heap.size+1≤gi):=by
      rcases hb2 gi (by simp[blk,Value.ownBlock]) with h | h
      · simp[blk,Value.ownBlock]at h
      · exact Nat.le_trans (by simp) h
    have HZ:Hid (w2.heap[w1.heap.size]? = some (.cells (rcC rcZ nilS nilS) 65 (0,0))):=hk2'.keep (hN rfl) (fun h=>h)
    refine hK.out _ _ hS2.out (fun hHeld=>?_)
    clear hK K
    try go_frame
    refine tk 12 (v := .agg (rcC (chgR x last u [((pi:Int),P)]) (.slice (some ⟨gi,0,none⟩) 1 ci) nilS)) rfl (Or.inl ⟨by rfl,?_⟩) hHeld ?_
    ·
      intro w' hSw
      clear hSw
      simp only[unL]
      go_simp
      try with_reducible rfl
      try rfl
    go_frame
    refine rd 14 (fun K hK=>?_)
    have hones:Hid (∀v∈(rcC (chgR x last u [((pi:Int),P)]) (.slice (some ⟨gi,0,none⟩) 1 ci) nilS).toList,v.oneCell'=true):=rcC_one rfl rfl
    refine step_store_whole rfl 65 _ _ rfl w1.heap.size (rcC (chgR x last u [((pi:Int),P)]) (.slice (some ⟨gi,0,none⟩) 1 ci) nilS) rfl rfl _ _ HZ.out rfl (by kernel_rfl) hones.out ?_
    intro w3 HR3 K3
    have hgw:Hid (m<w1.heap.size∧gx<w1.heap.size∧w.heap.size<w1.heap.size):=⟨hm1.out,hgxl.out,block_lt HU1.out⟩
    have hS3':CgS m gx i w.heap.size n xc last u w3:=hS2.out.keep K3.out (fun e=>by have:=hgw.out.1;omega) (fun e=>by have:=hgw.out.2.1;omega) (fun e=>by have:=hgw.out.2.2;omega)
    have HK3:Hid (Keeps (fun _=>False) w1 w3):=HK2.out.trans K3.out (fun q hq e=>by omega)
    have HO3:Hid (OwnS w3 51 17 (.slice (some ⟨gi,0,none⟩) 1 ci) 1 (imL ((pi:Int),P))):=HO2.out.keep K3.out (fun q hq e=>by
      have:q=gi:=by simpa[blk,Value.ownBlock]using hq
      have:=hgi.out
      omega)
    refine hK.out _ _ hS3' (fun hHeld=>?_)
    clear hK K
    try go_frame
    refine wpAnyH_done (by kernel_rfl) ?_ _
    exact key w3 gi ci w1.heap.size ⟨HK3,HO3,(show w1.heap.size≤gi∧w1.heap.size≤w1.heap.size from⟨by have:=hgi.out;omega,Nat.le_refl _⟩),HR3⟩
 case rest =>
  intro w3 gi ci rb hrel
  obtain⟨HK3,HO3,hgi,HR3⟩:=hrel
  clear hS0
  have H3:=Hd (H1.out.later HK3.out.below)
  have HU3:=Hd (HK3.out.keep HU1.out (fun h=>h))
  have HB3:Hid (Below w.heap.size w w3):=bT HB1.out HK3.out.below
  have hgn:Hid (w.heap.size≤gi∧gi∉rOwn m g B):=⟨by have:=HB1.out.size;have:=hgi.out.1;omega,fun h=>by have:=H1.out.lt _ h;have:=hgi.out.1;omega⟩
  have hrbn:Hid (rb∉rOwn m g B):=fun h=>by have:=H1.out.lt _ h;have:=hgi.out.2;omega
  obtain⟨R,hR⟩:∃R,chgR x last u [((pi:Int),P)]=R:=⟨_,rfl⟩
  have HSL3:Hid (RcSl w3 (chgR x last u [((pi:Int),P)]) (.slice (some ⟨gi,0,none⟩) 1 ci) nilS):=⟨sl_own HO3.out,nil_sl w3,hszN.out.1,hszN.out.2.1,fun z hz i hi=>by rw[List.mem_singleton.1 hz];exact hszN.out.2.2 i hi⟩
  have himR:Hid (R.ims=[((pi:Int),P)]):=by rw[←hR];rfl
  rw[hR]at HSL3 HR3
  simp only[hR]
  have hRN:=Hd hR
  clear hR H1 HU1 HI1 HB1 HK3 HO3 hgi
  have HRt:=Hd (rc_right _ _ _ _ HSL3.out)
  go_wp2_with (refine wpList_load_row rfl 65 _ rfl _ rfl 65 _ _ _ HR3.out Tryz.underlying65 rfl (by kernel_rfl) ?_)
  refine(HRt.out).mono ?_
  rintro e w4 ⟨hc,hb4⟩
  have H4:=Hd (H3.out.later hb4)
  have HR4:=Hd (hBs hb4 HR3.out)
  have HU4:=Hd (hBs hb4 HU3.out)
  have HSL4:=Hd (HSL3.out.later hb4)
  have HB4:=Hd (bT HB3.out hb4)
  have U0:w4.cell? ⟨w.heap.size,0,none⟩=some (.int .i64 u.uk):=cell_at HU4.out 0
  clear hb4 HRt H3 HU3 HR3 HSL3 HB3
  rcases hc with⟨rfl,hok⟩ | ⟨rfl,hno⟩
  rotate_left
  ·
    have hnoN:=Hd hno
    clear hno
    go_wp2_with fail
    go_ret
    exact .inr ⟨i,y,hfoN.out,hyN.out,.inl ⟨by rw[hlastN.out,hRN.out];exact fun h=>hnoN.out h.1,rfl,HB4.out⟩⟩
  have hokN:=Hd hok
  clear hok
  by_cases hm1:mi<0
  ·
    have hd1:decide (mi<0)=true:=decide_eq_true hm1
    go_wp2_with fail
    go_ret
    exact .inr ⟨i,y,hfoN.out,hyN.out,.inl ⟨fun h=>by omega,rfl,HB4.out⟩⟩
  have hd1:decide (mi<0)=false:=decide_eq_false hm1
  by_cases hm2:1048576<mi
  ·
    have hd2:decide (1048576<mi)=true:=decide_eq_true hm2
    go_wp2_with fail
    go_ret
    exact .inr ⟨i,y,hfoN.out,hyN.out,.inl ⟨fun h=>by omega,rfl,HB4.out⟩⟩
  have hd2:decide (1048576<mi)=false:=decide_eq_false hm2
  have hmi:Hid (0≤mi∧mi≤1048576):=by show _∧_;omega
  have HE:=Hd (rr_encode_ok R _ _ w4 HSL4.out hokN.out)
  have hsz:=rc_sizes hokN.out
  obtain⟨S,hS⟩:∃S,(rcS R).size=S:=⟨_,rfl⟩
  have HRS:Hid (∃T:ByteArray,rcS R=T∧T.size=S):=⟨_,rfl,hS⟩
  obtain⟨T,hT,hTS⟩:=HRS.out
  rw[hT]at HE
  have hSb:S≤65535:=by omega
  have hSN:=Hd hS
  have hTz:T.size=S:=hTS
  obtain⟨a,ha⟩:∃a,(xSum ρ.xs).1=a:=⟨_,rfl⟩
  obtain⟨b,hb⟩:∃b,(xSum ρ.xs).2=b:=⟨_,rfl⟩
  have HRe:=Hd (fun W (hW:Rr W m g B ρ)=>rr_reserved hW (by have:=hsN.out;omega) hxlN.out)
  rw[ha,hb]at HRe
  have haB:a≤1000000000:=by rw[←ha];exact hsN.out.1
  obtain⟨rm,hrm⟩:∃r,ρ.room=r:=⟨_,rfl⟩
  have hrmN:=Hd hrm
  have haN:=Hd ha
  have hw1:IntKind.i64.wrap ((a:Int)+320)=(a:Int)+320:=by rw[IntKind.wrap_i64];omega
  have hw2:IntKind.i64.wrap ((a:Int)+320+mi)=(a:Int)+320+mi:=by rw[IntKind.wrap_i64];omega
  have hw3:IntKind.i64.wrap ((a:Int)+320+mi+(S:Int))=(a:Int)+320+mi+(S:Int):=by rw[IntKind.wrap_i64];omega
  have hw4:IntKind.i64.wrap ((a:Int)+320+mi+(S:Int)+2)=(a:Int)+320+mi+(S:Int)+2:=by rw[IntKind.wrap_i64];omega
  have hw5:IntKind.i64.wrap (320+mi)=320+mi:=by rw[IntKind.wrap_i64];omega
  have hyb:=Hd (xSum_at hyN.out)
  have hw6:IntKind.i64.wrap ((y.bytes:Int)+(320+mi))=(y.bytes:Int)+(320+mi):=by have:=hyb.out;rw[IntKind.wrap_i64];omega
  have hw7:IntKind.i64.wrap ((y.pages:Int)+1)=(y.pages:Int)+1:=by have:=hyb.out;have:=hsN.out;rw[IntKind.wrap_i64];omega
  clear hsz hT hTS HRS hS ha hb hrm hm1 hm2 haB hSb HU4
  go_wp2_with (refine wpList_load_row rfl 65 _ rfl _ rfl 65 _ _ _ HR4.out Tryz.underlying65 rfl (by kernel_rfl) ?_)
  refine(HE.out).mono ?_
  rintro e w5 ⟨rfl,hb5⟩
  have H5:=Hd (H4.out.later hb5)
  have HR5:=Hd (hBs hb5 HR4.out)
  have HB5:=Hd (bT HB4.out hb5)
  have HSL5:=Hd (HSL4.out.later hb5)
  have HRf:=Hd (HRe.out w5 H5.out)
  clear hb5 HE HRe H4 HR4 HB4 HSL4 U0 hd1 hd2 hukd hd0
  go_wp2_with fail
  refine(HRf.out).mono ?_
  rintro e w6 ⟨rfl,hb6⟩
  have H6:=Hd (H5.out.later hb6)
  have HR6:=Hd (hBs hb6 HR5.out)
  have HB6:=Hd (bT HB5.out hb6)
  have HSL6:=Hd (HSL5.out.later hb6)
  have C5:w6.cell? ⟨m,5,none⟩=some (.int .i64 rm):=by have:=cell_at H6.out.cell 5;rw[←hrmN.out];exact this
  clear hb6 HRf H5 HR5 HB5 HSL5
  by_cases hfull:rm<(a:Int)+320+mi+(S:Int)+2
  ·
    have hd:decide (rm<(a:Int)+320+mi+(S:Int)+2)=true:=decide_eq_true hfull
    have hfN:=Hd hfull
    clear hfull
    go_wp2_with fail
    go_ret
    refine .inr ⟨i,y,hfoN.out,hyN.out,.inr (.inl ⟨?_,?_,rfl,HB6.out⟩)⟩
    · rw[hlastN.out,hRN.out];exact⟨hokN.out,hmi.out⟩
    ·
      rw[hlastN.out,hRN.out,hrmN.out,haN.out,hSN.out]
      have h1:=hfN.out
      have h2:=hq.out
      have h3:=hmi.out
      omega
  have hd:decide (rm<(a:Int)+320+mi+(S:Int)+2)=false:=decide_eq_false hfull
  have hfN:=Hd hfull
  have hox:OwnS w6 112 6 (.slice (some ⟨gx,0,none⟩) n xc) n (xcV ρ.xs):=by have:=H6.out.xs;rw[hxvN.out,hnN.out]at this;exact this
  have C0:w6.cell? ⟨m,0,none⟩=some (.slice (some ⟨gx,0,none⟩) n xc):=by have:=cell_at H6.out.cell 0;rw[←hxvN.out];exact this
  have hr:=flat_range xcL 6 xcL_length hox i y hyN.out
  have c3:w6.cell? ⟨gx,i*6+3,none⟩=some (.int .i64 y.bytes):=hr 3 _ rfl
  have F3:=own_free hox (i*6+3)
  have hi0':(0:Int)≤i:=by omega
  clear hr hox hfull
  go_upto_region 12 with fail
  obtain⟨hP,hkP⟩:=H6.out.setX hxvN.out i 3 y {y with bytes:=y.bytes+q} (.int .i64 ((y.bytes:Int)+(320+mi))) hyN.out (by omega) (by
    have h2:=hq.out
    have h3:=hmi.out
    rw[show (y.bytes:Int)+(320+mi)=((y.bytes+q:Nat):Int) by omega]
    rfl)
  have hgxo:Hid (gx∈rOwn m g B):=own_x (by rw[hxvN.out];simp[blk,Value.ownBlock])
  have hst7:=(Stp.in0 HB6.out (Stp.refl w6 m g B)).on hkP (fun q e=>e ▸ hgxo.out)
  refine name_world (fun W=>Rr W m g B {ρ with xs:=ρ.xs.set i {y with bytes:=y.bytes+q}}∧Stp w W m g B B []∧W.heap[rb]? = some (.cells (rcC R (.slice (some ⟨gi,0,none⟩) 1 ci) nilS) 65 (0,0))∧RcSl W R (.slice (some ⟨gi,0,none⟩) 1 ci) nilS) ⟨hP,hst7,hkP.keep HR6.out (fun e=>hrbn.out (e ▸ hgxo.out)),?_⟩ ?_
  · exact RcSl.keepS (HSL6.out) hkP (fun k hk e=>by
      subst e
      rcases List.mem_append.1 hk with hk | hk
      ·have:k=gi:=by simpa[blk,Value.ownBlock]using hk
       exact hgn.out.2 (this ▸ hgxo.out)
      · simp[blk,Value.ownBlock,nilS]at hk)
  rintro W7 ⟨h7,hst7,hr7,hsl7⟩
  have H7:=Hd h7
  have HST7:=Hd hst7
  have HR7:=Hd hr7
  have HSL7:=Hd hsl7
  have hy7:Hid ((ρ.xs.set i {y with bytes:=y.bytes+q})[i]? = some {y with bytes:=y.bytes+q}):=by show _=_;rw[List.getElem?_set_self (by rw[hnN.out];exact hinN.out)]
  have hox:OwnS W7 112 6 (.slice (some ⟨gx,0,none⟩) n xc) n (xcV (ρ.xs.set i {y with bytes:=y.bytes+q})):=by have:=h7.xs;rw[hxvN.out,show (ρ.xs.set i {y with bytes:=y.bytes+q}).length=n by rw[List.length_set,hnN.out]]at this;exact this
  have C0':W7.cell? ⟨m,0,none⟩=some (.slice (some ⟨gx,0,none⟩) n xc):=by have:=cell_at h7.cell 0;rw[←hxvN.out];exact this
  have c4:W7.cell? ⟨gx,i*6+4,none⟩=some (.int .i64 y.pages):=flat_range xcL 6 xcL_length hox i _ hy7.out 4 _ rfl
  have F4:=own_free hox (i*6+4)
  clear h7 hst7 hr7 hsl7 hox hP hkP C0 c3 F3 C5 H6 HR6 HB6 HSL6
  go_upto_region 13 with fail
  obtain⟨hP,hkP⟩:=H7.out.setX hxvN.out i 4 {y with bytes:=y.bytes+q} {y with bytes:=y.bytes+q,pages:=y.pages+1} (.int .i64 ((y.pages:Int)+1)) hy7.out (by omega) (by
    rw[show (y.pages:Int)+1=((y.pages+1:Nat):Int) by omega]
    rfl)
  rw[List.set_set]at hP
  refine name_world (fun W=>Rr W m g B {ρ with xs:=ρ.xs.set i {y with bytes:=y.bytes+q,pages:=y.pages+1}}∧Stp w W m g B B []∧W.heap[rb]? = some (.cells (rcC R (.slice (some ⟨gi,0,none⟩) 1 ci) nilS) 65 (0,0))∧RcSl W R (.slice (some ⟨gi,0,none⟩) 1 ci) nilS) ⟨hP,HST7.out.on hkP (fun q e=>e ▸ hgxo.out),hkP.keep HR7.out (fun e=>hrbn.out (e ▸ hgxo.out)),?_⟩ ?_
  · exact RcSl.keepS (HSL7.out) hkP (fun k hk e=>by
      subst e
      rcases List.mem_append.1 hk with hk | hk
      ·have:k=gi:=by simpa[blk,Value.ownBlock]using hk
       exact hgn.out.2 (this ▸ hgxo.out)
      · simp[blk,Value.ownBlock,nilS]at hk)
  rintro W8 ⟨h8,hst8,hr8,hsl8⟩
  have HST8:=Hd hst8
  have HR8:=Hd hr8
  have hgi8:gi<W8.heap.size:=by
    obtain⟨_,_,_,he,-,-,hat⟩:=sl_open hsl8.1
    cases he
    obtain⟨b',off',hb',hlt,-⟩:=hat.elem (f:=imL) (fun _=>rfl) (k:=0) (by rw[himR.out];simp)
    cases hb'
    exact hlt
  have HM:=Hd (rr_mine h8 i {y with bytes:=y.bytes+q,pages:=y.pages+1} (by show (ρ.xs.set i _)[i]? = _;rw[List.getElem?_set_self (by rw[hnN.out];exact hinN.out)]) (by show (ρ.xs.set i _).length≤_;rw[List.length_set];exact hxlN.out) R _ _ hokN.out hsl8 (fun k hk=>by
    rcases List.mem_append.1 hk with hk | hk
    ·
      have:k=gi:=by simpa[blk,Value.ownBlock]using hk
      subst this
      exact⟨hgi8,hgn.out.2⟩
    · simp[blk,Value.ownBlock,nilS]at hk) (by rw[himR.out];simp) (fun z hz=>by rw[himR.out]at hz;rw[List.mem_singleton.1 hz];have:=hpiN.out;show ((pi:Nat):Int)<6;omega) hlenN.out hfinN.out hroomN.out)
  clear h8 hst8 hr8 hsl8 hP hkP C0' c4 F4 H7 HST7 HR7 HSL7 hgi8 hw1 hw2 hw3 hw4 hw5 hw6 hw7
  go_wp2_with (refine wpList_load_row rfl 65 _ rfl _ rfl 65 _ _ _ HR8.out Tryz.underlying65 rfl (by kernel_rfl) ?_)
  refine(HM.out).mono ?_
  rintro e w9 (⟨hc,-,-⟩ | ⟨-,rfl,B',h9,hst9,-⟩)
  ·
    exfalso
    have h1:=hfN.out
    have h3:=hmi.out
    rw[hSN.out]at hc
    rw[show ({ρ with xs:=ρ.xs.set i {y with bytes:=y.bytes+q,pages:=y.pages+1}}:RS).room=rm from hrmN.out]at hc
    omega
  have H9:=Hd h9
  have HST9:=Hd ((HST8.out.trans hst9).wide (E':=[]) (fun k hk=>by
    rcases List.mem_append.1 hk with hk | hk
    · cases hk
    rcases List.mem_append.1 hk with hk | hk
    ·
      have:k=gi:=by simpa[blk,Value.ownBlock]using hk
      exact .inr (this ▸ hgn.out.1)
    · simp[blk,Value.ownBlock,nilS]at hk))
  clear h9 hst9 HM HR8 HST8
  go_wp2_with fail
  go_ret
  refine .inr ⟨i,y,hfoN.out,hyN.out,.inr (.inr ⟨?_,?_,rfl,B',?_,HST9.out⟩)⟩
  · rw[hlastN.out,hRN.out];exact⟨hokN.out,hmi.out⟩
  ·
    rw[hlastN.out,hRN.out,hrmN.out,haN.out,hSN.out]
    have h1:=hfN.out
    have h2:=hq.out
    have h3:=hmi.out
    omega
  ·
    rw[hlastN.out,hRN.out,hq.out]
    exact H9.out
end
end Go.Proofs.YtimomjheanfbmaaGreatDoor.G
namespace Go.Proofs.YtimomjheanfbmaaGreatDoor.G
open Go.RowKit
def placeL (b:Nat) (recs:List Rc):List Int:=(List.range recs.length).map (fun i=>((b+lenL ((recs.map rcS).take i):Nat):Int))
theorem placeL_length (b:Nat) (recs:List Rc):(placeL b recs).length=recs.length:=by unfold placeL;simp
theorem placeL_get (b:Nat) (recs:List Rc) {i:Nat} (h:i<recs.length):(placeL b recs)[i]? = some ((b+lenL ((recs.map rcS).take i):Nat):Int):=by
 unfold placeL
 rw[List.getElem?_map,List.getElem?_range h];rfl
theorem placeL_snoc (b:Nat) (recs:List Rc) (R:Rc):placeL b (recs++[R])=placeL b recs++[((b+lenL (recs.map rcS):Nat):Int)]:=by
 unfold placeL
 rw[List.length_append,List.length_singleton,List.range_succ,List.map_append]
 congr 1
 ·refine List.map_congr_left (fun i hi=>?_)
  have:=List.mem_range.1 hi
  rw[List.map_append,List.take_append_of_le_length (by rw[List.length_map];omega)]
 · rw[List.map_singleton,List.map_append,List.take_append_of_le_length (by rw[List.length_map];omega),List.take_of_length_le (by rw[List.length_map];omega)]
structure RPl (b:Nat) (ρ:RS):Prop where
 fin:ρ.fin=((b+lenL (ρ.recs.map rcS):Nat):Int)
 ats:ρ.ats=placeL b ρ.recs
theorem lenL_one (s:ByteArray):lenL [s]=s.size+2:=by rw[lenL,lenL];omega
theorem RPl.wrote {b:Nat} {ρ:RS} (h:RPl b ρ) (R:Rc):RPl b (ρ.wrote R):=by
 refine⟨?_,?_⟩
 ·show ρ.fin+_=_
  rw[h.fin,show ((ρ.wrote R).recs.map rcS)=ρ.recs.map rcS++[rcS R] by show (ρ.recs++[R]).map rcS=_;rw[List.map_append];rfl,lenL_append,lenL_one]
  omega
 ·show ρ.ats++[ρ.fin]=placeL b (ρ.recs++[R])
  rw[placeL_snoc,h.ats,h.fin]
theorem RPl.mined {b:Nat} {ρ:RS} (h:RPl b ρ) (i:Nat) (x:Xc) (R:Rc):RPl b (ρ.mined i x R):=⟨(h.wrote R).fin,(h.wrote R).ats⟩
theorem AtR.spot {b:Nat} {recs:List Rc} {t:Int} {R:Rc} (h:AtR b recs t R):∃j,recs[j]? = some R∧(placeL b recs)[j]? = some t∧∀(i:Nat) (u:Int),i<j→(placeL b recs)[i]? = some u→u≠t:=by
 obtain⟨j,h1,rfl⟩:=h
 have hj:=(List.getElem?_eq_some_iff.1 h1).1
 refine⟨j,h1,placeL_get b recs hj,fun i u hi hu e=>?_⟩
 rw[placeL_get b recs (by omega)]at hu
 injection hu with hu
 have:=lenL_lt (recs.map rcS) hi (by rw[List.length_map];omega)
 omega
def RS.undone (ρ:RS) (x:Int) (i:Nat) (y:Xc) (R:Rc):RS :=
 ({ρ with xs:=ρ.xs.set i {y with bytes:=y.bytes-320,pages:=y.pages-1}}:RS).mined i {y with bytes:=y.bytes-320,pages:=y.pages-1} (clrR x y.last R (setCl (ρ.f R.up.toNat) R.ul.toNat R.bs R.bd))
inductive RUnd (x:Int) (i:Nat):RS→List (Int×Rc)→RS→Prop
 | nil (ρ:RS):RUnd x i ρ [] ρ
 | snoc {ρ ρ1:RS} {l:List (Int×Rc)} {t:Int} {R:Rc} {y:Xc}:RUnd x i ρ l ρ1→ρ1.xs[i]? = some y→RUnd x i ρ (l++[(t,R)]) (ρ1.undone x i y R)
structure RBk (x:Int) (i b:Nat) (bd lo:Int) (l:List (Int×Rc)) (ρ ρk:RS) (next:Int) (rest:List (Int×Rc)):Prop where
 und:∃done,RUnd x i ρ done ρk∧l=done++rest∧(∀y∈done,bd<y.1)∧ρk.room=ρ.room-267*done.length
 pl:RPl b ρk
 stk:Stk b ρk.recs lo next rest
 good:∀y∈rest,GoodU y.2
 xc:∃y,ρk.xs[i]? = some y∧320*rest.length≤y.bytes∧rest.length≤y.pages∧0≤y.last∧y.last≤100000000000∧y.bytes≤1000000000∧y.pages≤1000000000
 len:ρk.xs.length=ρ.xs.length
 pgs:∀k,k<6→PgOk (ρk.f k)
 cnt:ρk.recs.length+rest.length≤1000000
 bnd:ρk.fin+267*rest.length≤10000000000
theorem RBk.pass {x:Int} {i b:Nat} {bd lo:Int} {l:List (Int×Rc)} {ρ ρk:RS} {next next':Int} {rest:List (Int×Rc)} (h:RBk x i b bd lo l ρ ρk next rest) (hk:Stk b ρk.recs lo next' rest):RBk x i b bd lo l ρ ρk next' rest :=
 ⟨h.und,h.pl,hk,h.good,h.xc,h.len,h.pgs,h.cnt,h.bnd⟩
theorem RBk.top {x:Int} {i b:Nat} {bd lo:Int} {l:List (Int×Rc)} {ρ ρk:RS} {next:Int} {rest:List (Int×Rc)} (h:RBk x i b bd lo l ρ ρk next rest) (hn:0<next):∃R,AtR b ρk.recs next R ∧
  ((R.kind=2∧0≤R.next∧R.next<next∧Stk b ρk.recs lo R.next rest)∨(R.kind=1∧0≤R.prev∧R.prev<next∧∃rest',rest=(next,R)::rest'∧Stk b ρk.recs lo R.prev rest')):=by
 have hst:=h.stk
 cases hst with
 | nil=>omega
 | clr h1 h0 h2 h3 h4 h5=>exact⟨_,h1,.inl ⟨h2,h3,h4,h5⟩⟩
 | upd h1 h0 h2 h3 h4 h5=>exact⟨_,h1,.inr ⟨h2,h3,h4,_,rfl,h5⟩⟩
theorem RBk.clr {x:Int} {i b:Nat} {bd lo:Int} {l:List (Int×Rc)} {ρ ρk:RS} {next:Int} {R:Rc} {rest:List (Int×Rc)} (h:RBk x i b bd lo l ρ ρk next ((next,R)::rest)) (hx:0≤x∧x≤2147483647) (hp:0≤R.prev∧R.prev≤100000000000) {y:Xc} (hy:ρk.xs[i]? = some y) :
  RcOk (clrR x y.last R (setCl (ρk.f R.up.toNat) R.ul.toNat R.bs R.bd)):=by
 obtain⟨-,hu,-,hc⟩:=h.good (next,R) (by simp)
 obtain⟨y',hy',-,-,h3,h4,-,-⟩:=h.xc
 rw[hy]at hy'
 injection hy' with e
 subst e
 dsimp only at hu hc
 exact clr_ok hx ⟨h3,h4⟩ hp hu (setCl_ok (h.pgs _ (by omega)) hc)
theorem RBk.step {x:Int} {i b:Nat} {bd lo:Int} {l:List (Int×Rc)} {ρ ρk:RS} {next:Int} {R:Rc} {rest:List (Int×Rc)} (h:RBk x i b bd lo l ρ ρk next ((next,R)::rest)) (hn:bd<next) (hx:0≤x∧x≤2147483647) (hp:0≤R.prev∧R.prev≤100000000000) {y:Xc} (hy:ρk.xs[i]? = some y) (hk:Stk b ρk.recs lo R.prev rest):RBk x i b bd lo l ρ (ρk.undone x i y R) R.prev rest:=by
 have hok:=h.clr hx hp hy
 have hsz:=clr_size hok
 obtain⟨done,h1,h2,h3,h4⟩:=h.und
 have hil:=(List.getElem?_eq_some_iff.1 hy).1
 obtain⟨y',hy',b1,b2,b3,b4,b5,b6⟩:=h.xc
 rw[hy]at hy'
 injection hy' with e
 subst e
 rw[List.length_cons]at b1 b2
 have hc:=h.cnt
 have hb:=h.bnd
 rw[List.length_cons]at hc hb
 have hfin:=h.pl.fin
 obtain⟨-,hu,-,hcl⟩:=h.good (next,R) (by simp)
 dsimp only at hu hcl
 refine⟨⟨done++[(next,R)],.snoc h1 hy,by rw[h2];simp,fun z hz=>?_,?_⟩,⟨(h.pl.mined i y _).fin,(h.pl.mined i y _).ats⟩,hk.more _,fun z hz=>h.good z (by simp[hz]),?_,?_,fun k hk6=>?_,?_,?_⟩
 ·rcases List.mem_append.1 hz with hz | hz
  · exact h3 z hz
  · rw[List.mem_singleton.1 hz];exact hn
 ·show ρk.room-_=_
  rw[hsz,h4,List.length_append,List.length_singleton]
  omega
 ·refine⟨_,List.getElem?_set_self (by show i<(ρk.xs.set i _).length;rw[List.length_set];exact hil),?_,?_,?_,?_,?_,?_⟩
  · show _≤y.bytes-320;omega
  · show _≤y.pages-1;omega
  · show 0≤ρk.fin;omega
  · show ρk.fin≤_;omega
  · show y.bytes-320≤_;omega
  · show y.pages-1≤_;omega
 ·show ((ρk.xs.set i _).set i _).length=_
  rw[List.length_set,List.length_set];exact h.len
 ·show PgOk (if k=R.up.toNat then _ else ρk.f k)
  by_cases e:k=R.up.toNat
  · rw[if_pos e];exact setCl_ok (h.pgs _ (by omega)) hcl
  · rw[if_neg e];exact h.pgs k hk6
 ·show (ρk.recs++[_]).length+_≤_
  rw[List.length_append,List.length_singleton];omega
 ·show ρk.fin+_+_≤_
  rw[hsz];omega
def RFits (ρ:RS) (bd:Int) (l:List (Int×Rc)):Prop:=((267*above bd l:Nat):Int)≤ρ.room
def RBackIs (w w':World) (m g:Nat) (B:RB) (ρ:RS) (x:Int) (i b:Nat) (bd lo:Int) (l:List (Int×Rc)):Prop :=
 ∃ρ' B' next rest,Rr w' m g B' ρ'∧Stp w w' m g B B' []∧RBk x i b bd lo l ρ ρ' next rest∧next≤bd∧0≤ρ'.room
def RBackTo (w w':World) (m g:Nat) (B:RB) (ρ:RS) (x:Int) (i b:Nat) (bd lo:Int) (l:List (Int×Rc)) (e:Ending):Prop :=
 (RFits ρ bd l∧e = .returned (.tuple #[.int .i64 0,.bool true])∧RBackIs w w' m g B ρ x i b bd lo l)∨(¬RFits ρ bd l∧e = .returned (.tuple #[.int .i64 0,.bool false])∧∃B' ρ',Rr w' m g B' ρ'∧Stp w w' m g B B' [])
theorem RBk.fits {x:Int} {i b:Nat} {bd lo:Int} {l:List (Int×Rc)} {ρ ρk:RS} {next:Int} {rest:List (Int×Rc)} (h:RBk x i b bd lo l ρ ρk next rest) (hn:next≤bd) (hr:0≤ρk.room):RFits ρ bd l:=by
 obtain⟨done,-,h1,h2,h3⟩:=h.und
 unfold RFits
 rw[h1,above_app bd h2,above_none bd (fun y hy=>by have:=h.stk.le y hy;omega)]
 omega
theorem RBk.fails {x:Int} {i b:Nat} {bd lo:Int} {l:List (Int×Rc)} {ρ ρk:RS} {next:Int} {R:Rc} {rest:List (Int×Rc)} (h:RBk x i b bd lo l ρ ρk next ((next,R)::rest)) (hn:bd<next) (hr:ρk.room<267):¬RFits ρ bd l:=by
 obtain⟨done,-,h1,h2,h3⟩:=h.und
 unfold RFits
 rw[h1,above_app bd h2,above_cons bd hn]
 omega
def BdS (m gx rb n xc:Nat) (prev:Int) (u:Un) (w:World):Prop:=w.cell? ⟨m,0,none⟩=some (.slice (some ⟨gx,0,none⟩) n xc)∧w.cell? ⟨rb,2,none⟩=some (.int .i64 prev)∧w.rangeAt rb 4 (unL u)
theorem BdS.keep {m gx rb n xc:Nat} {prev:Int} {u:Un} {S:Nat→Prop} {w w':World} (h:BdS m gx rb n xc prev u w) (hk:Keeps S w w') (h1:¬S m) (h3:¬S rb):BdS m gx rb n xc prev u w' :=
 ⟨cell_keepS hk h1 h.1,cell_keepS hk h3 h.2.1,fun j v hj=>cell_keepS hk h3 (h.2.2 j v hj)⟩
def recU (R:Rc):Un:={uk:=R.uk,us:=R.us,up:=R.up,ul:=R.ul,key:=R.key,bs:=R.bs,bd:=R.bd}
section
variable {w w':World} {m g:Nat} {B:RB} {ρ:RS}
theorem Rr.qlen (h:Rr w m g B ρ):B.Q.length=ρ.recs.length:=by rw[←h.rq,List.length_map]
theorem Rr.qat (h:Rr w m g B ρ) {j:Nat} {R:Rc} (hj:ρ.recs[j]? = some R):∃iv lw,B.Q[j]? = some (R,iv,lw):=by
 rw[←h.rq,List.getElem?_map]at hj
 cases hq:B.Q[j]? with
 | none=>rw[hq]at hj;cases hj
 | some t =>
  rw[hq]at hj
  simp only[Option.map_some,Option.some.injEq]at hj
  obtain⟨R',iv,lw⟩:=t
  dsimp only at hj
  subst hj
  exact⟨iv,lw,rfl⟩
end
end Go.Proofs.YtimomjheanfbmaaGreatDoor.G
