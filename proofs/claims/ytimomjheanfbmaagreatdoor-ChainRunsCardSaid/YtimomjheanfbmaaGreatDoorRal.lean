import Derived.Test.YtimomjheanfbmaaGreatDoorQaa
import Derived.Test.YtimomjheanfbmaaGreatDoorRak
import Derived.Test.YtimomjheanfbmaaGreatDoorRab
import Derived.Sort.OwnSortedInts
set_option linter.unusedSimpArgs false
set_option linter.unusedVariables false
namespace Go.Proofs.YtimomjheanfbmaaGreatDoor
open Go.RowKit
inductive FsRel (first n bb:Nat) (P:ByteArray) (rs:List ByteArray) (X:Pl) (i0:Nat) (D:Dev):Nat→List Slot→Nat→Dev→Prop
 | zero:FsRel first n bb P rs X i0 D 0 X.slots i0 D
 | skip (k:Nat) (l:List Slot) (i1:Nat) (D1:Dev) (s:Slot):FsRel first n bb P rs X i0 D k l i1 D1→l[k]? = some s→s.dirty=false→FsRel first n bb P rs X i0 D (k+1) l i1 D1
 | wrote (k:Nat) (l:List Slot) (i1:Nat) (D1:Dev) (s:Slot) (i2:Nat) (D2:Dev):FsRel first n bb P rs X i0 D k l i1 D1→l[k]? = some s→s.dirty=true→WrRel first n bb P rs X.base s i1 D1 i2 D2 0 →
  FsRel first n bb P rs X i0 D (k+1) (l.set k {s with dirty:=false}) i2 D2
inductive FlushRel (first n bb:Nat) (P:ByteArray) (rs:List ByteArray) (X:Pl) (i0:Nat) (D:Dev):Int→List Slot→Nat→Dev→Prop
 | fail (k:Nat) (l:List Slot) (i1:Nat) (D1:Dev) (s:Slot) (i2:Nat) (D2:Dev):FsRel first n bb P rs X i0 D k l i1 D1→l[k]? = some s→s.dirty=true→WrRel first n bb P rs X.base s i1 D1 i2 D2 20→FlushRel first n bb P rs X i0 D 20 l i2 D2
 | done (l:List Slot) (i1:Nat) (D1:Dev):FsRel first n bb P rs X i0 D X.slots.length l i1 D1→DevOk D1→FlushRel first n bb P rs X i0 D D1.barrier.2 l i1 D1.barrier.1
theorem Pw.barrier {w w':World} {p lp dp first n bb:Nat} {P:ByteArray} {rs:List ByteArray} {i0:Nat} {X:Pl} {sv:Value} {S Sl Sd Sd':List Nat} {D:Dev} (h:Pw w p lp dp first n bb P rs i0 X sv S Sl Sd D)
  (hd:DiskAt w' dp D.barrier.1 Sd') (hk:Keeps (· ∈ Sd) w w') (hs:∀k∈Sd',k∈Sd∨w.heap.size≤k):Pw w' p lp dp first n bb P rs i0 X sv S Sl Sd' D.barrier.1:=by
 have hof:=off_barrier 0 D h.ws.dsk.1
 refine⟨h.pool.keep hk (fun k hk h'=>h.dd k hk h'),⟨h.ws.log.keep hk (fun k hk h'=>h.ws.dis k hk h'),hd,⟨hd.1,by rw[hof.len];exact h.ws.has.2.1,hof.all _ (fun p d hp _=>by omega) h.ws.has.2.2⟩,fun k hk h'=>?_,h.ws.rok,h.ws.le,h.ws.pre,h.ws.bbs,?_⟩,h.dl,fun k hk h'=>?_,h.ring,by rw[hof.len];exact h.fit⟩
 ·rcases hs k h' with h2 | h2
  · exact h.ws.dis k hk h2
  · have:=h.ws.log.lt k hk;omega
 ·have hsf:=barrier_soft D
  rcases h.ws.soft with h1 | ⟨h1,h2⟩
  · exact .inl (by omega)
  · rw[hof.dead h1];exact .inr ⟨h1,h2⟩
 ·rcases hs k h' with h2 | h2
  · exact h.dd k hk h2
  · have:=h.pool.lt k hk;omega
theorem FsRel.len {first n bb:Nat} {P:ByteArray} {rs:List ByteArray} {X:Pl} {i0:Nat} {D:Dev} {k:Nat} {l:List Slot} {i1:Nat} {D1:Dev} (h:FsRel first n bb P rs X i0 D k l i1 D1):l.length=X.slots.length:=by
 induction h with
 | zero=>rfl
 | skip k l i1 D1 s h h1 h2 ih=>exact ih
 | wrote k l i1 D1 s i2 D2 h h1 h2 h3 ih=>rw[List.length_set];exact ih
set_option maxRecDepth 100000 in
set_option maxHeartbeats 800000 in
theorem pl_flush {w:World} {p lp dp first n bb:Nat} {P:ByteArray} {rs:List ByteArray} {i0:Nat} {X:Pl} {sv:Value} {S Sl Sd:List Nat} {D:Dev} (h:Pw w p lp dp first n bb P rs i0 X sv S Sl Sd D)
  (N:Nat) (hNb:N≤2000000000000) (hsoft:SoftB N D) :
  Calls Tryz.prog 29 #[.pointer (some ⟨p,0,none⟩)] w fun e w'=>∃c l' i1 Sd' D',e = .returned (.int .i64 c)∧FlushRel first n bb P rs X i0 D c l' i1 D' ∧
   Pw w' p lp dp first n bb P rs i1 {X with slots:=l'} sv S Sl Sd' D'∧Keeps (fun k=>k∈S∨k∈Sl∨k∈Sd) w w'∧∀k∈Sd',k∈Sd∨w.heap.size≤k:=by
 obtain⟨⟨o1,o2,o3,o4,o5,o6,o7,o8⟩,g1,g2,gS,gSn⟩:=h.pool
 obtain⟨sa,sc,rfl⟩:=g2.form
 have c5:w.cell? ⟨p,5,none⟩=some (.slice sa X.slots.length sc):=cell_at g1 5
 have H1:=Hd g1
 have H2:=Hd g2
 replace gS:=Hd gS
 replace gSn:=Hd gSn
 clear o8 g1 g2
 have HH:=Hd h
 clear h
 go_enter Tryz.func29,Tryz.ntmps29
 go_wp2_with fail
 go_loopw [12] (fun x wr=>∃(k:Nat) (l:List Slot) (i1:Nat) (Sd1:List Nat) (D1:Dev),k≤X.slots.length∧x = .int .i64 k∧Hid (FsRel first n bb P rs X i0 D k l i1 D1)∧Hid (SoftB (N+4*k) D1)∧Hid (Pw wr p lp dp first n bb P rs i1 {X with slots:=l} (.slice sa X.slots.length sc) S Sl Sd1 D1)∧Hid (Keeps (fun k=>k∈S∨k∈Sl∨k∈Sd) w wr)∧Hid (∀q∈Sd1,q∈Sd∨w.heap.size≤q)) (fun x _=>X.slots.length-(intOf x).toNat)
 case atStart=>exact⟨0,X.slots,i0,Sd,D,by omega,rfl,.zero,hsoft.mono (by omega),HH,Keeps.refl _ _,fun q hq => .inl hq⟩
 case round =>
  obtain⟨k,l,i1,Sd1,D1,hk,rfl,HFs,HSB,HP,HK,HSd⟩:=hrel
  have hll:=HFs.out.len
  obtain⟨⟨-,-,-,-,-,-,-,q8⟩,p1,p2,-,-⟩:=HP.out.pool
  have x5:wr.cell? ⟨p,5,none⟩=some (.slice sa X.slots.length sc):=cell_at p1 5
  have x0:wr.cell? ⟨p,0,none⟩=some (.pointer (some ⟨dp,0,none⟩)):=cell_at p1 0
  have p2:OwnS wr 166 20 (.slice sa X.slots.length sc) X.slots.length (slV l):=hll ▸ p2
  replace q8:=Hd q8
  by_cases hkn:k<X.slots.length
  ·have hkI:(k:Int)<X.slots.length:=by omega
   have hk0:(0:Int)≤k:=by omega
   obtain⟨g,rfl⟩:=H2.out.addr (by omega)
   obtain⟨s,hs⟩:∃s,l[k]? = some s:=⟨_,List.getElem?_eq_getElem (by omega)⟩
   obtain⟨-,-,-,r3,-⟩:=slot_at p2 k s hs
   have hk1:IntKind.i64.wrap ((k:Int)+1)=(k:Int)+1:=by rw[IntKind.wrap_i64];omega
   clear p1 p2
   replace hk:=Hd hk
   cases hdr:s.dirty with
   | false =>
    rw[hdr]at r3
    replace hdr:=Hd hdr
    go_wp2_with fail
    go_roundw
    case rel=>exact⟨k+1,l,i1,Sd1,D1,by omega,rfl,.skip k l i1 D1 s HFs.out hs hdr.out,HSB.out.mono (by omega),HP,HK,HSd⟩
    case measure=>simp[intOf];omega
   | true =>
    rw[hdr]at r3
    have HWr:=Hd (pl_write HP.out k s hs (q8.out s (List.mem_of_getElem? hs) hdr) (N+4*k) (by omega) HSB.out g sc (by rw[hll]))
    replace hdr:=Hd hdr
    go_wp2_with fail
    refine(HWr.out).mono ?_
    rintro e W2 ⟨cd,i2,Sd2,D2,rfl,hwr,hp2,hk2,hs2⟩
    have HWR:=Hd hwr
    have HP2:=Hd hp2
    have HK2:Hid (Keeps (fun k=>k∈S∨k∈Sl∨k∈Sd) w W2):=HK.out.trans hk2 (fun k hk h=>by
     rcases h with h | h | h
     · exact .inl h
     · exact .inr (.inl h)
     ·rcases HSd.out k h with h2 | h2
      · exact .inr (.inr h2)
      · omega)
    have HS2:Hid (∀k∈Sd2,k∈Sd∨w.heap.size≤k):=fun k hk=>by
     rcases hs2 k hk with h | h
     · exact HSd.out k h
     · exact .inr (Nat.le_trans HK.out.size h)
    have HSB2:=Hd (HWR.out.softB HSB.out)
    clear hwr hp2 hk2 hs2 HWr
    by_cases hcd:cd=0
    ·subst hcd
     rw[if_pos rfl]at HP2
     go_wp2_with fail
     go_roundw
     case rel=>exact⟨k+1,l.set k {s with dirty:=false},i2,Sd2,D2,by omega,rfl,.wrote k l i1 D1 s i2 D2 HFs.out hs hdr.out HWR.out,HSB2.out.mono (by omega),HP2,HK2,HS2⟩
     case measure=>simp[intOf];omega
    ·have h20:cd=20:=by
      rcases HWR.out.code with⟨h,_⟩ | ⟨h,_⟩
      · exact absurd h hcd
      · exact h
     subst h20
     rw[if_neg (by decide)]at HP2
     go_wp2_with fail
     go_ret
     exact⟨20,l,i2,Sd2,D2,rfl,.fail k l i1 D1 s i2 D2 HFs.out hs hdr.out HWR.out,HP2.out,HK2.out,HS2.out⟩
  ·obtain rfl:k=X.slots.length:=by omega
   have HBa:=Hd (dsk_barrier dp D1 Sd1 wr HP.out.ws.dsk)
   clear p1 p2
   go_wp2_with fail
   refine(HBa.out).mono ?_
   rintro e W2 ⟨rfl,Sd2,hd2,hk2,hs2⟩
   have hp2:=HP.out.barrier hd2 hk2 hs2
   have hK2:Keeps (fun k=>k∈S∨k∈Sl∨k∈Sd) w W2:=HK.out.trans hk2 (fun k hk h=>by
    rcases HSd.out k h with h2 | h2
    · exact .inr (.inr h2)
    · omega)
   have hS2:∀k∈Sd2,k∈Sd∨w.heap.size≤k:=fun k hk=>by
    rcases hs2 k hk with h | h
    · exact HSd.out k h
    · exact .inr (Nat.le_trans HK.out.size h)
   have HP2:=Hd hp2
   have HK2:=Hd hK2
   have HS2:=Hd hS2
   clear hp2 hK2 hS2 hd2 hk2 hs2
   go_wp2_with fail
   go_ret
   exact⟨_,l,i1,Sd2,_,rfl,.done l i1 D1 HFs.out HP.out.ws.dsk.1,HP2.out,HK2.out,HS2.out⟩
end Go.Proofs.YtimomjheanfbmaaGreatDoor
namespace Go.Proofs.YtimomjheanfbmaaGreatDoor
open Go.RowKit
set_option maxRecDepth 100000 in
set_option maxHeartbeats 400000 in
theorem pl_new {w:World} {lp dp first n bb:Nat} {P:ByteArray} {rs:List ByteArray} {i0:Nat} {Sl Sd:List Nat} {D:Dev} (h:Ws w lp dp first n bb P rs i0 Sl Sd D) (base pages frames:Nat) (h1:1≤pages) (h2:pages≤1024) (h3:4≤frames) (h4:frames≤256) (h5:base+4*pages≤D.firm.length) (h6:first+n≤base) :
  Calls Tryz.prog 22 #[.pointer (some ⟨dp,0,none⟩),.pointer (some ⟨lp,0,none⟩),.int .i64 base,.int .i64 pages,.int .i64 frames] w fun e w'=>∃p,e = .returned (.tuple #[.pointer (some ⟨p,0,none⟩),.int .i64 0]) ∧
   Pw w' p lp dp first n bb P rs i0 {base:=base,pages:=pages,room:=frames,slots:=[],hand:=0} (.slice none 0 0) [p] Sl Sd D∧Below w.heap.size w w'∧w.heap.size≤p:=by
 have hD:=h.dsk.1.2.1
 have hS:=Hd (dsk_size dp D Sd w h.dsk)
 have b1:decide ((pages:Int)<1)=false:=by apply decide_eq_false;omega
 have b2:decide (1024<(pages:Int))=false:=by apply decide_eq_false;omega
 have b3:decide ((frames:Int)<4)=false:=by apply decide_eq_false;omega
 have b4:decide (256<(frames:Int))=false:=by apply decide_eq_false;omega
 have b5:decide ((base:Int)<0)=false:=by apply decide_eq_false;omega
 have w1:IntKind.i64.wrap ((pages:Int)*4)=(pages:Int)*4:=by rw[IntKind.wrap_i64];omega
 have w2:IntKind.i64.wrap ((D.firm.length:Int)-(pages:Int)*4)=(D.firm.length:Int)-(pages:Int)*4:=by rw[IntKind.wrap_i64];omega
 have b6:decide ((D.firm.length:Int)-(pages:Int)*4<(base:Int))=false:=by apply decide_eq_false;omega
 have HH:=Hd h
 replace h1:=Hd h1
 replace h2:=Hd h2
 replace h3:=Hd h3
 replace h4:=Hd h4
 replace h5:=Hd h5
 replace h6:=Hd h6
 clear h
 go_enter Tryz.func22,Tryz.ntmps22
 go_wp2_with fail
 refine(hS.out).mono ?_
 rintro e w5 ⟨rfl,rfl⟩
 clear hS
 go_wp2_with fail
 go_ret2
 have hb:Below w5.heap.size w5 (w5.alloc (.cells #[.pointer (some ⟨dp,0,none⟩),.pointer (some ⟨lp,0,none⟩),.int .i64 base,.int .i64 pages,.int .i64 frames,.slice none 0 0,.int .i64 0] 161)):=bA bR
 refine⟨w5.heap.size,rfl,⟨⟨⟨by show base≤16384;have:=h5.out;omega,h1.out,h2.out,h3.out,h4.out,Nat.zero_le _,by show 0<frames;have:=h3.out;omega,fun s hs=>by cases hs⟩,hN rfl,OwnS.nil _ _ _,by simp[blk,Value.ownBlock],by simp⟩,HH.out.later hb,fun k hk h=>?_,fun k hk h=>?_,h6.out,h5.out⟩,hb,Nat.le_refl _⟩
 ·have:=HH.out.log.lt k h
  have:=List.mem_singleton.1 hk
  omega
 ·have:=HH.out.dsk.lt k h
  have:=List.mem_singleton.1 hk
  omega
end Go.Proofs.YtimomjheanfbmaaGreatDoor
namespace Go.Proofs.YtimomjheanfbmaaGreatDoor
open Go.RowKit Go.Sort
end Go.Proofs.YtimomjheanfbmaaGreatDoor
namespace Go.Proofs.YtimomjheanfbmaaGreatDoor
open Go.RowKit
def OnDev (D:Dev) (b:Nat) (x:Pg×Int):Prop:=∀i,i<4→D.at (b+i)=sec (pageS x.1) x.2 i
def MOk (x:Pg×Int):Prop:=PgOk x.1∧0≤x.2∧x.2≤1152921504606846976
structure PInv (X:Pl) (D:Dev) (M:Nat→Pg×Int):Prop where
 uniq:∀(i j:Nat) (s t:Slot),X.slots[i]? = some s→X.slots[j]? = some t→s.id=t.id→s.id ≠ -1→i=j
 hold:∀(i:Nat) (s:Slot),X.slots[i]? = some s→s.id ≠ -1→0≤s.id∧s.id<X.pages∧pgC s.P=pgC (M s.id.toNat).1∧(s.dirty=true→s.P=(M s.id.toNat).1∧s.st=(M s.id.toNat).2)
 dty:∀(i:Nat) (s:Slot),X.slots[i]? = some s→s.dirty=true→s.id ≠ -1
 dev:D.down=false→∀id,id<X.pages→(∀(i:Nat) (s:Slot),X.slots[i]? = some s→s.id=(id:Int)→s.dirty=false)→OnDev D (X.base+4*id) (M id)
 mok:∀id,id<X.pages→MOk (M id)
theorem cool_eq {s t:Slot} (h:cool t=cool s):t.id=s.id∧t.P=s.P∧t.st=s.st∧t.dirty=s.dirty:=by
 have h1:=congrArg Slot.id h
 have h2:=congrArg Slot.P h
 have h3:=congrArg Slot.st h
 have h4:=congrArg Slot.dirty h
 exact⟨h1,h2,h3,h4⟩
theorem PInv.cool {X:Pl} {D:Dev} {M:Nat→Pg×Int} (h:PInv X D M) {l:List Slot} {hd:Nat} (hc:l.map cool=X.slots.map cool):PInv {X with slots:=l,hand:=hd} D M:=by
 have key:∀(i:Nat) (s:Slot),l[i]? = some s→∃t:Slot,X.slots[i]? = some t∧t.id=s.id∧t.P=s.P∧t.st=s.st∧t.dirty=s.dirty:=fun i s hs=>by
  obtain⟨t,ht,he⟩:=cool_at hc hs
  exact⟨t,ht,cool_eq he⟩
 have key2:∀(i:Nat) (s:Slot),X.slots[i]? = some s→∃t:Slot,l[i]? = some t∧t.id=s.id∧t.P=s.P∧t.st=s.st∧t.dirty=s.dirty:=fun i s hs=>by
  obtain⟨t,ht,he⟩:=cool_at hc.symm hs
  exact⟨t,ht,cool_eq he⟩
 refine⟨fun i j s t hs ht he hn=>?_,fun i s hs hn=>?_,fun i s hs hd=>?_,fun hdn id hid hcl=>?_,h.mok⟩
 ·obtain⟨s',h1,h2,-⟩:=key i s hs
  obtain⟨t',h3,h4,-⟩:=key j t ht
  exact h.uniq i j s' t' h1 h3 (by rw[h2,h4,he]) (by rw[h2];exact hn)
 ·obtain⟨s',h1,h2,h3,h4,h5⟩:=key i s hs
  have:=h.hold i s' h1 (by rw[h2];exact hn)
  rw[h2,h3,h4,h5]at this
  exact this
 ·obtain⟨s',h1,h2,h3,h4,h5⟩:=key i s hs
  have:=h.dty i s' h1 (by rw[h5];exact hd)
  rwa[h2]at this
 ·refine h.dev hdn id hid (fun i s hs he=>?_)
  obtain⟨t,h1,h2,h3,h4,h5⟩:=key2 i s hs
  rw[←h5]
  exact hcl i t h1 (by rw[h2];exact he)
theorem set_cases {l:List Slot} {i j:Nat} {x s:Slot} (h:(l.set i x)[j]? = some s):(j=i∧s=x)∨(j≠i∧l[j]? = some s):=by
 rw[List.getElem?_set]at h
 split at h
 ·rename_i e
  subst e
  split at h
  · injection h with h;exact .inl ⟨rfl,h.symm⟩
  · cases h
 ·rename_i e
  exact .inr ⟨fun h'=>e h'.symm,h⟩
theorem set_other {l:List Slot} {i j:Nat} {x s:Slot} (h:l[j]? = some s) (hj:j≠i):(l.set i x)[j]? = some s:=by
 rw[List.getElem?_set_ne (fun e=>hj e.symm)];exact h
theorem set_same {l:List Slot} {i:Nat} {x s:Slot} (h:l[i]? = some s):(l.set i x)[i]? = some x:=List.getElem?_set_self (List.getElem?_eq_some_iff.1 h).1
theorem PInv.blank {X:Pl} {D:Dev} {M:Nat→Pg×Int} (h:PInv X D M) {i:Nat} {s:Slot} (hs:X.slots[i]? = some s) (hd:s.dirty=false):PInv {X with slots:=X.slots.set i slBlank} D M:=by
 refine⟨fun a b u v hu hv he hn=>?_,fun a u hu hn=>?_,fun a u hu hdd=>?_,fun hdn id hid hcl=>?_,h.mok⟩
 ·rcases set_cases hu with⟨rfl,rfl⟩ | ⟨ha,hu1⟩
  · exact absurd rfl hn
  ·rcases set_cases hv with⟨rfl,rfl⟩ | ⟨hb,hv1⟩
   · exact absurd he hn
   · exact h.uniq a b u v hu1 hv1 he hn
 ·rcases set_cases hu with⟨rfl,rfl⟩ | ⟨ha,hu1⟩
  · exact absurd rfl hn
  · exact h.hold a u hu1 hn
 ·rcases set_cases hu with⟨rfl,rfl⟩ | ⟨ha,hu1⟩
  · cases hdd
  · exact h.dty a u hu1 hdd
 ·refine h.dev hdn id hid (fun a u hu he=>?_)
  by_cases ha:a=i
  ·subst ha
   rw[hs]at hu
   injection hu with hu
   rw[←hu];exact hd
  · exact hcl a u (set_other hu ha) he
theorem app_cases {l:List Slot} {j:Nat} {x s:Slot} (h:(l++[x])[j]? = some s):(j=l.length∧s=x)∨l[j]? = some s:=by
 by_cases hj:j<l.length
 · rw[List.getElem?_append_left hj]at h;exact .inr h
 ·rw[List.getElem?_append_right (by omega)]at h
  by_cases h0:j-l.length=0
  ·rw[h0]at h
   simp only[List.getElem?_cons_zero,Option.some.injEq]at h
   exact .inl ⟨by omega,h.symm⟩
  ·obtain⟨q,hq⟩:∃q,j-l.length=q+1:=⟨j-l.length-1,by omega⟩
   rw[hq]at h
   simp at h
theorem PInv.more {X:Pl} {D:Dev} {M:Nat→Pg×Int} (h:PInv X D M):PInv {X with slots:=X.slots++[slBlank]} D M:=by
 refine⟨fun a b u v hu hv he hn=>?_,fun a u hu hn=>?_,fun a u hu hdd=>?_,fun hdn id hid hcl=>?_,h.mok⟩
 ·rcases app_cases hu with⟨rfl,rfl⟩ | hu
  · exact absurd rfl hn
  ·rcases app_cases hv with⟨rfl,rfl⟩ | hv
   · exact absurd he hn
   · exact h.uniq a b u v hu hv he hn
 ·rcases app_cases hu with⟨rfl,rfl⟩ | hu
  · exact absurd rfl hn
  · exact h.hold a u hu hn
 ·rcases app_cases hu with⟨rfl,rfl⟩ | hu
  · cases hdd
  · exact h.dty a u hu hdd
 ·refine h.dev hdn id hid (fun a u hu he=>hcl a u ?_ he)
  show (X.slots++[slBlank])[a]? = some u
  rw[List.getElem?_append_left (List.getElem?_eq_some_iff.1 hu).1]
  exact hu
theorem WrRel.at {first n bb:Nat} {P:ByteArray} {rs:List ByteArray} {base:Nat} {s:Slot} {i0 i1:Nat} {D D':Dev} (h:WrRel first n bb P rs base s i0 D i1 D' 0) (p:Nat) (hp:first+n≤p) (hl:p<D.firm.length) :
  D'.at p=if base+4*s.id.toNat≤p∧p<base+4*s.id.toNat+4 then sec (pageS s.P) s.st (p-(base+4*s.id.toNat)) else D.at p:=by
 rcases h with⟨_,hc⟩ | ⟨D1,h1,h2⟩
 · exact absurd hc (by decide)
 ·unfold Dev.at
  rw[h2.on rfl p (by rw[h1.off.len];exact hl),h1.off.seen p hp]
theorem WrRel.len {first n bb:Nat} {P:ByteArray} {rs:List ByteArray} {base:Nat} {s:Slot} {i0 i1:Nat} {D D':Dev} {c:Int} (h:WrRel first n bb P rs base s i0 D i1 D' c):D'.firm.length=D.firm.length:=by
 rcases h with⟨h,_⟩ | ⟨D1,h1,h2⟩
 · exact h.off.len
 · rw[h2.len,h1.off.len]
theorem WrRel.up {first n bb:Nat} {P:ByteArray} {rs:List ByteArray} {base:Nat} {s:Slot} {i0 i1:Nat} {D D':Dev} {c:Int} (h:WrRel first n bb P rs base s i0 D i1 D' c) (hu:D.up):D'.up∧c=0:=by
 rcases h with⟨h,rfl⟩ | ⟨D1,h1,h2⟩
 ·have h3:=h.off.up hu
  rcases h.code with⟨h0,_⟩ | ⟨_,h0⟩
  · exact absurd h0 (by decide)
  · rw[h3.2]at h0;cases h0
 · exact h2.up (h1.off.up hu)
theorem PInv.wrote {first n bb:Nat} {P:ByteArray} {rs:List ByteArray} {X:Pl} {i0 i1:Nat} {D D':Dev} {M:Nat→Pg×Int} (h:PInv X D M) (hr:first+n≤X.base) (hf:X.base+4*X.pages≤D.firm.length)
  {i:Nat} {s:Slot} (hs:X.slots[i]? = some s) (hd:s.dirty=true) (hw:WrRel first n bb P rs X.base s i0 D i1 D' 0):PInv {X with slots:=X.slots.set i {s with dirty:=false}} D' M:=by
 obtain⟨k1,k2,k3,k4⟩:=h.hold i s hs (h.dty i s hs hd)
 obtain⟨e1,e2⟩:=k4 hd
 have hcode:=hw.code
 refine⟨fun a b u v hu hv he hn=>?_,fun a u hu hn=>?_,fun a u hu hdd=>?_,fun hdn id hid hcl=>?_,h.mok⟩
 ·rcases set_cases hu with⟨rfl,rfl⟩ | ⟨ha,hu1⟩
  ·rcases set_cases hv with⟨rfl,rfl⟩ | ⟨hb,hv1⟩
   · rfl
   · exact h.uniq _ _ s v hs hv1 he hn
  ·rcases set_cases hv with⟨rfl,rfl⟩ | ⟨hb,hv1⟩
   · exact h.uniq _ _ u s hu1 hs he hn
   · exact h.uniq a b u v hu1 hv1 he hn
 ·rcases set_cases hu with⟨rfl,rfl⟩ | ⟨ha,hu1⟩
  · exact⟨k1,k2,k3,fun h=>by cases h⟩
  · exact h.hold a u hu1 hn
 ·rcases set_cases hu with⟨rfl,rfl⟩ | ⟨ha,hu1⟩
  · cases hdd
  · exact h.dty a u hu1 hdd
 ·have hid:id<X.pages:=hid
  intro j hj
  show D'.at (X.base+4*id+j)=_
  rw[hw.at (X.base+4*id+j) (by omega) (by omega)]
  by_cases hii:id=s.id.toNat
  ·subst hii
   rw[if_pos (by omega),show X.base+4*s.id.toNat+j-(X.base+4*s.id.toNat)=j by omega,e1,e2]
  ·rw[if_neg (by omega)]
   refine h.dev ?_ id hid (fun a u hu he=>?_) j hj
   ·rcases hcode with⟨_,_,h0⟩ | ⟨h0,_⟩
    · exact h0
    · exact absurd h0 (by decide)
   ·by_cases ha:a=i
    ·subst ha
     rw[hs]at hu
     injection hu with hu
     rw[←hu]at he
     omega
    · exact hcl a u (set_other hu ha) he
theorem PInv.fill {X:Pl} {D:Dev} {M:Nat→Pg×Int} (h:PInv X D M) {i m:Nat} {s0 s:Slot} (hs:X.slots[i]? = some s0) (h0:s0.id = -1) (hm:m<X.pages) (hno:∀(a:Nat) (u:Slot),X.slots[a]? = some u→u.id≠(m:Int)) (hsm:s.id=(m:Int)) (hsd:s.dirty=false) (hsp:pgC s.P=pgC (M m).1) :
  PInv {X with slots:=X.slots.set i s} D M:=by
 refine⟨fun a b u v hu hv he hn=>?_,fun a u hu hn=>?_,fun a u hu hdd=>?_,fun hdn id hid hcl=>?_,h.mok⟩
 ·rcases set_cases hu with⟨rfl,rfl⟩ | ⟨ha,hu1⟩
  ·rcases set_cases hv with⟨rfl,rfl⟩ | ⟨hb,hv1⟩
   · rfl
   · exact absurd (by rw[←he,hsm]) (hno b v hv1)
  ·rcases set_cases hv with⟨rfl,rfl⟩ | ⟨hb,hv1⟩
   · exact absurd (by rw[he,hsm]) (hno a u hu1)
   · exact h.uniq a b u v hu1 hv1 he hn
 ·rcases set_cases hu with⟨rfl,rfl⟩ | ⟨ha,hu1⟩
  ·rw[hsm,Int.toNat_natCast]
   exact⟨by omega,by show (m:Int)<X.pages;omega,hsp,fun h=>by rw[hsd]at h;cases h⟩
  · exact h.hold a u hu1 hn
 ·rcases set_cases hu with⟨rfl,rfl⟩ | ⟨ha,hu1⟩
  · rw[hsd]at hdd;cases hdd
  · exact h.dty a u hu1 hdd
 ·refine h.dev hdn id hid (fun a u hu he=>?_)
  by_cases ha:a=i
  ·subst ha
   rw[hs]at hu
   injection hu with hu
   rw[←hu,h0]at he
   omega
  · exact hcl a u (set_other hu ha) he
def upd (M:Nat→Pg×Int) (m:Nat) (x:Pg×Int):Nat→Pg×Int:=fun j=>if j=m then x else M j
theorem PInv.put {X:Pl} {D:Dev} {M:Nat→Pg×Int} (h:PInv X D M) {i m:Nat} {s0 s:Slot} (hs:X.slots[i]? = some s0) (hm:m<X.pages) (hno:∀(a:Nat) (u:Slot),X.slots[a]? = some u→a≠i→u.id≠(m:Int)) (h0:s0.id = -1∨s0.id=(m:Int)) (hsm:s.id=(m:Int)) (hsd:s.dirty=true) (hok:MOk (s.P,s.st)) :
  PInv {X with slots:=X.slots.set i s} D (upd M m (s.P,s.st)):=by
 have hupd:upd M m (s.P,s.st) m=(s.P,s.st):=by unfold upd;rw[if_pos rfl]
 have hupn:∀j,j≠m→upd M m (s.P,s.st) j=M j:=fun j hj=>by unfold upd;rw[if_neg hj]
 refine⟨fun a b u v hu hv he hn=>?_,fun a u hu hn=>?_,fun a u hu hdd=>?_,fun hdn id hid hcl=>?_,fun id hid=>?_⟩
 ·rcases set_cases hu with⟨rfl,rfl⟩ | ⟨ha,hu1⟩
  ·rcases set_cases hv with⟨rfl,rfl⟩ | ⟨hb,hv1⟩
   · rfl
   · exact absurd (by rw[←he,hsm]) (hno b v hv1 hb)
  ·rcases set_cases hv with⟨rfl,rfl⟩ | ⟨hb,hv1⟩
   · exact absurd (by rw[he,hsm]) (hno a u hu1 ha)
   · exact h.uniq a b u v hu1 hv1 he hn
 ·rcases set_cases hu with⟨rfl,rfl⟩ | ⟨ha,hu1⟩
  ·rw[hsm,Int.toNat_natCast,hupd]
   exact⟨by omega,by show (m:Int)<X.pages;omega,rfl,fun _=>⟨rfl,rfl⟩⟩
  ·obtain⟨q1,q2,q3,q4⟩:=h.hold a u hu1 hn
   have hne:u.id.toNat≠m:=fun e=>hno a u hu1 ha (by omega)
   rw[hupn _ hne]
   exact⟨q1,q2,q3,q4⟩
 ·rcases set_cases hu with⟨rfl,rfl⟩ | ⟨ha,hu1⟩
  · omega
  · exact h.dty a u hu1 hdd
 ·by_cases hii:id=m
  ·subst hii
   have:=hcl i s (set_same hs) hsm
   rw[hsd]at this;cases this
  ·rw[hupn _ hii]
   refine h.dev hdn id hid (fun a u hu he=>?_)
   by_cases ha:a=i
   ·subst ha
    rw[hs]at hu
    injection hu with hu
    rw[←hu]at he
    omega
   · exact hcl a u (set_other hu ha) he
 ·by_cases hii:id=m
  · subst hii;rw[hupd];exact hok
  · rw[hupn _ hii];exact h.mok id hid
end Go.Proofs.YtimomjheanfbmaaGreatDoor
