import Derived.Test.YtimomjheanfbmaaGreatDoorQaa
import Derived.Test.YtimomjheanfbmaaGreatDoorRal
import Derived.Test.YtimomjheanfbmaaGreatDoorRab
import Derived.WideShapes
import Derived.Deep.DeepCutAuto
import Derived.Deep.CutBlock
import Derived.BigRegion
set_option linter.unusedSimpArgs false
set_option linter.unusedVariables false
namespace Go.Proofs.YtimomjheanfbmaaGreatDoor
open Go.RowKit
def nDirty (l:List Slot):Nat:=l.countP (·.dirty)
def Pot (n:Nat) (D:Dev) (l:List Slot):Prop:=∃m,SoftB m D∧m+4*nDirty l≤n
theorem nDirty_cool {l m:List Slot} (h:l.map cool=m.map cool):nDirty l=nDirty m:=by
 have h1:∀l:List Slot,nDirty l=(l.map cool).countP (·.dirty):=fun l=>by
  unfold nDirty
  rw[List.countP_map]
  rfl
 rw[h1,h1,h]
theorem nDirty_set {l:List Slot} {i:Nat} {s s':Slot} (hs:l[i]? = some s):nDirty (l.set i s')+(if s.dirty=true then 1 else 0)=nDirty l+(if s'.dirty=true then 1 else 0):=by
 have hl:=(List.getElem?_eq_some_iff.1 hs).1
 have hg:l[i]=s:=(List.getElem?_eq_some_iff.1 hs).2
 have e1:l=l.take i++(l[i]::l.drop (i+1)):=by rw[←List.drop_eq_getElem_cons hl,List.take_append_drop]
 have e2:l.set i s'=l.take i++(s'::l.drop (i+1)):=by rw[List.set_eq_take_append_cons_drop,if_pos hl]
 unfold nDirty
 rw[e2]
 conv=>rhs;rw[e1]
 rw[hg,List.countP_append,List.countP_append,List.countP_cons,List.countP_cons]
 omega
theorem nDirty_app (l:List Slot):nDirty (l++[slBlank])=nDirty l:=by
 unfold nDirty
 rw[List.countP_append]
 rfl
theorem Pot.soft {n:Nat} {D:Dev} {l:List Slot} (h:Pot n D l):SoftB n D:=by
 obtain⟨m,h1,h2⟩:=h
 exact h1.mono (by omega)
section
variable {first n bb:Nat} {P:ByteArray} {rs:List ByteArray} {X:Pl} {i0:Nat} {D:Dev} {M:Nat→Pg×Int}
theorem place_law (h:PInv X D M) (hr:first+n≤X.base) (hf:X.base+4*X.pages≤D.firm.length) {X1:Pl} {i1:Nat} {D1:Dev} {cd:Int} {at_:Nat} (hp:PlaceRel first n bb P rs X i0 D X1 i1 D1 cd at_) :
  PInv X1 D1 M∧X1.base=X.base∧X1.pages=X.pages∧D1.firm.length=D.firm.length∧(D.up→D1.up∧cd=0) ∧
  ((cd=0∧X1.slots[at_]? = some slBlank∧∀(a:Nat) (u:Slot),X1.slots[a]? = some u→u.id = -1∨∃(b:Nat) (t:Slot),X.slots[b]? = some t∧t.id=u.id)∨(cd=20∧D1.down=true))∧∀N,Pot N D X.slots→Pot N D1 X1.slots:=by
 have keys:∀{l:List Slot} {a:Nat} {u:Slot},l.map cool=X.slots.map cool→l[a]? = some u→∃(b:Nat) (t:Slot),X.slots[b]? = some t∧t.id=u.id:=fun hc hu=>by
  obtain⟨t,ht,he⟩:=cool_at hc hu
  exact⟨_,t,ht,(cool_eq he).1⟩
 cases hp with
 | grow hl =>
  refine⟨h.more,rfl,rfl,rfl,fun hu=>⟨hu,rfl⟩,.inl ⟨rfl,?_,fun a u hu=>?_⟩,fun N hN=>?_⟩
  ·show (X.slots++[slBlank])[X.slots.length]? = _
   rw[List.getElem?_append_right (Nat.le_refl _),Nat.sub_self];rfl
  ·rcases app_cases hu with⟨_,rfl⟩ | hu1
   · exact .inl rfl
   · exact .inr ⟨a,u,hu1,rfl⟩
  ·obtain⟨m,h1,h2⟩:=hN
   exact⟨m,h1,by rw[nDirty_app];exact h2⟩
 | keep l _ s hd hl hc hs hdd =>
  refine⟨(h.cool (hd:=hd) hc).blank hs hdd,rfl,rfl,rfl,fun hu=>⟨hu,rfl⟩,.inl ⟨rfl,set_same hs,fun a u hu=>?_⟩,fun N hN=>?_⟩
  ·rcases set_cases hu with⟨_,rfl⟩ | ⟨_,hu1⟩
   · exact .inl rfl
   · exact .inr (keys hc hu1)
  ·obtain⟨m,h1,h2⟩:=hN
   have e1:=nDirty_set (s':=slBlank) hs
   rw[hdd,nDirty_cool hc]at e1
   simp only[slBlank,Bool.false_eq_true,if_false]at e1
   exact⟨m,h1,by show m+4*nDirty (l.set at_ slBlank)≤N;simp only[slBlank];omega⟩
 | wrote l _ s hd _ _ hl hc hs hdd hw =>
  have hc1:PInv {X with slots:=l,hand:=hd} D M:=h.cool hc
  have hw1:=hc1.wrote (n:=n) (first:=first) hr hf hs hdd hw
  have hb:=hw1.blank (i:=at_) (s:={s with dirty:=false}) (set_same hs) rfl
  have hss:(l.set at_ {s with dirty:=false}).set at_ slBlank=l.set at_ slBlank:=by rw[List.set_set]
  refine⟨?_,rfl,rfl,hw.len,fun hu=>hw.up hu,.inl ⟨rfl,set_same hs,fun a u hu=>?_⟩,fun N hN=>?_⟩
  ·have hb':PInv {X with slots:=(l.set at_ {s with dirty:=false}).set at_ slBlank,hand:=hd} D1 M:=hb
   rw[hss]at hb'
   exact hb'
  ·rcases set_cases hu with⟨_,rfl⟩ | ⟨_,hu1⟩
   · exact .inl rfl
   · exact .inr (keys hc hu1)
  ·obtain⟨m,h1,h2⟩:=hN
   have e1:=nDirty_set (s':=slBlank) hs
   rw[hdd,nDirty_cool hc]at e1
   simp only[slBlank,Bool.false_eq_true,if_false,if_true]at e1
   exact⟨m+4,hw.softB h1,by show m+4+4*nDirty (l.set at_ slBlank)≤N;simp only[slBlank];omega⟩
 | fail l a s hd _ _ hl hc hs hdd hw =>
  have hdn:D1.down=true:=by
   rcases hw.code with⟨h0,_⟩ | ⟨_,h0⟩
   · exact absurd h0 (by decide)
   · exact h0
  have hc1:PInv {X with slots:=l,hand:=hd} D M:=h.cool hc
  refine⟨⟨hc1.uniq,hc1.hold,hc1.dty,(fun h0=>by rw[hdn]at h0;cases h0),hc1.mok⟩,rfl,rfl,hw.len,fun hu=>by have:=hw.up hu;exact absurd this.2 (by decide),.inr ⟨rfl,hdn⟩,fun N hN=>?_⟩
  obtain⟨m,h1,h2⟩:=hN
  have hsf:SoftB m D1:=by
   rcases hw with⟨hw,_⟩ | ⟨D2,h3,h4⟩
   · exact hw.softB h1
   ·have h5:=h3.softB h1
    rcases h5 with h5 | ⟨h5,h6⟩
    · exact .inr ⟨hdn,by have:=h4.soft;omega⟩
    · rw[h4.dead h5];exact .inr ⟨h5,h6⟩
  exact⟨m,hsf,by show m+4*nDirty l≤N;rw[nDirty_cool hc];exact h2⟩
theorem ld_law (h:PInv X D M) {id:Nat} (hid:id<X.pages) (hno:∀(a:Nat) (u:Slot),X.slots[a]? = some u→u.id≠(id:Int)) {Q:Pg} {t c:Int} (hl:LdRel D (X.base+4*id) Q t c) :
  (D.down=true∧c=20)∨(D.down=false∧c=0∧pgC Q=pgC (M id).1):=by
 rcases hl with h0 | ⟨hdn,hl⟩
 · exact .inl h0
 ·have hon:=h.dev hdn id hid (fun a u hu he=>absurd he (hno a u hu))
  obtain⟨m1,m2,m3⟩:=h.mok id hid
  have e0:=hon 0 (by omega)
  have e1:=hon 1 (by omega)
  have e2:=hon 2 (by omega)
  have e3:=hon 3 (by omega)
  rw[Nat.add_zero]at e0
  have hopen:frOpen (D.at (X.base+4*id)) (D.at (X.base+4*id+1)) (D.at (X.base+4*id+2)) (D.at (X.base+4*id+3))=(pageS (M id).1,(M id).2,0):=by
   rw[e0,e1,e2,e3]
   exact frOpen_sec _ _ (pageS_size m1) m2 (by rw[show (256:Int)^8=18446744073709551616 by decide];omega)
  rw[hopen]at hl
  dsimp only at hl
  rcases hl with⟨h1,_⟩ | ⟨_,_,⟨_,hQ,hc⟩ | ⟨hno,_⟩⟩
  · exact absurd rfl h1
  · exact .inr ⟨hdn,hc,by rw[hQ];exact dec_enc m1⟩
  · exact absurd (dec_ok m1) hno
theorem get_law (h:PInv X D M) (hr:first+n≤X.base) (hf:X.base+4*X.pages≤D.firm.length) {id:Int} {Q:Pg} {c:Int} {X1:Pl} {i1:Nat} {D1:Dev} (hg:GetRel first n bb P rs X i0 D id Q c X1 i1 D1) :
  PInv X1 D1 M∧X1.base=X.base∧X1.pages=X.pages∧D1.firm.length=D.firm.length∧(D.up→D1.up)∧(∀N,Pot N D X.slots→Pot N D1 X1.slots) ∧
  (((id<0∨(X.pages:Int)≤id)∧c=1∧Q=pageZ)∨(0≤id∧id<X.pages∧((c=0∧pgC Q=pgC (M id.toNat).1)∨(c=20∧D1.down=true)))):=by
 have hno':(∀s∈X.slots,s.id≠id)→∀(a:Nat) (u:Slot),X.slots[a]? = some u→u.id≠id:=fun h a u hu=>h u (List.mem_of_getElem? hu)
 cases hg with
 | wrong hw=>exact⟨h,rfl,rfl,rfl,fun hu=>hu,fun N hN=>hN,.inl ⟨hw,rfl,rfl⟩⟩
 | hit i s h0 h1 hs he =>
  have hc:(X.slots.set i {s with warm:=true}).map cool=X.slots.map cool:=cool_set (s':={s with warm:=true}) hs rfl
  refine⟨h.cool (hd:=X.hand) hc,rfl,rfl,rfl,fun hu=>hu,fun N hN=>?_,.inr ⟨h0,h1,.inl ⟨rfl,?_⟩⟩⟩
  ·obtain⟨m,h2,h3⟩:=hN
   exact⟨m,h2,by show m+4*nDirty (X.slots.set i {s with warm:=true})≤N;rw[nDirty_cool hc];exact h3⟩
  ·have:=(h.hold i s hs (by omega)).2.2.1
   rw[he]at this
   exact this
 | bad Q t c h0 h1 hno hl hc =>
  obtain⟨m,rfl⟩:∃m:Nat,id=m:=⟨id.toNat,by omega⟩
  rw[Int.toNat_natCast]at hl
  rcases ld_law h (by omega) (hno' hno) hl with⟨hd,h20⟩ | ⟨_,hz,_⟩
  · exact⟨h,rfl,rfl,rfl,fun hu=>hu,fun N hN=>hN,.inr ⟨h0,h1,.inr ⟨h20,hd⟩⟩⟩
  · exact absurd hz hc
 | full Q t X1 i1 D1 cd at_ h0 h1 hno hl hp hcd =>
  obtain⟨p1,p2,p3,p4,p5,p6,p7⟩:=place_law h hr hf hp
  rcases p6 with⟨hz,_⟩ | ⟨h20,hd⟩
  · exact absurd hz hcd
  · exact⟨p1,p2,p3,p4,fun hu=>(p5 hu).1,p7,.inr ⟨h0,h1,.inr ⟨h20,hd⟩⟩⟩
 | got Q t X1 i1 D1 at_ h0 h1 hno hl hp =>
  obtain⟨m,rfl⟩:∃m:Nat,id=m:=⟨id.toNat,by omega⟩
  rw[Int.toNat_natCast]at hl
  obtain⟨p1,p2,p3,p4,p5,p6,p7⟩:=place_law h hr hf hp
  rcases ld_law h (by omega) (hno' hno) hl with⟨_,h20⟩ | ⟨_,_,hQ⟩
  · exact absurd h20 (by decide)
  rcases p6 with⟨_,hat,hids⟩ | ⟨h20,_⟩
  rotate_left
  · exact absurd h20 (by decide)
  have hfill:=p1.fill (i:=at_) (m:=m) (s:={id:=m,P:=Q,st:=t,dirty:=false,warm:=true}) hat rfl (by rw[p3];omega) (fun a u hu he=>by
   rcases hids a u hu with h2 | ⟨b,t,ht,h3⟩
   · rw[he]at h2;omega
   · exact hno' hno b t ht (by rw[h3];exact he)) rfl rfl (by rw[hQ])
  refine⟨hfill,p2,p3,p4,fun hu=>(p5 hu).1,fun N hN=>?_,.inr ⟨h0,h1,.inl ⟨rfl,by rw[Int.toNat_natCast];exact hQ⟩⟩⟩
  obtain⟨k,h2,h3⟩:=p7 N hN
  have e1:=nDirty_set (s':={id:=(m:Int),P:=Q,st:=t,dirty:=false,warm:=true}) hat
  simp only[slBlank,Bool.false_eq_true,if_false]at e1
  exact⟨k,h2,by show k+4*nDirty (X1.slots.set at_ {id:=(m:Int),P:=Q,st:=t,dirty:=false,warm:=true})≤N;omega⟩
theorem put_law (h:PInv X D M) (hr:first+n≤X.base) (hf:X.base+4*X.pages≤D.firm.length) {id:Int} {x:Pg} {st:Int} (hst:st≤1152921504606846976) {c:Int} {X1:Pl} {i1:Nat} {D1:Dev} (hg:PutRel first n bb P rs X i0 D id x st c X1 i1 D1) :
  X1.base=X.base∧X1.pages=X.pages∧D1.firm.length=D.firm.length∧(D.up→D1.up)∧(∀N,Pot N D X.slots→Pot (N+4) D1 X1.slots) ∧
  (((id<0∨(X.pages:Int)≤id∨st<0∨¬PgOk x)∧c=1∧X1=X∧D1=D)∨(0≤id∧id<X.pages∧0≤st∧PgOk x∧((c=0∧PInv X1 D1 (upd M id.toNat (x,st)))∨(c=20∧D1.down=true∧PInv X1 D1 M)))):=by
 have hno':(∀s∈X.slots,s.id≠id)→∀(a:Nat) (u:Slot),X.slots[a]? = some u→u.id≠id:=fun h a u hu=>h u (List.mem_of_getElem? hu)
 cases hg with
 | bad hb=>exact⟨rfl,rfl,rfl,fun hu=>hu,fun N ⟨m,h1,h2⟩=>⟨m,h1,by omega⟩,.inl ⟨hb,rfl,rfl,rfl⟩⟩
 | over i s h0 h1 h2 h3 hs he =>
  obtain⟨m,rfl⟩:∃m:Nat,id=m:=⟨id.toNat,by omega⟩
  have hput:=h.put (i:=i) (m:=m) (s:={id:=m,P:=x,st:=st,dirty:=true,warm:=true}) hs (by omega) (fun a u hu ha he'=>ha (h.uniq a i u s hu hs (by rw[he',he]) (by omega))) (.inr he) rfl rfl ⟨h3,h2,hst⟩
  refine⟨rfl,rfl,rfl,fun hu=>hu,fun N ⟨k,h4,h5⟩=>?_,.inr ⟨h0,h1,h2,h3,.inl ⟨rfl,by rw[Int.toNat_natCast];exact hput⟩⟩⟩
  have e1:=nDirty_set (s':={id:=(m:Int),P:=x,st:=st,dirty:=true,warm:=true}) hs
  simp only[if_true]at e1
  exact⟨k,h4,by show k+4*nDirty (X.slots.set i {id:=(m:Int),P:=x,st:=st,dirty:=true,warm:=true})≤N+4;omega⟩
 | full X1 i1 D1 cd at_ h0 h1 h2 h3 hno hp hcd =>
  obtain⟨p1,p2,p3,p4,p5,p6,p7⟩:=place_law h hr hf hp
  rcases p6 with⟨hz,_⟩ | ⟨h20,hd⟩
  · exact absurd hz hcd
  · exact⟨p2,p3,p4,fun hu=>(p5 hu).1,fun N hN=>let ⟨k,h4,h5⟩:=p7 N hN;⟨k,h4,by omega⟩,.inr ⟨h0,h1,h2,h3,.inr ⟨h20,hd,p1⟩⟩⟩
 | new X1 i1 D1 at_ h0 h1 h2 h3 hno hp =>
  obtain⟨m,rfl⟩:∃m:Nat,id=m:=⟨id.toNat,by omega⟩
  obtain⟨p1,p2,p3,p4,p5,p6,p7⟩:=place_law h hr hf hp
  rcases p6 with⟨_,hat,hids⟩ | ⟨h20,_⟩
  rotate_left
  · exact absurd h20 (by decide)
  have hput:=p1.put (i:=at_) (m:=m) (s:={id:=m,P:=x,st:=st,dirty:=true,warm:=true}) hat (by rw[p3];omega) (fun a u hu ha he=>by
   rcases hids a u hu with h2 | ⟨b,t,ht,h3⟩
   · rw[he]at h2;omega
   · exact hno' hno b t ht (by rw[h3];exact he)) (.inl rfl) rfl rfl ⟨h3,h2,hst⟩
  refine⟨p2,p3,p4,fun hu=>(p5 hu).1,fun N hN=>?_,.inr ⟨h0,h1,h2,h3,.inl ⟨rfl,by rw[Int.toNat_natCast];exact hput⟩⟩⟩
  obtain⟨k,h4,h5⟩:=p7 N hN
  have e1:=nDirty_set (s':={id:=(m:Int),P:=x,st:=st,dirty:=true,warm:=true}) hat
  simp only[slBlank,Bool.false_eq_true,if_false,if_true]at e1
  exact⟨k,h4,by show k+4*nDirty (X1.slots.set at_ {id:=(m:Int),P:=x,st:=st,dirty:=true,warm:=true})≤N+4;omega⟩
theorem fs_law (h:PInv X D M) (hr:first+n≤X.base) (hf:X.base+4*X.pages≤D.firm.length) {k:Nat} {l:List Slot} {i1:Nat} {D1:Dev} (hg:FsRel first n bb P rs X i0 D k l i1 D1) :
  PInv {X with slots:=l} D1 M∧D1.firm.length=D.firm.length∧(D.up→D1.up)∧(∀(j:Nat) (s:Slot),j<k→l[j]? = some s→s.dirty=false)∧∀N,Pot N D X.slots→Pot N D1 l:=by
 induction hg with
 | zero=>exact⟨h,rfl,fun hu=>hu,fun j s hj=>by omega,fun N hN=>hN⟩
 | skip k l i1 D1 s _ hs hd ih =>
  obtain⟨q1,q2,q3,q4,q5⟩:=ih
  refine⟨q1,q2,q3,fun j u hj hu=>?_,q5⟩
  by_cases hjk:j=k
  ·subst hjk
   rw[hs]at hu
   injection hu with hu
   rw[←hu];exact hd
  · exact q4 j u (by omega) hu
 | wrote k l i1 D1 s i2 D2 _ hs hd hw ih =>
  obtain⟨q1,q2,q3,q4,q5⟩:=ih
  refine⟨q1.wrote (n:=n) (first:=first) hr (by rw[q2];exact hf) hs hd hw,by rw[hw.len,q2],fun hu=>(hw.up (q3 hu)).1,fun j u hj hu=>?_,fun N hN=>?_⟩
  ·rcases set_cases hu with⟨_,rfl⟩ | ⟨hj',hu1⟩
   · rfl
   · exact q4 j u (by omega) hu1
  ·obtain⟨m,h1,h2⟩:=q5 N hN
   have e1:=nDirty_set (s':={s with dirty:=false}) hs
   rw[hd]at e1
   simp only[Bool.false_eq_true,if_false,if_true]at e1
   exact⟨m+4,hw.softB h1,by omega⟩
theorem flush_law2 (h:PInv X D M) (hr:first+n≤X.base) (hf:X.base+4*X.pages≤D.firm.length) {c:Int} {l:List Slot} {i1:Nat} {D1:Dev} (hg:FlushRel first n bb P rs X i0 D c l i1 D1) :
  PInv {X with slots:=l} D1 M∧D1.firm.length=D.firm.length∧(D.up→D1.up)∧(∀N,Pot N D X.slots→Pot N D1 l)∧((c=0∧∀(j:Nat) (s:Slot),l[j]? = some s→s.dirty=false)∨(c=20∧D1.down=true)):=by
 cases hg with
 | fail k l i2 D2 s _ _ hfs hs hd hw =>
  obtain⟨q1,q2,q3,q4,q5⟩:=fs_law h hr hf hfs
  have hdn:D1.down=true:=by
   rcases hw.code with⟨h0,_⟩ | ⟨_,h0⟩
   · exact absurd h0 (by decide)
   · exact h0
  refine⟨⟨q1.uniq,q1.hold,q1.dty,(fun h0=>by rw[hdn]at h0;cases h0),q1.mok⟩,by rw[hw.len,q2],fun hu=>by have:=hw.up (q3 hu);exact absurd this.2 (by decide),fun N hN=>?_,.inr ⟨rfl,hdn⟩⟩
  obtain⟨m,h1,h2⟩:=q5 N hN
  have hsf:SoftB m D1:=by
   rcases hw with⟨hw,_⟩ | ⟨D3,h3,h4⟩
   · exact hw.softB h1
   ·have h5:=h3.softB h1
    rcases h5 with h5 | ⟨h5,h6⟩
    · exact .inr ⟨hdn,by have:=h4.soft;omega⟩
    · rw[h4.dead h5];exact .inr ⟨h5,h6⟩
  exact⟨m,hsf,h2⟩
 | done l i2 D2 hfs hok2 =>
  obtain⟨q1,q2,q3,q4,q5⟩:=fs_law h hr hf hfs
  have hll:=hfs.len
  have hof:=off_barrier 0 D2 hok2
  have hseen:∀p,D2.barrier.1.at p=D2.at p:=fun p=>hof.seen p (Nat.zero_le _)
  have hdn:D2.barrier.1.down=false→D2.down=false:=fun h0=>by
   cases hd:D2.down with
   | false=>rfl
   | true=>rw[hof.dead hd,hd]at h0;cases h0
  refine⟨⟨q1.uniq,q1.hold,q1.dty,fun h0 id hid hcl j hj=>by rw[hseen];exact q1.dev (hdn h0) id hid hcl j hj,q1.mok⟩,by rw[hof.len,q2],fun hu=>barrier_up (q3 hu),fun N hN=>?_,?_⟩
  ·obtain⟨m,h1,h2⟩:=q5 N hN
   refine⟨m,?_,h2⟩
   have hb:=barrier_soft D2
   rcases h1 with h1 | ⟨h1,h3⟩
   · exact .inl (by omega)
   · rw[hof.dead h1];exact .inr ⟨h1,h3⟩
  ·rcases barrier_cases D2 with⟨hc,_,hd⟩ | ⟨_,hc,_⟩
   · exact .inr ⟨hc,hd⟩
   · exact .inl ⟨hc,fun j s hs=>q4 j s (by rw[←hll];exact(List.getElem?_eq_some_iff.1 hs).1) hs⟩
end
end Go.Proofs.YtimomjheanfbmaaGreatDoor
namespace Go.Proofs.YtimomjheanfbmaaGreatDoor
open Go.RowKit
structure Kp (w0 w:World) (L:List Nat) (p lp dp:Nat) (rs:List ByteArray) (i0:Nat) (X:Pl) (sv:Value) (S Sl Sd:List Nat) (D:Dev) (M:Nat→Pg×Int) (N:Nat):Prop where
 pw:Pw w p lp dp 0 128 1 P0 rs i0 X sv S Sl Sd D
 inv:PInv X D M
 up:D.up
 pot:Pot N D X.slots
 nN:N≤4*rs.length+100
 fr:∀k,k∈S∨k∈Sl∨k∈Sd→w0.heap.size≤k∧k∉L
 loc:∀k∈L,k<w.heap.size
 bel:Below w0.heap.size w0 w
 b128:X.base=128
def Own (w0:World) (L:List Nat):Nat→Prop:=fun k=>w0.heap.size≤k∧k∉L
section
variable {w0 w w':World} {L:List Nat} {p lp dp:Nat} {rs:List ByteArray} {i0:Nat} {X:Pl} {sv:Value} {S Sl Sd:List Nat} {D:Dev} {M:Nat→Pg×Int} {N:Nat}
end
section
variable {w0 w:World} {L:List Nat} {p lp dp pg:Nat} {rs:List ByteArray} {M:Nat→Pg×Int} {N:Nat}
end
end Go.Proofs.YtimomjheanfbmaaGreatDoor
namespace Go.Proofs.YtimomjheanfbmaaGreatDoor
open Go.RowKit
theorem sec_zero:∀i,i<4→sec (pageS pageZ) 0 i=zeros 64:=by
 have h:(sec (pageS pageZ) 0 0).data=(zeros 64).data∧(sec (pageS pageZ) 0 1).data=(zeros 64).data∧(sec (pageS pageZ) 0 2).data=(zeros 64).data∧(sec (pageS pageZ) 0 3).data=(zeros 64).data:=by decide +kernel
 intro i hi
 match i,hi with
 | 0,_=>exact ByteArray.ext h.1
 | 1,_=>exact ByteArray.ext h.2.1
 | 2,_=>exact ByteArray.ext h.2.2.1
 | 3,_=>exact ByteArray.ext h.2.2.2
theorem pageZ_ok:PgOk pageZ:=⟨⟨by decide,by decide,by decide,by decide,by decide,by decide,by decide,by decide⟩,fun i hi=>⟨Int.le_refl 0,by show (0:Int)≤2;decide,by show (ByteArray.size ⟨#[]⟩)≤34;decide,fun _=>rfl⟩⟩
def M0:Nat→Pg×Int:=fun _=>(pageZ,0)
theorem new_at (N p:Nat) (hp:p<N):(Dev.new N).at p=zeros 64:=by
 unfold Dev.at Dev.new
 rw[List.getD_eq_getElem?_getD,List.getElem?_replicate,if_pos hp];rfl
theorem pinv_new (N:Nat) (base pages room:Nat) (h:base+4*pages≤N):PInv {base:=base,pages:=pages,room:=room,slots:=[],hand:=0} (Dev.new N) M0:=by
 refine⟨fun i j s t hs=>by simp at hs,fun i s hs=>by simp at hs,fun i s hs=>by simp at hs,fun _ id hid _ i hi=>?_,fun id _=>⟨pageZ_ok,Int.le_refl 0,by show (0:Int)≤1152921504606846976;decide⟩⟩
 have hid:id<pages:=hid
 rw[new_at N _ (by show base+4*id+i<N;omega)]
 exact(sec_zero i hi).symm
structure Lk (w0 w:World) (L:List Nat) (lp dp N0:Nat) (Sl Sd:List Nat):Prop where
 ws:Ws w lp dp 0 128 1 P0 [] 0 Sl Sd (Dev.new N0)
 fr:∀k,k∈Sl∨k∈Sd→w0.heap.size≤k∧k∉L
 loc:∀k∈L,k<w.heap.size
 bel:Below w0.heap.size w0 w
theorem lk_create {w0 w:World} {L:List Nat} {dp N0:Nat} {Sd:List Nat} (hN:N0≤16384) (h3:128≤N0) (hd:DiskAt w dp (Dev.new N0) Sd) (fr:∀k∈Sd,w0.heap.size≤k∧k∉L) (loc:∀k∈L,k<w.heap.size) (bel:Below w0.heap.size w0 w) :
  Calls Tryz.prog 21 #[.pointer (some ⟨dp,0,none⟩),.int .i64 0,.int .i64 128] w fun e w'=>∃lp Sl Sd',e = .returned (.tuple #[.pointer (some ⟨lp,0,none⟩),.int .i64 0])∧Lk w0 w' L lp dp N0 Sl Sd'∧Keeps (Own w0 L) w w':=by
 refine(wal_create0 dp N0 Sd hN h3 w hd).mono fun e w' ⟨lp,Sl,Sd',he,hl,hd',hk,hS,hSd⟩=>?_
 have hko:Keeps (Own w0 L) w w':=hk.mono (fun k _ hk'=>fr k hk')
 refine⟨lp,Sl,Sd',he,⟨⟨hl,hd',new_has N0 0 (by omega) (by omega),fun k hk=>(hS k hk).2,(fun x hx=>by cases hx),Nat.le_refl _,by decide,by decide,SoftOk.none rfl⟩,fun k hk'=>?_,fun k hk'=>Nat.lt_of_lt_of_le (loc k hk') hk.size,bel.trans (hko.belowB bel.size (fun k hk'=>hk'.1))⟩,hko⟩
 have fresh:∀k,w.heap.size≤k→w0.heap.size≤k∧k∉L:=fun k h3=>⟨Nat.le_trans bel.size h3,fun h4=>by have:=loc k h4;omega⟩
 rcases hk' with hk' | hk'
 · exact fresh k (hS k hk').1
 ·rcases hSd k hk' with h4 | h4
  · exact fr k h4
  · exact fresh k h4
end Go.Proofs.YtimomjheanfbmaaGreatDoor
namespace Go.Proofs.YtimomjheanfbmaaGreatDoor
open Go.RowKit
end Go.Proofs.YtimomjheanfbmaaGreatDoor
namespace Go.Proofs.YtimomjheanfbmaaGreatDoor
open Go.RowKit
end Go.Proofs.YtimomjheanfbmaaGreatDoor
namespace Go.Proofs.YtimomjheanfbmaaGreatDoor
open Go.RowKit
theorem Tryz.info_page:(Tryz.prog.info? 49).map (fun i=>(i.zero,i.size,i.bytes))=some (some (.agg (pgC pageZ)),16,176):=by kernel_rfl
theorem range_below {w wr:World} {b o:Nat} {l:List Value} (h:w.rangeAt b o l) (hb:b<w.heap.size) (hB:Below w.heap.size w wr):wr.rangeAt b o l:=fun j v hj=>by
 rw[←h j v hj]
 unfold World.cell?
 rw[hB.block b hb]
end Go.Proofs.YtimomjheanfbmaaGreatDoor
namespace Go.Proofs.YtimomjheanfbmaaGreatDoor
open Go.RowKit
def pgRow (f:Nat→Pg):Nat→List Value
 | 0=>[]
 | n+1=>pgRow f n++(pgC (f n)).toList
theorem pgRow_length (f:Nat→Pg):∀n,(pgRow f n).length=n*16
 | 0=>rfl
 | n+1=>by rw[pgRow,List.length_append,pgRow_length f n];show n*16+16=_;omega
theorem pgRow_congr {f g:Nat→Pg}:∀n,(∀i,i<n→pgC (f i)=pgC (g i))→pgRow f n=pgRow g n
 | 0,_=>rfl
 | n+1,h=>by rw[pgRow,pgRow,pgRow_congr n (fun i hi=>h i (by omega)),h n (by omega)]
theorem setL_left:∀(vs A B:List Value) (o:Nat),o+vs.length≤A.length→setL (A++B) o vs=setL A o vs++B
 | [],A,B,o,h=>rfl
 | v::vs,A,B,o,h=>by
  simp only[List.length_cons]at h
  rw[setL,setL,List.set_append_left _ _ (by omega),setL_left vs (A.set o v) B (o+1) (by rw[List.length_set];omega)]
theorem pgRow_set (f:Nat→Pg) (x:Pg):∀(n i:Nat),i<n→setL (pgRow f n) (16*i) (pgC x).toList=pgRow (fun k=>if k=i then x else f k) n
 | 0,i,hi=>by omega
 | n+1,i,hi=>by
  rw[pgRow,pgRow]
  by_cases hin:i=n
  ·subst hin
   have h1:=setL_eq (pgC x).toList (pgRow f i) (pgC (f i)).toList [] rfl
   rw[pgRow_length,List.append_nil,List.append_nil,Nat.mul_comm i 16]at h1
   rw[h1,if_pos rfl]
   rw[pgRow_congr (f:=f) (g:=fun k=>if k=i then x else f k) i (fun k hk=>by show pgC (f k)=pgC (if k=i then x else f k);rw[if_neg (by omega)])]
  · rw[setL_left _ _ _ _ (by rw[pgRow_length];show 16*i+16≤_;omega),pgRow_set f x n i (by omega),if_neg (fun e=>hin e.symm)]
theorem pgRow_get (f:Nat→Pg):∀(n i:Nat),i<n→∀(j:Nat) (v:Value),(pgC (f i)).toList[j]? = some v→(pgRow f n)[16*i+j]? = some v
 | 0,i,hi,j,v,hj=>by omega
 | n+1,i,hi,j,v,hj=>by
  have hjl:j<16:=(List.getElem?_eq_some_iff.1 hj).1
  rw[pgRow]
  by_cases him:i=n
  ·subst him
   rw[List.getElem?_append_right (by rw[pgRow_length];omega),pgRow_length,show 16*i+j-i*16=j by omega]
   exact hj
  ·rw[List.getElem?_append_left (by rw[pgRow_length];omega)]
   exact pgRow_get f n i (by omega) j v hj
theorem row_at {w:World} {e:TypeId} {g n c:Nat} {f:Nat→Pg} (h:OwnS w e 16 (.slice (some ⟨g,0,none⟩) n c) n (pgRow f n)) (i:Nat) (hi:i<n):w.rangeAt g (i*16) (pgC (f i)).toList:=fun j v hj=>by
 have h2:=pgRow_get f n i hi j v hj
 have:=World.ownsRow.cells h (g:=g) rfl (16*i+j) v h2
 rw[Addr.add_mid,Nat.zero_add]at this
 rw[Nat.mul_comm i 16]
 exact this
theorem row_there {w:World} {e:TypeId} {g n c:Nat} {f:Nat→Pg} (h:OwnS w e 16 (.slice (some ⟨g,0,none⟩) n c) n (pgRow f n)) (i:Nat) (hi:i<n):w.there g (i*16) 16:=fun j hj=>by
 refine⟨?_,?_⟩
 ·obtain⟨v,hv⟩:∃v,(pgC (f i)).toList[j]? = some v:=⟨_,List.getElem?_eq_getElem (show j<(pgC (f i)).toList.length from hj)⟩
  rw[row_at h i hi j v hv]
  rfl
 ·rcases h.2 with⟨he,_⟩ | ⟨g1,cap,cur,he,hb,hg,hnc,hcm,hcs,htake⟩
  · simp at he
  ·simp only[Value.slice.injEq,Option.some.injEq,Addr.mk.injEq,and_true,true_and]at he
   obtain⟨rfl,rfl⟩:=he
   exact free_at hg _
end Go.Proofs.YtimomjheanfbmaaGreatDoor
namespace Go.Proofs.YtimomjheanfbmaaGreatDoor
open Go.RowKit
section
variable {w0 w:World} {L:List Nat} {p lp dp:Nat} {rs:List ByteArray} {M:Nat→Pg×Int} {N:Nat}
end
end Go.Proofs.YtimomjheanfbmaaGreatDoor
namespace Go.Proofs.YtimomjheanfbmaaGreatDoor
open Go.RowKit
open Go.Maps (Keyed int_keyed keyOf_int_mk)
def Kx (w0 w:World) (L:List Nat) (p lp dp:Nat) (rs:List ByteArray) (M:Nat→Pg×Int) (N:Nat) (F:Pl→Prop):Prop :=
 ∃i0 X sv S Sl Sd D,Kp w0 w L p lp dp rs i0 X sv S Sl Sd D M N∧F X
section
variable {w0 w w':World} {L:List Nat} {p lp dp:Nat} {rs:List ByteArray} {M:Nat→Pg×Int} {N:Nat} {F:Pl→Prop}
end
section
variable {w0 w w':World} {L:List Nat} {p lp dp:Nat} {rs:List ByteArray} {M:Nat→Pg×Int} {N pg fr:Nat} {T:Int→Bool}
end
theorem kx_pool {w0 w:World} {L:List Nat} {lp dp N0:Nat} {Sl Sd:List Nat} (h:Lk w0 w L lp dp N0 Sl Sd) (pages frames:Nat) (h1:1≤pages) (h2:pages≤1024) (h3:4≤frames) (h4:frames≤256) (h5:128+4*pages≤N0) :
  Calls Tryz.prog 22 #[.pointer (some ⟨dp,0,none⟩),.pointer (some ⟨lp,0,none⟩),.int .i64 128,.int .i64 pages,.int .i64 frames] w fun e w'=>∃p,e = .returned (.tuple #[.pointer (some ⟨p,0,none⟩),.int .i64 0])∧Kx w0 w' L p lp dp [] M0 0 (fun X=>X.pages=pages∧X.room=frames∧X.slots=[])∧Keeps (Own w0 L) w w':=by
 have hlen:(Dev.new N0).firm.length=N0:=List.length_replicate
 refine(pl_new h.ws 128 pages frames h1 h2 h3 h4 (by rw[hlen];exact h5) (by omega)).mono fun e w' ⟨p,he,hp,hb,hpl⟩=>⟨p,he,⟨0,_,_,[p],Sl,Sd,Dev.new N0,⟨hp,pinv_new N0 128 pages frames h5,⟨rfl,rfl⟩,⟨0,.inl (by simp[Dev.new]),by simp[nDirty]⟩,by simp,fun k hk=>?_,fun k hk=>Nat.lt_of_lt_of_le (h.loc k hk) hb.size,bT h.bel hb,rfl⟩,rfl,rfl,rfl⟩,Keeps.of_below _ hb⟩
 rcases hk with hk | hk
 ·have:=List.mem_singleton.1 hk
  subst this
  exact⟨Nat.le_trans h.bel.size hpl,fun h4=>by have:=h.loc k h4;omega⟩
 · exact h.fr k hk
end Go.Proofs.YtimomjheanfbmaaGreatDoor
namespace Go.Proofs.YtimomjheanfbmaaGreatDoor
open Go.RowKit
end Go.Proofs.YtimomjheanfbmaaGreatDoor
namespace Go.Proofs.YtimomjheanfbmaaGreatDoor
open Go.RowKit
theorem made_row (n:Nat):(madeCells (pgC pageZ) (n*16)).toList=pgRow (fun i=>(M0 i).1) n:=by
 apply List.ext_getElem?
 intro j
 by_cases hj:j<n*16
 ·have h16:j%16<16:=Nat.mod_lt _ (by omega)
  obtain⟨v,hv⟩:∃v,(pgC pageZ).toList[j%16]? = some v:=⟨_,List.getElem?_eq_getElem (show j%16<(pgC pageZ).toList.length from h16)⟩
  have h1:=pgRow_get (fun i=>(M0 i).1) n (j/16) (by omega) (j%16) v hv
  rw[show 16*(j/16)+j%16=j by omega]at h1
  rw[h1]
  have h2:(pgC pageZ)[j%16]! = v:=by
   rw[getElem!_def,←Array.getElem?_toList,hv]
  simp[madeCells,hj,show (pgC pageZ).size=16 from rfl,h2]
 · rw[List.getElem?_eq_none (by rw[Array.length_toList,size_madeCells];omega),List.getElem?_eq_none (by rw[pgRow_length];omega)]
theorem step_store_row {ops:Array Oper} {o:Oper} {a:Act} {w:World} {K:Act→World→Prop} {Q:Exit→Act→World→Prop} {E:Prop} (hgd:o.guard=none) (x y:Operand) (ho:o.op = .store 49 x y)
  (e:TypeId) (g i c n:Nat) (f:Nat→Pg) (s':Pg) (hx:a.eval x = .pointer (some ⟨g,i*16,none⟩)) (hy:a.eval y = .agg (pgC s')) (H:OwnS w e 16 (.slice (some ⟨g,0,none⟩) n c) n (pgRow f n)) (hi:i<n)
  (h:∀w',Hid (OwnS w' e 16 (.slice (some ⟨g,0,none⟩) n c) n (pgRow (fun k=>if k=i then s' else f k) n))→Hid (Keeps (· = g) w w')→K (a.put o.dst undef) w'):if Region.wanted o (yielded ops a.tmps)=true then Oper.wp Tryz.prog o a w K Q else E:=by
 have hw:Region.wanted o (yielded ops a.tmps)=true:=by simp[Region.wanted,hgd]
 rw[if_pos hw]
 refine wp_store_mid 49 x y ho g (i*16) (pgC s') hx hy (row_there H i hi) (by show _=some 16;kernel_rfl) (Array.all_eq_true_iff_forall_mem.2 (fun v hv=>pgC_one s' v (by simpa using hv))) ?_
 refine h _ ?_ (Keeps.setCells (S:=fun x=>x=g) (a:=w) (b:=g) (.inl rfl) _ _ (Keeps.refl _ _))
 have h2:=OwnS.cells H (pgC s').toList (i*16)
 rw[Nat.mul_comm i 16,pgRow_set f s' n i hi]at h2
 rw[Nat.mul_comm i 16]
 exact h2
end Go.Proofs.YtimomjheanfbmaaGreatDoor
