import Derived.Test.YtimomjheanfbmaaGreatDoorQaa
import Derived.Test.YtimomjheanfbmaaGreatDoorRan
import Derived.Test.YtimomjheanfbmaaGreatDoorRaf
import Derived.Test.YtimomjheanfbmaaGreatDoorRao
import Derived.Test.YtimomjheanfbmaaGreatDoorQam
import Derived.Test.YtimomjheanfbmaaGreatDoorQag
import Derived.Deep.DeepCutAuto
import Derived.Deep.CutBlock
import Derived.BigRegion
set_option linter.unusedSimpArgs false
set_option linter.unusedVariables false
namespace Go.Proofs.YtimomjheanfbmaaGreatDoor.G
open Go.RowKit
structure Gp (w0 w:World) (L:List Nat) (p lp dp bb:Nat) (P:ByteArray) (rs:List ByteArray) (i0:Nat) (X:Pl) (sv:Value) (S Sl Sd:List Nat) (D:Dev) (M:Nat→Pg×Int) (N:Nat):Prop where
 pw:Pw w p lp dp 0 128 bb P rs i0 X sv S Sl Sd D
 inv:PInv X D M
 up:D.up
 pot:Pot N D X.slots
 nN:N≤54*bb+P.size+lenL rs
 b9:bb≤1000000000
 fr:∀k,k∈S∨k∈Sl∨k∈Sd→w0.heap.size≤k∧k∉L
 loc:∀k∈L,k<w.heap.size
 bel:Below w0.heap.size w0 w
 b128:X.base=128
 pg6:X.pages=6
section
variable {w0 w w':World} {L:List Nat} {p lp dp bb:Nat} {P:ByteArray} {rs:List ByteArray} {i0:Nat} {X:Pl} {sv:Value} {S Sl Sd:List Nat} {D:Dev} {M:Nat→Pg×Int} {N:Nat}
theorem Gp.count (h:Gp w0 w L p lp dp bb P rs i0 X sv S Sl Sd D M N):rs.length≤2304∧P.size+lenL rs≤6912∧P.size<54:=by
 have h1:=lenL_len h.pw.ws.rok
 have h2:=h.pw.ws.len.2.2
 have h3:=h.pw.ws.pre
 omega
theorem Gp.big (h:Gp w0 w L p lp dp bb P rs i0 X sv S Sl Sd D M N):N≤60000000000:=by
 have h1:=h.count
 have h2:=h.nN
 have h3:=h.b9
 omega
theorem Gp.later (h:Gp w0 w L p lp dp bb P rs i0 X sv S Sl Sd D M N) (hb:Below w.heap.size w w'):Gp w0 w' L p lp dp bb P rs i0 X sv S Sl Sd D M N :=
 ⟨h.pw.later hb,h.inv,h.up,h.pot,h.nN,h.b9,h.fr,fun k hk=>Nat.lt_of_lt_of_le (h.loc k hk) hb.size,bT h.bel hb,h.b128,h.pg6⟩
theorem Gp.keep3 {R:Nat→Prop} (h:Gp w0 w L p lp dp bb P rs i0 X sv S Sl Sd D M N) (hk:Keeps R w w') (hL:∀k,R k→k∈L∧w0.heap.size≤k):Gp w0 w' L p lp dp bb P rs i0 X sv S Sl Sd D M N :=
 ⟨⟨h.pw.pool.keep hk (fun k hk' h'=>(h.fr k (.inl hk')).2 (hL k h').1),h.pw.ws.keep hk (fun k hk' h'=>(h.fr k (.inr (.inl hk'))).2 (hL k h').1) (fun k hk' h'=>(h.fr k (.inr (.inr hk'))).2 (hL k h').1),h.pw.dl,h.pw.dd,h.pw.ring,h.pw.fit⟩,h.inv,h.up,h.pot,h.nN,h.b9,h.fr,fun k hk'=>Nat.lt_of_lt_of_le (h.loc k hk') hk.size,h.bel.trans (hk.belowB h.bel.size (fun k hk'=>(hL k hk').2)),h.b128,h.pg6⟩
theorem Gp.relist (h:Gp w0 w L p lp dp bb P rs i0 X sv S Sl Sd D M N) (L':List Nat) (hl:∀k∈L',k<w.heap.size) (hn:∀k∈L',k∈L∨(k∉S∧k∉Sl∧k∉Sd)):Gp w0 w L' p lp dp bb P rs i0 X sv S Sl Sd D M N :=
 ⟨h.pw,h.inv,h.up,h.pot,h.nN,h.b9,fun k hk=>⟨(h.fr k hk).1,fun hk'=>by
  rcases hn k hk' with h1 | ⟨h1,h2,h3⟩
  · exact(h.fr k hk).2 h1
  ·rcases hk with h4 | h4 | h4
   · exact h1 h4
   · exact h2 h4
   · exact h3 h4⟩,hl,h.bel,h.b128,h.pg6⟩
theorem Gp.step (h:Gp w0 w L p lp dp bb P rs i0 X sv S Sl Sd D M N) {i1:Nat} {X1:Pl} {sv1:Value} {S1 Sd1:List Nat} {D1:Dev} {M1:Nat→Pg×Int} {N1:Nat}
  (hp:Pw w' p lp dp 0 128 bb P rs i1 X1 sv1 S1 Sl Sd1 D1) (hk:Keeps (fun k=>k∈S∨k∈Sl∨k∈Sd) w w') (hS:∀k∈S1,k∈S∨w.heap.size≤k) (hSd:∀k∈Sd1,k∈Sd∨w.heap.size≤k) (hi:PInv X1 D1 M1) (hu:D1.up) (hpt:Pot N1 D1 X1.slots) (hN:N1≤54*bb+P.size+lenL rs) (hb:X1.base=X.base) (hpg:X1.pages=X.pages) :
  Gp w0 w' L p lp dp bb P rs i1 X1 sv1 S1 Sl Sd1 D1 M1 N1∧Keeps (Own w0 L) w w':=by
 have hko:Keeps (Own w0 L) w w':=hk.mono (fun k _ hk'=>h.fr k hk')
 refine⟨⟨hp,hi,hu,hpt,hN,h.b9,fun k hk'=>?_,fun k hk'=>Nat.lt_of_lt_of_le (h.loc k hk') hk.size,h.bel.trans (hko.belowB h.bel.size (fun k hk'=>hk'.1)),by rw[hb];exact h.b128,by rw[hpg];exact h.pg6⟩,hko⟩
 have fresh:∀k,w.heap.size≤k→w0.heap.size≤k∧k∉L:=fun k h3=>⟨Nat.le_trans h.bel.size h3,fun h4=>by have:=h.loc k h4;omega⟩
 rcases hk' with hk' | hk' | hk'
 ·rcases hS k hk' with h3 | h3
  · exact h.fr k (.inl h3)
  · exact fresh k h3
 · exact h.fr k (.inr (.inl hk'))
 ·rcases hSd k hk' with h3 | h3
  · exact h.fr k (.inr (.inr h3))
  · exact fresh k h3
end
def refuses (bb:Nat) (P:ByteArray) (rs:List ByteArray) (r:ByteArray):Bool:=((mkLg 0 128 bb P rs 0).refuse r).isSome
theorem ws_append2 {w:World} {p dp bb:Nat} {P:ByteArray} {rs:List ByteArray} {i0:Nat} {S Sd:List Nat} {D:Dev} (h:Ws w p dp 0 128 bb P rs i0 S Sd D) (hb9:bb≤1000000000) (r:ByteArray) (hr:r.size≤maxLen) :
  Calls Tryz.prog 26 #[.pointer (some ⟨p,0,none⟩),.string r] w fun e w'=>(refuses bb P rs r=true∧∃c,c≠0∧(c=70∨r.size=0∨65535<r.size)∧e = .returned (.tuple #[.int .i64 0,.int .i64 c])∧Below w.heap.size w w') ∨
   (refuses bb P rs r=false∧e = .returned (.tuple #[.int .i64 ((54*bb+P.size+lenL rs:Nat):Int),.int .i64 0])∧∃S',Ws w' p dp 0 128 bb P (rs++[r]) i0 S' Sd D∧Keeps (· ∈ S) w w'∧∀k∈S',k∈S∨w.heap.size≤k):=by
 have hsame:(mkLg 0 128 bb P rs i0).refuse r=(mkLg 0 128 bb P rs 0).refuse r:=rfl
 cases hrf:(mkLg 0 128 bb P rs 0).refuse r with
 | some c =>
  have hc:c≠0∧(c=70∨r.size=0∨65535<r.size):=by
   unfold Lg.refuse at hrf
   by_cases h0:r.size=0
   · rw[if_pos h0]at hrf;injection hrf with hrf;exact⟨by omega,.inr (.inl h0)⟩
   ·rw[if_neg h0]at hrf
    by_cases h1:65535<r.size
    · rw[if_pos h1]at hrf;injection hrf with hrf;exact⟨by omega,.inr (.inr h1)⟩
    ·rw[if_neg h1]at hrf
     by_cases h2:(mkLg 0 128 bb P rs 0).room<2+(r.size:Int)
     · rw[if_pos h2]at hrf;injection hrf with hrf;exact⟨by omega,.inl (by omega)⟩
     · rw[if_neg h2]at hrf;cases hrf
  exact(wal_append_no p dp _ S r hr c (by rw[hsame];exact hrf) w h.log).mono fun e w' ⟨he,hb⟩ => .inl ⟨by unfold refuses;rw[hrf];rfl,c,hc.1,hc.2,he,hb⟩
 | none =>
  obtain⟨q1,q2,q3⟩:=refuse_none hrf
  have hb:=h.len
  refine(wal_append_ok p dp _ S r hr (by rw[hsame];exact hrf) (by show ((54*bb+P.size+lenL rs:Nat):Int)≤_;omega) w h.log).mono fun e w' ⟨he,S',hl,hk,hs⟩ => .inr ⟨by unfold refuses;rw[hrf];rfl,he,S',⟨?_,h.dsk.keep hk (fun k hk h'=>h.dis k h' hk),h.has.grow h.le r,fun k hk hkd=>?_,?_,?_,h.pre,h.bbs,h.soft⟩,hk,hs⟩
  · rw[←mkLg_push h.le];exact hl
  ·rcases hs k hk with h' | h'
   · exact h.dis k h' hkd
   · have:=h.dsk.lt k hkd;omega
  ·intro x hx
   rw[List.mem_append,List.mem_singleton]at hx
   rcases hx with hx | rfl
   · exact h.rok x hx
   · exact⟨by omega,q2⟩
  · have:=h.le;rw[List.length_append];omega
def Gx (w0 w:World) (L:List Nat) (p lp dp bb:Nat) (P:ByteArray) (rs:List ByteArray) (M:Nat→Pg×Int) (N:Nat):Prop :=
 ∃i0 X sv S Sl Sd D,Gp w0 w L p lp dp bb P rs i0 X sv S Sl Sd D M N
def Gf (w0 w:World) (L:List Nat) (p lp dp bb:Nat) (P:ByteArray) (rs:List ByteArray) (M:Nat→Pg×Int) (N:Nat):Prop :=
 ∃X sv S Sl Sd D,Gp w0 w L p lp dp bb P rs rs.length X sv S Sl Sd D M N
section
variable {w0 w w':World} {L:List Nat} {p lp dp bb:Nat} {P:ByteArray} {rs:List ByteArray} {M:Nat→Pg×Int} {N:Nat}
theorem Gf.any (h:Gf w0 w L p lp dp bb P rs M N):Gx w0 w L p lp dp bb P rs M N :=
 let ⟨X,sv,S,Sl,Sd,D,h1⟩:=h
 ⟨_,X,sv,S,Sl,Sd,D,h1⟩
theorem Gf.later (h:Gf w0 w L p lp dp bb P rs M N) (hb:Below w.heap.size w w'):Gf w0 w' L p lp dp bb P rs M N :=
 let ⟨X,sv,S,Sl,Sd,D,h1⟩:=h
 ⟨X,sv,S,Sl,Sd,D,h1.later hb⟩
theorem Gx.later (h:Gx w0 w L p lp dp bb P rs M N) (hb:Below w.heap.size w w'):Gx w0 w' L p lp dp bb P rs M N :=
 let ⟨i0,X,sv,S,Sl,Sd,D,h1⟩:=h
 ⟨i0,X,sv,S,Sl,Sd,D,h1.later hb⟩
theorem Gx.keep3 {R:Nat→Prop} (h:Gx w0 w L p lp dp bb P rs M N) (hk:Keeps R w w') (hL:∀k,R k→k∈L∧w0.heap.size≤k):Gx w0 w' L p lp dp bb P rs M N :=
 let ⟨i0,X,sv,S,Sl,Sd,D,h1⟩:=h
 ⟨i0,X,sv,S,Sl,Sd,D,h1.keep3 hk hL⟩
theorem Gx.bel (h:Gx w0 w L p lp dp bb P rs M N):Below w0.heap.size w0 w :=
 let ⟨i0,X,sv,S,Sl,Sd,D,h1⟩:=h
 h1.bel
theorem Gx.loc (h:Gx w0 w L p lp dp bb P rs M N):∀k∈L,k<w.heap.size :=
 let ⟨i0,X,sv,S,Sl,Sd,D,h1⟩:=h
 h1.loc
theorem Gx.count (h:Gx w0 w L p lp dp bb P rs M N):rs.length≤2304∧P.size+lenL rs≤6912∧P.size<54∧bb≤1000000000 :=
 let ⟨i0,X,sv,S,Sl,Sd,D,h1⟩:=h
 ⟨h1.count.1,h1.count.2.1,h1.count.2.2,h1.b9⟩
theorem Gx.more (h:Gx w0 w L p lp dp bb P rs M N) (hb:Below w.heap.size w w') (L':List Nat) (hl:∀k∈L',k<w'.heap.size) (hn:∀k∈L',k∈L∨w.heap.size≤k):Gx w0 w' L' p lp dp bb P rs M N :=
 let ⟨i0,X,sv,S,Sl,Sd,D,h1⟩:=h
 ⟨i0,X,sv,S,Sl,Sd,D,(h1.later hb).relist L' hl (fun k hk=>(hn k hk).imp (fun h=>h) (fun h=>⟨fun h'=>by have:=h1.pw.pool.lt k h';omega,fun h'=>by have:=h1.pw.ws.log.lt k h';omega,fun h'=>by have:=h1.pw.ws.dsk.lt k h';omega⟩))⟩
theorem Gx.less (h:Gx w0 w L p lp dp bb P rs M N) (L':List Nat) (hn:∀k∈L',k∈L):Gx w0 w L' p lp dp bb P rs M N :=
 let ⟨i0,X,sv,S,Sl,Sd,D,h1⟩:=h
 ⟨i0,X,sv,S,Sl,Sd,D,h1.relist L' (fun k hk=>h1.loc k (hn k hk)) (fun k hk => .inl (hn k hk))⟩
theorem Gx.mono (h:Gx w0 w L p lp dp bb P rs M N) {N':Nat} (h1:N≤N') (h2:N'≤54*bb+P.size+lenL rs):Gx w0 w L p lp dp bb P rs M N':=by
 obtain⟨i0,X,sv,S,Sl,Sd,D,hp⟩:=h
 refine⟨i0,X,sv,S,Sl,Sd,D,⟨hp.pw,hp.inv,hp.up,?_,h2,hp.b9,hp.fr,hp.loc,hp.bel,hp.b128,hp.pg6⟩⟩
 obtain⟨m,a,b⟩:=hp.pot
 exact⟨m,a,by omega⟩
theorem gx_append (h:Gx w0 w L p lp dp bb P rs M N) (r:ByteArray) (hr:r.size≤maxLen) :
  Calls Tryz.prog 26 #[.pointer (some ⟨lp,0,none⟩),.string r] w fun e w'=>((refuses bb P rs r=true∧∃c,c≠0∧(c=70∨r.size=0∨65535<r.size)∧e = .returned (.tuple #[.int .i64 0,.int .i64 c])∧Gx w0 w' L p lp dp bb P rs M N) ∨
   (refuses bb P rs r=false∧e = .returned (.tuple #[.int .i64 ((54*bb+P.size+lenL rs:Nat):Int),.int .i64 0])∧Gx w0 w' L p lp dp bb P (rs++[r]) M N))∧Keeps (Own w0 L) w w':=by
 obtain⟨i0,X,sv,S,Sl,Sd,D,h1⟩:=h
 refine(ws_append2 h1.pw.ws h1.b9 r hr).mono fun e w' hp=>?_
 rcases hp with⟨hrf,c,hc,hc2,he,hb⟩ | ⟨hrf,he,S',hw,hk,hs⟩
 · exact⟨.inl ⟨hrf,c,hc,hc2,he,i0,X,sv,S,Sl,Sd,D,h1.later hb⟩,Keeps.of_below _ hb⟩
 ·have hko:Keeps (Own w0 L) w w':=hk.mono (fun k _ hk'=>h1.fr k (.inr (.inl hk')))
  refine⟨.inr ⟨hrf,he,i0,X,sv,S,S',Sd,D,⟨⟨h1.pw.pool.keep hk (fun k hk' h'=>h1.pw.dl k hk' h'),hw,fun k hk' h'=>?_,h1.pw.dd,h1.pw.ring,h1.pw.fit⟩,h1.inv,h1.up,h1.pot,by have:=h1.nN;rw[lenL_append];omega,h1.b9,fun k hk'=>?_,fun k hk'=>Nat.lt_of_lt_of_le (h1.loc k hk') hk.size,h1.bel.trans (hko.belowB h1.bel.size (fun k hk'=>hk'.1)),h1.b128,h1.pg6⟩⟩,hko⟩
  ·rcases hs k h' with h3 | h3
   · exact h1.pw.dl k hk' h3
   · have:=h1.pw.pool.lt k hk';omega
  ·rcases hk' with hk' | hk' | hk'
   · exact h1.fr k (.inl hk')
   ·rcases hs k hk' with h3 | h3
    · exact h1.fr k (.inr (.inl h3))
    · exact⟨Nat.le_trans h1.bel.size h3,fun h4=>by have:=h1.loc k h4;omega⟩
   · exact h1.fr k (.inr (.inr hk'))
theorem gx_get (h:Gx w0 w L p lp dp bb P rs M N) (id:Int) :
  Calls Tryz.prog 24 #[.pointer (some ⟨p,0,none⟩),.int .i64 id] w fun e w'=>∃Q c,e = .returned (.tuple #[pgV Q,.int .i64 c])∧Gx w0 w' L p lp dp bb P rs M N∧Keeps (Own w0 L) w w' ∧
   ((0≤id∧id<6∧c=0∧pgC Q=pgC (M id.toNat).1)∨((id<0∨6≤id)∧c=1∧Q=pageZ)):=by
 obtain⟨i0,X,sv,S,Sl,Sd,D,h⟩:=h
 have hn:=h.big
 refine(pl_get h.pw N (by omega) h.pot.soft id).mono fun e w' ⟨Q,c,i1,X1,sv1,S1,Sd1,D1,he,hg,hp,hk,hS,hSd⟩=>?_
 obtain⟨g1,g2,g3,g4,g5,g6,g7⟩:=get_law h.inv h.pw.ring h.pw.fit hg
 obtain⟨k1,k2⟩:=h.step hp hk hS hSd g1 (g5 h.up) (g6 N h.pot) h.nN g2 g3
 refine⟨Q,c,he,⟨i1,X1,sv1,S1,Sl,Sd1,D1,k1⟩,k2,?_⟩
 rw[h.pg6]at g7
 rcases g7 with⟨r1,r2,r3⟩ | ⟨r1,r2,⟨r3,r4⟩ | ⟨_,r3⟩⟩
 · exact .inr ⟨by omega,r2,r3⟩
 · exact .inl ⟨r1,by omega,r3,r4⟩
 · have:=(g5 h.up).2;rw[r3]at this;cases this
theorem gx_put (h:Gx w0 w L p lp dp bb P rs M N) (hN:N+4≤54*bb+P.size+lenL rs) (id:Int) (x:Pg) (hx:∀i,i<6→(x.dt i).size≤maxLen) (st:Int) (hst:0≤st∧st≤1152921504606846976) :
  Calls Tryz.prog 27 #[.pointer (some ⟨p,0,none⟩),.int .i64 id,pgV x,.int .i64 st] w fun e w'=>∃c M1,e = .returned (.int .i64 c)∧Keeps (Own w0 L) w w'∧Gx w0 w' L p lp dp bb P rs M1 (N+4) ∧
   ((0≤id∧id<6∧PgOk x∧c=0∧M1=upd M id.toNat (x,st))∨(¬(0≤id∧id<6∧PgOk x)∧c=1∧M1=M)):=by
 obtain⟨i0,X,sv,S,Sl,Sd,D,h⟩:=h
 have hn:=h.big
 refine(pl_put h.pw N (by omega) h.pot.soft id x hx st hst.2).mono fun e w' ⟨c,i1,X1,sv1,S1,Sd1,D1,he,hg,hp,hk,hS,hSd⟩=>?_
 obtain⟨g2,g3,g4,g5,g6,g7⟩:=put_law h.inv h.pw.ring h.pw.fit hst.2 hg
 rw[h.pg6]at g7
 rcases g7 with⟨r1,r2,r3,r4⟩ | ⟨r1,r2,r3,r4,⟨r5,r6⟩ | ⟨_,r5,_⟩⟩
 ·subst r3 r4
  obtain⟨k1,k2⟩:=h.step hp hk hS hSd h.inv h.up (g6 N h.pot) hN g2 g3
  refine⟨c,M,he,k2,⟨i1,_,sv1,S1,Sl,Sd1,_,k1⟩,.inr ⟨fun ⟨q1,q2,q3⟩=>?_,r2,rfl⟩⟩
  rcases r1 with h' | h' | h' | h'
  · omega
  · omega
  · omega
  · exact h' q3
 ·obtain⟨k1,k2⟩:=h.step hp hk hS hSd r6 (g5 h.up) (g6 N h.pot) hN g2 g3
  exact⟨c,_,he,k2,⟨i1,X1,sv1,S1,Sl,Sd1,D1,k1⟩,.inl ⟨r1,by omega,r4,r5,rfl⟩⟩
 · have:=(g5 h.up).2;rw[r5]at this;cases this
theorem gx_flush (h:Gx w0 w L p lp dp bb P rs M N) :
  Calls Tryz.prog 29 #[.pointer (some ⟨p,0,none⟩)] w fun e w'=>e = .returned (.int .i64 0)∧Gx w0 w' L p lp dp bb P rs M N∧Keeps (Own w0 L) w w':=by
 obtain⟨i0,X,sv,S,Sl,Sd,D,h⟩:=h
 have hn:=h.big
 refine(pl_flush h.pw N (by omega) h.pot.soft).mono fun e w' ⟨c,l,i1,Sd1,D1,he,hg,hp,hk,hSd⟩=>?_
 obtain⟨g1,g2,g3,g4,g5⟩:=flush_law2 h.inv h.pw.ring h.pw.fit hg
 obtain⟨k1,k2⟩:=h.step hp hk (fun k hk => .inl hk) hSd g1 (g3 h.up) (g4 N h.pot) h.nN rfl rfl
 rcases g5 with⟨rfl,r2⟩ | ⟨_,r2⟩
 · exact⟨he,⟨i1,_,sv,S,Sl,Sd1,D1,k1⟩,k2⟩
 · have:=(g3 h.up).2;rw[r2]at this;cases this
theorem gx_lflush (h:Gx w0 w L p lp dp bb P rs M N) (at_:Int) :
  Calls Tryz.prog 122 #[.pointer (some ⟨lp,0,none⟩),.int .i64 at_] w fun e w'=>e = .returned (.int .i64 0)∧Gx w0 w' L p lp dp bb P rs M N∧Keeps (Own w0 L) w w'∧((∀i1,i1≤rs.length→at_<((54*bb+P.size+lenL (rs.take i1):Nat):Int)→i1=rs.length)→Gf w0 w' L p lp dp bb P rs M N):=by
 obtain⟨i0,X,sv,S,Sl,Sd,D,h1⟩:=h
 refine(ws_flush2 h1.pw.ws at_).mono fun e w' ⟨c,i1,Sd',D',he,hw,hk,hs,hf⟩=>?_
 have hup:=hf.off.up h1.up
 have hc:c=0:=by
  rcases hf.code with⟨h,_⟩ | ⟨_,h⟩
  · exact h
  · rw[hup.2]at h;cases h
 subst hc
 have hpw:Pw w' p lp dp 0 128 bb P rs i1 X sv S Sl Sd' D':=⟨h1.pw.pool.keep hk (fun k hk' h'=>by
  rcases h' with h' | h'
  · exact h1.pw.dl k hk' h'
  · exact h1.pw.dd k hk' h'),hw,h1.pw.dl,fun k hk' h'=>by
  rcases hs k h' with h3 | h3
  · exact h1.pw.dd k hk' h3
  · have:=h1.pw.pool.lt k hk';omega,h1.pw.ring,by rw[hf.off.len];exact h1.pw.fit⟩
 have hr:=h1.pw.ring
 have hinv:PInv X D' M:=⟨h1.inv.uniq,h1.inv.hold,h1.inv.dty,fun hdn id hid hcl j hj=>by
  have h3:=h1.inv.dev h1.up.2 id hid hcl j hj
  rw[←h3]
  exact hf.off.seen _ (by omega),h1.inv.mok⟩
 obtain⟨m,p1,p2⟩:=h1.pot
 obtain⟨k1,k2⟩:=h1.step hpw (hk.mono (fun k _ h=>h.elim (fun h => .inr (.inl h)) (fun h => .inr (.inr h)))) (fun k hk' => .inl hk') hs hinv hup ⟨m,hf.softB p1,p2⟩ h1.nN rfl rfl
 refine⟨he,⟨i1,X,sv,S,Sl,Sd',D',k1⟩,k2,fun hall=>?_⟩
 have hi:i1=rs.length:=by
  rcases hf.code with⟨_,h2,_⟩ | ⟨_,h⟩
  ·rcases h2 with h2 | h2
   · exact hall i1 hf.le' h2
   · exact h2
  · rw[hup.2]at h;cases h
 subst hi
 exact⟨X,sv,S,Sl,Sd',D',k1⟩
theorem gx_cut (h:Gf w0 w L p lp dp bb P rs M N) (k:Nat) (hk:k≤rs.length) (hb9:54*bb+P.size+lenL rs≤50000000000) :
  Calls Tryz.prog 134 #[.pointer (some ⟨lp,0,none⟩),.int .i64 ((54*bb+P.size+lenL (rs.take k):Nat):Int)] w fun e w'=>e = .returned (.int .i64 0)∧Gf w0 w' L p lp dp (cutB bb P rs k) (cutP bb P rs k) (rs.drop k) M N∧Keeps (Own w0 L) w w':=by
 obtain⟨X,sv,S,Sl,Sd,D,h1⟩:=h
 have hle:=lenL_take_le rs k
 have hcb:cutB bb P rs k=(54*bb+P.size+lenL (rs.take k))/54:=rfl
 have hcp:=cutP_size bb P rs k
 have e2:lenL rs=lenL (rs.take k)+lenL (rs.drop k):=by
  have:=lenL_append (rs.take k) (rs.drop k)
  rwa[List.take_append_drop]at this
 have hsum:54*cutB bb P rs k+(cutP bb P rs k).size+lenL (rs.drop k)=54*bb+P.size+lenL rs:=by omega
 have key:∀(S':List Nat) (w':World),Ws w' lp dp 0 128 (cutB bb P rs k) (cutP bb P rs k) (rs.drop k) (rs.length-k) S' Sd D→Keeps (· ∈ Sl) w w'→(∀k∈S',k∈Sl∨w.heap.size≤k)→Gf w0 w' L p lp dp (cutB bb P rs k) (cutP bb P rs k) (rs.drop k) M N∧Keeps (Own w0 L) w w':=by
  intro S' w' hw hkp hs
  have hko:Keeps (Own w0 L) w w':=hkp.mono (fun k _ hk'=>h1.fr k (.inr (.inl hk')))
  refine⟨⟨X,sv,S,S',Sd,D,⟨⟨h1.pw.pool.keep hkp (fun k hk' h'=>h1.pw.dl k hk' h'),by rw[List.length_drop];exact hw,fun k hk' h'=>?_,h1.pw.dd,h1.pw.ring,h1.pw.fit⟩,h1.inv,h1.up,h1.pot,by have:=h1.nN;omega,by omega,fun k hk'=>?_,fun k hk'=>Nat.lt_of_lt_of_le (h1.loc k hk') hkp.size,h1.bel.trans (hko.belowB h1.bel.size (fun k hk'=>hk'.1)),h1.b128,h1.pg6⟩⟩,hko⟩
  ·rcases hs k h' with h3 | h3
   · exact h1.pw.dl k hk' h3
   · have:=h1.pw.pool.lt k hk';omega
  ·rcases hk' with hk' | hk' | hk'
   · exact h1.fr k (.inl hk')
   ·rcases hs k hk' with h3 | h3
    · exact h1.fr k (.inr (.inl h3))
    · exact⟨Nat.le_trans h1.bel.size h3,fun h4=>by have:=h1.loc k h4;omega⟩
   · exact h1.fr k (.inr (.inr hk'))
 by_cases hkl:k<rs.length
 ·refine(ws_cut h1.pw.ws hkl hk (by omega)).mono ?_
  rintro e w' ⟨he,S',hw,hkp,hs⟩
  exact⟨he,key S' w' hw hkp hs⟩
 ·obtain rfl:k=rs.length:=by omega
  have hc:=ws_cut_end h1.pw.ws (by omega)
  rw[List.take_length]
  refine hc.mono ?_
  rintro e w' ⟨he,S',hw,hkp,hs⟩
  refine⟨he,key S' w' ?_ hkp hs⟩
  rw[List.drop_length,Nat.sub_self]
  exact hw
end
end Go.Proofs.YtimomjheanfbmaaGreatDoor.G
namespace Go.Proofs.YtimomjheanfbmaaGreatDoor.G
open Go.RowKit
structure CS where
 bb:Nat
 P:ByteArray
 recs:List Rc
 M:Nat→Pg×Int
 lives:List Lv
 fresh:Int
 B:Int→Nat×Nat
 T:Nat×Nat
 cnt:Nat
def CS.rs (σ:CS):List ByteArray:=σ.recs.map rcS
def CS.org (σ:CS):Nat:=54*σ.bb+σ.P.size
def CS.fin (σ:CS):Nat:=σ.org+lenL σ.rs
def CS.used (σ:CS):Nat:=σ.P.size+lenL σ.rs
structure Cx (w0 w:World) (L:List Nat) (c lp p dp pg lb mb n:Nat) (lv:Value) (σ:CS):Prop where
 ch:ChAt w c lp p lb mb n lv σ.lives σ.fresh σ.B σ.T
 kx:Gx w0 w (chL c lb mb lv++L) p lp dp σ.bb σ.P σ.rs σ.M σ.fin
 hi:∀q∈chL c lb mb lv,w0.heap.size≤q∧q∉L
 most:MostOk σ.T
 ok:∀R∈σ.recs,RcOk R
 cn:n≤σ.cnt
theorem roomOf (bb:Nat) (P:ByteArray) (rs:List ByteArray) (i0:Nat):(mkLg 0 128 bb P rs i0).room=6912-((P.size+lenL rs:Nat):Int):=by
 show ((128:Nat):Int)*54-(((54*bb+P.size+lenL rs:Nat):Int)-((54*bb:Nat):Int))=_
 omega
def Full (u:Nat) (s:ByteArray):Prop:=6912<u+(2+s.size)
theorem refuses_iff {bb:Nat} {P:ByteArray} {rs:List ByteArray} {s:ByteArray} (h0:s.size≠0) (h1:s.size≤65535):refuses bb P rs s=true↔Full (P.size+lenL rs) s:=by
 unfold refuses Lg.refuse Full
 rw[if_neg h0,if_neg (by omega),roomOf]
 by_cases h:(6912-((P.size+lenL rs:Nat):Int))<2+(s.size:Int)
 · rw[if_pos h];exact⟨fun _=>by omega,fun _=>rfl⟩
 · rw[if_neg h];exact⟨fun h=>by simp at h,fun h'=>by omega⟩
theorem rc_sizes {R:Rc} (h:RcOk R):(rcS R).size≠0∧(rcS R).size≤65535:=by
 have h1:=rcS_size h
 obtain⟨-,-,-,-,-,-,-,-,-,k1,-,k2,k3,k4⟩:=h.1
 omega
def putIms (M:Nat→Pg×Int) (l:List (Int×Pg)) (st:Int):Nat→Pg×Int:=l.foldl (fun M x=>upd M x.1.toNat (x.2,st)) M
def CS.wrote (σ:CS) (R:Rc):CS:={σ with recs:=σ.recs++[R],M:=putIms σ.M R.ims (σ.fin:Int)}
section
variable {w0 w w':World} {L:List Nat} {c lp p dp pg lb mb n:Nat} {lv:Value} {σ:CS}
theorem Cx.later (h:Cx w0 w L c lp p dp pg lb mb n lv σ) (hb:Below w.heap.size w w'):Cx w0 w' L c lp p dp pg lb mb n lv σ :=
 ⟨h.ch.later hb,h.kx.later hb,h.hi,h.most,h.ok,h.cn⟩
theorem Cx.more (h:Cx w0 w L c lp p dp pg lb mb n lv σ) (hb:Below w.heap.size w w') (L':List Nat) (hl:∀k∈L',k<w'.heap.size) (hn:∀k∈L',k∈L∨w.heap.size≤k):Cx w0 w' L' c lp p dp pg lb mb n lv σ :=
 ⟨h.ch.later hb,h.kx.more hb _ (fun k hk=>by
  rcases List.mem_append.1 hk with hk | hk
  · exact Nat.lt_of_lt_of_le (h.ch.lt k hk) hb.size
  · exact hl k hk) (fun k hk=>by
  rcases List.mem_append.1 hk with hk | hk
  · exact .inl (List.mem_append_left _ hk)
  · exact(hn k hk).imp (fun h=>List.mem_append_right _ h) (fun h=>h)),fun q hq=>⟨(h.hi q hq).1,fun h'=>by
  rcases hn q h' with h2 | h2
  · exact(h.hi q hq).2 h2
  · have:=h.ch.lt q hq;omega⟩,h.most,h.ok,h.cn⟩
theorem Cx.less (h:Cx w0 w L c lp p dp pg lb mb n lv σ) (L':List Nat) (hn:∀k∈L',k∈L):Cx w0 w L' c lp p dp pg lb mb n lv σ :=
 ⟨h.ch,h.kx.less _ (fun k hk=>by
  rcases List.mem_append.1 hk with hk | hk
  · exact List.mem_append_left _ hk
  · exact List.mem_append_right _ (hn k hk)),fun q hq=>⟨(h.hi q hq).1,fun h'=>(h.hi q hq).2 (hn q h')⟩,h.most,h.ok,h.cn⟩
theorem Cx.bel (h:Cx w0 w L c lp p dp pg lb mb n lv σ):Below w0.heap.size w0 w:=h.kx.bel
theorem Cx.count (h:Cx w0 w L c lp p dp pg lb mb n lv σ):σ.recs.length≤2304∧σ.used≤6912∧σ.P.size<54∧σ.bb≤1000000000:=by
 have:=h.kx.count
 unfold CS.used CS.rs at *
 rw[List.length_map]at this
 exact⟨this.1,this.2.1,this.2.2.1,this.2.2.2⟩
theorem CS.fin_eq (σ:CS):σ.fin=54*σ.bb+σ.used:=by unfold CS.fin CS.org CS.used;omega
theorem Cx.fin (h:Cx w0 w L c lp p dp pg lb mb n lv σ):σ.fin≤60000000000:=by
 have:=h.count
 have:=σ.fin_eq
 omega
theorem Gx.push {A L:List Nat} {bb:Nat} {P:ByteArray} {rs:List ByteArray} {M:Nat→Pg×Int} {N:Nat} (h:Gx w0 w (A++L) p lp dp bb P rs M N) (hb:Below w.heap.size w w') (q:Nat) (h1:w.heap.size≤q) (h2:q<w'.heap.size):Gx w0 w' (A++(q::L)) p lp dp bb P rs M N :=
 h.more hb _ (fun k hk=>by
  rcases List.mem_append.1 hk with hk | hk
  · exact Nat.lt_of_lt_of_le (h.loc k (List.mem_append_left _ hk)) hb.size
  ·rcases List.mem_cons.1 hk with rfl | hk
   · exact h2
   · exact Nat.lt_of_lt_of_le (h.loc k (List.mem_append_right _ hk)) hb.size) (fun k hk=>by
  rcases List.mem_append.1 hk with hk | hk
  · exact .inl (List.mem_append_left _ hk)
  ·rcases List.mem_cons.1 hk with rfl | hk
   · exact .inr h1
   · exact .inl (List.mem_append_right _ hk))
theorem Gx.pop {A L:List Nat} {q:Nat} {bb:Nat} {P:ByteArray} {rs:List ByteArray} {M:Nat→Pg×Int} {N:Nat} (h:Gx w0 w (A++(q::L)) p lp dp bb P rs M N):Gx w0 w (A++L) p lp dp bb P rs M N :=
 h.less _ (fun k hk=>by
  rcases List.mem_append.1 hk with hk | hk
  · exact List.mem_append_left _ hk
  · exact List.mem_append_right _ (List.mem_cons_of_mem _ hk))
theorem Cx.push (h:Cx w0 w L c lp p dp pg lb mb n lv σ) (hb:Below w.heap.size w w') (q:Nat) (h1:w.heap.size≤q) (h2:q<w'.heap.size):Cx w0 w' (q::L) c lp p dp pg lb mb n lv σ :=
 ⟨h.ch.later hb,h.kx.push hb q h1 h2,fun k hk=>⟨(h.hi k hk).1,fun h'=>by
  rcases List.mem_cons.1 h' with rfl | h'
  · have:=h.ch.lt _ hk;omega
  · exact(h.hi k hk).2 h'⟩,h.most,h.ok,h.cn⟩
theorem Cx.pop {q:Nat} (h:Cx w0 w (q::L) c lp p dp pg lb mb n lv σ):Cx w0 w L c lp p dp pg lb mb n lv σ:=h.less _ (fun k hk=>List.mem_cons_of_mem _ hk)
theorem own_cons {A L:List Nat} {q:Nat} {a b:World} (h:Keeps (Own w0 (A++(q::L))) a b):Keeps (Own w0 (A++L)) a b:=h.mono (fun k _ hk=>⟨hk.1,fun h'=>hk.2 (by
 rcases List.mem_append.1 h' with h' | h'
 · exact List.mem_append_left _ h'
 · exact List.mem_append_right _ (List.mem_cons_of_mem _ h'))⟩)
theorem putIms_take {M:Nat→Pg×Int} {l:List (Int×Pg)} {st:Int} {j:Nat} (h:j<l.length):putIms M (l.take (j+1)) st=upd (putIms M (l.take j) st) (l[j]).1.toNat ((l[j]).2,st):=by
 unfold putIms
 rw[List.take_succ_eq_append_getElem h,List.foldl_append]
 rfl
theorem own_ch {q:Nat} (hq:q∈chL c lb mb lv):¬Own w0 (chL c lb mb lv++L) q:=fun h=>h.2 (List.mem_append_left _ hq)
theorem own_loc {q:Nat} (hq:q∈L):¬Own w0 (chL c lb mb lv++L) q:=fun h=>h.2 (List.mem_append_right _ hq)
end
def ChW (rb xb c lp p:Nat) (A:Array Value) (x:Int×Pg) (w:World):Prop:=w.cell? ⟨c,1,none⟩=some (.pointer (some ⟨p,0,none⟩))∧w.heap[xb]? = some (.cells (imA x) 51 (0,0))
theorem chw_cells {rb xb c lp p:Nat} {A:Array Value} {x:Int×Pg} {w:World} (h:ChW rb xb c lp p A x w):w.cell? ⟨c,1,none⟩=some (.pointer (some ⟨p,0,none⟩))∧w.cell? ⟨xb,0,none⟩=some (.int .i64 x.1)∧True :=
 ⟨h.1,(cell_at h.2 0).trans rfl,trivial⟩
set_option maxRecDepth 100000 in
set_option maxHeartbeats 1600000 in
theorem cx_write {w0 w:World} {L:List Nat} {c lp p dp pg lb mb n:Nat} {lv:Value} {σ:CS} (h:Cx w0 w L c lp p dp pg lb mb n lv σ) (R:Rc) (hok:RcOk R) (hi1:R.ims.length≤1) (hpg:∀x∈R.ims,x.1<6) (iv lw:Value)
  (hR:∀w',Keeps (Own w0 (chL c lb mb lv++L)) w w'→RcSl w' R iv lw) :
  Calls Tryz.prog 57 #[.pointer (some ⟨c,0,none⟩),.agg (rcC R iv lw)] w fun e w'=>((Full σ.used (rcS R)∧e = .returned (.tuple #[.int .i64 0,.int .i64 70])∧Cx w0 w' L c lp p dp pg lb mb n lv σ) ∨
   (¬Full σ.used (rcS R)∧e = .returned (.tuple #[.int .i64 (σ.fin:Int),.int .i64 0])∧Cx w0 w' L c lp p dp pg lb mb n lv (σ.wrote R)))∧Keeps (Own w0 (chL c lb mb lv++L)) w w':=by
 have hsz:=rc_sizes hok
 have hfu:=Hd (refuses_iff (bb:=σ.bb) (P:=σ.P) (rs:=σ.rs) hsz.1 hsz.2)
 have hs2:=Hd hsz
 have hmx:Hid ((rcS R).size≤maxLen):=by show _≤_;unfold maxLen;omega
 have HE:=Hd (fun w' (hk:Keeps (Own w0 (chL c lb mb lv++L)) w w')=>rc_encode_ok R iv lw w' (hR w' hk) hok)
 have HR:=Hd hR
 have H:=Hd h
 obtain⟨RB,hRB⟩:∃S,rcS R=S:=⟨_,rfl⟩
 rw[hRB]at HE hmx hfu hs2 ⊢
 replace hRB:=Hd hRB
 have hol:=(hR w (Keeps.refl _ _))
 obtain⟨a,m,cap,rfl,hm,hmm,hsl⟩:=sl_open hol.1
 rw[List.length_map]at hm
 have hones:=Hd (rcC_one (R:=R) (iv := .slice a m cap) (lv:=lw) rfl (by obtain⟨a',m',c',rfl,_⟩:=sl_open hol.2.1;rfl))
 have hm1:Hid (m≤1∧m=R.ims.length):=⟨by omega,hm⟩
 replace hok:=Hd hok
 replace hpg:=Hd hpg
 have HQ:Hid ((w.alloc (.cells (rcC R (.slice a m cap) lw) 65)).heap[w.heap.size]? = some (.cells (rcC R (.slice a m cap) lw) 65 (0,0))):=hN rfl
 have HE0:=Hd (HE.out (w.alloc (.cells (rcC R (.slice a m cap) lw) 65)) ((Keeps.refl _ _).alloc _))
 have hwl:=Hd h.bel.size
 have hs3:Hid (37≤RB.size):=by
  have:=rcS_size hok.out
  rw[hRB.out]at this
  show _≤_
  omega
 obtain⟨fin,hfin⟩:∃f,σ.fin=f:=⟨_,rfl⟩
 have hfn:Hid (fin=54*σ.bb+σ.P.size+lenL σ.rs):=hfin.symm
 have hfn9:Hid (fin≤60000000000):=hfin ▸ h.fin
 have hcount:=Hd h.count
 rw[hfin]
 have hfin2:=Hd hfin
 clear h hR hol hsl hm hmm hsz HE hfin
 go_enter Tryz.func57,Tryz.ntmps57
 go_wp2_with (refine wpList_load_row rfl 65 _ rfl _ rfl 65 _ _ _ HQ.out Tryz.underlying65 rfl (by kernel_rfl) ?_)
 refine(HE0.out).mono ?_
 rintro e w1 ⟨rfl,hb1⟩
 have HK1:Hid (Keeps (Own w0 (chL c lb mb lv++L)) w w1):=((Keeps.refl _ _).alloc _).trans (Keeps.of_below (fun _=>False) hb1) (fun _ _ h=>h.elim)
 have HQ1:=Hd (hBs hb1 HQ.out)
 have HX1:=Hd (H.out.push (bT (bA bR) hb1) w.heap.size (Nat.le_refl _) (block_lt HQ1.out))
 clear hb1 HE0 HQ
 have HAp:=Hd (gx_append HX1.out.kx RB hmx.out)
 have C0:w1.cell? ⟨c,0,none⟩=some (.pointer (some ⟨lp,0,none⟩)):=cell_at HX1.out.ch.cell 0
 go_wp2_with fail
 refine(HAp.out).mono ?_
 rintro e w2 ⟨hres,hk2⟩
 have hrb:w.heap.size∈w.heap.size::L:=by simp
 have HQ2:=Hd (hk2.keep HQ1.out (own_loc hrb))
 have HC2:=Hd (HX1.out.ch.keep hk2 (fun q hq=>own_ch hq))
 have HK2:Hid (Keeps (Own w0 (chL c lb mb lv++L)) w w2):=HK1.out.trans (own_cons hk2) (fun k _ h=>h)
 have HB2:=Hd (hk2.belowB (by have:=HX1.out.bel.size;exact this) (fun k hk=>hk.1))
 clear C0 hk2 HAp
 rcases hres with⟨hrf,cd,hcd,hcd7,rfl,hkx⟩ | ⟨hrf,rfl,hkx⟩
 ·have HX2:Hid (Cx w0 w2 L c lp p dp pg lb mb n lv σ):=(Cx.pop (q:=w.heap.size) ⟨HC2.out,hkx,HX1.out.hi,HX1.out.most,HX1.out.ok,HX1.out.cn⟩)
  obtain rfl:cd=70:=by
   have:=hs2.out
   rcases hcd7 with h | h | h
   · exact h
   · omega
   · omega
  have d1:((70:Int)==0)=false:=rfl
  have hF:=Hd (hfu.out.1 hrf)
  clear hkx hrf HX1 HQ1 HB2 hcd hcd7
  go_wp2_with fail
  go_ret2
  exact⟨.inl ⟨hF.out,rfl,HX2.out⟩,HK2.out⟩
 have hF:Hid (¬Full σ.used RB):=fun h=>by rw[hfu.out.2 h]at hrf;cases hrf
 have HX2:Hid (Gx w0 w2 (chL c lb mb lv++(w.heap.size::L)) p lp dp σ.bb σ.P (σ.rs++[RB]) σ.M fin):=hfin2.out ▸ hkx
 have hXr:=Hd (And.intro HX1.out.hi (And.intro HX1.out.most (And.intro HX1.out.ok HX1.out.cn)))
 rw[←hfn.out]
 have C11:w2.cell? ⟨w.heap.size,11,none⟩=some (.slice a m cap):=cell_at HQ2.out 11
 clear hkx hrf HX1 HQ1 HB2 hrb
 go_wp2_with fail
 go_loopw [35] (fun y wr=>∃j:Nat,j≤m∧y = .int .i64 j∧Hid (Gx w0 wr (chL c lb mb lv++(w.heap.size::L)) p lp dp σ.bb σ.P (σ.rs++[RB]) (putIms σ.M (R.ims.take j) (fin:Int)) (fin+4*j))∧Hid (ChAt wr c lp p lb mb n lv σ.lives σ.fresh σ.B σ.T)∧Hid (Keeps (Own w0 (chL c lb mb lv++L)) w wr)) (fun y _=>m-(intOf y).toNat)
 case atStart=>exact⟨0,by omega,rfl,HX2,HC2,HK2⟩
 case round =>
  obtain⟨j,hj,rfl,HX,HC,HK⟩:=hrel
  by_cases hjm:j<m
  ·have hj1:j<R.ims.length:=by have:=hm1.out.2;omega
   obtain⟨x,hx⟩:∃x,R.ims[j]=x:=⟨_,rfl⟩
   have hxm:x∈R.ims:=by rw[←hx];exact List.getElem_mem hj1
   have hRS:=HR.out wr HK.out
   obtain⟨a',m',c',hv,-,-,hsl⟩:=sl_open hRS.1
   injection hv with hv1 hv2 hv3
   subst hv1 hv2 hv3
   obtain⟨g,off,rfl,hgl,hrg⟩:=hsl.elem imL_length hj1
   rw[hx]at hrg
   have HRg:=Hd hrg
   have hxk:=Hd (hok.out.2.1 x hxm)
   have hxp:=Hd (hpg.out x hxm)
   have hdt:=Hd (hRS.2.2.2.2 x hxm)
   have hput:=Hd (putIms_take (M:=σ.M) (st:=(fin:Int)) hj1)
   rw[hx]at hput
   have hjI:(j:Int)<m:=by omega
   have hj0:(0:Int)≤j:=by omega
   have hjw:IntKind.i64.wrap ((j:Int)+1)=(j:Int)+1:=by have:=hm1.out.1;rw[IntKind.wrap_i64];omega
   have hiL:Hid ((Tryz.prog.info? 51).map (·.size)=some (imL x).length):=by show _=_;kernel_rfl
   have hiA:Hid ((Tryz.prog.info? 51).map (·.size)=some (imA x).size):=by show _=_;kernel_rfl
   have hio:=Hd (imA_one x)
   have hiz:Hid ((imA (0,pageZ)).size=(imA x).size):=rfl
   have HN:Hid ((wr.alloc (.cells (imA (0,pageZ)) 51)).heap[wr.heap.size]? = some (.cells (imA (0,pageZ)) 51 (0,0))):=hN rfl
   have hlR:Hid (lenL (σ.rs++[RB])=lenL σ.rs+(2+RB.size)):=by show _=_;rw[lenL_append,lenL,lenL];omega
   have hjm1:Hid (j<m):=hjm
   clear hsl hrg hRS hxm hgl hx hj1 C11
   go_upto_region 10 with(first
    | (refine wpList_load_mid rfl 51 _ rfl g (off+j*17) rfl (imL x) _ HRg.out Tryz.underlying51 rfl hiL.out ?_)
    | (refine wpList_store_whole rfl 51 _ _ rfl _ (imA x) rfl rfl _ _ HN.out hiz.out hiA.out hio.out ?_;intro w3 HI3 K3;(have hk3:Hid (Keeps (fun _=>False) wr w3):=((Keeps.refl (fun _=>False) wr).alloc _).trans K3.out (fun q hq e=>by omega));clear HN K3))
   have HX3:Hid (Gx w0 w3.drew (chL c lb mb lv++(wr.heap.size::w.heap.size::L)) p lp dp σ.bb σ.P (σ.rs++[RB]) (putIms σ.M (R.ims.take j) (fin:Int)) (fin+4*j)):=(HX.out.push hk3.out.below wr.heap.size (Nat.le_refl _) (block_lt HI3.out)).later (bD bR)
   have HC3:Hid (ChAt w3.drew c lp p lb mb n lv σ.lives σ.fresh σ.B σ.T):=(HC.out.keep hk3.out (fun _ _ h=>h)).later (bD bR)
   have HK3:Hid (Keeps (Own w0 (chL c lb mb lv++L)) w w3.drew):=(HK.out.trans hk3.out (fun _ _ h=>h.elim)).drew
   have hS0:ChW w.heap.size wr.heap.size c lp p (imA x) x w3.drew:=⟨cell_at HC3.out.cell 1,hDr HI3.out⟩
   clear HX HC HK hk3
   refine wp_region_held_drew (S:=ChW w.heap.size wr.heap.size c lp p (imA x) x) (by kernel_rfl) hS0 (fun hHeld=>?_)
   refine tk 0 (v:=?_) rfl (Or.inl ⟨by rfl,?_⟩) hHeld ?_
   rotate_left
   ·intro w' hSw
    obtain⟨s1,s2,s3⟩:=chw_cells hSw
    go_simp
    try with_reducible rfl
    try omega
   go_frame
   refine tk 1 (v:=?_) rfl (Or.inl ⟨by rfl,?_⟩) hHeld ?_
   rotate_left
   ·intro w' hSw
    obtain⟨s1,s2,s3⟩:=chw_cells hSw
    go_simp
    try with_reducible rfl
    try omega
   go_frame
   refine tk 2 (v:=?_) rfl (Or.inl ⟨by rfl,?_⟩) hHeld ?_
   rotate_left
   ·intro w' hSw
    obtain⟨s1,s2,s3⟩:=chw_cells hSw
    go_simp
    try with_reducible rfl
    try omega
   go_frame
   refine tk 3 (v:=?_) rfl (Or.inl ⟨by rfl,?_⟩) hHeld ?_
   rotate_left
   ·intro w' hSw
    obtain⟨s1,s2,s3⟩:=chw_cells hSw
    go_simp
    try with_reducible rfl
    try omega
   go_frame
   refine tk 4 (v:=?_) rfl (Or.inl ⟨by rfl,?_⟩) hHeld ?_
   rotate_left
   ·intro w' hSw
    obtain⟨s1,s2,s3⟩:=chw_cells hSw
    go_simp
    try with_reducible rfl
    try omega
   go_frame
   refine tk 5 (v:=?_) rfl (Or.inl ⟨by rfl,?_⟩) hHeld ?_
   rotate_left
   ·intro w' hSw
    obtain⟨s1,s2,s3⟩:=chw_cells hSw
    go_simp
    try with_reducible rfl
    try omega
   go_frame
   refine tk 6 (v:=?_) rfl (Or.inl ⟨by rfl,?_⟩) hHeld ?_
   rotate_left
   ·intro w' hSw
    obtain⟨s1,s2,s3⟩:=chw_cells hSw
    go_simp
    try with_reducible rfl
    try omega
   go_frame
   refine tk 7 (v := .agg (pgC x.2)) rfl (yieldsIf_load_mid (by rfl) _ _ rfl wr.heap.size 1 rfl (pgC x.2).toList _ (fun _ h=>im_page h.2) Tryz.underlying49 rfl (by kernel_rfl)) hHeld ?_
   go_frame
   refine tk 8 (v:=?_) rfl (Or.inl ⟨by rfl,?_⟩) hHeld ?_
   rotate_left
   ·intro w' hSw
    obtain⟨s1,s2,s3⟩:=chw_cells hSw
    go_simp
    try with_reducible rfl
    try omega
   go_frame
   refine rd 9 (fun K hK=>?_)
   go_simp
   go_at_call 27
   have HPt:=Hd (gx_put HX3.out (by have:=hlR.out;have:=hfn.out;have:=hs3.out;have:=hjm1.out;have:=hm1.out.1;omega) x.1 x.2 hdt.out (fin:Int) (by have:=hfn9.out;omega))
   unfold pgV at HPt
   refine(HPt.out).mono ?_
   rintro e w4 ⟨cd,M1,rfl,hk4,hgx,hres⟩
   obtain⟨rfl,rfl⟩:cd=0∧M1=putIms σ.M (R.ims.take (j+1)) (fin:Int):=by
    rcases hres with⟨_,_,_,r4,r5⟩ | ⟨hno,_⟩
    · exact⟨r4,by rw[r5,hput.out]⟩
    · exact absurd ⟨hxk.out.1.1,hxp.out,hxk.out.2⟩ hno
   have HX4:Hid (Gx w0 w4 (chL c lb mb lv++(w.heap.size::L)) p lp dp σ.bb σ.P (σ.rs++[RB]) (putIms σ.M (R.ims.take (j+1)) (fin:Int)) (fin+4*(j+1))):=by
    have:=hgx.pop
    rwa[show fin+4*j+4=fin+4*(j+1) by omega]at this
   have HC4:=Hd (HC3.out.keep hk4 (fun q hq=>own_ch hq))
   have HK4:Hid (Keeps (Own w0 (chL c lb mb lv++L)) w w4):=HK3.out.trans (own_cons (own_cons hk4)) (fun _ _ h=>h)
   have hS4:Hid (ChW w.heap.size wr.heap.size c lp p (imA x) x w4):=⟨cell_at HC4.out.cell 1,hk4.keep hS0.2 (own_loc (by simp))⟩
   clear hres hgx hk4 HPt HX3 HC3 HK3 hS0
   go_wp2_with fail
   refine hK.out _ _ hS4.out (fun hHeld=>?_)
   clear hK K
   try go_frame
   refine tk 10 (v := .int .i64 0) rfl (Or.inl ⟨by rfl,?_⟩) hHeld ?_
   ·intro w' hSw
    clear hSw
    go_simp
    try with_reducible rfl
   go_frame
   clear hHeld
   refine wpAnyH_done (by kernel_rfl) ?_ _
   go_wp2_with fail
   go_roundw
   case rel=>exact⟨j+1,by have:=hjm1.out;omega,rfl,HX4,HC4,HK4⟩
   case measure=>simp[intOf];have:=hjm1.out;omega
  ·obtain rfl:j=m:=by omega
   have hlt:¬(j:Int)<j:=by omega
   go_wp2_with fail
   go_ret2
   have hlen:(σ.wrote R).rs=σ.rs++[RB]:=by unfold CS.rs CS.wrote;rw[List.map_append,←hRB.out];rfl
   have hlR:lenL (σ.rs++[RB])=lenL σ.rs+(2+RB.size):=by rw[lenL_append,lenL,lenL];omega
   have hfw:(σ.wrote R).fin=fin+(2+RB.size):=by
    unfold CS.fin CS.org
    rw[hlen,hlR]
    have:=hfn.out
    show 54*σ.bb+σ.P.size+_=_
    omega
   have hMw:(σ.wrote R).M=putIms σ.M R.ims (fin:Int):=by unfold CS.wrote;rw[hfin2.out]
   have htk:R.ims.take j=R.ims:=List.take_of_length_le (by have:=hm1.out.2;omega)
   have hX:=HX.out
   rw[htk]at hX
   refine⟨.inr ⟨hF.out,rfl,HC.out,?_,fun q hq=>⟨(hXr.out.1 q hq).1,fun h=>(hXr.out.1 q hq).2 (List.mem_cons_of_mem _ h)⟩,hXr.out.2.1,fun Q hQ=>?_,hXr.out.2.2.2⟩,HK.out⟩
   ·rw[hfw,hMw,hlen]
    have h1:=hm1.out.1
    have h2:=hs3.out
    have h3:=hfn.out
    exact(hX.pop).mono (by omega) (by show _≤54*σ.bb+σ.P.size+_;omega)
   ·rcases List.mem_append.1 hQ with hQ | hQ
    · exact hXr.out.2.2.1 Q hQ
    · rw[List.mem_singleton.1 hQ];exact hok.out
end Go.Proofs.YtimomjheanfbmaaGreatDoor.G
