import Derived.Test.YtimomjheanfbmaaGreatDoorQaa
import Derived.Test.YtimomjheanfbmaaGreatDoorRac
import Derived.LoopN
set_option linter.unusedSimpArgs false
set_option linter.unusedVariables false
namespace Go.Proofs.YtimomjheanfbmaaGreatDoor
open Go.RowKit
structure OffLaw (hi m:Nat) (D D':Dev):Prop where
 len:D'.firm.length=D.firm.length
 seen:∀p,hi≤p→D'.seen.getD p ⟨#[]⟩=D.seen.getD p ⟨#[]⟩
 all:∀Q:Nat→ByteArray→Prop,(∀p d,p<hi→d.size=64→Q p d)→AllP Q D→AllP Q D'
 soft:D'.soft.length≤D.soft.length+m
 dead:D.down=true→D'=D
 up:D.up→D'.up
theorem OffLaw.refl (hi m:Nat) (D:Dev):OffLaw hi m D D:=⟨rfl,fun _ _=>rfl,fun _ _ h=>h,by omega,fun _=>rfl,fun h=>h⟩
theorem OffLaw.trans {hi m k:Nat} {D E F:Dev} (h:OffLaw hi m D E) (g:OffLaw hi k E F):OffLaw hi (m+k) D F :=
 ⟨by rw[g.len,h.len],fun p hp=>by rw[g.seen p hp,h.seen p hp],fun Q hQ hA=>g.all Q hQ (h.all Q hQ hA),by have:=h.soft;have:=g.soft;omega,fun hd=>by
  have h1:=h.dead hd
  rw[g.dead (by rw[h1];exact hd),h1],fun hu=>g.up (h.up hu)⟩
theorem off_write (hi:Nat) (D:Dev) (s:Int) (d:ByteArray) (hok:DevOk D) (hs:s<hi):OffLaw hi 1 D (D.write s d).1:=by
 obtain⟨e1,e2,e3⟩:=burn_same D
 have hl:=write_len D s d
 by_cases hin:0≤s∧s<D.firm.length∧d.size=64
 ·obtain⟨h0,h1,h2⟩:=hin
  refine⟨hl.1,?_,fun Q hQ hA=>hA.write s d h0 h1 h2 hok.2.2.1 (hQ _ _ (by omega) h2),?_,fun hd=>by unfold Dev.write;rw[if_pos hd],fun hu=>(up_write_up hu s d).1⟩
  ·intro p hp
   rcases write_cases D s d h0 h1 h2 with⟨_,c2,_⟩ | ⟨_,_,_,c3,_,_⟩
   · rw[c2.2.1]
   · rw[c3,List.getD_eq_getElem?_getD,List.getD_eq_getElem?_getD,List.getElem?_set_ne (by omega)]
  ·rcases write_cases D s d h0 h1 h2 with⟨_,c2,_⟩ | ⟨_,_,_,_,c4,_⟩
   · rw[c2.2.2];omega
   · rw[c4,List.length_append];simp
 ·have:(D.write s d).1=D:=by
   unfold Dev.write
   split
   · rfl
   · rw[if_pos (by omega)]
  rw[this]
  exact OffLaw.refl _ _ _
theorem off_barrier (hi:Nat) (D:Dev) (hok:DevOk D):OffLaw hi 0 D D.barrier.1:=by
 refine⟨?_,fun p hp=>?_,fun Q hQ hA=>hA.barrier hok.2.2.1,by have:=barrier_soft D;omega,fun hd=>by unfold Dev.barrier;rw[if_pos hd],barrier_up⟩
 ·rcases barrier_cases D with⟨_,c,_⟩ | ⟨_,_,c,_⟩
  · rw[c.1]
  · rw[c];exact hok.2.2.1
 ·rcases barrier_cases D with⟨_,c,_⟩ | ⟨_,_,_,c,_⟩
  · rw[c.2.1]
  · rw[c]
theorem fl_ok {G:Lg} {D:Dev} {b:Nat} (h:DevOk D):∀k,DevOk (G.fl D b k).1
 | 0=>h
 | k+1=>by
  rw[Lg.fl]
  split
  · exact fl_ok h k
  · exact Dev.write_ok (fl_ok h k) _ _
theorem fl_off {G:Lg} {D:Dev} {b hi:Nat} (hn:0<G.n) (hh:G.first+G.n≤hi) (hok:DevOk D):∀k,OffLaw hi k D (G.fl D b k).1
 | 0=>OffLaw.refl _ _ _
 | k+1=>by
  have ih:=fl_off (b:=b) hn hh hok k
  rw[Lg.fl]
  split
  · exact⟨ih.len,ih.seen,ih.all,by have:=ih.soft;omega,ih.dead,ih.up⟩
  ·have:=Int.emod_lt_of_pos ((b+k:Nat):Int) hn
   exact ih.trans (off_write hi _ _ _ (fl_ok hok k) (by omega))
theorem flushed_off {G:Lg} {D:Dev} {b hi k:Nat} (hn:0<G.n) (hh:G.first+G.n≤hi) (hok:DevOk D) (hk:k≤4097):OffLaw hi 4097 D (G.flushed D b k).2.1:=by
 have h1:=fl_off (b:=b) hn hh hok k
 have h2:=h1.trans (off_barrier hi _ (fl_ok hok k))
 have h1':OffLaw hi 4097 D (G.fl D b k).1:=⟨h1.len,h1.seen,h1.all,by have:=h1.soft;omega,h1.dead,h1.up⟩
 have h2':OffLaw hi 4097 D (G.fl D b k).1.barrier.1:=⟨h2.len,h2.seen,h2.all,by have:=h2.soft;omega,h2.dead,h2.up⟩
 unfold Lg.flushed
 repeat' split
 · exact h1'
 · exact h2'
 · exact h2'
structure FlRel (first n bb:Nat) (P:ByteArray) (rs:List ByteArray) (at_:Int) (i0:Nat) (D:Dev) (i1:Nat) (D':Dev) (c:Int):Prop where
 off:OffLaw (first+n) 4097 D D'
 le:i0≤i1
 le':i1≤rs.length
 code:(c=0∧(at_<((54*bb+P.size+lenL (rs.take i1):Nat):Int)∨i1=rs.length)∧(D'.soft=[]∨D'=D))∨(c=20∧D'.down=true)
theorem ws_flush2 {w:World} {p dp first n bb:Nat} {P:ByteArray} {rs:List ByteArray} {i0:Nat} {S Sd:List Nat} {D:Dev} (h:Ws w p dp first n bb P rs i0 S Sd D) (at_:Int) :
  Calls Tryz.prog 122 #[.pointer (some ⟨p,0,none⟩),.int .i64 at_] w fun e w'=>∃c i1 Sd' D',e = .returned (.int .i64 c)∧Ws w' p dp first n bb P rs i1 S Sd' D'∧Keeps (fun k=>k∈S∨k∈Sd) w w'∧(∀k∈Sd',k∈Sd∨w.heap.size≤k) ∧
   FlRel first n bb P rs at_ i0 D i1 D' c:=by
 obtain⟨n1,n2,n3⟩:=h.len
 have hle:=lenL_take_le rs i0
 by_cases hlt:at_<((54*bb+P.size+lenL (rs.take i0):Nat):Int)
 · exact(wal_flush_not p dp _ S at_ (.inl hlt) w h.log).mono fun e w' ⟨he,hb⟩=>⟨0,i0,Sd,D,he,h.later hb,Keeps.of_below _ hb,fun k hk => .inl hk,OffLaw.refl _ _ _,Nat.le_refl _,h.le,.inl ⟨rfl,.inl hlt,.inr rfl⟩⟩
 by_cases heq:lenL (rs.take i0)=lenL rs
 ·have hi:=take_all_of h.rok h.le heq
  refine(wal_flush_not p dp _ S at_ (.inr (by show ((54*bb+P.size+lenL (rs.take i0):Nat):Int)=((54*bb+P.size+lenL rs:Nat):Int);rw[heq])) w h.log).mono fun e w' ⟨he,hb⟩=>⟨0,i0,Sd,D,he,h.later hb,Keeps.of_below _ hb,fun k hk => .inl hk,OffLaw.refl _ _ _,Nat.le_refl _,h.le,.inl ⟨rfl,.inr hi,.inr rfl⟩⟩
 ·have hbs:(P++encL rs).size=P.size+lenL rs:=by rw[ByteArray.size_append,encL_size]
  have hbb:=h.bbs
  have hj:bb+(P.size+lenL (rs.take i0))/54=(54*bb+P.size+lenL (rs.take i0))/54:=by omega
  obtain⟨cnt,hcnt⟩:∃cnt,cnt=(P.size+lenL rs+53)/54-(P.size+lenL (rs.take i0))/54:=⟨_,rfl⟩
  have hc1:∀k,k<cnt↔54*((P.size+lenL (rs.take i0))/54+k)<(P++encL rs).size:=fun k=>by rw[hbs];omega
  have HF:=wal_flush p dp _ S Sd D at_ (bb+(P.size+lenL (rs.take i0))/54) cnt (by show ((54*bb+P.size+lenL (rs.take i0):Nat):Int)≤at_;omega) (by show ((54*bb+P.size+lenL (rs.take i0):Nat):Int)<((54*bb+P.size+lenL rs:Nat):Int);omega) (by show ((54*bb:Nat):Int)≤((54*bb+P.size+lenL (rs.take i0):Nat):Int);omega) bb (by show ((54*bb:Nat):Int)=54*(bb:Int);omega) (by show _=((54*bb+P.size+lenL (rs.take i0):Nat):Int)/54;omega) (fun k=>by
   rw[hc1 k,hbs]
   show _↔54*((bb+(P.size+lenL (rs.take i0))/54+k:Nat):Int)<((54*bb+P.size+lenL rs:Nat):Int)
   omega) (by have:=h.soft.len;omega) w h.log h.dsk h.dis
  have hl:=flush_law (D:=D) (G:=mkLg first n bb P rs i0) (first:=first) (n:=n) (bb:=bb) (f:=P.size+lenL (rs.take i0)) (cnt:=cnt) rfl rfl rfl (by omega) (by show (P++encL rs).size≤_;omega) (by show _≤(P++encL rs).size;omega) rfl h.has hc1
  have hoff:=flushed_off (G:=mkLg first n bb P rs i0) (D:=D) (b:=bb+(P.size+lenL (rs.take i0))/54) (hi:=first+n) (k:=cnt) (by show (0:Int)<n;omega) (by show (first:Int)+(n:Int)≤_;omega) h.dsk.1 (by omega)
  have hsf:=flushed_soft (G:=mkLg first n bb P rs i0) (D:=D) (b:=bb+(P.size+lenL (rs.take i0))/54) (k:=cnt) (by omega) h.soft
  refine HF.mono fun e w' ⟨he,Sd',hlg,hdk,hkp,hsd⟩=>?_
  generalize (mkLg first n bb P rs i0).flushed D (bb+(P.size+lenL (rs.take i0))/54) cnt=X at *
  obtain⟨G',D',c⟩:=X
  dsimp only at *
  have hdis:∀k∈S,k∉Sd':=fun k hk h'=>by
   rcases hsd k h' with h2 | h2
   · exact h.dis k hk h2
   · have:=h.log.lt k hk;omega
  obtain⟨hh,⟨c1,c2,c3⟩ | ⟨c1,c2,c3,c4,c5⟩⟩:=hl
  ·subst c1 c2
   exact⟨20,i0,Sd',D',he,⟨hlg,hdk,hh,hdis,h.rok,h.le,h.pre,h.bbs,hsf (.inl c3)⟩,hkp,hsd,hoff,Nat.le_refl _,h.le,.inr ⟨rfl,c3⟩⟩
  ·subst c1 c2
   have hmk:{mkLg first n bb P rs i0 with firm:=(mkLg first n bb P rs i0).fin}=mkLg first n bb P rs rs.length:=by
    unfold mkLg
    rw[List.take_length]
   rw[hmk]at hlg
   have c5':DevHas D' first n bb (P++encL rs) (P++encL rs).size:=c5
   refine⟨0,rs.length,Sd',D',he,⟨hlg,hdk,?_,hdis,h.rok,Nat.le_refl _,h.pre,h.bbs,hsf (.inr c4)⟩,hkp,hsd,hoff,h.le,Nat.le_refl _,.inl ⟨rfl,.inr rfl,.inl c4⟩⟩
   rw[List.take_length,←hbs];exact c5'
end Go.Proofs.YtimomjheanfbmaaGreatDoor
namespace Go.Proofs.YtimomjheanfbmaaGreatDoor
open Go.RowKit
def SoftB (N:Nat) (D:Dev):Prop:=D.soft.length≤N∨(D.down=true∧D.soft.length≤N+5000)
theorem SoftB.ok {N:Nat} {D:Dev} (h:SoftB N D) (hN:N≤4000000000000):SoftOk D:=by
 rcases h with h | ⟨h,h'⟩
 · exact .inl (by omega)
 · exact .inr ⟨h,by omega⟩
theorem SoftB.mono {N M:Nat} {D:Dev} (h:SoftB N D) (hN:N≤M):SoftB M D:=by
 rcases h with h | ⟨h,h'⟩
 · exact .inl (by omega)
 · exact .inr ⟨h,by omega⟩
structure Pw (w:World) (p lp dp first n bb:Nat) (P:ByteArray) (rs:List ByteArray) (i0:Nat) (X:Pl) (sv:Value) (S Sl Sd:List Nat) (D:Dev):Prop where
 pool:PoolAt w p dp lp X sv S
 ws:Ws w lp dp first n bb P rs i0 Sl Sd D
 dl:∀k∈S,k∉Sl
 dd:∀k∈S,k∉Sd
 ring:first+n≤X.base
 fit:X.base+4*X.pages≤D.firm.length
theorem Pw.later {w w':World} {p lp dp first n bb:Nat} {P:ByteArray} {rs:List ByteArray} {i0:Nat} {X:Pl} {sv:Value} {S Sl Sd:List Nat} {D:Dev} (h:Pw w p lp dp first n bb P rs i0 X sv S Sl Sd D) (hb:Below w.heap.size w w'):Pw w' p lp dp first n bb P rs i0 X sv S Sl Sd D :=
 ⟨h.pool.later hb,h.ws.later hb,h.dl,h.dd,h.ring,h.fit⟩
def WrRel (first n bb:Nat) (P:ByteArray) (rs:List ByteArray) (base:Nat) (s:Slot) (i0:Nat) (D:Dev) (i1:Nat) (D':Dev) (c:Int):Prop :=
 (FlRel first n bb P rs s.st i0 D i1 D' c∧c=20)∨(∃D1,FlRel first n bb P rs s.st i0 D i1 D1 0∧WrLaw D1 (base+4*s.id.toNat) s.P s.st 4 D' c)
theorem FlRel.softB {first n bb:Nat} {P:ByteArray} {rs:List ByteArray} {at_:Int} {i0 i1:Nat} {D D':Dev} {c:Int} (h:FlRel first n bb P rs at_ i0 D i1 D' c) {N:Nat} (hs:SoftB N D):SoftB N D':=by
 rcases h.code with⟨_,_,h1 | rfl⟩ | ⟨_,h1⟩
 · exact .inl (by rw[h1];simp)
 · exact hs
 ·rcases hs with hs | ⟨hd,hs⟩
  · exact .inr ⟨h1,by have:=h.off.soft;omega⟩
  · rw[h.off.dead hd];exact .inr ⟨hd,hs⟩
theorem WrLaw.softB {D:Dev} {b:Nat} {P:Pg} {st:Int} {k:Nat} {D':Dev} {c:Int} (h:WrLaw D b P st k D' c) {N:Nat} (hs:SoftB N D):SoftB (N+k) D':=by
 rcases hs with hs | ⟨hd,hs⟩
 · exact .inl (by have:=h.soft;omega)
 · rw[h.dead hd];exact .inr ⟨hd,by omega⟩
theorem WrRel.softB {first n bb:Nat} {P:ByteArray} {rs:List ByteArray} {base:Nat} {s:Slot} {i0 i1:Nat} {D D':Dev} {c:Int} (h:WrRel first n bb P rs base s i0 D i1 D' c) {N:Nat} (hs:SoftB N D):SoftB (N+4) D':=by
 rcases h with⟨h,_⟩ | ⟨D1,h1,h2⟩
 · exact(h.softB hs).mono (by omega)
 · exact h2.softB (h1.softB hs)
theorem WrRel.code {first n bb:Nat} {P:ByteArray} {rs:List ByteArray} {base:Nat} {s:Slot} {i0 i1:Nat} {D D':Dev} {c:Int} (h:WrRel first n bb P rs base s i0 D i1 D' c):(c=0∧D'.down=false∧D.down=false)∨(c=20∧D'.down=true):=by
 rcases h with⟨h,rfl⟩ | ⟨D1,h1,h2⟩
 ·rcases h.code with⟨h0,_⟩ | h0
  · exact absurd h0 (by decide)
  · exact .inr h0
 ·rcases h2.code with h0 | ⟨h0,h3,_⟩
  · exact .inr h0
  ·refine .inl ⟨h0,(h3 (by omega)).1,?_⟩
   cases hd:D.down with
   | false=>rfl
   | true=>rw[h1.off.dead hd,hd]at h3;exact absurd (h3 (by omega)).2 (by decide)
end Go.Proofs.YtimomjheanfbmaaGreatDoor
namespace Go.Proofs.YtimomjheanfbmaaGreatDoor
open Go.RowKit
set_option maxRecDepth 100000 in
theorem pl_wrong {w:World} {p dp lp:Nat} {X:Pl} {sv:Value} {S:List Nat} (h:PoolAt w p dp lp X sv S) (id:Int) :
  Calls Tryz.prog 75 #[.pointer (some ⟨p,0,none⟩),.int .i64 id] w fun e w'=>e = .returned (.bool (decide (id<0)||decide ((X.pages:Int)≤id)))∧Below w.heap.size w w':=by
 obtain⟨-,h1,-⟩:=h
 have c3:w.cell? ⟨p,3,none⟩=some (.int .i64 X.pages):=cell_at h1 3
 clear h1
 by_cases h0:id<0
 ·go_enter Tryz.func75,Tryz.ntmps75
  go_wp2_with fail
  go_ret
  exact⟨by simp[h0],bR⟩
 ·have h0':decide (id<0)=false:=by simpa using h0
  go_enter Tryz.func75,Tryz.ntmps75
  go_wp2_with fail
  go_ret
  exact⟨by simp[h0],bR⟩
set_option maxRecDepth 100000 in
theorem pl_findc (s:Slot) (id:Int) (b:Nat) (w:World) (hb:w.cell? ⟨b,0,none⟩=some (.int .i64 id)) (hbl:b<w.heap.size) :
  Calls Tryz.prog 119 #[.agg (slC s).toArray,.pointer (some ⟨b,0,none⟩)] w fun e w'=>e = .returned (.bool (decide (s.id=id)))∧Below w.heap.size w w':=by
 have hC:(slC s).toArray = #[.int .i64 s.id,.int .i64 s.P.kind,.int .i64 s.P.level,.int .i64 s.P.store,.int .i64 s.P.next,.int .i64 (s.P.st 0),.string (s.P.dt 0),.int .i64 (s.P.st 1),.string (s.P.dt 1),.int .i64 (s.P.st 2),.string (s.P.dt 2),
  .int .i64 (s.P.st 3),.string (s.P.dt 3),.int .i64 (s.P.st 4),.string (s.P.dt 4),.int .i64 (s.P.st 5),.string (s.P.dt 5),.int .i64 s.st,.bool s.dirty,.bool s.warm]:=rfl
 rw[hC]
 clear hC
 have hb':(w.alloc (.cells #[.int .i64 s.id,.int .i64 s.P.kind,.int .i64 s.P.level,.int .i64 s.P.store,.int .i64 s.P.next,.int .i64 (s.P.st 0),.string (s.P.dt 0),.int .i64 (s.P.st 1),.string (s.P.dt 1),.int .i64 (s.P.st 2),.string (s.P.dt 2),
  .int .i64 (s.P.st 3),.string (s.P.dt 3),.int .i64 (s.P.st 4),.string (s.P.dt 4),.int .i64 (s.P.st 5),.string (s.P.dt 5),.int .i64 s.st,.bool s.dirty,.bool s.warm] 166)).cell? ⟨b,0,none⟩=some (.int .i64 id):=by
  rw[←hb]
  unfold World.cell?
  rw[Below.heap_alloc _ _ _ hbl]
 by_cases he:s.id=id
 ·have hd:(s.id==id)=true:=by simpa using he
  rw[decide_eq_true he]
  replace he:=Hd he
  go_enter Tryz.func119,Tryz.ntmps119
  go_wp2_with fail
  go_ret
  exact⟨rfl,bA bR⟩
 ·have hd:(s.id==id)=false:=by simpa using he
  rw[decide_eq_false he]
  replace he:=Hd he
  go_enter Tryz.func119,Tryz.ntmps119
  go_wp2_with fail
  go_ret
  exact⟨rfl,bA bR⟩
theorem slot_range {w:World} {g n c:Nat} {l:List Slot} (h:OwnS w 166 20 (.slice (some ⟨g,0,none⟩) n c) n (slV l)) (i:Nat) (s:Slot) (hi:l[i]? = some s):w.rangeAt g (i*20) (slC s):=fun j v hj=>by
 have hjl:j<20:=by
  have:=(List.getElem?_eq_some_iff.1 hj).1
  rwa[slC_length]at this
 have h2:(slV l)[20*i+j]? = some v:=by rw[slV_get l i j hjl,hi];exact hj
 have:=World.ownsRow.cells h (g:=g) rfl (20*i+j) v h2
 rw[Addr.add_mid,Nat.zero_add]at this
 rw[Nat.mul_comm i 20]
 exact this
set_option maxRecDepth 100000 in
set_option maxHeartbeats 400000 in
theorem pl_index {w:World} {sv:Value} {l:List Slot} {n:Nat} (hn:l.length=n) (hn2:n≤256) (h:OwnS w 166 20 sv n (slV l)) (id:Int) (b:Nat) (hb:w.cell? ⟨b,0,none⟩=some (.int .i64 id)) (hbl:b<w.heap.size) :
  Calls Tryz.prog 118 #[sv,.func (.func 119) #[] #[.pointer (some ⟨b,0,none⟩)]] w fun e w'=>((∃i:Nat,∃s,l[i]? = some s∧s.id=id∧(∀j s',j<i→l[j]? = some s'→s'.id≠id)∧e = .returned (.int .i64 i))∨((∀s∈l,s.id≠id)∧e = .returned (.int .i64 (-1))))∧Below w.heap.size w w':=by
 obtain⟨a,c,rfl⟩:=h.form
 have H:=Hd h
 replace hn:=Hd hn
 clear h
 go_enter Tryz.func118,Tryz.ntmps118
 go_wp2_with fail
 go_loopw [8] (fun x wr=>∃k:Nat,k≤n∧x = .int .i64 k∧Hid (∀j s',j<k→l[j]? = some s'→s'.id≠id)∧Hid (Below w.heap.size w wr)) (fun x _=>n-(intOf x).toNat)
 case atStart=>exact⟨0,by omega,rfl,fun j s' hj=>by omega,bR⟩
 case round =>
  obtain⟨k,hk,rfl,hlo,HB⟩:=hrel
  by_cases hkn:k<n
  ·have hkI:(k:Int)<n:=by omega
   obtain⟨g,rfl⟩:∃g,a=some ⟨g,0,none⟩:=by
    obtain⟨g,c',he⟩:=H.out.has (by omega)
    exact⟨g,by simpa using congrArg (fun v=>match v with | .slice a _ _=>a | _=>none) he⟩
   obtain⟨s,hs⟩:∃s,l[k]? = some s:=⟨_,List.getElem?_eq_getElem (by rw[hn.out];omega)⟩
   have HR:=Hd (slot_range (H.out.keep (Keeps.of_below (fun _=>False) HB.out) (fun _ _ h=>h)) k s hs)
   have hbr:wr.cell? ⟨b,0,none⟩=some (.int .i64 id):=by
    rw[←hb];unfold World.cell?;rw[HB.out.block b hbl]
   have HC:=Hd (pl_findc s id b wr hbr (Nat.lt_of_lt_of_le hbl HB.out.size))
   clear hbr
   replace hs:=Hd hs
   have hCl:(Tryz.prog.info? 166).map (·.size)=some (slC s).length:=by kernel_rfl
   obtain⟨C,hC⟩:∃C,slC s=C:=⟨_,rfl⟩
   rw[hC]at HR HC hCl
   replace hC:=Hd hC
   replace hCl:=Hd hCl
   go_wp2_with (refine wpList_load_mid rfl 166 _ rfl g (k*20) rfl C _ HR.out Tryz.underlying166 rfl hCl.out ?_)
   refine(HC.out).mono ?_
   rintro e w5 ⟨rfl,hb5⟩
   have HB5:=Hd (bT HB.out hb5)
   clear hb5 HC HR
   by_cases hid:s.id=id
   ·rw[decide_eq_true hid]
    replace hid:=Hd hid
    go_wp2_with fail
    go_ret
    exact⟨.inl ⟨k,s,hs.out,hid.out,hlo.out,rfl⟩,HB5.out⟩
   ·rw[decide_eq_false hid]
    replace hid:=Hd hid
    go_wp2_with fail
    go_roundw
    case rel=>exact⟨k+1,by omega,rfl,fun j s' hj hl he=>by
     by_cases hjk:j=k
     ·subst hjk
      rw[hs.out]at hl
      injection hl with hl
      subst hl
      exact hid.out he
     · exact hlo.out j s' (by omega) hl he,HB5⟩
    case measure=>simp[intOf];omega
  ·obtain rfl:k=n:=by omega
   go_wp2_with fail
   go_ret
   exact⟨.inr ⟨fun s hs he=>by
    obtain⟨j,hj,rfl⟩:=List.getElem_of_mem hs
    exact hlo.out j _ (by rw[←hn.out];exact hj) (List.getElem?_eq_getElem hj) he,rfl⟩,HB.out⟩
set_option maxRecDepth 100000 in
theorem pl_find {w:World} {p dp lp:Nat} {X:Pl} {sv:Value} {S:List Nat} (h:PoolAt w p dp lp X sv S) (id:Int) :
  Calls Tryz.prog 76 #[.pointer (some ⟨p,0,none⟩),.int .i64 id] w fun e w'=>((∃i:Nat,∃s,X.slots[i]? = some s∧s.id=id∧(∀j s',j<i→X.slots[j]? = some s'→s'.id≠id)∧e = .returned (.int .i64 i))∨((∀s∈X.slots,s.id≠id)∧e = .returned (.int .i64 (-1))))∧Below w.heap.size w w':=by
 obtain⟨hok,h1,h2,-⟩:=h
 obtain⟨-,-,-,-,o1,o2,-⟩:=hok
 have hbox:(w.alloc (.cells #[.int .i64 id] 3)).cell? ⟨w.heap.size,0,none⟩=some (.int .i64 id):=cell_at (hN rfl) 0
 have h5:(w.alloc (.cells #[.int .i64 id] 3)).cell? ⟨p,5,none⟩=some sv:=cell_at (hO h1) 5
 have hO2:OwnS (w.alloc (.cells #[.int .i64 id] 3)) 166 20 sv X.slots.length (slV X.slots):=h2.keep ((Keeps.refl (fun _=>False) w).alloc _) (fun _ _ h=>h)
 have HI:=Hd (pl_index rfl (by omega) hO2 id w.heap.size hbox (by simp))
 obtain⟨a,c,rfl⟩:=h2.form
 clear h1 h2 hO2 hbox
 go_enter Tryz.func76,Tryz.ntmps76
 go_wp2_with fail
 refine(HI.out).mono ?_
 rintro e w5 ⟨h,hb⟩
 have HB5:=Hd (show Below w.heap.size w w5 from(bA bR).trans (hb.mono (by simp)))
 clear hb HI
 rcases h with⟨i,s,e1,e2,e3,rfl⟩ | ⟨e1,rfl⟩
 ·have hfin:=Hd (And.intro e1 (And.intro e2 e3))
  clear e1 e2 e3
  go_wp2_with fail
  go_ret
  exact⟨.inl ⟨i,s,hfin.out.1,hfin.out.2.1,hfin.out.2.2,rfl⟩,HB5.out⟩
 ·have hfin:=Hd e1
  clear e1
  go_wp2_with fail
  go_ret
  exact⟨.inr ⟨hfin.out,rfl⟩,HB5.out⟩
end Go.Proofs.YtimomjheanfbmaaGreatDoor
