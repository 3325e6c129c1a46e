import Derived.Test.YtimomjheanfbmaaGreatDoorQaa
import Derived.Test.YtimomjheanfbmaaGreatDoorProg
import Derived.BigRegion
import Derived.Test.YtimomjheanfbmaaGreatDoorQab
import Derived.Test.YtimomjheanfbmaaGreatDoorQac
set_option linter.unusedSimpArgs false
set_option linter.unusedVariables false
namespace Go.Proofs.YtimomjheanfbmaaGreatDoor
open Go.RowKit
structure Dev where
 firm:List ByteArray
 soft:List (Int×ByteArray)
 seen:List ByteArray
 fuel:Int
 down:Bool
def strV (l:List ByteArray):List Value:=l.map Value.string
def recV:List (Int×ByteArray)→List Value
 | []=>[]
 | x::l => .int .i64 x.1 :: .string x.2::recV l
theorem strV_length (l:List ByteArray):(strV l).length=l.length:=List.length_map _
theorem recV_length:∀l:List (Int×ByteArray),(recV l).length=l.length*2
 | []=>rfl
 | x::l=>by simp[recV,recV_length l];omega
theorem recV_append:∀(l m:List (Int×ByteArray)),recV (l++m)=recV l++recV m
 | [],m=>rfl
 | x::l,m=>by simp[recV,recV_append l m]
theorem recV_get:∀(l:List (Int×ByteArray)) (j:Nat),(recV l)[2*j]? = (l[j]?).map (fun x=>Value.int .i64 x.1)∧(recV l)[2*j+1]? = (l[j]?).map (fun x=>Value.string x.2)
 | [],j=>by simp[recV]
 | x::l,0=>by simp[recV]
 | x::l,j+1=>by
  have:=recV_get l j
  rw[show 2*(j+1)=2*j+1+1 from by omega]
  simpa[recV]using this
def DevOk (D:Dev):Prop:=0<D.firm.length∧D.firm.length≤16384∧D.seen.length=D.firm.length∧(∀x∈D.soft,0≤x.1∧x.1<D.firm.length∧x.2.size=64)∧-1≤D.fuel∧D.fuel≤9223372036854775807 ∧
 (∀s∈D.seen,s.size=64)∧(∀s∈D.firm,s.size=64)
def DiskAt (w:World) (p:Nat) (D:Dev) (S:List Nat):Prop:=DevOk D∧∃fv sv ev:Value,
 w.heap[p]? = some (.cells #[fv,sv,ev,.int .i64 D.fuel,.bool D.down] 155 (0,0))∧OwnS w 9 1 fv D.firm.length (strV D.firm)∧OwnS w 218 2 sv D.soft.length (recV D.soft) ∧
 OwnS w 9 1 ev D.seen.length (strV D.seen)∧S=p::(blk fv++(blk sv++blk ev))∧S.Nodup
theorem DiskAt.keep {R:Nat→Prop} {w w':World} {p:Nat} {D:Dev} {S:List Nat} (h:DiskAt w p D S) (hk:Keeps R w w') (hS:∀k∈S,¬R k):DiskAt w' p D S:=by
 obtain⟨hok,fv,sv,ev,h1,h2,h3,h4,rfl,h6⟩:=h
 exact⟨hok,fv,sv,ev,hk.keep h1 (hS _ (by simp)),h2.keep hk (fun k hkk=>hS k (by simp[hkk])),h3.keep hk (fun k hkk=>hS k (by simp[hkk])),h4.keep hk (fun k hkk=>hS k (by simp[hkk])),rfl,h6⟩
theorem DiskAt.later {w w':World} {p:Nat} {D:Dev} {S:List Nat} (h:DiskAt w p D S) (hb:Below w.heap.size w w'):DiskAt w' p D S:=h.keep (Keeps.of_below (fun _=>False) hb) (fun _ _=>id)
theorem DiskAt.lt {w:World} {p:Nat} {D:Dev} {S:List Nat} (h:DiskAt w p D S):∀k∈S,k<w.heap.size:=by
 obtain⟨hok,fv,sv,ev,h1,h2,h3,h4,rfl,h6⟩:=h
 intro k hk
 simp only[List.mem_cons,List.mem_append]at hk
 rcases hk with rfl | hk | hk | hk
 · exact block_lt h1
 · exact h2.lt hk
 · exact h3.lt hk
 · exact h4.lt hk
theorem DiskAt.mem {w:World} {p:Nat} {D:Dev} {S:List Nat} (h:DiskAt w p D S):p∈S:=by
 obtain⟨hok,fv,sv,ev,h1,h2,h3,h4,rfl,h6⟩:=h
 simp
theorem OwnS.form {w:World} {e:TypeId} {size:Nat} {v:Value} {n:Nat} {xs:List Value} (h:OwnS w e size v n xs):∃a c,v = .slice a n c:=by
 rcases h.2 with⟨rfl,rfl⟩ | ⟨g,cap,cur,rfl,_⟩
 · exact⟨_,_,rfl⟩
 · exact⟨_,_,rfl⟩
theorem OwnS.has {w:World} {e:TypeId} {size:Nat} {v:Value} {n:Nat} {xs:List Value} (h:OwnS w e size v n xs) (hn:0<n):∃g c,v = .slice (some ⟨g,0,none⟩) n c:=by
 rcases h.2 with⟨rfl,rfl⟩ | ⟨g,cap,cur,rfl,_⟩
 · omega
 · exact⟨_,_,rfl⟩
theorem blk_nodup (v:Value):(blk v).Nodup:=by unfold blk;cases v.ownBlock <;> simp
theorem nodup_swap {p:Nat} {F A B E:List Nat} (h:(p::(F++(A++E))).Nodup) (hB:B.Nodup) (hsub:∀k∈B,k∈A∨(k≠p∧k∉F∧k∉E)):(p::(F++(B++E))).Nodup:=by
 simp only[List.nodup_cons,List.nodup_append,List.mem_append,not_or]at h ⊢
 obtain⟨⟨hpF,hpA,hpE⟩,hF,⟨hA,hE,hAE⟩,hFx⟩:=h
 refine⟨⟨hpF,?_,hpE⟩,hF,⟨hB,hE,?_⟩,?_⟩
 ·intro hp
  rcases hsub p hp with h1 | h1
  · exact hpA h1
  · exact h1.1 rfl
 ·intro a ha b hb e
  subst e
  rcases hsub a ha with h1 | h1
  · exact hAE a h1 a hb rfl
  · exact h1.2.2 hb
 ·intro a ha b hb e
  subst e
  rcases hb with hb | hb
  ·rcases hsub a hb with h1 | h1
   · exact hFx a ha a (.inl h1) rfl
   · exact h1.2.1 ha
  · exact hFx a ha a (.inr hb) rfl
set_option maxRecDepth 100000 in
theorem dsk_off (p:Nat) (D:Dev) (S:List Nat) (w:World) (h:DiskAt w p D S):Calls Tryz.prog 116 #[.pointer (some ⟨p,0,none⟩)] w fun e w'=>e = .returned (.bool D.down)∧w'=w:=by
 obtain⟨hok,fv,sv,ev,h1,h2,h3,h4,rfl,h6⟩:=h
 have c4:=cell_at h1 4
 clear h1 h2 h3 h4 h6 hok
 go_enter Tryz.func116,Tryz.ntmps116
 go_wp2_with fail
 go_ret
 exact⟨rfl,rfl⟩
set_option maxRecDepth 100000 in
theorem dsk_size (p:Nat) (D:Dev) (S:List Nat) (w:World) (h:DiskAt w p D S):Calls Tryz.prog 74 #[.pointer (some ⟨p,0,none⟩)] w fun e w'=>e = .returned (.int .i64 D.firm.length)∧w'=w:=by
 obtain⟨hok,fv,sv,ev,h1,h2,h3,h4,rfl,h6⟩:=h
 obtain⟨a,c,rfl⟩:=h2.form
 have c0:=cell_at h1 0
 clear h1 h2 h3 h4 h6 hok
 go_enter Tryz.func74,Tryz.ntmps74
 go_wp2_with fail
 go_ret
 exact⟨rfl,rfl⟩
def Dev.read (D:Dev) (s:Int):ByteArray×Int:=if D.down=true then (⟨#[]⟩,20) else if s<0∨(D.firm.length:Int)≤s then (⟨#[]⟩,1) else (D.seen.getD s.toNat ⟨#[]⟩,0)
set_option maxRecDepth 100000 in
theorem dsk_read (p:Nat) (s:Int) (D:Dev) (S:List Nat) (w:World) (h:DiskAt w p D S):Calls Tryz.prog 120 #[.pointer (some ⟨p,0,none⟩),.int .i64 s] w fun e w'=>e = .returned (.tuple #[.string (D.read s).1,.int .i64 (D.read s).2])∧w'=w:=by
 have H:=Hd (dsk_off p D S w h)
 unfold Dev.read
 obtain⟨hok,fv,sv,ev,h1,h2,h3,h4,rfl,h6⟩:=h
 obtain⟨hn,hm,hsl,-⟩:=hok
 obtain⟨g,c,rfl⟩:=h4.has (by omega)
 have c0:=cell_at h1 2
 cases hd:D.down with
 | true =>
  rw[hd]at H
  simp only[if_true]
  go_enter Tryz.func120,Tryz.ntmps120
  go_wp2_with fail
  refine(H.out).mono ?_
  rintro e w1 ⟨rfl,rfl⟩
  go_wp2_with fail
  go_ret2
  exact⟨rfl,rfl⟩
 | false =>
  rw[hd]at H
  simp only[Bool.false_eq_true,if_false]
  by_cases hs:s<0
  ·rw[if_pos (.inl hs)]
   go_enter Tryz.func120,Tryz.ntmps120
   go_wp2_with fail
   refine(H.out).mono ?_
   rintro e w1 ⟨rfl,rfl⟩
   go_wp2_with fail
   go_ret2
   exact⟨rfl,rfl⟩
  ·by_cases hs2:(D.firm.length:Int)≤s
   ·rw[if_pos (.inr hs2)]
    have hs3:(D.seen.length:Int)≤s:=by omega
    go_enter Tryz.func120,Tryz.ntmps120
    go_wp2_with fail
    refine(H.out).mono ?_
    rintro e w1 ⟨rfl,rfl⟩
    go_wp2_with fail
    go_ret2
    exact⟨rfl,rfl⟩
   ·rw[if_neg (by omega)]
    obtain⟨i,rfl⟩:∃i:Nat,s=(i:Int):=⟨s.toNat,by omega⟩
    have hi:(i:Int)<D.seen.length:=by omega
    have hc:w.cell? ⟨g,i,none⟩=some (.string (D.seen.getD i ⟨#[]⟩)):=by
     rw[h4.cellAt i (by omega)]
     unfold strV
     rw[List.getElem?_map,List.getD_eq_getElem?_getD,List.getElem?_eq_getElem (by omega)];rfl
    rw[Int.toNat_natCast]
    generalize D.seen.getD i ⟨#[]⟩=d at *
    go_enter Tryz.func120,Tryz.ntmps120
    go_wp2_with fail
    refine(H.out).mono ?_
    rintro e w1 ⟨rfl,rfl⟩
    go_wp2_with fail
    go_ret2
    exact⟨rfl,rfl⟩
def Dev.burn (D:Dev):Dev×Bool:=if D.fuel=0 then ({D with down:=true},false) else (if 0<D.fuel then {D with fuel:=D.fuel-1} else D,true)
theorem Dev.burn_ok {D:Dev} (h:DevOk D):DevOk D.burn.1:=by
 obtain⟨h1,h2,h3,h4,h5,h6,h7,h8⟩:=h
 unfold Dev.burn
 by_cases hf:D.fuel=0
 · rw[if_pos hf];exact⟨h1,h2,h3,h4,h5,h6,h7,h8⟩
 ·rw[if_neg hf]
  by_cases hg:0<D.fuel
  · rw[if_pos hg];exact⟨h1,h2,h3,h4,by show -1≤D.fuel-1;omega,by show D.fuel-1≤_;omega,h7,h8⟩
  · rw[if_neg hg];exact⟨h1,h2,h3,h4,h5,h6,h7,h8⟩
theorem disk_put {w:World} {p:Nat} {D':Dev} {fv sv ev:Value} {w':World} (h6:(p::(blk fv++(blk sv++blk ev))).Nodup) (hok:DevOk D') (hk:Keeps (· = p) w w')
  (h1:w'.heap[p]? = some (.cells #[fv,sv,ev,.int .i64 D'.fuel,.bool D'.down] 155 (0,0))) (h2:OwnS w 9 1 fv D'.firm.length (strV D'.firm)) (h3:OwnS w 218 2 sv D'.soft.length (recV D'.soft))
  (h4:OwnS w 9 1 ev D'.seen.length (strV D'.seen)):DiskAt w' p D' (p::(blk fv++(blk sv++blk ev))):=by
 have hn:=(List.nodup_cons.1 h6).1
 refine⟨hok,fv,sv,ev,h1,h2.keep hk fun k hkk e=>hn ?_,h3.keep hk fun k hkk e=>hn ?_,h4.keep hk fun k hkk e=>hn ?_,rfl,h6⟩
 all_goals (subst e;simp[hkk])
set_option maxRecDepth 100000 in
theorem dsk_burn (p:Nat) (D:Dev) (S:List Nat) (w:World) (h:DiskAt w p D S):Calls Tryz.prog 117 #[.pointer (some ⟨p,0,none⟩)] w fun e w' =>
  e = .returned (.bool D.burn.2)∧DiskAt w' p D.burn.1 S∧Keeps (· = p) w w':=by
 have hbok:=Dev.burn_ok h.1
 obtain⟨hok,fv,sv,ev,h1,h2,h3,h4,rfl,h6⟩:=h
 have c3:=cell_at h1 3
 have c4:=cell_at h1 4
 have f3:=free_at h1 3
 have f4:=free_at h1 4
 have H1:=Hd h1
 have hfu:=hok.2.2.2.2
 unfold Dev.burn at *
 by_cases hf:D.fuel=0
 ·rw[if_pos hf]at hbok ⊢
  have hs:=heap_set h1 4 (.bool true)
  have P:=Hd (disk_put (D':={D with down:=true}) h6 hbok ((Keeps.refl _ w).setCell ⟨p,4,none⟩ (.bool true) (.inl rfl)) hs h2 h3 h4)
  have K:=Hd ((Keeps.refl (· = p) w).setCell ⟨p,4,none⟩ (.bool true) (.inl rfl))
  clear h1 h2 h3 h4 h6 hok hs hbok
  go_enter Tryz.func117,Tryz.ntmps117
  go_wp2_with fail
  go_ret
  exact⟨rfl,P.out,K.out⟩
 ·rw[if_neg hf]at hbok ⊢
  by_cases hg:0<D.fuel
  ·rw[if_pos hg]at hbok ⊢
   have hs:=heap_set h1 3 (.int .i64 (D.fuel-1))
   have P:=Hd (disk_put (D':={D with fuel:=D.fuel-1}) h6 hbok ((Keeps.refl _ w).setCell ⟨p,3,none⟩ (.int .i64 (D.fuel-1)) (.inl rfl)) hs h2 h3 h4)
   have K:=Hd ((Keeps.refl (· = p) w).setCell ⟨p,3,none⟩ (.int .i64 (D.fuel-1)) (.inl rfl))
   clear h1 h2 h3 h4 h6 hok hs hbok
   go_enter Tryz.func117,Tryz.ntmps117
   go_wp2_with fail
   go_ret
   exact⟨rfl,P.out,K.out⟩
  ·rw[if_neg hg]at hbok ⊢
   have P:=Hd (disk_put h6 hbok (Keeps.refl _ w) h1 h2 h3 h4)
   have hne:(D.fuel==0)=false:=by simpa using hf
   clear h1 h2 h3 h4 h6 hok hbok
   go_enter Tryz.func117,Tryz.ntmps117
   go_wp2_with fail
   go_ret
   exact⟨rfl,P.out,Keeps.refl _ _⟩
def Dev.write (D:Dev) (s:Int) (d:ByteArray):Dev×Int :=
 if D.down=true then (D,20) else if s<0∨(D.firm.length:Int)≤s∨d.size≠64 then (D,1)
 else if D.burn.2=false then (D.burn.1,20) else ({D.burn.1 with seen:=D.burn.1.seen.set s.toNat d,soft:=D.burn.1.soft++[(s,d)]},0)
theorem burn_same (D:Dev):D.burn.1.firm=D.firm∧D.burn.1.seen=D.seen∧D.burn.1.soft=D.soft:=by
 unfold Dev.burn
 split
 · exact⟨rfl,rfl,rfl⟩
 · split <;> exact⟨rfl,rfl,rfl⟩
theorem Dev.write_ok {D:Dev} (h:DevOk D) (s:Int) (d:ByteArray):DevOk (D.write s d).1:=by
 have hb:=Dev.burn_ok h
 unfold Dev.write
 split
 · exact h
 ·split
  · exact h
  ·rename_i hs
   split
   · exact hb
   ·obtain⟨e1,e2,e3⟩:=burn_same D
    obtain⟨h1,h2,h3,h4,h5,h6,h7,h8⟩:=hb
    rw[e1]at h1 h2 h3 h4 h8
    rw[e2]at h3 h7
    rw[e3]at h4
    refine⟨by rw[e1];exact h1,by rw[e1];exact h2,by rw[e1,e2,List.length_set];exact h3,?_,h5,h6,?_,by rw[e1];exact h8⟩
    ·intro x hx
     rw[e3,List.mem_append,List.mem_singleton]at hx
     rw[e1]
     rcases hx with hx | rfl
     · exact h4 x hx
     · exact⟨by show 0≤s;omega,by show s<_;omega,by show d.size=64;omega⟩
    ·intro x hx
     rw[e2]at hx
     rcases List.mem_or_eq_of_mem_set hx with hx | rfl
     · exact h7 x hx
     · omega
theorem Tryz.info_wr:(Tryz.prog.info? 218).map (fun i=>(i.zero,i.size,i.bytes))=some (some (.agg #[.int .i64 0,.string .empty]),2,24):=by kernel_rfl
theorem OwnS.set {w:World} {e:TypeId} {size g n c:Nat} {xs:List Value} (h:OwnS w e size (.slice (some ⟨g,0,none⟩) n c) n xs) (j:Nat) (u:Value) :
 OwnS (w.setCell ⟨g,j,none⟩ u) e size (.slice (some ⟨g,0,none⟩) n c) n (xs.set j u):=(World.ownsRow.stored h j u).1
theorem strV_set (l:List ByteArray) (i:Nat) (d:ByteArray):strV (l.set i d)=(strV l).set i (.string d):=by
 unfold strV;rw[List.map_set]
theorem cell_two_new (w:World) (x y:Value) (T:TypeId) (f:Nat×Nat) (n:Nat) (hn:n=w.heap.size):∀(j:Nat) (u:Value),[x,y][j]? = some u→(w.alloc (.cells #[x,y] T f)).cell? ((⟨n,0,none⟩:Addr).add j)=some u:=by
 intro j u hj
 subst hn
 have e:(⟨w.heap.size,0,none⟩:Addr).add j=⟨w.heap.size,j,none⟩:=by unfold Addr.add;split <;> simp_all
 rw[e,cell_at (hN rfl)]
 simpa using hj
set_option maxHeartbeats 800000 in
set_option maxRecDepth 100000 in
theorem dsk_write (p:Nat) (s:Int) (d:ByteArray) (hd:d.size≤maxLen) (D:Dev) (S:List Nat) (hsoft:D.soft.length≤9000000000000) (w:World) (h:DiskAt w p D S) :
  Calls Tryz.prog 72 #[.pointer (some ⟨p,0,none⟩),.int .i64 s,.string d] w fun e w' =>
   e = .returned (.int .i64 (D.write s d).2)∧∃S',DiskAt w' p (D.write s d).1 S'∧Keeps (· ∈ S) w w'∧∀k∈S',k∈S∨w.heap.size≤k:=by
 have H:=Hd (dsk_off p D S w h)
 have HB:=Hd (dsk_burn p D S w h)
 have HA:=Hd h
 have hwok:=Dev.write_ok h.1 s d
 obtain⟨e1,e2,e3⟩:=burn_same D
 unfold Dev.write at hwok ⊢
 unfold maxLen at hd
 obtain⟨hok,fv,sv,ev,h1,h2,h3,h4,hS,h6⟩:=h
 obtain⟨hn,hm,hsl,-⟩:=hok
 obtain⟨g,c,rfl⟩:=h4.has (by omega)
 have c2:=cell_at h1 2
 clear h1 h2 h3 h4 h6 hS
 have fin:∀(w1:World) (D1:Dev),w1=w→D1=D→∃S',DiskAt w1 p D1 S'∧Keeps (· ∈ S) w w1∧∀k∈S',k∈S∨w.heap.size≤k:=by
  rintro _ _ rfl rfl
  exact⟨S,HA.out,Keeps.refl _ _,fun k hk => .inl hk⟩
 cases hdn:D.down with
 | true =>
  rw[hdn]at H
  simp only[if_true]
  go_enter Tryz.func72,Tryz.ntmps72
  go_wp2_with fail
  refine(H.out).mono ?_
  rintro e w1 ⟨rfl,rfl⟩
  go_wp2_with fail
  go_ret
  exact⟨rfl,fin _ _ rfl rfl⟩
 | false =>
  rw[hdn]at H hwok
  simp only[Bool.false_eq_true,if_false]at hwok ⊢
  by_cases hs:s<0
  ·rw[if_pos (.inl hs)]
   go_enter Tryz.func72,Tryz.ntmps72
   go_wp2_with fail
   refine(H.out).mono ?_
   rintro e w1 ⟨rfl,rfl⟩
   go_wp2_with fail
   go_ret
   exact⟨rfl,fin _ _ rfl rfl⟩
  ·by_cases hs2:(D.firm.length:Int)≤s
   ·rw[if_pos (.inr (.inl hs2))]
    have hs3:(D.seen.length:Int)≤s:=by omega
    go_enter Tryz.func72,Tryz.ntmps72
    go_wp2_with fail
    refine(H.out).mono ?_
    rintro e w1 ⟨rfl,rfl⟩
    go_wp2_with fail
    go_ret
    exact⟨rfl,fin _ _ rfl rfl⟩
   ·have hs3:s<(D.seen.length:Int):=by omega
    by_cases hz:d.size≠64
    ·rw[if_pos (.inr (.inr hz))]
     have hz':((d.size:Int) != 64)=true:=by simp;omega
     go_enter Tryz.func72,Tryz.ntmps72
     go_wp2_with fail
     refine(H.out).mono ?_
     rintro e w1 ⟨rfl,rfl⟩
     go_wp2_with fail
     go_ret
     exact⟨rfl,fin _ _ rfl rfl⟩
    ·have hz':d.size=64:=by omega
     rw[if_neg (by omega)]at hwok ⊢
     cases hb2:D.burn.2 with
     | false =>
      rw[hb2]at HB
      simp only[if_true]
      go_enter Tryz.func72,Tryz.ntmps72
      go_wp2_with fail
      refine(H.out).mono ?_
      rintro e w1 ⟨rfl,rfl⟩
      go_wp2_with fail
      refine(HB.out).mono ?_
      rintro e w2 ⟨rfl,hD,hk⟩
      go_wp2_with fail
      go_ret
      exact⟨rfl,S,hD,hk.mono fun i _ e=>by subst e;exact HA.out.mem,fun k hk => .inl hk⟩
     | true =>
      rw[hb2]at HB hwok
      simp only[Bool.true_eq_false,if_false]at hwok ⊢
      obtain⟨i0,hi,hi0,hi1,hi2⟩:=info_parts Tryz.info_wr
      obtain⟨i,rfl⟩:∃i:Nat,s=(i:Int):=⟨s.toNat,by omega⟩
      rw[Int.toNat_natCast]at hwok ⊢
      have hwok:=Hd hwok
      have e1:=Hd e1
      have e2:=Hd e2
      have e3:=Hd e3
      clear hm hs2
      go_enter Tryz.func72,Tryz.ntmps72
      go_wp2_with fail
      refine(H.out).mono ?_
      rintro e w1 ⟨rfl,rfl⟩
      go_wp2_with fail
      refine(HB.out).mono ?_
      rintro e w2 ⟨rfl,hD,hk⟩
      have hbm:=hD.mem
      have HD:=Hd hD
      have HK:=Hd hk
      obtain⟨hok2,fv2,sv2,ev2,h1,h2,h3,h4,hS,h6⟩:=hD
      rw[e2.out]at h4
      rw[e3.out]at h3
      rw[hS]at h6
      obtain⟨g2,c2',rfl⟩:=h4.has (by omega)
      have hpg:p≠g2:=by
       intro e;subst e
       exact(List.nodup_cons.1 h6).1 (by simp[blk,Value.ownBlock])
      have hpsv:p∉blk sv2:=fun e=>(List.nodup_cons.1 h6).1 (by simp[e])
      have hgsv:g2∉blk sv2:=fun e=>(List.nodup_append.1 (List.nodup_append.1 (List.nodup_cons.1 h6).2).2.1).2.2 g2 e g2 (by simp[blk,Value.ownBlock]) rfl
      have hplt:p<w2.heap.size:=block_lt h1
      have hglt:g2<w2.heap.size:=h4.lt (by simp[blk,Value.ownBlock])
      have C1:=cell_at h1 1
      have C2:=cell_at h1 2
      have F1:=free_at h1 1
      have cg:w2.cell? ⟨g2,i,none⟩=some (.string (D.seen.getD i ⟨#[]⟩)):=by
       rw[h4.cellAt i (by omega)]
       unfold strV
       rw[List.getElem?_map,List.getD_eq_getElem?_getD,List.getElem?_eq_getElem (by omega)];rfl
      have fg:w2.frozen? ⟨g2,i,none⟩=false:=World.ownsRow.frozenAt h4 i
      have K1:Keeps (· = g2) w2 ((w2.setCell ⟨g2,i,none⟩ (.string d)).alloc (.cells #[.int .i64 i,.string d] 218)):=((Keeps.refl (· = g2) w2).setCell ⟨g2,i,none⟩ (.string d) (.inl rfl)).alloc _
      have HO:=Hd (h3.keep K1 fun k hk e=>hgsv (by subst e;exact hk))
      have K1:=Hd K1
      have H1:=Hd h1
      have H2:=Hd h2
      have H4:=Hd h4
      have H6:=Hd h6
      have HS:=Hd hS
      clear hk h1 h2 h3 h4 h6 hS hok2
      go_wp2_with ((at_builtin;go_must (refine wpList_append_frame _ rfl _ _ 153 rfl 218 i0 (.agg #[.int .i64 0,.string .empty]) 2 24 Tryz.underlying153 hi hi0 hi1 hi2 rfl (by decide) _ _ _ rfl HO.out ⟨w2.heap.size,0,none⟩ 1 1 [.int .i64 i,.string d] rfl rfl (cell_two_new _ _ _ _ _ _ (by simp)) (by simp[Value.oneCell']) (by unfold maxLen;omega) (by omega) ?_));rintro v4 w4 ho4 hk4 hb4 hn4;(obtain⟨g4,c4,rfl⟩:=ho4.has (by omega));(replace hk4:Keeps (· ∈ blk sv2) ((w2.setCell ⟨g2,i,none⟩ (.string d)).alloc (.cells #[.int .i64 i,.string d] 218)) w4:=hk4);(replace hb4:∀k∈blk (.slice (some ⟨g4,0,none⟩) (D.soft.length+1) c4),k∈blk sv2∨((w2.setCell ⟨g2,i,none⟩ (.string d)).alloc (.cells #[.int .i64 i,.string d] 218)).heap.size≤k:=hb4);(have HP4:=Hd (hk4.keep (hO (hSO (p:=⟨g2,i,none⟩) H1.out hpg)) hpsv));(have C4:=cell_at HP4.out 1);(have F4:=free_at HP4.out 1);(have HO4:=Hd ho4);(have HK4:=Hd hk4);(have HB4:=Hd hb4);clear ho4 hk4 hb4 hn4)
      go_ret
      have hnd:=H6.out
      have hge:g2∈blk (.slice (some ⟨g2,0,none⟩) D.seen.length c2'):=by simp[blk,Value.ownBlock]
      simp only[List.nodup_cons,List.nodup_append,List.mem_append,not_or]at hnd
      obtain⟨⟨n1,n2,n3⟩,n4,⟨n5,n6,n7⟩,n8⟩:=hnd
      have hz3:((w2.setCell ⟨g2,i,none⟩ (.string d)).alloc (.cells #[.int .i64 i,.string d] 218)).heap.size=w2.heap.size+1:=by simp
      have hB4:=HB4.out
      rw[hz3]at hB4
      have KB:Keeps (fun k=>k=p∨k∈blk sv2) (w2.setCell ⟨g2,i,none⟩ (.string d)) (w4.setCell ⟨p,1,none⟩ (.slice (some ⟨g4,0,none⟩) (D.soft.length+1) c4)) :=
       ((((Keeps.refl (fun k=>k=p∨k∈blk sv2) _).alloc (.cells #[.int .i64 i,.string d] 218)).trans HK4.out fun k _ hk => .inr hk)).setCell _ _ (.inl (.inl rfl))
      have KF:Keeps (fun k=>k=p∨k=g2∨k∈blk sv2) w2 (w4.setCell ⟨p,1,none⟩ (.slice (some ⟨g4,0,none⟩) (D.soft.length+1) c4)) :=
       ((Keeps.refl (fun k=>k=p∨k=g2∨k∈blk sv2) w2).setCell ⟨g2,i,none⟩ (.string d) (.inl (.inr (.inl rfl)))).trans KB fun k _ hk=>hk.elim .inl (fun h => .inr (.inr h))
      refine⟨rfl,p::(blk fv2++(blk (.slice (some ⟨g4,0,none⟩) (D.soft.length+1) c4)++blk (.slice (some ⟨g2,0,none⟩) D.seen.length c2'))),
       ⟨hwok.out,fv2,_,_,heap_set HP4.out 1 _,H2.out.keep KF ?_,?_,?_,rfl,nodup_swap H6.out (blk_nodup _) ?_⟩,?_,?_⟩
      ·rintro k hk (rfl | rfl | h)
       · exact n1 hk
       · exact n8 _ hk _ (.inr hge) rfl
       · exact n8 _ hk _ (.inl h) rfl
      ·show OwnS _ _ 2 _ (D.burn.1.soft++[((i:Int),d)]).length (recV (D.burn.1.soft++[((i:Int),d)]))
       rw[e3.out,List.length_append,recV_append]
       refine HO4.out.keep ((Keeps.refl (· = p) w4).setCell ⟨p,1,none⟩ (.slice (some ⟨g4,0,none⟩) (D.soft.length+1) c4) (.inl rfl)) ?_
       rintro k hk rfl
       rcases hB4 _ hk with h | h
       · exact n2 h
       · omega
      ·show OwnS _ _ 1 _ (D.burn.1.seen.set i d).length (strV (D.burn.1.seen.set i d))
       rw[e2.out,List.length_set,strV_set]
       refine(H4.out.set i (.string d)).keep KB ?_
       rintro k hk (rfl | h)
       · exact n3 hk
       · exact n7 _ h _ hk rfl
      ·intro k hk
       rcases hB4 _ hk with h | h
       · exact .inl h
       ·refine .inr ⟨by omega,fun hf=>?_,fun he=>?_⟩
        · have:=H2.out.lt hf;omega
        · have:=H4.out.lt he;omega
      ·rw[HS.out]
       refine(HK.out.mono (T:=(· ∈ p::(blk fv2++(blk sv2++blk (.slice (some ⟨g2,0,none⟩) D.seen.length c2'))))) fun k _ e=>by subst e;simp).trans KF ?_
       rintro k _ (rfl | rfl | h)
       · simp
       · simp[hge]
       · simp[h]
      ·intro k hk
       rw[HS.out]
       have hzz:=HK.out.size
       simp only[List.mem_cons,List.mem_append]at hk ⊢
       rcases hk with h | h | h | h
       · exact .inl (.inl h)
       · exact .inl (.inr (.inl h))
       ·rcases hB4 _ h with h' | h'
        · exact .inl (.inr (.inr (.inl h')))
        · exact .inr (by omega)
       · exact .inl (.inr (.inr (.inr h)))
end Go.Proofs.YtimomjheanfbmaaGreatDoor
namespace Go.Proofs.YtimomjheanfbmaaGreatDoor
open Go.RowKit
def Dev.barrier (D:Dev):Dev×Int:=if D.down=true then (D,20) else if D.burn.2=false then (D.burn.1,20) else ({D.burn.1 with firm:=D.burn.1.seen,soft:=[]},0)
theorem Dev.barrier_ok {D:Dev} (h:DevOk D):DevOk D.barrier.1:=by
 have hb:=Dev.burn_ok h
 unfold Dev.barrier
 split
 · exact h
 ·split
  · exact hb
  ·obtain⟨h1,h2,h3,h4,h5,h6,h7,h8⟩:=hb
   exact⟨by show 0<D.burn.1.seen.length;omega,by show D.burn.1.seen.length≤_;omega,rfl,by simp,h5,h6,h7,h7⟩
theorem Tryz.info_st:(Tryz.prog.info? 9).map (fun i=>(i.zero,i.size,i.bytes))=some (some (.string .empty),1,16):=by kernel_rfl
theorem strV_oneCell (l:List ByteArray):∀v∈strV l,v.oneCell'=true:=by
 intro v hv
 obtain⟨s,_,rfl⟩:=List.mem_map.1 hv
 rfl
theorem run_copy_own (w:World) (ty:TypeId) (g c g' c' n:Nat) (xs ys:List ByteArray) (h:OwnS w 9 1 (.slice (some ⟨g,0,none⟩) n c) n (strV xs)) (h':OwnS w 9 1 (.slice (some ⟨g',0,none⟩) n c') n (strV ys)) :
  ∃W,(Builtin.copy_ #[152,152] ty #[.slice (some ⟨g,0,none⟩) n c,.slice (some ⟨g',0,none⟩) n c']).run Tryz.prog w = .ok (goInt n) W∧Keeps (· = g) w W∧OwnS W 9 1 (.slice (some ⟨g,0,none⟩) n c) n (strV ys):=by
 have hl':ys.length=n:=by have:=h'.1;rw[strV_length]at this;omega
 have hcell:∀j v,(strV ys)[j]? = some v→w.cell? ((⟨g',0,none⟩:Addr).add j)=some v:=World.ownsRow.cells h' (g:=g') rfl
 rcases h.2 with⟨he,_⟩ | ⟨g1,cap,cur,he,hb,hg,hnc,hcm,hcs,htake⟩
 · simp at he
 ·simp only[Value.slice.injEq,Option.some.injEq,Addr.mk.injEq,and_true,true_and]at he
  obtain⟨rfl,rfl⟩:=he
  have hinfo:(Tryz.prog.info? 9).map (·.size)=some 1:=by kernel_rfl
  have hr:=run_copy_row (P:=Tryz.prog) w 152 152 ty 9 g 0 n c ⟨g',0,none⟩ n c' cur 9 (strV ys) Tryz.underlying152 hinfo hg (by rw[strV_length,hl'];simp[Nat.min_def]) hcell (by rw[strV_length];omega) (strV_oneCell ys)
  rw[strV_length,hl']at hr
  refine⟨_,hr,⟨rfl,rfl,rfl,by simp,fun k _ hk=>setRow_other _ _ _ _ hk⟩,by rw[strV_length];omega,.inr ⟨g,c,_,rfl,Nat.zero_le _,setRow_heap w g cur _ 9 (0,0) hg,hnc,hcm,?_,?_⟩⟩
  · simp[strV_length,hl'];omega
  ·simp only[List.take_zero,List.nil_append,Nat.zero_add,Nat.mul_one]
   rw[List.take_append_of_le_length (by rw[strV_length];omega)]
   exact List.take_of_length_le (by rw[strV_length];omega)
set_option maxHeartbeats 800000 in
set_option maxRecDepth 100000 in
theorem dsk_barrier (p:Nat) (D:Dev) (S:List Nat) (w:World) (h:DiskAt w p D S) :
  Calls Tryz.prog 73 #[.pointer (some ⟨p,0,none⟩)] w fun e w' =>
   e = .returned (.int .i64 D.barrier.2)∧∃S',DiskAt w' p D.barrier.1 S'∧Keeps (· ∈ S) w w'∧∀k∈S',k∈S∨w.heap.size≤k:=by
 have H:=Hd (dsk_off p D S w h)
 have HB:=Hd (dsk_burn p D S w h)
 have HA:=Hd h
 have hwok:=Dev.barrier_ok h.1
 obtain⟨e1,e2,e3⟩:=burn_same D
 unfold Dev.barrier at hwok ⊢
 have hok:=h.1
 obtain⟨hn,hm,hsl,-⟩:=hok
 have fin:∀(w1:World) (D1:Dev),w1=w→D1=D→∃S',DiskAt w1 p D1 S'∧Keeps (· ∈ S) w w1∧∀k∈S',k∈S∨w.heap.size≤k:=by
  rintro _ _ rfl rfl
  exact⟨S,HA.out,Keeps.refl _ _,fun k hk => .inl hk⟩
 clear h
 cases hdn:D.down with
 | true =>
  rw[hdn]at H
  simp only[if_true]
  go_enter Tryz.func73,Tryz.ntmps73
  go_wp2_with fail
  refine(H.out).mono ?_
  rintro e w1 ⟨rfl,rfl⟩
  go_wp2_with fail
  go_ret
  exact⟨rfl,fin _ _ rfl rfl⟩
 | false =>
  rw[hdn]at H hwok
  simp only[Bool.false_eq_true,if_false]at hwok ⊢
  cases hb2:D.burn.2 with
  | false =>
   rw[hb2]at HB
   simp only[if_true]
   go_enter Tryz.func73,Tryz.ntmps73
   go_wp2_with fail
   refine(H.out).mono ?_
   rintro e w1 ⟨rfl,rfl⟩
   go_wp2_with fail
   refine(HB.out).mono ?_
   rintro e w2 ⟨rfl,hD,hk⟩
   go_wp2_with fail
   go_ret
   exact⟨rfl,S,hD,hk.mono fun i _ e=>by subst e;exact HA.out.mem,fun k hk => .inl hk⟩
  | true =>
   rw[hb2]at HB hwok
   simp only[Bool.true_eq_false,if_false]at hwok ⊢
   have hwok:=Hd hwok
   have e1:=Hd e1
   have e2:=Hd e2
   have e3:=Hd e3
   clear hm
   go_enter Tryz.func73,Tryz.ntmps73
   go_wp2_with fail
   refine(H.out).mono ?_
   rintro e w1 ⟨rfl,rfl⟩
   go_wp2_with fail
   refine(HB.out).mono ?_
   rintro e w2 ⟨rfl,hD,hk⟩
   have hbm:=hD.mem
   have HD:=Hd hD
   have HK:=Hd hk
   obtain⟨hok2,fv2,sv2,ev2,h1,h2,h3,h4,hS,h6⟩:=hD
   rw[e2.out]at h4
   rw[e1.out]at h2
   rw[hS]at h6
   obtain⟨g2,c2',rfl⟩:=h4.has (by omega)
   obtain⟨g1,c1',rfl⟩:=h2.has (by omega)
   rw[hsl]at h4
   have hnd:=h6
   have hg1:g1∈blk (.slice (some ⟨g1,0,none⟩) D.firm.length c1'):=by simp[blk,Value.ownBlock]
   have hg2:g2∈blk (.slice (some ⟨g2,0,none⟩) D.seen.length c2'):=by simp[blk,Value.ownBlock]
   simp only[List.nodup_cons,List.nodup_append,List.mem_append,not_or]at hnd
   obtain⟨⟨n1,n2,n3⟩,n4,⟨n5,n6,n7⟩,n8⟩:=hnd
   have hp1:p≠g1:=fun e=>n1 (by subst e;exact hg1)
   have h12:g2≠g1:=fun e=>n8 _ hg1 _ (.inr hg2) e.symm
   have C0:=cell_at h1 0
   have C2:=cell_at h1 2
   obtain⟨W,hcopy,hKW,hOW⟩:=run_copy_own w2.drew 3 g1 c1' g2 c2' D.firm.length D.firm D.seen (World.ownsRow.drew h2) (World.ownsRow.drew h4)
   have HP:=hKW.keep (hDr h1) hp1
   have P1:=cell_at HP 1
   have Q1:=free_at HP 1
   have H1:=Hd h1
   have H2:=Hd h2
   have H4:=Hd h4
   have H6:=Hd h6
   have HS:=Hd hS
   have HPH:=Hd HP
   have HKW:=Hd hKW
   have HOW:=Hd hOW
   clear hk h1 h2 h3 h4 h6 hS hok2 HP hKW hOW
   go_wp2_with fail
   go_region
   go_wp2_with fail
   go_ret
   have K2:Keeps (fun k=>k=p∨k=g1) w2 (W.setCell ⟨p,1,none⟩ (.slice none 0 0)) :=
    ((((Keeps.refl (fun k=>k=p∨k=g1) w2).drew).trans HKW.out fun k _ hk => .inr hk)).setCell ⟨p,1,none⟩ (.slice none 0 0) (.inl (.inl rfl))
   refine⟨rfl,p::(blk (.slice (some ⟨g1,0,none⟩) D.firm.length c1')++(blk (.slice none 0 0)++blk (.slice (some ⟨g2,0,none⟩) D.firm.length c2'))),
    ⟨hwok.out,_,_,_,heap_set HPH.out 1 _,?_,OwnS.nil _ _ _,?_,rfl,?_⟩,?_,?_⟩
   ·show OwnS _ _ 1 _ D.burn.1.seen.length (strV D.burn.1.seen)
    rw[e2.out,hsl]
    refine HOW.out.keep ((Keeps.refl (· = p) W).setCell ⟨p,1,none⟩ (.slice none 0 0) (.inl rfl)) ?_
    rintro k hk rfl
    exact n1 hk
   ·show OwnS _ _ 1 _ D.burn.1.seen.length (strV D.burn.1.seen)
    rw[e2.out,hsl]
    refine H4.out.keep K2 ?_
    rintro k hk (rfl | rfl)
    · exact n3 hk
    · exact n8 _ hg1 _ (.inr hk) rfl
   · exact nodup_swap H6.out (blk_nodup _) (by simp[blk,Value.ownBlock])
   ·rw[HS.out]
    refine(HK.out.mono (T:=(· ∈ p::(blk (.slice (some ⟨g1,0,none⟩) D.firm.length c1')++(blk sv2++blk (.slice (some ⟨g2,0,none⟩) D.seen.length c2'))))) fun k _ e=>by subst e;simp).trans K2 ?_
    rintro k _ (rfl | rfl)
    · simp
    · simp[hg1]
   ·intro k hk
    rw[HS.out]
    left
    simp only[List.mem_cons,List.mem_append]at hk ⊢
    rcases hk with h | h | h | h
    · exact .inl h
    · exact .inr (.inl h)
    · simp[blk,Value.ownBlock]at h
    · exact .inr (.inr (.inr h))
end Go.Proofs.YtimomjheanfbmaaGreatDoor
