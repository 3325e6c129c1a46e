import Derived.Test.YtimomjheanfbmaaGreatDoorQaa
import Derived.Test.YtimomjheanfbmaaGreatDoorRau
import Derived.BigRegion
set_option linter.unusedSimpArgs false
set_option linter.unusedVariables false
namespace Go.Proofs.YtimomjheanfbmaaGreatDoor.G
open Go.RowKit
theorem step_buildSlice {P:Program} {ops:Array Oper} {o:Oper} {a:Act} {w:World} {K:Act→World→Prop} {Q:Exit→Act→World→Prop} {E:Prop} (hgd:o.guard=none) (t e:TypeId) (len:Nat) (parts:Array (Nat×Operand)) (ho:o.op = .buildSlice t len parts)
  (cells:Array Value) (ie:TypeInfo) (z:Value)
  (hu:P.underlying t=some (.slice e)) (hie:P.info? e=some ie) (hz:ie.zero=some z) (hsmall:¬len*ie.size>2^24) (hpos:¬len*ie.size=0)
  (hf:Instr.fill (fun i=>some (i*ie.size,ie.size)) ((Array.range (len*ie.size)).map (z.cells[· % z.cells.size]!)) (parts.map fun (i,x)=>(i,a.eval x)).toList=some cells)
  (h:K (a.put o.dst (.slice (some ⟨w.heap.size,0,none⟩) len len)) (w.alloc (.cells cells e))):if Region.wanted o (yielded ops a.tmps)=true then Oper.wp P o a w K Q else E:=by
 have hw:Region.wanted o (yielded ops a.tmps)=true:=by simp[Region.wanted,hgd]
 rw[if_pos hw]
 exact wp_buildSlice t e len parts ho cells ie z hu hie hz hsmall hpos hf h
theorem Tryz.info_xct:(Tryz.prog.info? 112).map (fun i=>(i.zero,i.size,i.bytes))=some (some (.agg #[.int .i64 0,.int .i64 0,.int .i64 0,.int .i64 0,.int .i64 0,.bool false]),6,48):=by kernel_rfl
theorem cells_alloc (w:World) (C:Array Value) (T:TypeId):∀j u,C.toList[j]? = some u→(w.alloc (.cells C T)).cell? ((⟨w.heap.size,0,none⟩:Addr).add j)=some u:=cells_newR w C T rfl
section
variable {w w':World} {m g:Nat} {B:RB} {ρ:RS}
theorem Rr.mlt (h:Rr w m g B ρ):m<w.heap.size:=block_lt h.cell
theorem Rr.setM (h:Rr w m g B ρ) (j:Nat) (v:Value) (ρ':RS) (hx:ρ'.xs=ρ.xs) (ha:ρ'.ats=ρ.ats) (hf:ρ'.f=ρ.f) (hr:ρ'.recs=ρ.recs) (hc:(rCells g B ρ).setIfInBounds j v=rCells g B ρ'):Rr (w.setCell ⟨m,j,none⟩ v) m g B ρ'∧Keeps (· = m) w (w.setCell ⟨m,j,none⟩ v):=by
 have hk:Keeps (· = m) w (w.setCell ⟨m,j,none⟩ v):=(Keeps.refl _ _).setCell _ _ (.inl rfl)
 refine⟨⟨(heap_set h.cell j v).trans (by rw[hc]),by rw[hx];exact h.xs.keep hk (fun q hq e=>(h.nx q hq).1 e),h.rs.keep hk (fun q hq e=>(h.nr q hq).1 e),by rw[ha];exact h.ats.keep hk (fun q hq e=>(h.na q hq).1 e),by rw[hf];exact h.pg.keep hk (fun q hq e=>by simp[blk,Value.ownBlock]at hq;exact h.mg (by rw[←e,hq])),fun t ht=>RcSl.keepS (h.sl t ht) hk (fun k hk' e=>(h.im k (List.mem_flatMap.2 ⟨t,ht,hk'⟩)).2 (by simp[rOwn,e])),h.mg,h.nx,h.nr,h.na,fun k hk'=>⟨Nat.lt_of_lt_of_le (h.im k hk').1 hk.size,(h.im k hk').2⟩,by rw[hr];exact h.rq⟩,hk⟩
theorem Rr.setX (h:Rr w m g B ρ) {gx n c:Nat} (hxv:B.xv = .slice (some ⟨gx,0,none⟩) n c) (i j:Nat) (x x':Xc) (v:Value) (hi:ρ.xs[i]? = some x) (hj:j<6) (he:(xcL x).set j v=xcL x'):Rr (w.setCell ⟨gx,i*6+j,none⟩ v) m g B {ρ with xs:=ρ.xs.set i x'}∧Keeps (· = gx) w (w.setCell ⟨gx,i*6+j,none⟩ v):=by
 have hk:Keeps (· = gx) w (w.setCell ⟨gx,i*6+j,none⟩ v):=(Keeps.refl _ _).setCell _ _ (.inl rfl)
 have hgx:gx∈blk B.xv:=by rw[hxv];simp[blk,Value.ownBlock]
 obtain⟨n1,n2,n3,n4⟩:=h.nx gx hgx
 refine⟨⟨hk.keep h.cell (fun e=>n1 e.symm),?_,h.rs.keep hk (fun q hq e=>n3 (e ▸ hq)),h.ats.keep hk (fun q hq e=>n4 (e ▸ hq)),h.pg.keep hk (fun q hq e=>by simp[blk,Value.ownBlock]at hq;exact n2 (by rw[←e,hq])),fun t ht=>RcSl.keepS (h.sl t ht) hk (fun k hk' e=>(h.im k (List.mem_flatMap.2 ⟨t,ht,hk'⟩)).2 (by subst e;simp[rOwn,hgx])),h.mg,h.nx,h.nr,h.na,fun k hk'=>⟨Nat.lt_of_lt_of_le (h.im k hk').1 hk.size,(h.im k hk').2⟩,h.rq⟩,hk⟩
 show OwnS _ _ _ _ (List.length (ρ.xs.set i x')) (xcV (ρ.xs.set i x'))
 have ho:=h.xs
 rw[hxv]at ho ⊢
 rw[List.length_set]
 have hn:n=ρ.xs.length:=by obtain⟨a,c',e⟩:=ho.form;injection e
 subst hn
 have h2:=OwnS.set ho (i*6+j) v
 have h3:(xcV ρ.xs).set (i*6+j) v=xcV (ρ.xs.set i x'):=flat_set xcL 6 xcL_length ρ.xs i j x x' v hi hj he
 rw[h3]at h2
 exact h2
theorem Rr.rowKeep (h:Rr w m g B ρ) {v:Value} (hv:v=B.xv∨v=B.rv∨v=B.av) (hk:Keeps (· ∈ blk v) w w'):w'.heap[m]? = some (.cells (rCells g B ρ) 57 (0,0))∧OwnS w' 49 16 (.slice (some ⟨g,0,none⟩) 6 6) 6 (pgRow ρ.f 6)∧(∀t∈B.Q,RcSl w' t.1 t.2.1 t.2.2):=by
 have hne:∀k∈blk v,k≠m∧k≠g∧k∈rOwn m g B:=fun k hk'=>by
  rcases hv with rfl | rfl | rfl
  · exact⟨(h.nx k hk').1,(h.nx k hk').2.1,by simp[rOwn,hk']⟩
  · exact⟨(h.nr k hk').1,(h.nr k hk').2.1,by simp[rOwn,hk']⟩
  · exact⟨(h.na k hk').1,(h.na k hk').2,by simp[rOwn,hk']⟩
 refine⟨hk.keep h.cell (fun hm=>(hne m hm).1 rfl),h.pg.keep hk (fun q hq hq'=>by simp[blk,Value.ownBlock]at hq;exact(hne q hq').2.1 hq),fun t ht=>RcSl.keepS (h.sl t ht) hk (fun k hk' hkv=>(h.im k (List.mem_flatMap.2 ⟨t,ht,hk'⟩)).2 (hne k hkv).2.2)⟩
theorem Rr.pushX (h:Rr w m g B ρ) {v':Value} (x:Xc) (ho:OwnS w' 112 6 v' (ρ.xs.length+1) (xcV ρ.xs++xcL x)) (hk:Keeps (· ∈ blk B.xv) w w') (hb:∀k∈blk v',k∈blk B.xv∨w.heap.size≤k) :
  Rr (w'.setCell ⟨m,0,none⟩ v') m g {B with xv:=v'} {ρ with xs:=ρ.xs++[x]}:=by
 obtain⟨h1,h2,h3⟩:=h.rowKeep (.inl rfl) hk
 have hlt:=h.lt
 have hmlt:=h.mlt
 have hx':∀k∈blk v',k≠m∧k≠g∧k∉blk B.rv∧k∉blk B.av:=fun k hk'=>by
  rcases hb k hk' with h4 | h4
  · exact h.nx k h4
  · exact⟨by omega,by have:=hlt g (by simp[rOwn]);omega,fun h5=>by have:=hlt k (by simp[rOwn,h5]);omega,fun h5=>by have:=hlt k (by simp[rOwn,h5]);omega⟩
 have hkm:Keeps (· = m) w' (w'.setCell ⟨m,0,none⟩ v'):=(Keeps.refl _ _).setCell _ _ (.inl rfl)
 refine⟨(heap_set h1 0 v').trans rfl,?_,(h.rs.keep hk (fun q hq hq'=>(h.nx q hq').2.2.1 hq)).keep hkm (fun q hq e=>(h.nr q hq).1 e),(h.ats.keep hk (fun q hq hq'=>(h.nx q hq').2.2.2 hq)).keep hkm (fun q hq e=>(h.na q hq).1 e),h2.keep hkm (fun q hq e=>by simp[blk,Value.ownBlock]at hq;exact h.mg (by rw[←e,hq])),fun t ht=>RcSl.keepS (h3 t ht) hkm (fun k hk' e=>(h.im k (List.mem_flatMap.2 ⟨t,ht,hk'⟩)).2 (by simp[rOwn,e])),h.mg,hx',h.nr,h.na,fun k hk'=>⟨Nat.lt_of_lt_of_le (h.im k hk').1 (Nat.le_trans hk.size hkm.size),fun h5=>?_⟩,h.rq⟩
 ·show OwnS _ _ _ _ (List.length (ρ.xs++[x])) (xcV (ρ.xs++[x]))
  rw[List.length_append,List.length_singleton,show xcV (ρ.xs++[x])=xcV ρ.xs++xcL x by unfold xcV;rw[List.flatMap_append];simp]
  exact ho.keep hkm (fun q hq e=>(hx' q hq).1 e)
 ·have h6:=h.im k hk'
  simp only[rOwn,List.mem_cons,List.mem_append]at h5
  rcases h5 with h5 | h5 | (h5 | h5) | h5
  · exact h6.2 (by simp[rOwn,h5])
  · exact h6.2 (by simp[rOwn,h5])
  ·rcases hb k h5 with h7 | h7
   · exact h6.2 (by simp[rOwn,h7])
   · have:=h6.1;omega
  · exact h6.2 (by simp[rOwn,h5])
  · exact h6.2 (by simp[rOwn,h5])
def xLive (l:List Xc):List Lv:=(l.filter (fun x => !x.over)).map (fun x=>(x.num,x.first,x.last))
theorem xLive_next {l:List Xc} {i:Nat} {x:Xc} (h:l[i]? = some x):xLive (l.take (i+1))=xLive (l.take i)++(if x.over then [] else [(x.num,x.first,x.last)]):=by
 unfold xLive
 rw[List.take_add_one,h,List.filter_append,List.map_append]
 cases hx:x.over <;> simp[hx]
theorem xLive_len (l:List Xc) (i:Nat):(xLive (l.take i)).length≤i:=by
 unfold xLive
 rw[List.length_map]
 exact Nat.le_trans (List.length_filter_le _ _) (by rw[List.length_take];omega)
def LvS (m gx i n c:Nat) (x:Xc) (w:World):Prop:=w.cell? ⟨m,0,none⟩=some (.slice (some ⟨gx,0,none⟩) n c)∧w.cell? ⟨gx,i*6,none⟩=some (.int .i64 x.num)∧w.cell? ⟨gx,i*6+1,none⟩=some (.int .i64 x.first)∧w.cell? ⟨gx,i*6+2,none⟩=some (.int .i64 x.last)
theorem LvS.keep {m gx i n c:Nat} {x:Xc} {S:Nat→Prop} (h:LvS m gx i n c x w) (hk:Keeps S w w') (h1:¬S m) (h2:¬S gx):LvS m gx i n c x w':=by
 have key:∀b j v,w.cell? ⟨b,j,none⟩=some v→¬S b→w'.cell? ⟨b,j,none⟩=some v:=fun b j v hc hb=>by
  have hlt:b<w.heap.size:=World.block_lt_of_cell? w ⟨b,j,none⟩ (by rw[hc])
  unfold World.cell? at hc ⊢
  rw[hk.block b hlt hb]
  exact hc
 exact⟨key _ _ _ h.1 h1,key _ _ _ h.2.1 h2,key _ _ _ h.2.2.1 h2,key _ _ _ h.2.2.2 h2⟩
set_option maxRecDepth 100000 in
set_option maxHeartbeats 1600000 in
theorem rr_lives (h:Rr w m g B ρ) (hl:ρ.xs.length≤1000000) :
  Calls Tryz.prog 49 #[.pointer (some ⟨m,0,none⟩)] w fun e w'=>∃v',e = .returned v'∧OwnS w' 61 3 v' (xLive ρ.xs).length (lvV (xLive ρ.xs))∧(∀k∈blk v',w.heap.size≤k)∧Below w.heap.size w w':=by
 obtain⟨xa,xc,hxv⟩:=h.xs.form
 obtain⟨n,hn⟩:∃n,ρ.xs.length=n:=⟨_,rfl⟩
 rw[hn]at hl hxv
 have H:=Hd h
 have hxN:=Hd hxv
 have hnN:=Hd hn
 have hlN:=Hd hl
 obtain⟨ji,hj,hy0,hy1,hy2⟩:=Tryz.info_alvp
 clear h hxv hn hl
 go_enter Tryz.func49,Tryz.ntmps49
 go_wp2_with fail
 go_loopw [4,3] (fun z y wr=>∃i:Nat,i≤n∧z = .int .i64 i∧Hid (OwnS wr 61 3 y (xLive (ρ.xs.take i)).length (lvV (xLive (ρ.xs.take i))))∧Hid (∀k∈blk y,w.heap.size≤k)∧Hid (Below w.heap.size w wr)) (fun z _ _=>n-(intOf z).toNat)
 case atStart=>exact⟨0,Nat.zero_le _,rfl,OwnS.nil _ _ _,fun k hk=>by simp[blk,Value.ownBlock]at hk,bR⟩
 case round =>
  obtain⟨i,hi,rfl,HO,HK,HB⟩:=hrel
  have hR:=H.out.later HB.out
  have C0:wr.cell? ⟨m,0,none⟩=some (.slice xa n xc):=by have:=cell_at hR.cell 0;rw[←hxN.out];exact this
  by_cases hin:i<n
  rotate_left
  ·obtain rfl:i=n:=by omega
   have hiI:¬(i:Int)<i:=by omega
   rw[List.take_of_length_le (by rw[hnN.out];exact Nat.le_refl _)]at HO
   clear hR hi hin
   go_wp2_with fail
   go_ret
   exact⟨_,rfl,HO.out,HK.out,HB.out⟩
  obtain⟨x,hx⟩:∃x,ρ.xs[i]? = some x:=⟨_,List.getElem?_eq_getElem (by rw[hnN.out];exact hin)⟩
  have how:=hR.xs
  rw[hxN.out]at how
  have hn2:ρ.xs.length=n:=hnN.out
  rw[hn2]at how
  obtain⟨gx,rfl⟩:=how.spot (by omega)
  have hr:=flat_range xcL 6 xcL_length how i x hx
  have c0:wr.cell? ⟨gx,i*6+0,none⟩=some (.int .i64 x.num):=hr 0 _ rfl
  rw[Nat.add_zero]at c0
  have c1:wr.cell? ⟨gx,i*6+1,none⟩=some (.int .i64 x.first):=hr 1 _ rfl
  have c2:wr.cell? ⟨gx,i*6+2,none⟩=some (.int .i64 x.last):=hr 2 _ rfl
  have c5:wr.cell? ⟨gx,i*6+5,none⟩=some (.bool x.over):=hr 5 _ rfl
  have hnx:=Hd (xLive_next hx)
  have hll:=Hd (xLive_len ρ.xs i)
  have hiI:(i:Int)<n:=by omega
  have hi0:(0:Int)≤i:=by omega
  have hiw:IntKind.i64.wrap ((i:Int)+1)=(i:Int)+1:=by have:=hlN.out;rw[IntKind.wrap_i64];omega
  have hinN:=Hd hin
  have hgl:Hid (gx<wr.heap.size∧m<wr.heap.size):=⟨how.lt (by simp[blk,Value.ownBlock]),hR.mlt⟩
  have hgw:Hid (gx<w.heap.size∧m<w.heap.size):=⟨H.out.xs.lt (by rw[hxN.out];simp[blk,Value.ownBlock]),H.out.mlt⟩
  clear hr how hn2 hin hi hR
  cases hov:x.over with
  | true =>
   rw[hov]at c5 hnx
   clear hov
   have hO2:=HO.out
   rw[show xLive (ρ.xs.take i)=xLive (ρ.xs.take (i+1)) by rw[hnx.out];simp]at hO2
   replace hO2:=Hd hO2
   clear c0 c1 c2 HO
   go_wp2_with fail
   go_roundw
   case rel=>exact⟨i+1,hinN.out,rfl,hO2,HK,HB⟩
   case measure=>have:=hinN.out;simp[intOf];omega
  | false =>
   rw[hov]at c5 hnx
   clear hov
   obtain⟨ya,yc,rfl⟩:=HO.out.form
   obtain⟨k,hk⟩:∃k,(xLive (ρ.xs.take i)).length=k:=⟨_,rfl⟩
   rw[hk]at HO HK hll ⊢
   have hkN:=Hd hk
   have hn2:Hid (n≤1000000):=hlN.out
   clear hk
   go_upto_region 6 with fail
   have hS0:LvS m gx i n xc x wr.drew:=⟨C0,c0,c1,c2⟩
   clear C0 c0 c1 c2 c5
   refine wp_region_held_drew (S:=LvS m gx i n xc x) (by kernel_rfl) hS0 (fun hHeld=>?_)
   refine tx4 0 hHeld ?_
   go_frame
   refine tx4 1 hHeld ?_
   go_frame
   refine tx4 2 hHeld ?_
   go_frame
   refine tx4 3 hHeld ?_
   go_frame
   refine tx4 4 hHeld ?_
   go_frame
   refine tx4 5 hHeld ?_
   go_frame
   refine tx4 6 hHeld ?_
   go_frame
   refine tx4 7 hHeld ?_
   go_frame
   refine tx4 8 hHeld ?_
   go_frame
   refine tx4 9 hHeld ?_
   go_frame
   refine tx4 10 hHeld ?_
   go_frame
   refine tx4 11 hHeld ?_
   go_frame
   refine tx4 12 hHeld ?_
   go_frame
   refine tx4 13 hHeld ?_
   go_frame
   refine tx4 14 hHeld ?_
   go_frame
   refine tx4 15 hHeld ?_
   go_frame
   refine tx4 16 hHeld ?_
   go_frame
   refine tx4 17 hHeld ?_
   go_frame
   refine tx4 18 hHeld ?_
   go_frame
   refine tx4 19 hHeld ?_
   go_frame
   refine tx4 20 hHeld ?_
   go_frame
   refine tx4 21 hHeld ?_
   go_frame
   refine tx4 22 hHeld ?_
   go_frame
   refine tx4 23 hHeld ?_
   go_frame
   refine tx4 24 hHeld ?_
   go_frame
   refine tx4 25 hHeld ?_
   go_frame
   refine rd 26 (fun K hK=>?_)
   refine step_buildSlice rfl 58 61 1 _ rfl #[.int .i64 x.num,.int .i64 x.first,.int .i64 x.last] ji _ Tryz.underlying58 hj hy0 (by rw[hy1];decide) (by rw[hy1];decide) (by rw[hy1];kernel_rfl) ?_
   have hS1:Hid (LvS m gx i n xc x (wr.drew.alloc (.cells #[.int .i64 x.num,.int .i64 x.first,.int .i64 x.last] 61))):=hS0.keep ((Keeps.refl (fun _=>False) wr.drew).alloc _) (fun h=>h) (fun h=>h)
   refine hK.out _ _ hS1.out (fun hHeld=>?_)
   clear hK K
   try go_frame
   refine rd 27 (fun K hK=>?_)
   have HO1:Hid (OwnS (wr.drew.alloc (.cells #[.int .i64 x.num,.int .i64 x.first,.int .i64 x.last] 61)) 61 3 (.slice ya k yc) k (lvV (xLive (ρ.xs.take i)))):=OwnS.keep (w:=wr) HO.out ((Keeps.refl (fun _=>False) wr).drew.alloc _) (fun _ _ h=>h)
   refine step_append_frame rfl _ _ 58 rfl 61 ji _ 3 24 Tryz.underlying58 hj hy0 hy1 hy2 rfl (by decide) _ _ _ rfl HO1.out ⟨wr.drew.heap.size,0,none⟩ 1 1 (lvL (x.num,x.first,x.last)) rfl rfl (cells_alloc wr.drew _ _) (lvL_cells _) (by have:=hll.out;have:=hinN.out;have:=hn2.out;unfold maxLen;omega) (by have:=hll.out;have:=hinN.out;have:=hn2.out;omega) (by omega) ?_
   intro g9 c9 w9 ho9 hk9 hb9
   have hgy:Hid (m∉blk (.slice ya k yc)∧gx∉blk (.slice ya k yc)):=⟨fun h=>by have:=HK.out _ h;have:=hgw.out;omega,fun h=>by have:=HK.out _ h;have:=hgw.out;omega⟩
   have hS9:Hid (LvS m gx i n xc x w9):=hS1.out.keep hk9 hgy.out.1 hgy.out.2
   have HO9:Hid (OwnS w9 61 3 (.slice (some ⟨g9,0,none⟩) (k+1) c9) (xLive (ρ.xs.take (i+1))).length (lvV (xLive (ρ.xs.take (i+1))))):=by
    show OwnS _ _ _ _ _ _
    rw[hnx.out]
    simp only[Bool.false_eq_true,if_false]
    rw[List.length_append,List.length_singleton,hkN.out,show lvV (xLive (ρ.xs.take i)++[(x.num,x.first,x.last)])=lvV (xLive (ρ.xs.take i))++lvL (x.num,x.first,x.last) from append_flat lvL _ _]
    exact ho9
   have hb0:Below w.heap.size w (wr.drew.alloc (.cells #[.int .i64 x.num,.int .i64 x.first,.int .i64 x.last] 61)):=bA (bD HB.out)
   have HB9:Hid (Below w.heap.size w w9):=hb0.trans (hk9.belowB hb0.size (fun q hq=>HK.out q hq))
   have HK9:Hid (∀q∈blk (.slice (some ⟨g9,0,none⟩) (k+1) c9),w.heap.size≤q):=fun q hq=>by
    rcases hb9 q hq with h | h
    · exact HK.out q h
    ·have h1:=HB.out.size
     have h2:(wr.drew.alloc (.cells #[.int .i64 x.num,.int .i64 x.first,.int .i64 x.last] 61)).heap.size=wr.heap.size+1:=by simp
     omega
   refine hK.out _ _ hS9.out (fun hHeld=>?_)
   clear hK K ho9 hk9 hb9 hS0 hS1 HO HO1 HB HK hb0
   try go_frame
   refine tc 28 hHeld ?_
   go_frame
   clear hHeld
   refine wpAnyH_done (by kernel_rfl) ?_ _
   go_wp2_with fail
   go_roundw
   case rel=>exact⟨i+1,hinN.out,rfl,HO9,HK9,HB9⟩
   case measure=>have:=hinN.out;simp[intOf];omega
end
end Go.Proofs.YtimomjheanfbmaaGreatDoor.G
namespace Go.Proofs.YtimomjheanfbmaaGreatDoor.G
open Go.RowKit
structure Stp (w w':World) (m g:Nat) (B B':RB) (E:List Nat):Prop where
 keeps:Keeps (· ∈ rOwn m g B) w w'
 own:∀k∈rOwn m g B',k∈rOwn m g B∨w.heap.size≤k
 im:∀k∈rIm B',k∈rIm B∨k∈E∨w.heap.size≤k
theorem Stp.refl (w:World) (m g:Nat) (B:RB):Stp w w m g B B []:=⟨Keeps.refl _ _,fun k hk => .inl hk,fun k hk => .inl hk⟩
theorem Stp.later {w w1:World} {m g:Nat} {B:RB} (hb:Below w.heap.size w w1):Stp w w1 m g B B []:=⟨Keeps.of_below _ hb,fun k hk => .inl hk,fun k hk => .inl hk⟩
theorem Stp.trans {w w1 w2:World} {m g:Nat} {B B1 B2:RB} {E E':List Nat} (h1:Stp w w1 m g B B1 E) (h2:Stp w1 w2 m g B1 B2 E'):Stp w w2 m g B B2 (E++E'):=by
 refine⟨h1.keeps.trans h2.keeps (fun k hk hk'=>?_),fun k hk=>?_,fun k hk=>?_⟩
 ·rcases h1.own k hk' with h | h
  · exact h
  · omega
 ·rcases h2.own k hk with h | h
  · exact h1.own k h
  · exact .inr (Nat.le_trans h1.keeps.size h)
 ·rcases h2.im k hk with h | h | h
  ·rcases h1.im k h with h' | h' | h'
   · exact .inl h'
   · exact .inr (.inl (List.mem_append_left _ h'))
   · exact .inr (.inr h')
  · exact .inr (.inl (List.mem_append_right _ h))
  · exact .inr (.inr (Nat.le_trans h1.keeps.size h))
theorem Stp.wide {w w1:World} {m g:Nat} {B B1:RB} {E E':List Nat} (h:Stp w w1 m g B B1 E) (hE:∀k∈E,k∈E'∨w.heap.size≤k):Stp w w1 m g B B1 E' :=
 ⟨h.keeps,h.own,fun k hk=>by
  rcases h.im k hk with h' | h' | h'
  · exact .inl h'
  ·rcases hE k h' with h2 | h2
   · exact .inr (.inl h2)
   · exact .inr (.inr h2)
  · exact .inr (.inr h')⟩
theorem own_x {m g:Nat} {B:RB} {q:Nat} (h:q∈blk B.xv):q∈rOwn m g B:=List.mem_cons_of_mem _ (List.mem_cons_of_mem _ (List.mem_append_left _ (List.mem_append_left _ h)))
theorem own_r {m g:Nat} {B:RB} {q:Nat} (h:q∈blk B.rv):q∈rOwn m g B:=List.mem_cons_of_mem _ (List.mem_cons_of_mem _ (List.mem_append_left _ (List.mem_append_right _ h)))
theorem own_a {m g:Nat} {B:RB} {q:Nat} (h:q∈blk B.av):q∈rOwn m g B:=List.mem_cons_of_mem _ (List.mem_cons_of_mem _ (List.mem_append_right _ h))
theorem own_m {m g:Nat} {B:RB}:m∈rOwn m g B:=List.mem_cons_self ..
theorem own_g {m g:Nat} {B:RB}:g∈rOwn m g B:=List.mem_cons_of_mem _ (List.mem_cons_self ..)
theorem own_cases {m g:Nat} {B:RB} {q:Nat} (h:q∈rOwn m g B):q=m∨q=g∨q∈blk B.xv∨q∈blk B.rv∨q∈blk B.av:=by
 simp only[rOwn,List.mem_cons,List.mem_append]at h
 rcases h with h | h | (h | h) | h
 · exact .inl h
 · exact .inr (.inl h)
 · exact .inr (.inr (.inl h))
 · exact .inr (.inr (.inr (.inl h)))
 · exact .inr (.inr (.inr (.inr h)))
def RS.begun (ρ:RS):RS:={ρ with xs:=ρ.xs++[⟨ρ.fresh,0,0,128,0,false⟩],fresh:=ρ.fresh+1}
section
variable {w w':World} {m g:Nat} {B:RB} {ρ:RS}
set_option maxRecDepth 100000 in
set_option maxHeartbeats 1600000 in
theorem rr_begin (h:Rr w m g B ρ) (hs:(xSum ρ.xs).1≤1000000000000∧(xSum ρ.xs).2≤1000000000000) (hl:ρ.xs.length≤1000000) (hf:1≤ρ.fresh∧ρ.fresh≤2000000000) :
  Calls Tryz.prog 37 #[.pointer (some ⟨m,0,none⟩)] w fun e w' =>
   (
    (8≤(xLive ρ.xs).length∧e = .returned (.tuple #[.int .i64 0,.int .i64 192])∧Below w.heap.size w w') ∨
    ((xLive ρ.xs).length<8∧ρ.room<((xSum ρ.xs).1:Int)+128∧e = .returned (.tuple #[.int .i64 0,.int .i64 70])∧Below w.heap.size w w') ∨
    ((xLive ρ.xs).length<8∧¬ρ.room<((xSum ρ.xs).1:Int)+128∧e = .returned (.tuple #[.int .i64 ρ.fresh,.int .i64 0])∧∃B',Rr w' m g B' ρ.begun∧Stp w w' m g B B' [])):=by
 have HL:=Hd (rr_lives h hl)
 have H:=Hd h
 have hsN:=Hd hs
 have hlN:=Hd hl
 obtain⟨k,hk⟩:∃k,(xLive ρ.xs).length=k:=⟨_,rfl⟩
 rw[hk]at HL ⊢
 obtain⟨a,ha⟩:∃a,(xSum ρ.xs).1=a:=⟨_,rfl⟩
 obtain⟨b,hb⟩:∃b,(xSum ρ.xs).2=b:=⟨_,rfl⟩
 have HRs:=Hd (fun w1 (h1:Rr w1 m g B ρ)=>rr_reserved h1 hs hl)
 rw[ha,hb]at HRs
 rw[ha]at ⊢
 have haB:a≤1000000000000:=by rw[←ha];exact hs.1
 obtain⟨rm,hrm⟩:∃r,ρ.room=r:=⟨_,rfl⟩
 obtain⟨fr,hfr⟩:∃r,ρ.fresh=r:=⟨_,rfl⟩
 rw[hrm,hfr]
 rw[hfr]at hf
 have hrmN:=Hd hrm
 have hfrN:=Hd hfr
 have haw:IntKind.i64.wrap ((a:Int)+128)=(a:Int)+128:=by rw[IntKind.wrap_i64];omega
 have hfw:IntKind.i64.wrap (fr+1)=fr+1:=by rw[IntKind.wrap_i64];omega
 have hfw2:IntKind.i64.wrap (fr+1-1)=fr:=by rw[IntKind.wrap_i64];omega
 clear h hs hl hk ha hb haB hrm hfr
 go_enter Tryz.func37,Tryz.ntmps37
 go_wp2_with fail
 refine(HL.out).mono ?_
 rintro e w1 ⟨v',rfl,ho,-,hb1⟩
 obtain⟨va,vc,rfl⟩:=ho.form
 have H1:=Hd (H.out.later hb1)
 have HB1:=Hd hb1
 clear ho hb1 HL
 by_cases h8:8≤k
 ·have h8I:(8:Int)≤k:=by omega
  have h8d:decide ((8:Int)≤k)=true:=decide_eq_true h8I
  have h8N:=Hd h8
  clear h8
  go_wp2_with fail
  go_ret2
  exact .inl ⟨h8N.out,rfl,HB1.out⟩
 have h8I:¬(8:Int)≤k:=by omega
 have h8d:decide ((8:Int)≤k)=false:=decide_eq_false h8I
 have h8N:Hid (k<8):=by show _<_;omega
 have HR1:=Hd (HRs.out w1 H1.out)
 clear h8
 go_wp2_with fail
 refine(HR1.out).mono ?_
 rintro e w2 ⟨rfl,hb2⟩
 have H2:=Hd (H1.out.later hb2)
 have HB2:=Hd (bT HB1.out hb2)
 have C5:w2.cell? ⟨m,5,none⟩=some (.int .i64 rm):=by have:=cell_at H2.out.cell 5;rw[←hrmN.out];exact this
 clear hb2 HR1 HRs H1 HB1
 by_cases hrm2:rm<(a:Int)+128
 ·have hd:decide (rm<(a:Int)+128)=true:=decide_eq_true hrm2
  have hrN:=Hd hrm2
  clear hrm2
  go_wp2_with fail
  go_ret2
  exact .inr (.inl ⟨h8N.out,hrN.out,rfl,HB2.out⟩)
 have hd:decide (rm<(a:Int)+128)=false:=decide_eq_false hrm2
 have hrN:=Hd hrm2
 obtain⟨xa,xc,hxv⟩:=H2.out.xs.form
 have C0:w2.cell? ⟨m,0,none⟩=some B.xv:=cell_at H2.out.cell 0
 obtain⟨n,hn⟩:∃n,ρ.xs.length=n:=⟨_,rfl⟩
 rw[hn]at hxv
 rw[hxv]at C0
 have C1:w2.cell? ⟨m,1,none⟩=some (.int .i64 fr):=by have:=cell_at H2.out.cell 1;rw[←hfrN.out];exact this
 have F0:=free_at H2.out.cell 0
 have hown:OwnS w2 112 6 (.slice xa n xc) n (xcV ρ.xs):=by have:=H2.out.xs;rw[hxv,hn]at this;exact this
 have HOn:Hid (OwnS (w2.drew.alloc (.cells #[.int .i64 fr,.int .i64 0,.int .i64 0,.int .i64 128,.int .i64 0,.bool false] 112)) 112 6 (.slice xa n xc) n (xcV ρ.xs)):=OwnS.keep (w:=w2) hown ((Keeps.refl (fun _=>False) w2).drew.alloc _) (fun _ _ h=>h)
 have hml:=H2.out.mlt
 have cg0:(w2.drew.alloc (.cells #[.int .i64 fr,.int .i64 0,.int .i64 0,.int .i64 128,.int .i64 0,.bool false] 112)).cell? ⟨m,0,none⟩=some (.slice xa n xc):=by
  rw[←C0]
  unfold World.cell?
  rw[Below.heap_alloc _ _ _ (by exact hml)]
  rfl
 have cg1:(w2.drew.alloc (.cells #[.int .i64 fr,.int .i64 0,.int .i64 0,.int .i64 128,.int .i64 0,.bool false] 112)).cell? ⟨m,1,none⟩=some (.int .i64 fr):=by
  rw[←C1]
  unfold World.cell?
  rw[Below.heap_alloc _ _ _ (by exact hml)]
  rfl
 have cd0:w2.drew.cell? ⟨m,0,none⟩=some (.slice xa n xc):=C0
 have cd1:w2.drew.cell? ⟨m,1,none⟩=some (.int .i64 fr):=C1
 have hmx:Hid (m∉blk (.slice xa n xc)):=fun hq=>(H2.out.nx m (by rw[hxv];exact hq)).1 rfl
 have hxvN:=Hd hxv
 have hnN:=Hd hn
 have hnl:Hid (n≤1000000):=by show _≤_;rw[←hn];exact hlN.out
 obtain⟨ji,hj,hy0,hy1,hy2⟩:=info_parts Tryz.info_xct
 have fd0:w2.drew.frozen? ⟨m,0,none⟩=false:=F0
 clear hxv hn hown hrm2
 go_upto_region 6 with fail
 go_region_law (first
  | (refine step_append_frame rfl (.tmp 26) (.tmp 32) 52 rfl 112 ji _ 6 48 Tryz.underlying52 hj hy0 hy1 hy2 rfl (by decide) _ _ _ rfl HOn.out ⟨w2.heap.size,0,none⟩ 1 1 (xcL ⟨fr,0,0,128,0,false⟩) rfl rfl (cells_newR w2.drew _ _ rfl) (xcL_cells _) (by have:=hnl.out;unfold maxLen;omega) (by have:=hnl.out;omega) (by omega) ?_;rintro g7 c7 w7 ho7 hk7 hb7;(have HK7:Hid (Keeps (· ∈ blk (.slice xa n xc)) w2 w7):=(((Keeps.refl _ w2).drew).alloc _).trans hk7 (fun _ _ h=>h));(have hq7:=HK7.out.keep H2.out.cell hmx.out);(have C7:w7.cell? ⟨m,0,none⟩=some B.xv:=cell_at hq7 0);(have F7:=free_at hq7 0);(have HO7:=Hd ho7);(have HB7:=Hd hb7);clear ho7 hk7 hb7 hq7))
 all_goals
  have hP:=H2.out.pushX (w':=w7) (v' := .slice (some ⟨g7,0,none⟩) (n+1) c7) ⟨fr,0,0,128,0,false⟩ (by rw[hnN.out];exact HO7.out) (by rw[hxvN.out];exact HK7.out) (by
   rw[hxvN.out]
   intro q hq
   rcases HB7.out q hq with h | h
   · exact .inl h
   · exact .inr (Nat.le_trans (by simp) h))
  have hmo:Hid (Keeps (· ∈ rOwn m g B) w2 (w7.setCell ⟨m,0,none⟩ (.slice (some ⟨g7,0,none⟩) (n+1) c7))):=(HK7.out.mono (fun q _ hq=>own_x (by rw[hxvN.out];exact hq))).setCell _ _ (.inl own_m)
  have hgo:Hid (∀q∈blk (.slice (some ⟨g7,0,none⟩) (n+1) c7),q∈rOwn m g B∨w2.heap.size≤q):=fun q hq=>by
   rcases HB7.out q hq with h | h
   · exact .inl (own_x (by rw[hxvN.out];exact h))
   · exact .inr (Nat.le_trans (by simp) h)
  go_upto_region 7 with fail
  refine name_world (fun W=>Rr W m g {B with xv := .slice (some ⟨g7,0,none⟩) (n+1) c7} {ρ with xs:=ρ.xs++[⟨fr,0,0,128,0,false⟩]}∧Keeps (· ∈ rOwn m g B) w2 W) ⟨hP,hmo.out⟩ ?_
  rintro W8 ⟨h8,hk8⟩
  have H8:=Hd h8
  have HK8:=Hd hk8
  have D1:W8.cell? ⟨m,1,none⟩=some (.int .i64 fr):=by have:=cell_at h8.cell 1;rw[←hfrN.out];exact this
  have G1:=free_at h8.cell 1
  clear hP hmo h8 hk8 HO7 C7 F7 cd0 cd1 cg0 cg1 C0 C1 C5 fd0 F0 HOn
  go_wp2_with fail
  go_ret2
  obtain⟨r1,r2⟩:=H8.out.setM 1 (.int .i64 (fr+1)) ρ.begun (by unfold RS.begun;rw[hfrN.out]) rfl rfl rfl (by unfold RS.begun;rw[hfrN.out];rfl)
  have hb0:=HB2.out
  refine .inr (.inr ⟨h8N.out,hrN.out,rfl,_,r1,⟨(Keeps.of_below _ hb0).trans (HK8.out.trans r2 (fun q _ e=>e ▸ own_m)) (fun _ _ h=>h),fun q hq=>?_,fun q hq => .inl hq⟩⟩)
  rcases own_cases hq with rfl | rfl | hq | hq | hq
  · exact .inl own_m
  · exact .inl own_g
  · exact(hgo.out q hq).imp (fun h=>h) (fun h=>Nat.le_trans hb0.size h)
  · exact .inl (own_r hq)
  · exact .inl (own_a hq)
end
end Go.Proofs.YtimomjheanfbmaaGreatDoor.G
