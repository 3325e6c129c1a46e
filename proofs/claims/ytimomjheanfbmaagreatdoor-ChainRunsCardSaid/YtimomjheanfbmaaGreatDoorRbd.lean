import Derived.Test.YtimomjheanfbmaaGreatDoorQaa
import Derived.Test.YtimomjheanfbmaaGreatDoorRbc
import Derived.Great.BuildSlice
set_option linter.unusedSimpArgs false
set_option linter.unusedVariables false
namespace Go.Proofs.YtimomjheanfbmaaGreatDoor.G
open Go.RowKit
def qA18:Pg:={pageZ with kind:=3,st:=fun i=>if i=0 then 1 else 0,dt:=fun i=>if i=0 then ⟨#[97]⟩ else ⟨#[]⟩}
def uA18:Un:={uk:=1,us:=0,up:=1,ul:=0,key:=⟨#[]⟩,bs:=0,bd:=⟨#[]⟩}
def q318:Pg:={pageZ with kind:=3}
theorem chgA_ok:RcOk (chgR 1 0 uA18 [(1,qA18)]):=by decide
theorem chgA_size:(rcS (chgR 1 0 uA18 [(1,qA18)])).size=265:=rcS_size chgA_ok
def sA18:CS:=(CS.init 1).begun.changed 1 0 (1,0,0) uA18 [((1:Int),qA18)] 320
def lA18:List (Int×Rc):=[((54:Int),chgR 1 0 uA18 [((1:Int),qA18)])]
theorem sA18_rev:Rev sA18 1 0 (1,54,54) 54 lA18:=by
 refine⟨⟨rfl,rfl,fun j s' hj=>absurd hj (by omega)⟩,⟨by omega,by omega⟩,.upd ⟨0,rfl,rfl⟩ (by decide) rfl (Int.le_refl _) (by show (0:Int)<54;omega) .nil,fun y hy=>?_,⟨by decide,by decide⟩,by decide,by decide⟩
 rw[List.mem_singleton.1 hy]
 exact⟨rfl,⟨by decide,by decide⟩,⟨by decide,by decide⟩,by decide⟩
theorem sA18_page:pgC (sA18.M 1).1=pgC qA18:=rfl
theorem sA18_back:pgC (undoF (fun id=>(sA18.M id).1) lA18 1)=pgC q318:=rfl
theorem CS.last_M (σ:CS) (kind x:Int) (s:Lv):(σ.last kind x s).M=σ.M∧(σ.last kind x s).lives=σ.lives∧(σ.last kind x s).fresh=σ.fresh∧(σ.last kind x s).B=σ.B∧(σ.last kind x s).T=σ.T∧(σ.last kind x s).cnt=σ.cnt:=by
 unfold CS.last
 split <;> exact⟨rfl,rfl,rfl,rfl,rfl,rfl⟩
set_option maxRecDepth 100000 in
set_option maxHeartbeats 400000 in
theorem awake18 (w:World):Calls Tryz.prog 9 #[] w fun e w'=>e = .returned (.bool true)∧Below w.heap.size w w':=by
 have HM:=Hd (cx_made w w [] (fun k hk=>by cases hk) bR 1 (by omega))
 go_enter Tryz.func9,Tryz.ntmps9
 go_wp2_with fail
 refine(HM.out).mono ?_
 rintro e w1 ⟨c,lp,p,dp,lb,mb,rfl,hx,-⟩
 have HBg:=Hd (cx_begin hx ⟨by show (1:Int)≤1;omega,by show (1:Int)≤2000000000;omega⟩ (by show 0<100000000000;omega))
 clear HM hx
 go_wp2_with fail
 refine(HBg.out).mono ?_
 rintro e w2 ⟨-,hr⟩
 obtain⟨rfl,n2,lv2,hx⟩:e = .returned (.tuple #[.int .i64 1,.int .i64 0])∧∃n' lv',Cx w w2 [] c lp p dp 6 lb mb n' lv' (CS.init 1).begun:=by
  rcases hr with⟨h1,_⟩ | ⟨_,h1,_⟩ | ⟨_,_,h1,h2⟩
  · exact absurd h1 (by decide)
  · exact absurd ⟨by show 128+0≤6912-(P0.size+lenL [])-0;rw[lenL];exact by decide,by show 0+0≤1073741824;omega⟩ h1
  · exact⟨h1,h2⟩
 have HX:=Hd hx
 clear hx hr HBg
 go_upto_region 5 with fail
 obtain⟨w3,hw3⟩:∃x,w2.alloc (.cells #[.int .i64 3,.int .i64 0,.int .i64 0,.int .i64 0,.int .i64 1,.string ⟨#[97]⟩,.int .i64 0,.string ⟨#[]⟩,.int .i64 0,.string ⟨#[]⟩,.int .i64 0,.string ⟨#[]⟩,.int .i64 0,.string ⟨#[]⟩,.int .i64 0,.string ⟨#[]⟩] 49)=x:=⟨_,rfl⟩
 rw[hw3]
 have HQ3:Hid (w3.heap[w2.heap.size]? = some (.cells #[.int .i64 3,.int .i64 0,.int .i64 0,.int .i64 0,.int .i64 1,.string ⟨#[97]⟩,.int .i64 0,.string ⟨#[]⟩,.int .i64 0,.string ⟨#[]⟩,.int .i64 0,.string ⟨#[]⟩,.int .i64 0,.string ⟨#[]⟩,.int .i64 0,.string ⟨#[]⟩] 49 (0,0))):=hw3 ▸ hN rfl
 have HX3:Hid (Cx w w3 [w2.heap.size] c lp p dp 6 lb mb n2 lv2 (CS.init 1).begun):=hw3 ▸ HX.out.push (bA bR) _ (Nat.le_refl _) (by simp)
 clear hw3 HX
 obtain⟨ji,hji,hy0,hy1,hy2⟩:=info_parts Tryz.info_img
 have HX4:Hid (Cx w (w3.alloc (.cells (imA ((1:Int),qA18)) 51)) [w3.heap.size,w2.heap.size] c lp p dp 6 lb mb n2 lv2 (CS.init 1).begun):=HX3.out.push (bA bR) _ (Nat.le_refl _) (by simp)
 have HI4:Hid ((w3.alloc (.cells (imA ((1:Int),qA18)) 51)).heap[w3.heap.size]? = some (.cells (imA ((1:Int),qA18)) 51 (0,0))):=hN rfl
 have HQ4:Hid ((w3.alloc (.cells (imA ((1:Int),qA18)) 51)).heap[w2.heap.size]? = some (.cells (pgC qA18) 49 (0,0))):=hO HQ3.out
 have HCh:=Hd (cx_change HX4.out (by show 1<100000000000;omega) 1 ⟨by omega,by omega⟩ uA18 (by decide) (by show (0:Nat)≤maxLen;omega) (by show (0:Nat)≤maxLen;omega) [((1:Int),qA18)] (by simp) (fun y hy=>by rw[List.mem_singleton.1 hy];show (1:Int)<6;omega) (fun y hy i hi=>by
  rw[List.mem_singleton.1 hy]
  have h2:=(chgA_ok.2.1 (1,qA18) (by simp[chgR])).2.2 i hi
  have h3:(qA18.dt i).size≤34:=h2.2.2.1
  show (qA18.dt i).size≤maxLen
  unfold maxLen;omega) (.slice (some ⟨w3.heap.size,0,none⟩) 1 1) (fun w' hk=>sl_one (hk.keep HI4.out (fun h=>h.2 (by simp)))) 0)
 rw[show (unL uA18).toArray = #[.int .i64 1,.int .i64 0,.int .i64 1,.int .i64 0,.string ⟨#[]⟩,.int .i64 0,.string ⟨#[]⟩] from rfl]at HCh
 clear HX3
 go_wp2_with (first
  | (refine wpList_load_row rfl 49 _ rfl _ rfl 49 _ _ _ HQ3.out Tryz.underlying49 rfl (by kernel_rfl) ?_)
  | (refine wpList_buildSlice rfl 43 51 1 _ rfl (imA ((1:Int),qA18)) ji _ Tryz.underlying43 hji hy0 (by rw[hy1];decide) (by rw[hy1];decide) (by rw[hy1];kernel_rfl) ?_))
 refine(HCh.out).mono ?_
 rintro e w5 ⟨hk5,hr⟩
 obtain⟨rfl,n5,hx5⟩:e = .returned (.int .i64 0)∧∃n',Cx w w5 [w3.heap.size,w2.heap.size] c lp p dp 6 lb mb n' lv2 sA18:=by
  rcases hr with⟨h1,_⟩ | ⟨i,s,h1,h2,h3,hr⟩
  · exact absurd rfl (h1 (1,0,0) (by show _∈[((1:Int),(0:Int),(0:Int))];simp))
  ·obtain⟨rfl,rfl⟩:i=0∧s=(1,0,0):=by
    have h1':[((1:Int),(0:Int),(0:Int))][i]? = some s:=h1
    cases i with
    | zero=>exact⟨rfl,(Option.some.inj h1').symm⟩
    | succ i=>simp at h1'
   rcases hr with⟨h4,_⟩ | ⟨_,h4,_⟩ | ⟨_,_,h4,h5⟩
   · exact absurd ⟨chgA_ok,by omega,by omega⟩ h4
   ·refine absurd ⟨?_,by decide⟩ h4
    rw[chgA_size]
    show 320+128≤6912-(P0.size+lenL [])-267
    rw[lenL];exact by decide
   · exact⟨h4,h5⟩
 have HX5:=Hd hx5
 have HQ5:=Hd (hk5.keep HQ4.out (fun h=>h.2 (by simp)))
 clear hx5 hk5 hr HCh HX4 HI4 HQ4 HQ3
 have HG5:=Hd (gx_get HX5.out.kx 1)
 unfold pgV at HG5
 go_wp2_with fail
 refine(HG5.out).mono ?_
 rintro e w6 ⟨Q,cd,rfl,hq6,hk6,hr6⟩
 obtain⟨rfl,hQ⟩:cd=0∧pgC Q=pgC qA18:=by
  rcases hr6 with⟨_,_,q3,q4⟩ | ⟨q1,_⟩
  · exact⟨q3,q4.trans sA18_page⟩
  · omega
 rw[hQ]
 have HX6:Hid (Cx w w6 [w3.heap.size,w2.heap.size] c lp p dp 6 lb mb n5 lv2 sA18):=⟨HX5.out.ch.keep hk6 (fun q hq=>own_ch hq),hq6,HX5.out.hi,HX5.out.most,HX5.out.ok,HX5.out.cn⟩
 have HQ6:=Hd (hk6.keep HQ5.out (own_loc (by simp)))
 clear hq6 hk6 hr6 HG5 hQ HX5 HQ5
 have HN6:Hid ((w6.alloc (.cells (pgC pageZ) 49)).heap[w6.heap.size]? = some (.cells (pgC pageZ) 49 (0,0))):=hN rfl
 go_upto_region 7 with(refine wpList_store_whole rfl 49 _ _ rfl _ (pgC qA18) rfl rfl _ (pgC pageZ) HN6.out rfl (by kernel_rfl) (pgC_one _) ?_;intro w7 HA7 K7;(have hk7:Hid (Keeps (fun _=>False) w6 w7):=((Keeps.refl (fun _=>False) w6).alloc _).trans K7.out (fun q hq e=>by omega));(have HX7:Hid (Cx w w7 [w6.heap.size,w3.heap.size,w2.heap.size] c lp p dp 6 lb mb n5 lv2 sA18):=HX6.out.push hk7.out.below _ (Nat.le_refl _) (block_lt HA7.out));(have HQ7:=Hd (hk7.out.keep HQ6.out (fun h=>h)));clear HN6 K7 hk7 HX6 HQ6)
 have HAb:=Hd (cx_abort HX7.out sA18_rev (by show 2<10000000000;omega))
 unfold kitV at HAb
 go_wp2_with fail
 refine(HAb.out).mono ?_
 rintro e w8 ⟨hk8,hto⟩
 have hfit:BackFits sA18 0 lA18:=by
  have h2:sA18.used=P0.size+lenL [rcS (chgR 1 0 uA18 [((1:Int),qA18)])]:=rfl
  unfold BackFits
  rw[h2,lenL_one,chgA_size]
  exact by decide
 obtain⟨rfl,σ',s',n8,lv8,hu,hx8⟩:e = .returned (.int .i64 0)∧∃σ' s' n8 lv8,Und 1 0 sA18 lA18 σ'∧Cx w w8 [w6.heap.size,w3.heap.size,w2.heap.size] c lp p dp 6 lb mb n8 lv8 ((σ'.last 4 1 s').ended 0):=by
  rcases hto with⟨_,σ',s',hu,hus,_,_,_,_,hto⟩ | ⟨hno,_⟩
  ·rcases hto with⟨_,he,n8,lv8,hx⟩ | ⟨hno,_⟩
   · exact⟨he,σ',s',n8,lv8,hu,hx⟩
   ·refine absurd (Or.inr ?_) hno
    have h2:sA18.used=P0.size+lenL [rcS (chgR 1 0 uA18 [((1:Int),qA18)])]:=rfl
    rw[hus,h2,lenL_one,chgA_size]
    exact by decide
  · exact absurd hfit hno
 have hpg8:Hid (pgC (((σ'.last 4 1 s').ended 0).M 1).1=pgC q318):=by
  have h1:=und_pages hu sA18_rev.good 1
  show pgC ((σ'.last 4 1 s').M 1).1=_
  rw[(CS.last_M _ _ _ _).1]
  exact h1.trans sA18_back
 have hlv8:Hid (((σ'.last 4 1 s').ended 0).lives=[]):=by
  show ((σ'.last 4 1 s').lives).eraseIdx 0=[]
  rw[(CS.last_M _ _ _ _).2.1]
  have h1:=(und_len hu).1
  have h2:σ'.lives.length=1:=h1
  match hl:σ'.lives,h2 with
  | [a],_=>rfl
 obtain⟨σ8,hσ8⟩:∃x,(σ'.last 4 1 s').ended 0=x:=⟨_,rfl⟩
 rw[hσ8]at hx8 hpg8 hlv8
 have HX8:=Hd hx8
 have HA8:=Hd (hk8.keep HA7.out (fun h=>h.2 (by simp)))
 have HQ8:=Hd (hk8.keep HQ7.out (fun h=>h.2 (by simp)))
 clear hx8 hk8 hu hσ8 HAb HX7 HA7 HQ7 hto hfit
 have HG8:=Hd (gx_get HX8.out.kx 1)
 unfold pgV at HG8
 go_wp2_with fail
 refine(HG8.out).mono ?_
 rintro e w9 ⟨Q,cd,rfl,hq9,hk9,hr9⟩
 obtain⟨rfl,hQ⟩:cd=0∧pgC Q=pgC q318:=by
  rcases hr9 with⟨_,_,q3,q4⟩ | ⟨q1,_⟩
  · exact⟨q3,q4.trans hpg8.out⟩
  · omega
 rw[hQ]
 have HX9:Hid (Cx w w9 [w6.heap.size,w3.heap.size,w2.heap.size] c lp p dp 6 lb mb n8 lv8 σ8):=⟨HX8.out.ch.keep hk9 (fun q hq=>own_ch hq),hq9,HX8.out.hi,HX8.out.most,HX8.out.ok,HX8.out.cn⟩
 have HQ9:=Hd (hk9.keep HQ8.out (own_loc (by simp)))
 have HA9:=Hd (hk9.keep HA8.out (own_loc (by simp)))
 clear hq9 hk9 hr9 HG8 hQ HX8 HQ8 HA8 hpg8
 have HN9:Hid ((w9.alloc (.cells (pgC pageZ) 49)).heap[w9.heap.size]? = some (.cells (pgC pageZ) 49 (0,0))):=hN rfl
 go_upto_region 9 with(refine wpList_store_whole rfl 49 _ _ rfl _ (pgC q318) rfl rfl _ (pgC pageZ) HN9.out rfl (by kernel_rfl) (pgC_one _) ?_;intro wa HBa Ka;(have hka:Hid (Keeps (fun _=>False) w9 wa):=((Keeps.refl (fun _=>False) w9).alloc _).trans Ka.out (fun q hq e=>by omega));(have HXa:Hid (Cx w wa [w6.heap.size,w3.heap.size,w2.heap.size] c lp p dp 6 lb mb n8 lv8 σ8):=HX9.out.later hka.out.below);(have HQa:=Hd (hka.out.keep HQ9.out (fun h=>h)));(have HAa:=Hd (hka.out.keep HA9.out (fun h=>h)));clear HN9 Ka hka HX9 HQ9 HA9)
 have HL:=Hd (cx_lives HXa.out)
 rw[hlv8.out]at HL
 have e1:eqPg qA18 qA18=true:=eqPg_same rfl
 have e2:eqPg q318 q318=true:=eqPg_same rfl
 go_wp2_with (first
  | (refine wpList_load_want (by rfl) 49 _ rfl _ rfl 49 (pgC qA18) _ _ HAa.out Tryz.underlying49 rfl (by kernel_rfl) ?_)
  | (refine wpList_load_want (by rfl) 49 _ rfl _ rfl 49 (pgC qA18) _ _ HQa.out Tryz.underlying49 rfl (by kernel_rfl) ?_)
  | (refine wpList_load_want (by rfl) 49 _ rfl _ rfl 49 (pgC q318) _ _ HBa.out Tryz.underlying49 rfl (by kernel_rfl) ?_)
  | (refine wpList_eq_pg (by rfl) _ _ _ rfl qA18 qA18 true e1 rfl rfl ?_)
  | (refine wpList_eq_pg (by rfl) _ _ _ rfl q318 q318 true e2 rfl rfl ?_))
 refine(HL.out).mono ?_
 rintro e wb ⟨v',ho,hb,rfl,hbl⟩
 obtain⟨a',c',hv⟩:=ho.form
 rw[List.length_nil]at hv
 subst hv
 have HB:Hid (Below w.heap.size w wb):=(HXa.out.later hbl).bel
 clear ho hb hbl HL
 go_wp2_with fail
 go_ret
 exact⟨rfl,HB.out⟩
end Go.Proofs.YtimomjheanfbmaaGreatDoor.G
namespace Go.Proofs.YtimomjheanfbmaaGreatDoor.G
open Go.RowKit
structure Bo (w0 w:World) (L0:List Nat) (c lp p dp lb mb n:Nat) (lv:Value) (σ:CS) (m g:Nat) (B:RB) (ρ:RS):Prop where
 cx:Cx w0 w (rOwn m g B++(rIm B++L0)) c lp p dp 6 lb mb n lv σ
 rr:Rr w m g B ρ
 hi:∀q∈rOwn m g B,w0.heap.size≤q∧q∉L0
 im:∀q∈rIm B,q∉L0
section
variable {w0 w w':World} {L0:List Nat} {c lp p dp lb mb n:Nat} {lv:Value} {σ:CS} {m g:Nat} {B:RB} {ρ:RS}
theorem Bo.lt (h:Bo w0 w L0 c lp p dp lb mb n lv σ m g B ρ):∀k∈L0,k<w.heap.size:=fun k hk=>h.cx.kx.loc k (List.mem_append_right _ (List.mem_append_right _ (List.mem_append_right _ hk)))
theorem Bo.later (h:Bo w0 w L0 c lp p dp lb mb n lv σ m g B ρ) (hb:Below w.heap.size w w'):Bo w0 w' L0 c lp p dp lb mb n lv σ m g B ρ :=
 ⟨h.cx.later hb,h.rr.later hb,h.hi,h.im⟩
theorem Bo.bel (h:Bo w0 w L0 c lp p dp lb mb n lv σ m g B ρ):Below w0.heap.size w0 w:=h.cx.bel
theorem Bo.conc (h:Bo w0 w L0 c lp p dp lb mb n lv σ m g B ρ) (hk:Keeps (Own w0 (rOwn m g B++(rIm B++L0))) w w') {lb' mb' n':Nat} {lv':Value} {σ':CS} (hx:Cx w0 w' (rOwn m g B++(rIm B++L0)) c lp p dp 6 lb' mb' n' lv' σ') :
  Bo w0 w' L0 c lp p dp lb' mb' n' lv' σ' m g B ρ∧Keeps (Own w0 L0) w w' :=
 ⟨⟨hx,h.rr.keep hk (fun k hk' hS=>hS.2 (by rw[←List.append_assoc];exact List.mem_append_left _ hk')),h.hi,h.im⟩,hk.mono (fun k _ hS=>⟨hS.1,fun h'=>hS.2 (List.mem_append_right _ (List.mem_append_right _ h'))⟩)⟩
theorem Bo.doc (h:Bo w0 w L0 c lp p dp lb mb n lv σ m g B ρ) {B':RB} {ρ':RS} {E:List Nat} (hr:Rr w' m g B' ρ') (hs:Stp w w' m g B B' E) (L1:List Nat) (hL:∀k∈L1,k∈L0) (hE:∀k∈E,k∈L0∧k∉L1) :
  Bo w0 w' L1 c lp p dp lb mb n lv σ m g B' ρ'∧Keeps (Own w0 L1) w w':=by
 have hlt:=h.lt
 have hw0:=h.bel.size
 have hown:∀q∈rOwn m g B',w0.heap.size≤q∧q∉L0:=fun q hq=>by
  rcases hs.own q hq with h1 | h1
  · exact h.hi q h1
  · exact⟨Nat.le_trans hw0 h1,fun h2=>by have:=hlt q h2;omega⟩
 refine⟨⟨h.cx.swap hs.keeps (fun q hq=>⟨List.mem_append_left _ hq,(h.hi q hq).1⟩) _ (fun k hk=>?_) (fun k hk=>?_),hr,fun q hq=>⟨(hown q hq).1,fun h'=>(hown q hq).2 (hL q h')⟩,fun q hq h'=>?_⟩,hs.keeps.mono (fun q _ hq=>⟨(h.hi q hq).1,fun h'=>(h.hi q hq).2 (hL q h')⟩)⟩
 ·rcases List.mem_append.1 hk with hk | hk
  · exact hr.lt k hk
  ·rcases List.mem_append.1 hk with hk | hk
   · exact(hr.im k hk).1
   · exact Nat.lt_of_lt_of_le (hlt k (hL k hk)) hs.keeps.size
 ·rcases List.mem_append.1 hk with hk | hk
  · exact(hs.own k hk).imp (fun h=>List.mem_append_left _ h) (fun h=>h)
  ·rcases List.mem_append.1 hk with hk | hk
   ·rcases hs.im k hk with h1 | h1 | h1
    · exact .inl (List.mem_append_right _ (List.mem_append_left _ h1))
    · exact .inl (List.mem_append_right _ (List.mem_append_right _ (hE k h1).1))
    · exact .inr h1
   · exact .inl (List.mem_append_right _ (List.mem_append_right _ (hL k hk)))
 ·rcases hs.im q hq with h1 | h1 | h1
  · exact h.im q h1 (hL q h')
  · exact(hE q h1).2 h'
  · have:=hlt q (hL q h');omega
theorem Bo.move (h:Bo w0 w L0 c lp p dp lb mb n lv σ m g B ρ) {S:Nat→Prop} (hk:Keeps S w w') (hS:∀q,S q→q∈L0∧w0.heap.size≤q) (L1:List Nat) (hl:∀k∈L1,k<w'.heap.size) (hn:∀k∈L1,k∈L0∨w.heap.size≤k):Bo w0 w' L1 c lp p dp lb mb n lv σ m g B ρ:=by
 have hno:∀q∈rOwn m g B,q<w.heap.size∧q∉L0:=fun q hq=>⟨h.rr.lt q hq,(h.hi q hq).2⟩
 refine⟨h.cx.swap hk (fun q hq=>⟨List.mem_append_right _ (List.mem_append_right _ (hS q hq).1),(hS q hq).2⟩) _ (fun k hk'=>?_) (fun k hk'=>?_),h.rr.keep hk (fun q hq hs=>?_),fun q hq=>⟨(h.hi q hq).1,fun h'=>?_⟩,fun q hq h'=>?_⟩
 ·rcases List.mem_append.1 hk' with hq | hq
  · exact Nat.lt_of_lt_of_le (h.rr.lt k hq) hk.size
  ·rcases List.mem_append.1 hq with hq | hq
   · exact Nat.lt_of_lt_of_le (h.rr.im k hq).1 hk.size
   · exact hl k hq
 ·rcases List.mem_append.1 hk' with hq | hq
  · exact .inl (List.mem_append_left _ hq)
  ·rcases List.mem_append.1 hq with hq | hq
   · exact .inl (List.mem_append_right _ (List.mem_append_left _ hq))
   · exact(hn k hq).imp (fun h=>List.mem_append_right _ (List.mem_append_right _ h)) (fun h=>h)
 ·rcases List.mem_append.1 hq with hq | hq
  · exact(h.hi q hq).2 (hS q hs).1
  · exact h.im q hq (hS q hs).1
 ·rcases hn q h' with h1 | h1
  · exact(h.hi q hq).2 h1
  · have:=h.rr.lt q hq;omega
 ·rcases hn q h' with h1 | h1
  · exact h.im q hq h1
  · have:=(h.rr.im q hq).1;omega
theorem Bo.push (h:Bo w0 w L0 c lp p dp lb mb n lv σ m g B ρ) (hb:Below w.heap.size w w') (q:Nat) (h1:w.heap.size≤q) (h2:q<w'.heap.size):Bo w0 w' (q::L0) c lp p dp lb mb n lv σ m g B ρ :=
 h.move (Keeps.of_below (fun _=>False) hb) (fun q hq=>hq.elim) _ (fun k hk=>by
  rcases List.mem_cons.1 hk with rfl | hk
  · exact h2
  · exact Nat.lt_of_lt_of_le (h.lt k hk) hb.size) (fun k hk=>by
  rcases List.mem_cons.1 hk with rfl | hk
  · exact .inr h1
  · exact .inl hk)
theorem Bo.pop {q:Nat} (h:Bo w0 w (q::L0) c lp p dp lb mb n lv σ m g B ρ):Bo w0 w L0 c lp p dp lb mb n lv σ m g B ρ :=
 h.move (Keeps.refl (fun _=>False) w) (fun q hq=>hq.elim) _ (fun k hk=>h.lt k (List.mem_cons_of_mem _ hk)) (fun k hk => .inl (List.mem_cons_of_mem _ hk))
theorem Bo.ofNm (h:Bo w0 w L0 c lp p dp lb mb n lv σ m g B ρ) {X:Nat→Prop} (hs:Sm σ ρ X):Bo w0 w L0 c lp p dp lb mb n lv (σ.nm ρ.recs) m g B ρ:=⟨h.cx.nm hs.rs hs.ok,h.rr,h.hi,h.im⟩
structure Bd (σ:CS) (ρ:RS) (k:Nat):Prop where
 T1:σ.T.1≤6912
 T2:σ.T.2≤k
 cnt:σ.cnt≤1000*k
 fr:1≤σ.fresh∧σ.fresh≤1073741824+k
 fin:σ.fin≤54+7000*k
 len:ρ.xs.length≤k
 kk:k≤250
set_option maxRecDepth 100000 in
theorem Bd.next {σ σ':CS} {ρ ρ':RS} {k:Nat} (h:Bd σ ρ k) (hk:k+1≤250) (h1:σ'.T.1≤6912) (h2:σ'.T.2≤k+1) (h3:σ'.cnt≤σ.cnt+1000) (h4:σ'.fresh=σ.fresh∨σ'.fresh=σ.fresh+1) (h5:σ'.bb=σ.bb∨σ'.fin≤σ.fin+7000) (h6:σ'.used≤6912) (h7:ρ'.xs.length≤ρ.xs.length+1):Bd σ' ρ' (k+1):=by
 have a1:=h.cnt
 have a2:=h.fr
 have a3:=h.fin
 have a4:=h.len
 refine⟨h1,h2,by omega,⟨by omega,by push_cast;omega⟩,?_,by omega,hk⟩
 rcases h5 with h5 | h5
 ·have e1:=σ.fin_eq
  have e2:=σ'.fin_eq
  rw[h5]at e2
  omega
 · omega
theorem Bo.qn (h:Bo w0 w L0 c lp p dp lb mb n lv σ m g B ρ) {X:Nat→Prop} (hs:Sm σ ρ X):B.Q.length≤1000000∧ρ.ats.length≤1000000:=by
 have h1:=h.rr.qlen
 have h2:ρ.ats.length=ρ.recs.length:=by rw[hs.pl.ats,placeL_length]
 have h3:=h.cx.count.1
 have h4:ρ.recs.length=σ.recs.length:=by have:=congrArg List.length hs.rs;unfold CS.rs at this;rw[List.length_map,List.length_map]at this;exact this.symm
 omega
set_option maxRecDepth 100000 in
theorem Bo.bds (h:Bo w0 w L0 c lp p dp lb mb n lv σ m g B ρ) {X:Nat→Prop} (hs:Sm σ ρ X) {k:Nat} (hb:Bd σ ρ k) :
  σ.used≤6912∧(0≤ρ.fin∧ρ.fin≤10000000)∧(0≤ρ.room∧ρ.room≤6912)∧((xSum ρ.xs).1≤6912∧(xSum ρ.xs).2≤250)∧ρ.xs.length≤250∧(1≤ρ.fresh∧ρ.fresh≤1073742074)∧σ.cnt≤250000∧σ.lives.length≤8:=by
 have h1:=h.cx.count.2.1
 have h2:=hs.fin
 have h3:=hs.room
 have h4:=hs.T
 have h5:=hb.T1
 have h6:=hb.T2
 have h7:=hb.len
 have h8:=hb.kk
 have h9:=hb.fr
 have h10:=hs.fresh
 have h11:=hb.fin
 have h12:=hb.cnt
 have h13:=h.cx.ch.len
 rw[←h4,h10]
 refine⟨h1,⟨by omega,by omega⟩,⟨by omega,by omega⟩,⟨h5,by omega⟩,by omega,⟨h9.1,by omega⟩,by omega,h13⟩
end
end Go.Proofs.YtimomjheanfbmaaGreatDoor.G
