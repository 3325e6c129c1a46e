import Derived.Test.YtimomjheanfbmaaGreatDoorQaa
import Derived.Test.YtimomjheanfbmaaGreatDoorQak
import Derived.LoopN
import Derived.Test.YtimomjheanfbmaaGreatDoorQaj
import Derived.WalkLawsBesides
import Derived.Laws.Externs
import Derived.Deep.DeepCutAuto
import Derived.Deep.CutBlock
import Derived.BigRegion
set_option linter.unusedSimpArgs false
set_option linter.unusedVariables false
namespace Go.Proofs.YtimomjheanfbmaaGreatDoor
open Go.RowKit
theorem Tryz.info_by:(Tryz.prog.info? 5).map (fun i=>(i.zero,i.size,i.bytes))=some (some (.int .u8 0),1,1):=by kernel_rfl
theorem convert_zeros {P:Program} (w:World) (src e:TypeId) (hs:P.underlying src=some (.slice e)) (he:P.underlying e=some (.int .u8)) (base:Nat) (v:Value) (n:Nat)
  (h:w.ownsRow base e 1 v n (madeCells (Value.int .u8 0).cells (n*1)).toList):∀dst,P.underlying dst=some .string→(convert src dst v).run P w = .ok (.string (zeros n)) w:=by
 intro dst hd
 refine convert_owned (P:=P) w src e hs he base v n (List.replicate n 0) ?_ dst hd
 rw[List.map_replicate]
 have:(madeCells (Value.int .u8 0).cells (n*1)).toList=List.replicate n (Value.int .u8 0):=by
  rw[Nat.mul_one];exact toList_madeCells_one _ _
 rwa[this]at h
def Dev.new (n:Nat):Dev:={firm:=List.replicate n (zeros 64),soft:=[],seen:=List.replicate n (zeros 64),fuel := -1,down:=false}
theorem Dev.new_ok (n:Nat) (h0:0<n) (h1:n≤16384):DevOk (Dev.new n):=by
 have hz:∀s∈List.replicate n (zeros 64),s.size=64:=fun s hs=>by rw[(List.mem_replicate.1 hs).2];exact zeros_size 64
 unfold Dev.new DevOk
 simp only[List.length_replicate]
 exact⟨h0,h1,trivial,by simp,by omega,by omega,hz,hz⟩
theorem replicate_snoc {α:Type} (a:α) (k:Nat):List.replicate (k+1) a=List.replicate k a++[a]:=by
 rw[List.replicate_succ']
theorem cell_one_at (w:World) (x:Value) (T:TypeId) (f:Nat×Nat) (n:Nat) (hn:n=w.heap.size):∀(j:Nat) (u:Value),[x][j]? = some u→(w.alloc (.cells #[x] T f)).cell? ((⟨n,0,none⟩:Addr).add j)=some u:=by
 intro j u hj
 subst hn
 have e:(⟨w.heap.size,0,none⟩:Addr).add j=⟨w.heap.size,j,none⟩:=by unfold Addr.add;split <;> simp_all
 rw[e,cell_at (hN rfl)]
 simpa using hj
set_option maxHeartbeats 800000 in
set_option maxRecDepth 100000 in
theorem dsk_new (n:Nat) (h0:0<n) (h1:n≤16384) (w:World):Calls Tryz.prog 20 #[.int .i64 n] w fun e w' =>
  ∃p S,e = .returned (.tuple #[.pointer (some ⟨p,0,none⟩),.int .i64 0])∧DiskAt w' p (Dev.new n) S∧Below w.heap.size w w'∧∀k∈S,w.heap.size≤k:=by
 obtain⟨i0,hi,hz0,hz1,hz2⟩:=info_parts Tryz.info_by
 obtain⟨i1,hj,hy0,hy1,hy2⟩:=info_parts Tryz.info_st
 have hok:=Hd (Dev.new_ok n h0 h1)
 have HX:Hid (∀w B v,w.ownsRow B 5 1 v 64 (madeCells (Value.int .u8 0).cells (64*1)).toList→(convert 141 9 v).run Tryz.prog w = .ok (.string (zeros 64)) w) :=
  fun w B v h=>convert_zeros (P:=Tryz.prog) w 141 5 Tryz.underlying141 Tryz.underlying5 B v 64 h 9 Tryz.underlying9
 have hzs:=zeros_size 64
 unfold Dev.new at *
 generalize zeros 64=Z at *
 go_enter Tryz.func20,Tryz.ntmps20
 go_wp2_with ((at_make;refine wpList_make_full _ rfl _ _ 141 rfl (w.heap.size+1) 5 i0 (.int .u8 0) 1 Tryz.underlying141 hi hz0 hz1 _ _ _ _ 64 rfl rfl rfl rfl (by rw[hz2];omega) (by unfold maxLen;omega) (by simp) ?_;rintro w1 hown hg;(have hcv:=HX.out w1 _ _ hown);(replace hcv:(convert 141 9 (.slice (some ⟨w.heap.size+1,0,none⟩) 64 64)).run Tryz.prog w1 = .ok (.string Z) w1:=by simpa using hcv);(have Hg:=Hd hg);clear hg hown))
 have hs1:w.heap.size+1≤w1.heap.size:=by have:=Hg.out.size;simpa using this
 have HP1:Hid (w1.heap[w.heap.size]? = some (.cells #[.slice none 0 0,.slice none 0 0,.slice none 0 0,.int .i64 (-1),.bool false] 155 (0,0))) :=
  (Hg.out.block w.heap.size (by simp) (by simp)).trans (hN rfl)
 have HB1:Hid (Below w.heap.size w w1):=(bA bR).grown Hg.out (by simp) (by simp)
 clear Hg hcv
 go_loopw [17] (fun i wr=>∃(k:Nat) (fv:Value),k≤n∧i = .int .i64 k∧Hid (wr.heap[w.heap.size]? = some (.cells #[fv,.slice none 0 0,.slice none 0 0,.int .i64 (-1),.bool false] 155 (0,0))) ∧
  Hid (OwnS wr 9 1 fv k (strV (List.replicate k Z)))∧Hid (∀b∈blk fv,w.heap.size<b)∧Below w.heap.size w wr) (fun i _=>n-(intOf i).toNat)
 case atStart=>exact⟨0,.slice none 0 0,by omega,rfl,HP1,OwnS.nil _ _ _,by simp[Hid,blk,Value.ownBlock],HB1.out⟩
 case round =>
  obtain⟨k,fv,hk,rfl,HP,HO,HF,hbr⟩:=hrel
  have HBr:=Hd hbr
  have hszr:w.heap.size<wr.heap.size:=block_lt HP.out
  clear hbr HP1 HB1
  have P0:=cell_at HP.out 0
  have Q0:=free_at HP.out 0
  by_cases hkn:k<n
  ·have HO1:Hid (OwnS (wr.alloc (.cells #[.string Z] 9)) 9 1 fv k (strV (List.replicate k Z))):=HO.out.keep ((Keeps.refl (fun _=>False) wr).alloc _) (fun _ _=>id)
   go_wp2_with ((at_builtin;go_must (refine wpList_append_frame _ rfl _ _ 152 rfl 9 i1 (.string .empty) 1 16 Tryz.underlying152 hj hy0 hy1 hy2 rfl (by decide) _ _ _ rfl HO1.out ⟨wr.heap.size,0,none⟩ 1 1 [.string Z] rfl rfl (cell_one_at _ _ _ _ _ rfl) (by simp[Value.oneCell']) (by unfold maxLen;omega) (by omega) ?_));rintro v4 w4 ho4 hk4 hb4 hn4;(obtain⟨g4,c4,rfl⟩:=ho4.has (by omega));(replace hk4:Keeps (· ∈ blk fv) (wr.alloc (.cells #[.string Z] 9)) w4:=hk4);(replace hb4:∀b∈blk (.slice (some ⟨g4,0,none⟩) (k+1) c4),b∈blk fv∨(wr.alloc (.cells #[.string Z] 9)).heap.size≤b:=hb4);(have HP4:=Hd (hk4.keep (hO HP.out) (fun h=>Nat.lt_irrefl _ (HF.out _ h))));(have C4:=cell_at HP4.out 0);(have F4:=free_at HP4.out 0);(have HO4:=Hd ho4);(have HK4:=Hd hk4);(have HB4:=Hd hb4);clear ho4 hk4 hb4 hn4)
   go_roundw
   case rel =>
    have hF:∀b∈blk (.slice (some ⟨g4,0,none⟩) (k+1) c4),w.heap.size<b:=by
     intro b hb
     rcases HB4.out b hb with h | h
     · exact HF.out b h
     · simp at h;omega
    refine⟨k+1,.slice (some ⟨g4,0,none⟩) (k+1) c4,by omega,rfl,heap_set HP4.out 0 _,?_,hF,?_⟩
    ·show OwnS _ _ _ _ _ _
     rw[replicate_snoc,show strV (List.replicate k Z++[Z])=strV (List.replicate k Z)++[.string Z] from by simp[strV]]
     refine HO4.out.keep ((Keeps.refl (· = w.heap.size) w4).setCell _ _ (.inl rfl)) ?_
     rintro b hb rfl
     exact Nat.lt_irrefl _ (hF _ hb)
    · exact(((Keeps.of_below (fun _=>False) (bA HBr.out)).trans HK4.out (fun i hi h=>by have:=HF.out i h;omega)).below).setCell (Nat.le_refl _) _
   case measure=>simp[intOf];omega
  ·obtain rfl:k=n:=by omega
   obtain⟨g,c,rfl⟩:=HO.out.has h0
   have hpg:w.heap.size<g:=HF.out g (by simp[blk,Value.ownBlock])
   have hgr:g<wr.heap.size:=HO.out.lt (by simp[blk,Value.ownBlock])
   go_wp2_with ((at_builtin;go_must (refine wpList_append_frame _ rfl _ _ 152 rfl 9 i1 (.string .empty) 1 16 Tryz.underlying152 hj hy0 hy1 hy2 rfl (by decide) _ _ _ rfl (OwnS.nil wr 9 1) ⟨g,0,none⟩ k c (strV (List.replicate k Z)) rfl (by rw[strV_length,List.length_replicate];omega) (World.ownsRow.cells HO.out (g:=g) rfl) (strV_oneCell _) (by unfold maxLen;omega) (by omega) ?_));rintro v4 w4 ho4 hk4 hb4 hn4;(simp only[Nat.zero_add,List.nil_append]at ho4 hb4);(obtain⟨g4,c4,rfl⟩:=ho4.has h0);(replace hk4:Keeps (fun _=>False) wr w4:=hk4.mono (fun i _ h=>by simp[blk,Value.ownBlock,Act.eval]at h));(have hg4:wr.heap.size≤g4:=(hb4 g4 (by simp[blk,Value.ownBlock])).elim (fun h=>by simp[blk,Value.ownBlock,Act.eval]at h) id);(have HP4:=Hd (hk4.keep HP.out (fun h=>h)));(have C4:=cell_at HP4.out 2);(have F4:=free_at HP4.out 2);(have HO4:=Hd ho4);(have HK4:=Hd hk4);clear ho4 hk4 hb4 hn4)
   refine bodyPost_ret (results_tmp2 rfl _ _ _) rfl ?_
   refine⟨w.heap.size,w.heap.size::(blk (.slice (some ⟨g,0,none⟩) k c)++(blk (.slice none 0 0)++blk (.slice (some ⟨g4,0,none⟩) k c4))),rfl,⟨hok.out,_,_,_,heap_set HP4.out 2 _,?_,OwnS.nil _ _ _,?_,rfl,?_⟩,?_,?_⟩
   ·show OwnS _ _ 1 _ (List.replicate k Z).length _
    rw[List.length_replicate]
    refine(HO.out.keep HK4.out (fun _ _=>id)).keep ((Keeps.refl (· = w.heap.size) w4).setCell ⟨w.heap.size,2,none⟩ _ (.inl rfl)) ?_
    rintro b hb rfl
    exact Nat.lt_irrefl _ (HF.out _ hb)
   ·show OwnS _ _ 1 _ (List.replicate k Z).length _
    rw[List.length_replicate]
    refine HO4.out.keep ((Keeps.refl (· = w.heap.size) w4).setCell ⟨w.heap.size,2,none⟩ _ (.inl rfl)) ?_
    rintro b hb rfl
    have:=(show w.heap.size=g4 by simpa[blk,Value.ownBlock]using hb)
    omega
   · simp[blk,Value.ownBlock];omega
   · exact(((Keeps.of_below (fun _=>False) HBr.out).trans HK4.out (fun i hi h=>h)).below).setCell (Nat.le_refl _) _
   ·intro b hb
    simp[blk,Value.ownBlock]at hb
    omega
end Go.Proofs.YtimomjheanfbmaaGreatDoor
namespace Go.Proofs.YtimomjheanfbmaaGreatDoor
open Go.RowKit
end Go.Proofs.YtimomjheanfbmaaGreatDoor
namespace Go.Proofs.YtimomjheanfbmaaGreatDoor
open Go.RowKit
end Go.Proofs.YtimomjheanfbmaaGreatDoor
namespace Go.Proofs.YtimomjheanfbmaaGreatDoor
open Go.RowKit
open Go.Maps (Keyed int_keyed keyOf_int_mk)
theorem ord_le (a b:Nat) (ha:a<2^53) (hb:b<2^53):(FloatKind.f64.format.order (flB a) (flB b)==some .lt||FloatKind.f64.format.order (flB a) (flB b)==some .eq)=decide (a≤b):=by
 show (Ieee.double.order (flB a) (flB b)==some .lt||Ieee.double.order (flB a) (flB b)==some .eq)=_
 rw[fl_order a b ha hb]
 rcases Nat.lt_trichotomy a b with h | h | h
 · rw[Nat.compare_eq_lt.2 h,decide_eq_true (by omega)];rfl
 · rw[Nat.compare_eq_eq.2 h,decide_eq_true (by omega)];rfl
 · rw[Nat.compare_eq_gt.2 h,decide_eq_false (by omega)];rfl
theorem ord_ge0 (a:Nat) (ha:a<2^53):(FloatKind.f64.format.order (flB a) 0==some .gt||FloatKind.f64.format.order (flB a) 0==some .eq)=true:=by
 show (Ieee.double.order (flB a) (flB 0)==some .gt||Ieee.double.order (flB a) (flB 0)==some .eq)=_
 rw[fl_order a 0 ha (by decide)]
 rcases Nat.lt_trichotomy a 0 with h | h | h
 · omega
 · rw[Nat.compare_eq_eq.2 h];rfl
 · rw[Nat.compare_eq_gt.2 h];rfl
theorem ord_eq (a b:Nat) (ha:a<2^53) (hb:b<2^53):(FloatKind.f64.format.order (flB a) (flB b)==some .eq)=decide (a=b):=by
 show (Ieee.double.order (flB a) (flB b)==some .eq)=_
 rw[fl_order a b ha hb]
 rcases Nat.lt_trichotomy a b with h | h | h
 · rw[Nat.compare_eq_lt.2 h,decide_eq_false (by omega)];rfl
 · rw[Nat.compare_eq_eq.2 h,decide_eq_true (by omega)];rfl
 · rw[Nat.compare_eq_gt.2 h,decide_eq_false (by omega)];rfl
theorem flB_most:flB 1099511627776=4787326403894837248:=by decide +kernel
theorem cut_zero (n j:Nat):Ieee.Toward.zero.cut false (n*2^j) j=n:=by
 unfold Ieee.Toward.cut
 by_cases hn:n=0
 ·subst hn
  simp
 ·rw[log2_mul_pow n j hn,Nat.min_eq_left (by omega),Nat.shiftLeft_eq,Nat.one_mul]
  have hp:0<2^j:=Nat.pos_of_ne_zero (by simp)
  dsimp only
  rw[Nat.mul_div_cancel _ hp]
  simp
theorem trunc_fl (n : Nat) (h : n < 2 ^ 53) (P : Program) (w : World) : (Extern.MathFloor.toIntegral "math.archTrunc" .zero #[.float .f64 (flB n)]).run P w = .ok (.float .f64 (flB n)) w := by
 obtain⟨e,he⟩:=read_fl n h
 have hd:FloatKind.f64.decode (flB n) = .number false (n*2^e) (-(e:Int)):=he
 have hi:(Ieee.Datum.number false (n*2^e) (-(e:Int))).integral .zero = .number false n 0:=by
  unfold Ieee.Datum.integral
  simp only
  rw[show (-(e:Int)).toNat=0 by omega,show (- -(e:Int)).toNat=e by omega,Nat.shiftLeft_zero,cut_zero]
 have hw:FloatKind.f64.encode (.number false n 0)=flB n:=by
  have:=near_eq n 0 h
  rw[Nat.pow_zero,Nat.mul_one]at this
  exact this
 have key:∀d:Ieee.Datum,d = .number false (n*2^e) (-(e:Int))→(match d with
  | .nan s t =>
   if FloatKind.f64.format.quiet t=t then (pure (.float .f64 (flB n)):Sem Value) else do
   let kept ← choose (.extern "math.Floor,Ceil,Trunc,RoundToEven.signallingNaN kept" 2)
   pure (.float .f64 (if kept==1 then flB n else FloatKind.f64.encode (.nan s (FloatKind.f64.format.quiet t))))
  | d=>pure (.float .f64 (FloatKind.f64.encode (d.integral .zero))))=pure (.float .f64 (flB n)):=by
  intro d hd
  subst hd
  show pure (Value.float .f64 (FloatKind.f64.encode ((Ieee.Datum.number false (n*2^e) (-(e:Int))).integral .zero)))=_
  rw[hi,hw]
 have h2:=key _ hd
 have h3 : Extern.MathFloor.toIntegral "math.archTrunc" .zero #[.float .f64 (flB n)] = pure (.float .f64 (flB n)) := h2
 rw[h3]
 rfl
set_option maxRecDepth 100000 in
theorem lg_trunc (n:Nat) (h:n<2^53) (w:World):Calls Tryz.prog 168 #[.float .f64 (flB n)] w fun e w'=>e = .returned (.float .f64 (flB n))∧w=w':=by
 have ht:∀w,(callFunc 181 #[.float .f64 (flB n)]).run Tryz.prog w = .ok (.value (.float .f64 (flB n))) w:=fun w=>by
  rw [run_callFunc_extern Tryz.func181 (by kernel_rfl) (by kernel_rfl) (by kernel_rfl) (e := Extern.MathFloor.toIntegral "math.archTrunc" .zero) (by kernel_rfl), trunc_fl n h]
  rfl
 go_enter Tryz.func168,Tryz.ntmps168
 go_wp2_with fail
 go_ret
 exact⟨rfl,rfl⟩
def whN (n:Nat):Bool:=decide (n≤1099511627776)
set_option maxRecDepth 100000 in
theorem lg_whole (n:Nat) (h:n<2^53) (w:World):Calls Tryz.prog 135 #[.float .f64 (flB n)] w fun e w'=>e = .returned (.bool (whN n))∧w=w':=by
 have h1:=ord_ge0 n h
 have h2:=ord_le n 1099511627776 h (by decide)
 have h3:=ord_eq n n h h
 rw[flB_most]at h2
 rw[decide_eq_true rfl]at h3
 have HT:=Hd (lg_trunc n h)
 cases hw:whN n with
 | true =>
  unfold whN at hw
  rw[hw]at h2
  replace hw:=Hd hw
  go_enter Tryz.func135,Tryz.ntmps135
  go_wp2_with fail
  refine(HT.out _).mono ?_
  rintro e w1 ⟨rfl,rfl⟩
  go_wp2_with fail
  go_ret
  exact⟨rfl,rfl⟩
 | false =>
  unfold whN at hw
  rw[hw]at h2
  replace hw:=Hd hw
  go_enter Tryz.func135,Tryz.ntmps135
  go_wp2_with fail
  go_ret
  exact⟨rfl,rfl⟩
set_option maxRecDepth 100000 in
theorem lg_amount (a b:Nat) (ha:a<2^53) (hb:b<2^53) (w:World):Calls Tryz.prog 99 #[.complex .f64 (flB a) (flB b)] w fun e w'=>e = .returned (.bool (whN a&&whN b))∧w=w':=by
 have H1:=Hd (lg_whole a ha)
 have H2:=Hd (lg_whole b hb)
 obtain⟨x,hx⟩:∃x,whN a=x:=⟨_,rfl⟩
 obtain⟨y,hy⟩:∃y,whN b=y:=⟨_,rfl⟩
 rw[hx]at H1 ⊢
 rw[hy]at H2 ⊢
 clear hx hy
 cases x
 ·go_enter Tryz.func99,Tryz.ntmps99
  go_wp2_with fail
  refine(H1.out _).mono ?_
  rintro e w1 ⟨rfl,rfl⟩
  go_wp2_with fail
  go_ret
  exact⟨rfl,rfl⟩
 ·go_enter Tryz.func99,Tryz.ntmps99
  go_wp2_with fail
  refine(H1.out _).mono ?_
  rintro e w1 ⟨rfl,rfl⟩
  go_wp2_with fail
  refine(H2.out _).mono ?_
  rintro e w1 ⟨rfl,rfl⟩
  go_wp2_with fail
  go_ret
  exact⟨rfl,rfl⟩
set_option maxRecDepth 100000 in
theorem lg_fits (a b c d:Nat) (ha:a<2^53) (hb:b<2^53) (hc:c<2^53) (hd:d<2^53) (w:World):Calls Tryz.prog 100 #[.complex .f64 (flB a) (flB b),.complex .f64 (flB c) (flB d)] w fun e w'=>e = .returned (.bool (decide (a≤c)&&decide (b≤d)))∧w=w':=by
 have h1:=ord_le a c ha hc
 have h2:=ord_le b d hb hd
 obtain⟨x,hx⟩:∃x,decide (a≤c)=x:=⟨_,rfl⟩
 obtain⟨y,hy⟩:∃y,decide (b≤d)=y:=⟨_,rfl⟩
 rw[hx]at h1 ⊢
 rw[hy]at h2 ⊢
 clear hx hy
 cases x
 ·go_enter Tryz.func100,Tryz.ntmps100
  go_wp2_with fail
  go_ret
  exact⟨rfl,rfl⟩
 ·go_enter Tryz.func100,Tryz.ntmps100
  go_wp2_with fail
  go_ret
  exact⟨rfl,rfl⟩
end Go.Proofs.YtimomjheanfbmaaGreatDoor
namespace Go.Proofs.YtimomjheanfbmaaGreatDoor
open Go.RowKit
open Go.Maps (Keyed int_keyed keyOf_int_mk)
def LgAt (w:World) (lb mb n:Nat) (B:Int→Nat×Nat) (T:Nat×Nat):Prop:=w.heap[lb]? = some (.cells #[.map (some mb)] 194 (0,0))∧BkAt w mb n B T∧lb≠mb
theorem LgAt.keep {S:Nat→Prop} {w w':World} {lb mb n:Nat} {B:Int→Nat×Nat} {T:Nat×Nat} (h:LgAt w lb mb n B T) (hk:Keeps S w w') (h1:¬S lb) (h2:¬S mb):LgAt w' lb mb n B T :=
 ⟨hk.keep h.1 h1,h.2.1.keep hk h2,h.2.2⟩
theorem LgAt.later {w w':World} {lb mb n:Nat} {B:Int→Nat×Nat} {T:Nat×Nat} (h:LgAt w lb mb n B T) (hb:Below w.heap.size w w'):LgAt w' lb mb n B T:=h.keep (Keeps.of_below (fun _=>False) hb) (fun h=>h) (fun h=>h)
theorem LgAt.lt {w:World} {lb mb n:Nat} {B:Int→Nat×Nat} {T:Nat×Nat} (h:LgAt w lb mb n B T):lb<w.heap.size∧mb<w.heap.size:=⟨block_lt h.1,h.2.1.lt⟩
theorem key_int {key:Value} {kl:Lit} (h:keyOf Tryz.prog 3 key=some kl):∃x:Int,key = .int .i64 x:=by
 obtain⟨x,rfl,_⟩:=Maps.keyOf_int_inv Tryz.underlying3 h
 exact⟨x,rfl⟩
theorem elem_cx {v:Value} {y:DataW Unit×List MemPlace} (h:cxR v=some y):∃c:Nat×Nat,v = .complex .f64 (flB c.1) (flB c.2):=by
 obtain⟨a,b,_,_,rfl,_⟩:=cxR_inv h
 exact⟨(a,b),rfl⟩
theorem cx_bits {v1 v2 w1 w2:Nat} (h:Value.complex .f64 v1 v2=Value.complex .f64 w1 w2):v1=w1∧v2=w2:=by injection h with _ h1 h2;exact⟨h1,h2⟩
theorem sumE_none (f:DataW Unit→Nat) (p:Lit→Bool):∀(l:List (Lit×DataW Unit)),(∀x,p x=false)→sumE f p l=0
 | [],_=>rfl
 | y::l,h=>by rw[sumE,h,sumE_none f p l h];rfl
theorem tot_has {w:World} {b n:Nat} {D:DataW Unit} (h:w.ownsMap Tryz.prog 3 cxR b n D):totD (Maps.has D) D=totD (fun _=>true) D:=by
 obtain⟨es,rfl,h1,h2⟩:=h.entries (int_keyed Tryz.underlying3)
 have:∀x∈es,Maps.has (DataW.map es) x.1=true:=fun x hx=>List.any_eq_true.2 ⟨x,hx,WideAt.sameKey_self (h2 x hx)⟩
 unfold totD entsOf
 dsimp only
 rw[sumE_same fB _ (fun _=>true) es this,sumE_same fP _ (fun _=>true) es this]
set_option maxRecDepth 100000 in
set_option maxHeartbeats 400000 in
theorem lg_sum {w:World} {lb mb n:Nat} {B:Int→Nat×Nat} {T:Nat×Nat} (h:LgAt w lb mb n B T) (hT:T.1<2^53∧T.2<2^53) :
  Calls Tryz.prog 86 #[.pointer (some ⟨lb,0,none⟩)] w fun e w'=>e = .returned (.complex .f64 (flB T.1) (flB T.2))∧Below w.heap.size w w':=by
 obtain⟨hc,⟨D,hD,hB,hTD⟩,hne⟩:=h
 have C0:=cell_at hc 0
 have HD:=Hd hD
 have HTD:=Hd hTD
 have HT:=Hd hT
 clear hc hD hB hTD hT hne
 go_enter Tryz.func86,Tryz.ntmps86
 go_wp2_with (refine wpList_range_own _ rfl _ 192 rfl 3 96 (int_keyed Tryz.underlying3) Tryz.underlying192 cxR mb n D rfl HD.out (fun w0 hrg0 hg0 hs0=>?_))
 have HR0:=Hd hrg0
 have HB0:Hid (Below w.heap.size w w0):=((Keeps.refl (fun _=>False) w).grown hg0 (fun j hj=>by cases hj)).below
 clear hrg0 hg0 hs0 C0
 go_frame
 go_loopw [3] (fun x wr=>∃(left:Lit→Bool) (cnt s1 s2:Nat),x = .complex .f64 (flB s1) (flB s2)∧Hid (wr.ranges Tryz.prog 3 cxR mb w.heap.size n D left cnt)∧Hid (s1+(totD left D).1=T.1∧s2+(totD left D).2=T.2)∧Hid (Below w.heap.size w wr)) (fun _ wr=>wr.rangeLeft mb w.heap.size)
 case atStart=>exact⟨_,_,0,0,rfl,HR0,by show _∧_;rw[tot_has HD.out,HTD.out];exact⟨Nat.zero_add _,Nat.zero_add _⟩,HB0⟩
 case round =>
  obtain⟨left,cnt,s1,s2,rfl,HR,HS,HB⟩:=hrel
  go_upto_region 7 with(refine wpList_next_ranges _ rfl _ rfl 3 (int_keyed Tryz.underlying3) cxR (Value.int .i64) (fun c:Nat×Nat => .complex .f64 (flB c.1) (flB c.2)) (fun _ _ h=>key_int h) (fun _ _ h=>elem_cx h) mb w.heap.size n D left cnt rfl HR.out (fun hc0 hl0=>?_) (fun x c kl y w1 cnt1 hkey hlk hv hat hrg1 hlt hg1 hs1 hen=>?_))
  ·go_ret
   have e1:totD left D=(0,0):=by unfold totD;rw[sumE_none _ _ _ hl0,sumE_none _ _ _ hl0]
   have hS:=HS.out
   rw[e1]at hS
   obtain⟨q1,q2⟩:=hS
   rw[Nat.add_zero]at q1 q2
   have e2:(.returned (.complex .f64 (flB s1) (flB s2)):Ending) = .returned (.complex .f64 (flB T.1) (flB T.2)):=by rw[q1,q2]
   exact⟨e2,HB.out⟩
  ·obtain⟨a,b,ha,hb,he,hz⟩:=cxR_inv hv
   obtain⟨e1,e2⟩:=cx_bits he
   have hsp:=split_tot hrg1.owns left kl (fun z hz=>by rw[WideAt.sameKey_eq hz];exact hlk)
   rw[hat,hz]at hsp
   simp only[valD_dV]at hsp
   have hS:=HS.out
   rw[hsp]at hS
   obtain⟨q1,q2⟩:=hS
   have hT:=HT.out
   have hadd:=run_complex_sum (P:=Tryz.prog) w1 .add (.inl rfl) 96 .f64 (flB s1) (flB s2) (flB a) (flB b) (flB (s1+a)) (flB (s2+b)) (by unfold cSumBits;rw[fl_add s1 a (by omega),fl_add s2 b (by omega)];rfl)
   rw[e1,e2]at hen ⊢
   have HR1:=Hd hrg1
   have HB1:Hid (Below w.heap.size w w1):=(HB.out.trans (((Keeps.refl (fun q=>q=w.heap.size) wr).grown hg1 (fun j hj => .inl (by injection hj with hj;exact hj.symm))).belowB HB.out.size (fun k hk=>by omega)))
   have HS1:Hid ((s1+a)+(totD (fun z=>left z && !z.sameKey kl) D).1=T.1∧(s2+b)+(totD (fun z=>left z && !z.sameKey kl) D).2=T.2):=⟨by omega,by omega⟩
   have hmeas:Hid (w1.rangeLeft mb w.heap.size<wr.rangeLeft mb w.heap.size):=by show _<_;rw[hrg1.left_eq,HR.out.left_eq];exact hlt
   clear hv hat hrg1 hlt hg1 hs1 he hz hsp q1 q2 hkey hlk e1 e2
   go_wp2_with fail
   go_roundw
   case rel=>exact⟨_,cnt1,s1+a,s2+b,rfl,HR1,HS1,HB1⟩
   case measure=>exact hmeas.out
end Go.Proofs.YtimomjheanfbmaaGreatDoor
namespace Go.Proofs.YtimomjheanfbmaaGreatDoor
open Go.RowKit
theorem add_run (a b c d:Nat) (h1:a+c<2^53) (h2:b+d<2^53) (ty:TypeId) (w:World):(binOp .add ty (.complex .f64 (flB a) (flB b)) (.complex .f64 (flB c) (flB d))).run Tryz.prog w = .ok (.complex .f64 (flB (a+c)) (flB (b+d))) w :=
 run_complex_sum (P:=Tryz.prog) w .add (.inl rfl) ty .f64 (flB a) (flB b) (flB c) (flB d) (flB (a+c)) (flB (b+d)) (by unfold cSumBits;rw[fl_add a c h1,fl_add b d h2];rfl)
theorem sub_run (a b c d:Nat) (h1:a<2^53) (h2:b<2^53) (h3:c≤a) (h4:d≤b) (ty:TypeId) (w:World):(binOp .sub ty (.complex .f64 (flB a) (flB b)) (.complex .f64 (flB c) (flB d))).run Tryz.prog w = .ok (.complex .f64 (flB (a-c)) (flB (b-d))) w :=
 run_complex_sum (P:=Tryz.prog) w .sub (.inr rfl) ty .f64 (flB a) (flB b) (flB c) (flB d) (flB (a-c)) (flB (b-d)) (by unfold cSumBits;rw[fl_sub a c h1 h3,fl_sub b d h2 h4];rfl)
def MostOk (T:Nat×Nat):Prop:=T.1≤1099511627776∧T.2≤1099511627776
def addB (B:Int→Nat×Nat) (k:Int) (a b:Nat):Int→Nat×Nat:=fun i=>if i=k then ((B k).1+a,(B k).2+b) else B i
def subB (B:Int→Nat×Nat) (k:Int) (a b:Nat):Int→Nat×Nat:=fun i=>if i=k then ((B k).1-a,(B k).2-b) else B i
def delB (B:Int→Nat×Nat) (k:Int):Int→Nat×Nat:=fun i=>if i=k then (0,0) else B i
def RngK (k:Int):Prop := -9223372036854775808≤k∧k≤9223372036854775807
set_option maxRecDepth 100000 in
theorem lg_new (w:World):Calls Tryz.prog 98 #[] w fun e w'=>∃lb mb,e = .returned (.pointer (some ⟨lb,0,none⟩))∧LgAt w' lb mb 0 (fun _=>(0,0)) (0,0)∧Below w.heap.size w w'∧w.heap.size≤lb∧w.heap.size≤mb:=by
 have hmm := @run_makeMap Tryz.prog
 go_enter Tryz.func98,Tryz.ntmps98
 go_wp2_with fail
 go_ret
 refine⟨(w.alloc (.map #[] 0)).heap.size,w.heap.size,by simp,⟨hN rfl,(BkAt.made w).keep (S:=fun _=>False) ((Keeps.refl _ _).alloc _) (fun h=>h),by simp⟩,bA (bA bR),by simp,Nat.le_refl _⟩
set_option maxRecDepth 100000 in
set_option maxHeartbeats 400000 in
theorem lg_take {w:World} {lb mb n:Nat} {B:Int→Nat×Nat} {T:Nat×Nat} (h:LgAt w lb mb n B T) (hT:MostOk T) (hn:n<1000000000000) (k:Int) (hk:RngK k) (a b fa fb:Nat) (hc:MostOk (a,b)) (hf:MostOk (fa,fb)) :
  Calls Tryz.prog 53 #[.pointer (some ⟨lb,0,none⟩),.int .i64 k,.complex .f64 (flB a) (flB b),.complex .f64 (flB fa) (flB fb)] w fun e w' =>
   (¬(a+T.1≤fa∧b+T.2≤fb)∧e = .returned (.tuple #[.bool false,.int .i64 0])∧LgAt w' lb mb n B T∧Below w.heap.size w w') ∨
   ((a+T.1≤fa∧b+T.2≤fb)∧e = .returned (.tuple #[.bool true,.int .i64 0])∧LgAt w' lb mb (n+1) (addB B k a b) (T.1+a,T.2+b)∧Keeps (· = mb) w w'):=by
 obtain⟨t1,t2⟩:=hT
 obtain⟨c1,c2⟩:=hc
 obtain⟨f1,f2⟩:=hf
 dsimp only at c1 c2 f1 f2
 have HA1:=Hd (lg_amount a b (by omega) (by omega))
 have HA2:=Hd (lg_amount fa fb (by omega) (by omega))
 rw[show (whN a&&whN b)=true by unfold whN;rw[decide_eq_true c1,decide_eq_true c2];rfl]at HA1
 rw[show (whN fa&&whN fb)=true by unfold whN;rw[decide_eq_true f1,decide_eq_true f2];rfl]at HA2
 have HS:=Hd (lg_sum h ⟨by omega,by omega⟩)
 have HL:=Hd h
 have hadd:=add_run a b T.1 T.2 (by omega) (by omega) 96
 have HF:=Hd (lg_fits (a+T.1) (b+T.2) fa fb (by omega) (by omega) (by omega) (by omega))
 have hle:=h.2.1.le k
 have hsum:=add_run (B k).1 (B k).2 a b (by omega) (by omega) 96
 have hbd:Hid ((B k).1+a<2^53∧(B k).2+b<2^53):=⟨by omega,by omega⟩
 have hle2:=Hd hle
 have hn2:=Hd hn
 have hk2:=Hd hk
 clear h t1 t2 c1 c2 f1 f2 hle hn hk
 by_cases hfit:a+T.1≤fa∧b+T.2≤fb
 ·rw[decide_eq_true hfit.1,decide_eq_true hfit.2]at HF
  replace hfit:=Hd hfit
  go_enter Tryz.func53,Tryz.ntmps53
  go_wp2_with fail
  refine(HA1.out _).mono ?_
  rintro e w1 ⟨rfl,rfl⟩
  go_wp2_with fail
  refine(HA2.out _).mono ?_
  rintro e w1 ⟨rfl,rfl⟩
  go_wp2_with fail
  refine(HS.out).mono ?_
  rintro e w1 ⟨rfl,hb⟩
  have HL1:=Hd (HL.out.later hb)
  have hK1:Hid (Keeps (· = mb) w w1):=Keeps.of_below _ hb
  clear hb HS
  go_wp2_with fail
  refine(HF.out _).mono ?_
  rintro e w2 ⟨rfl,rfl⟩
  have C0:=cell_at HL1.out.1 0
  have hget:=HL1.out.2.1.get k hk2.out
  obtain⟨w2,hup,hm2,hk3⟩:=HL1.out.2.1.put (by unfold maxLen;have:=hn2.out;omega) k hk2.out ((B k).1+a) ((B k).2+b) hbd.out.1 hbd.out.2
  have HM2:=Hd hm2
  have HK2:=Hd hk3
  clear hm2 hk3
  go_wp2_with fail
  go_ret2
  refine .inr ⟨hfit.out,rfl,⟨HK2.out.keep HL1.out.1 HL1.out.2.2,?_,HL1.out.2.2⟩,hK1.out.trans HK2.out (fun k _ h=>h)⟩
  have h2:=HM2.out
  have h3:=hle2.out
  rw[show T.1-(B k).1+((B k).1+a)=T.1+a by omega,show T.2-(B k).2+((B k).2+b)=T.2+b by omega]at h2
  exact h2
 ·have hff:(decide (a+T.1≤fa)&&decide (b+T.2≤fb))=false:=by
   by_cases h1:a+T.1≤fa
   ·by_cases h2:b+T.2≤fb
    · exact absurd ⟨h1,h2⟩ hfit
    · rw[decide_eq_false h2];simp
   · rw[decide_eq_false h1];rfl
  rw[hff]at HF
  replace hfit:=Hd hfit
  clear hff
  go_enter Tryz.func53,Tryz.ntmps53
  go_wp2_with fail
  refine(HA1.out _).mono ?_
  rintro e w1 ⟨rfl,rfl⟩
  go_wp2_with fail
  refine(HA2.out _).mono ?_
  rintro e w1 ⟨rfl,rfl⟩
  go_wp2_with fail
  refine(HS.out).mono ?_
  rintro e w1 ⟨rfl,hb⟩
  have HL1:=Hd (HL.out.later hb)
  have hK1:=Hd hb
  clear hb HS
  go_wp2_with fail
  refine(HF.out _).mono ?_
  rintro e w2 ⟨rfl,rfl⟩
  go_wp2_with fail
  go_ret2
  exact .inl ⟨hfit.out,rfl,HL1.out,hK1.out⟩
set_option maxRecDepth 100000 in
theorem lg_own {w:World} {lb mb n:Nat} {B:Int→Nat×Nat} {T:Nat×Nat} (h:LgAt w lb mb n B T) (k:Int) (hk:RngK k) :
  Calls Tryz.prog 103 #[.pointer (some ⟨lb,0,none⟩),.int .i64 k] w fun e w'=>e = .returned (.complex .f64 (flB (B k).1) (flB (B k).2))∧w=w':=by
 have C0:=cell_at h.1 0
 have hget:=h.2.1.get k hk
 clear h
 go_enter Tryz.func103,Tryz.ntmps103
 go_wp2_with fail
 go_ret
 exact⟨rfl,rfl⟩
set_option maxRecDepth 100000 in
theorem lg_drop {w:World} {lb mb n:Nat} {B:Int→Nat×Nat} {T:Nat×Nat} (h:LgAt w lb mb n B T) (k:Int) (hk:RngK k) :
  Calls Tryz.prog 87 #[.pointer (some ⟨lb,0,none⟩),.int .i64 k] w fun e w'=>e = .returned (.tuple #[])∧LgAt w' lb mb n (delB B k) (T.1-(B k).1,T.2-(B k).2)∧Keeps (· = mb) w w':=by
 have C0:=cell_at h.1 0
 obtain⟨w2,hup,hm2,hk2⟩:=h.2.1.del k hk 0
 have HL:=Hd h
 have HM2:=Hd hm2
 have HK2:=Hd hk2
 clear h hm2 hk2
 go_enter Tryz.func87,Tryz.ntmps87
 go_wp2_with fail
 exact bodyPost_end (results_none Tryz.results87 _ _ _) rfl ⟨rfl,⟨HK2.out.keep HL.out.1 HL.out.2.2,HM2.out,HL.out.2.2⟩,HK2.out⟩
set_option maxRecDepth 100000 in
set_option maxHeartbeats 400000 in
theorem lg_give {w:World} {lb mb n:Nat} {B:Int→Nat×Nat} {T:Nat×Nat} (h:LgAt w lb mb n B T) (hT:MostOk T) (hn:n<1000000000000) (k:Int) (hk:RngK k) (a b:Nat) (hc:a≤(B k).1∧b≤(B k).2) :
  Calls Tryz.prog 56 #[.pointer (some ⟨lb,0,none⟩),.int .i64 k,.complex .f64 (flB a) (flB b)] w fun e w' =>
   e = .returned (.int .i64 0)∧LgAt w' lb mb (n+1) (subB B k a b) (T.1-a,T.2-b)∧Keeps (· = mb) w w':=by
 obtain⟨t1,t2⟩:=hT
 obtain⟨c1,c2⟩:=hc
 have hle:=h.2.1.le k
 have HA1:=Hd (lg_amount a b (by omega) (by omega))
 rw[show (whN a&&whN b)=true by unfold whN;rw[decide_eq_true (by omega),decide_eq_true (by omega)];rfl]at HA1
 have HO:=Hd (lg_own h k hk)
 have HL:=Hd h
 have HF:=Hd (lg_fits a b (B k).1 (B k).2 (by omega) (by omega) (by omega) (by omega))
 rw[decide_eq_true c1,decide_eq_true c2]at HF
 have hsub:=sub_run (B k).1 (B k).2 a b (by omega) (by omega) c1 c2 96
 have C0:=cell_at h.1 0
 have hget:=h.2.1.get k hk
 obtain⟨w2,hup,hm2,hk2⟩:=h.2.1.put (by unfold maxLen;omega) k hk ((B k).1-a) ((B k).2-b) (by omega) (by omega)
 have C2:=cell_at (hk2.keep h.1 h.2.2) 0
 have hget2:=hm2.get k hk
 rw[if_pos rfl]at hget2
 have hz1:=ord_eq ((B k).1-a) 0 (by omega) (by decide)
 have hz2:=ord_eq ((B k).2-b) 0 (by omega) (by decide)
 rw[show flB 0=0 from rfl]at hz1 hz2
 have hTT:Hid (T.1-(B k).1+((B k).1-a)=T.1-a∧T.2-(B k).2+((B k).2-b)=T.2-b):=⟨by omega,by omega⟩
 have hSB:Hid ((fun i=>if i=k then ((B k).1-a,(B k).2-b) else B i)=subB B k a b):=rfl
 by_cases hzero:(B k).1-a=0∧(B k).2-b=0
 ·rw[decide_eq_true hzero.1]at hz1
  rw[decide_eq_true hzero.2]at hz2
  obtain⟨w3,hdel,hm3,hk3⟩:=hm2.del k hk 0
  have HK3:Hid (Keeps (· = mb) w w3):=hk2.trans hk3 (fun k _ h=>h)
  have HM3:Hid (BkAt w3 mb (n+1) (subB B k a b) (T.1-a,T.2-b)):=by
   have e1:((fun i=>if i=k then (0,0) else (fun i=>if i=k then ((B k).1-a,(B k).2-b) else B i) i):Int→Nat×Nat)=subB B k a b:=by
    funext i
    unfold subB
    by_cases hi:i=k
    · simp only[if_pos hi];rw[hzero.1,hzero.2]
    · simp only[if_neg hi]
   rw[e1]at hm3
   simp only[if_pos rfl]at hm3
   have h3:=hTT.out
   rw[h3.1,h3.2,hzero.1,hzero.2]at hm3
   exact hm3
  clear h hm2 hk2 hm3 hk3 hzero t1 t2 c1 c2 hle hn hk
  go_enter Tryz.func56,Tryz.ntmps56
  go_wp2_with fail
  refine(HA1.out _).mono ?_
  rintro e w1 ⟨rfl,rfl⟩
  go_wp2_with fail
  refine(HO.out).mono ?_
  rintro e w1 ⟨rfl,rfl⟩
  go_wp2_with fail
  refine(HF.out _).mono ?_
  rintro e w1 ⟨rfl,rfl⟩
  go_wp2_with fail
  go_ret
  exact⟨rfl,⟨HK3.out.keep HL.out.1 HL.out.2.2,HM3.out,HL.out.2.2⟩,HK3.out⟩
 ·have HK2:=Hd hk2
  have HM2:Hid (BkAt w2 mb (n+1) (subB B k a b) (T.1-a,T.2-b)):=by
   have h3:=hTT.out
   rw[h3.1,h3.2]at hm2
   exact hm2
  obtain⟨x1,hx1⟩:∃x,decide ((B k).1-a=0)=x:=⟨_,rfl⟩
  obtain⟨x2,hx2⟩:∃x,decide ((B k).2-b=0)=x:=⟨_,rfl⟩
  have hxx:(x1&&x2)=false:=by
   rw[←hx1,←hx2]
   by_cases h1:(B k).1-a=0
   ·by_cases h2:(B k).2-b=0
    · exact absurd ⟨h1,h2⟩ hzero
    · rw[decide_eq_false h2];simp
   · rw[decide_eq_false h1];rfl
  rw[hx1]at hz1
  rw[hx2]at hz2
  clear h hm2 hk2 hzero t1 t2 c1 c2 hle hn hk hx1 hx2
  cases x1 <;> cases x2 <;> first
   | (simp at hxx;done)
   | (
     clear hxx
     go_enter Tryz.func56,Tryz.ntmps56
     go_wp2_with fail
     refine(HA1.out _).mono ?_
     rintro e w1 ⟨rfl,rfl⟩
     go_wp2_with fail
     refine(HO.out).mono ?_
     rintro e w1 ⟨rfl,rfl⟩
     go_wp2_with fail
     refine(HF.out _).mono ?_
     rintro e w1 ⟨rfl,rfl⟩
     go_wp2_with fail
     go_ret
     exact⟨rfl,⟨HK2.out.keep HL.out.1 HL.out.2.2,HM2.out,HL.out.2.2⟩,HK2.out⟩)
end Go.Proofs.YtimomjheanfbmaaGreatDoor
