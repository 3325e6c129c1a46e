import Derived.Deep.RegionHeld
import Derived.WalkKit
import Derived.Lib.Hide
import Derived.ProofKit
import Derived.OpenShut
import Derived.ShutString
import Derived.ChangeOld
import Derived.Below
import Derived.JoinedCond
import Derived.WalkSpells
import Derived.WalkLawsBesides
set_option linter.unusedSimpArgs false
set_option linter.unusedVariables false
namespace Go.Proofs.YtimomjheanfbmaaGreatDoor
theorem Hd {p : Prop} (h : p) : Go.RowKit.Hid p := h

section
variable {P : Program} {md : Region.Mode} {ops : Array Oper} {Q : Exit → Act → World → Prop} {S : World → Prop} {d : Option Tmp} {p : Op} {t : TypeId} {po : String} {af : Array Edge} {gd : Option (Nat × Bool)} {v : Value} {fuel : Nat} {listed : Array Bool} {a : Act} {w : World} (i : Nat)
include i

theorem tk (hi : ops[i]? = some ⟨d, p, t, po, af, gd⟩)
    (hy : YieldsIf P ops S ⟨d, p, t, po, af, gd⟩ v a) (hS : S w) (h : wpAnyH P md ops Q S fuel (listed.setIfInBounds i true) (a.put d v) w)
    (hs : Region.noSelect ops = true := by kernel_rfl) (hf : Region.free md ops listed i = true := by kernel_rfl) (hr : (Region.ready md ops listed).contains i = true := by kernel_rfl)
    (hQ : ∀ c a w, Q (.panic c) (a.put d v) w → Q (.panic c) a w := by exact fun _ _ _ h => h) : wpAnyH P md ops Q S (fuel + 1) listed a w := wpAnyH_take hi hs hf hr hQ hy hS h

theorem tp (hS : S w) (h : wpAnyH P md ops Q S fuel (listed.setIfInBounds i true) (a.put d v) w) (hi : ops[i]? = some ⟨d, p, t, po, af, gd⟩ := by rfl)
    (hw : Region.wanted ⟨d, p, t, po, af, gd⟩ (yielded ops a.tmps) = true := by rfl) (hx : ∀ w, S w → (execOp a.eval ⟨d, p, t, po, af, gd⟩).run P w = .ok (.value v) w := by intro w' hSw; go_simp; (try with_reducible rfl); (try omega))
    (hs : Region.noSelect ops = true := by kernel_rfl) (hf : Region.free md ops listed i = true := by kernel_rfl) (hr : (Region.ready md ops listed).contains i = true := by kernel_rfl)
    (hQ : ∀ c a w, Q (.panic c) (a.put d v) w → Q (.panic c) a w := by exact fun _ _ _ h => h) : wpAnyH P md ops Q S (fuel + 1) listed a w := wpAnyH_take hi hs hf hr hQ (.inl ⟨hw, hx⟩) hS h

theorem tc (hS : S w) (h : wpAnyH P md ops Q S fuel (listed.setIfInBounds i true) (a.put d v) w) (hi : ops[i]? = some ⟨d, p, t, po, af, gd⟩ := by rfl)
    (hw : Region.wanted ⟨d, p, t, po, af, gd⟩ (yielded ops a.tmps) = true := by rfl) (hx : ∀ w, S w → (execOp a.eval ⟨d, p, t, po, af, gd⟩).run P w = .ok (.value v) w := by intro w' hSw; clear hSw; go_simp; (try with_reducible rfl); (try omega))
    (hs : Region.noSelect ops = true := by kernel_rfl) (hf : Region.free md ops listed i = true := by kernel_rfl) (hr : (Region.ready md ops listed).contains i = true := by kernel_rfl)
    (hQ : ∀ c a w, Q (.panic c) (a.put d v) w → Q (.panic c) a w := by exact fun _ _ _ h => h) : wpAnyH P md ops Q S (fuel + 1) listed a w := wpAnyH_take hi hs hf hr hQ (.inl ⟨hw, hx⟩) hS h

theorem tx2 (hS : S w) (h : wpAnyH P md ops Q S fuel (listed.setIfInBounds i true) (a.put d v) w) (hi : ops[i]? = some ⟨d, p, t, po, af, gd⟩ := by rfl)
    (hw : Region.wanted ⟨d, p, t, po, af, gd⟩ (yielded ops a.tmps) = true := by rfl) (hx : ∀ w, S w → (execOp a.eval ⟨d, p, t, po, af, gd⟩).run P w = .ok (.value v) w := by intro w' hSw; obtain ⟨s1, s2⟩ := hSw; go_simp; (try with_reducible rfl); (try omega))
    (hs : Region.noSelect ops = true := by kernel_rfl) (hf : Region.free md ops listed i = true := by kernel_rfl) (hr : (Region.ready md ops listed).contains i = true := by kernel_rfl)
    (hQ : ∀ c a w, Q (.panic c) (a.put d v) w → Q (.panic c) a w := by exact fun _ _ _ h => h) : wpAnyH P md ops Q S (fuel + 1) listed a w := wpAnyH_take hi hs hf hr hQ (.inl ⟨hw, hx⟩) hS h

theorem tx3 (hS : S w) (h : wpAnyH P md ops Q S fuel (listed.setIfInBounds i true) (a.put d v) w) (hi : ops[i]? = some ⟨d, p, t, po, af, gd⟩ := by rfl)
    (hw : Region.wanted ⟨d, p, t, po, af, gd⟩ (yielded ops a.tmps) = true := by rfl) (hx : ∀ w, S w → (execOp a.eval ⟨d, p, t, po, af, gd⟩).run P w = .ok (.value v) w := by intro w' hSw; obtain ⟨s1, s2, s3⟩ := hSw; go_simp; (try with_reducible rfl); (try omega))
    (hs : Region.noSelect ops = true := by kernel_rfl) (hf : Region.free md ops listed i = true := by kernel_rfl) (hr : (Region.ready md ops listed).contains i = true := by kernel_rfl)
    (hQ : ∀ c a w, Q (.panic c) (a.put d v) w → Q (.panic c) a w := by exact fun _ _ _ h => h) : wpAnyH P md ops Q S (fuel + 1) listed a w := wpAnyH_take hi hs hf hr hQ (.inl ⟨hw, hx⟩) hS h

theorem tx4 (hS : S w) (h : wpAnyH P md ops Q S fuel (listed.setIfInBounds i true) (a.put d v) w) (hi : ops[i]? = some ⟨d, p, t, po, af, gd⟩ := by rfl)
    (hw : Region.wanted ⟨d, p, t, po, af, gd⟩ (yielded ops a.tmps) = true := by rfl) (hx : ∀ w, S w → (execOp a.eval ⟨d, p, t, po, af, gd⟩).run P w = .ok (.value v) w := by intro w' hSw; obtain ⟨s1, s2, s3, s4⟩ := hSw; go_simp; (try with_reducible rfl); (try omega))
    (hs : Region.noSelect ops = true := by kernel_rfl) (hf : Region.free md ops listed i = true := by kernel_rfl) (hr : (Region.ready md ops listed).contains i = true := by kernel_rfl)
    (hQ : ∀ c a w, Q (.panic c) (a.put d v) w → Q (.panic c) a w := by exact fun _ _ _ h => h) : wpAnyH P md ops Q S (fuel + 1) listed a w := wpAnyH_take hi hs hf hr hQ (.inl ⟨hw, hx⟩) hS h

theorem tx5 (hS : S w) (h : wpAnyH P md ops Q S fuel (listed.setIfInBounds i true) (a.put d v) w) (hi : ops[i]? = some ⟨d, p, t, po, af, gd⟩ := by rfl)
    (hw : Region.wanted ⟨d, p, t, po, af, gd⟩ (yielded ops a.tmps) = true := by rfl) (hx : ∀ w, S w → (execOp a.eval ⟨d, p, t, po, af, gd⟩).run P w = .ok (.value v) w := by intro w' hSw; obtain ⟨s1, s2, s3, s4, -⟩ := hSw; go_simp; (try with_reducible rfl); (try omega))
    (hs : Region.noSelect ops = true := by kernel_rfl) (hf : Region.free md ops listed i = true := by kernel_rfl) (hr : (Region.ready md ops listed).contains i = true := by kernel_rfl)
    (hQ : ∀ c a w, Q (.panic c) (a.put d v) w → Q (.panic c) a w := by exact fun _ _ _ h => h) : wpAnyH P md ops Q S (fuel + 1) listed a w := wpAnyH_take hi hs hf hr hQ (.inl ⟨hw, hx⟩) hS h

theorem rd (h : ∀ K' : Act → World → Prop, Shut (∀ a w, S w → (S w → wpAnyH P md ops Q S fuel (listed.setIfInBounds i true) a w) → K' a w) → if Region.wanted ⟨d, p, t, po, af, gd⟩ (yielded ops a.tmps) = true then Oper.wp P ⟨d, p, t, po, af, gd⟩ a w K' Q else K' (a.put d undef) w)
    (hi : ops[i]? = some ⟨d, p, t, po, af, gd⟩ := by rfl) (hr : Region.ready md ops listed = [i] := by kernel_rfl) : wpAnyH P md ops Q S (fuel + 1) listed a w :=
  wpAnyH_ready hr (by simp) (AllReadyH.cons hi h AllReadyH.nil)

theorem rd2 (j : Nat) {d' : Option Tmp} {p' : Op} {t' : TypeId} {po' : String} {af' : Array Edge} {gd' : Option (Nat × Bool)}
    (h : ∀ K' : Act → World → Prop, Shut (∀ a w, S w → (S w → wpAnyH P md ops Q S fuel (listed.setIfInBounds i true) a w) → K' a w) → if Region.wanted ⟨d, p, t, po, af, gd⟩ (yielded ops a.tmps) = true then Oper.wp P ⟨d, p, t, po, af, gd⟩ a w K' Q else K' (a.put d undef) w)
    (h' : ∀ K' : Act → World → Prop, Shut (∀ a w, S w → (S w → wpAnyH P md ops Q S fuel (listed.setIfInBounds j true) a w) → K' a w) → if Region.wanted ⟨d', p', t', po', af', gd'⟩ (yielded ops a.tmps) = true then Oper.wp P ⟨d', p', t', po', af', gd'⟩ a w K' Q else K' (a.put d' undef) w)
    (hi : ops[i]? = some ⟨d, p, t, po, af, gd⟩ := by rfl) (hj : ops[j]? = some ⟨d', p', t', po', af', gd'⟩ := by rfl) (hr : Region.ready md ops listed = [i, j] := by kernel_rfl) : wpAnyH P md ops Q S (fuel + 1) listed a w :=
  wpAnyH_ready hr (by simp) (AllReadyH.cons hi h (AllReadyH.cons hj h' AllReadyH.nil))
end
end Go.Proofs.YtimomjheanfbmaaGreatDoor
namespace Go.Proofs.YtimomjheanfbmaaGreatDoor
open Go.ChangeShapes Go.WideShapes Go.ChangeAt Go.RowKit
open Go.ChangeMaps (open_string shut_string)
theorem trodAll_stays {H:Type} {enc:TypeId×Value→H} {P:Program} (hl:laidOutB P=true) {W W':World} (hb:Below W.heap.size W W') :
  ∀(ts:List TypeId) (hts:∀t∈ts,P.readableRec t=true∧t<P.types.size) {vs:List Value} {ds:List (DataW H)} {ps:List MemPlace}
   (h:DataW.TrodAll enc P W 0 (fun _=>true) true ts vs ds ps) (hlt:∀x∈ps,x.block<W.heap.size) (sp:Nat→Bool) (hs:∀p∈ps,sp p.block=true),DataW.TrodAll enc P W' 0 sp true ts vs ds ps
 | [],_,vs,ds,ps,h,_,_,_=>by
  obtain⟨rfl,rfl,rfl⟩:=trodAll_nil h
  exact trodAll_mk0
 | t::ts,hts,vs,ds,ps,h,hlt,sp,hs=>by
  obtain⟨v,vs',d,ds',p,q,rfl,rfl,rfl,h0,r⟩:=trodAll_cons h
  refine trodAll_cons_mk ?_ (trodAll_stays hl hb ts (fun t ht=>hts t (List.mem_cons_of_mem _ ht)) r (fun x hx=>hlt x (List.mem_append.2 (.inr hx))) sp (fun x hx=>hs x (List.mem_append.2 (.inr hx))))
  obtain⟨hr,hrow⟩:=hts t (List.mem_cons_self ..)
  exact WideElems.Trod_stays hl hr hrow h0 (fun x hx=>hb.same (hlt x (List.mem_append.2 (.inl hx)))) (fun x hx=>hs x (List.mem_append.2 (.inl hx)))
theorem law_post {H:Type} {enc:TypeId×Value→H} {P:Program} (hl:laidOutB P=true) (f:Func) (s:ChangeSpec) (hts:∀t∈f.params.toList,P.readableRec t=true∧t<P.types.size)
  (B:TypeId) (hB:P.underlying B=some .bool) (hft:f.resultTypes = #[B]) (hvars:s.vars=[]) {W W':World} {args:Array Value} {ds gs:List (DataW H)} {before:List MemPlace}
  (hW:DataW.Whole enc P f.params.toList s.vars false W args.toList ds gs before) (hb:Below W.heap.size W W') (h1:(s.fn H (ds++gs)).results=[.lit (.bool true)]) (h2:(s.fn H (ds++gs)).args=ds) (h3:(s.fn H (ds++gs)).vars=[]) :
  s.post enc P f false true false false W args (.bool true) W':=by
 have hW':=hW
 obtain⟨p,q,hA,hV,rfl,hfz,hnd⟩:=hW
 rw[hvars]at hV
 obtain⟨rfl,rfl⟩:=trodVars_none hV
 have hlt:∀x∈p,x.block<W.heap.size:=fun x hx=>hW'.lt x (List.mem_append.2 (.inl hx))
 refine⟨ds,[],p++[],[],p,[],hW',?_,?_,?_,hb.frame _,fun h=>by cases h⟩
 ·rw[h1,hft]
  exact trodAll_cons_mk (shut_bool hB _) trodAll_mk0
 ·rw[h2]
  refine trodAll_stays hl hb _ hts hA hlt _ ?_
  intro x hx
  exact decide_eq_true (hlt x hx)
 ·rw[h3,hvars]
  rfl
end Go.Proofs.YtimomjheanfbmaaGreatDoor
namespace Go.Proofs.YtimomjheanfbmaaGreatDoor
open Go.RowKit
def le (n:Int) (k:Nat):List Int:=(List.range k).map fun i=>n/2^(8*i)%256
def leS (n:Int) (k:Nat):ByteArray:=strOfNums (le n k)
theorem le_length (n:Int) (k:Nat):(le n k).length=k:=by simp[le]
theorem leS_size (n:Int) (k:Nat):(leS n k).size=k:=by simp[leS,strOfNums_size,le_length]
theorem le_succ (n:Int) (k:Nat):le n (k+1)=le n k++[n/2^(8*k)%256]:=by simp[le,List.range_succ]
def leRow (n:Int) (k j:Nat):List Value:=(le n j++List.replicate (k-j) 0).map (Value.int .u8)
theorem leRow_zero (n:Int) (k:Nat):leRow n k 0=List.replicate k (.int .u8 0):=by simp[leRow,le]
theorem leRow_full (n:Int) (k:Nat):leRow n k k=(le n k).map (Value.int .u8):=by simp[leRow]
theorem leRow_at (n:Int) (k j:Nat) (h:j<k):(leRow n k j)[j]? = some (.int .u8 0):=by
 have:¬k-j=0:=by omega
 simp[leRow,List.getElem?_append,le_length,List.getElem?_replicate,this]
theorem leRow_set (n:Int) (k j:Nat) (h:j<k):(leRow n k j).set j (.int .u8 (n/2^(8*j)%256))=leRow n k (j+1):=by
 obtain⟨d,rfl⟩:∃d,k=j+1+d:=⟨k-(j+1),by omega⟩
 have e1:j+1+d-j=d+1:=by omega
 have e2:j+1+d-(j+1)=d:=by omega
 simp[leRow,e1,e2,le_succ,List.replicate_succ,le_length]
def valL:List UInt8→Int
 | []=>0
 | b::r=>(b.toNat:Int)+256*valL r
def valS (s:ByteArray):Int:=valL s.data.toList
theorem valL_nonneg:∀l,0≤valL l
 | []=>by simp[valL]
 | b::r=>by have:=valL_nonneg r;simp only[valL];omega
theorem valL_lt:∀l,valL l<256^l.length
 | []=>by simp[valL]
 | b::r=>by
  have:=valL_lt r
  have hb:=b.toNat_lt
  simp only[valL,List.length_cons,Int.pow_succ]
  omega
theorem valL_append:∀l m,valL (l++m)=valL l+256^l.length*valL m
 | [],m=>by simp[valL]
 | b::r,m=>by
  simp only[List.cons_append,valL,valL_append r m,List.length_cons,Int.pow_succ,Int.mul_add]
  rw[Int.mul_comm (256^r.length) 256,Int.mul_assoc,Int.add_assoc]
theorem valL_snoc (l:List UInt8) (b:UInt8):valL (l++[b])=valL l+256^l.length*b.toNat:=by
 rw[valL_append];simp[valL]
theorem two_pow_8 (k:Nat):(2:Int)^(8*k)=256^k:=by rw[Int.pow_mul];rfl
theorem two_pow_8n (k:Nat):2^(8*k)=256^k:=by rw[Nat.pow_mul]
theorem pow_256_le {k:Nat} (h:k<8):256^k≤72057594037927936:=by
 have:256^k≤256^7:=Nat.pow_le_pow_right (by omega) (by omega)
 omega
theorem int_pow_256 (k:Nat):(256:Int)^k=((256^k:Nat):Int):=(Int.natCast_pow 256 k).symm
theorem bits_or_step (A:Int) (b k:Nat) (hk:k<8) (hA:0≤A) (hA':A<256^k) (hb:b<256) :
  bits .or .u64 A (IntKind.u64.wrap ((b:Int)*2^(8*k)))=A+256^k*b:=by
 obtain⟨a,rfl⟩:=Int.eq_ofNat_of_zero_le hA
 have hp:=pow_256_le hk
 rw[int_pow_256]at hA'
 have ha:a<256^k:=by omega
 have hm:b*256^k≤255*256^k:=Nat.mul_le_mul_right _ (by omega)
 have e1:IntKind.u64.wrap ((b:Int)*2^(8*k))=((b*256^k:Nat):Int):=by
  rw[two_pow_8,int_pow_256,←Int.natCast_mul,IntKind.wrap_u64]
  omega
 rw[e1,bits_or_u64_nat _ _ (by omega) (by omega),Nat.or_comm,Nat.mul_comm,←two_pow_8n,←Nat.two_pow_add_eq_or_of_lt (by rw[two_pow_8n];exact ha),two_pow_8n,int_pow_256,←Int.natCast_mul]
 omega
theorem take_succ_bytes (s:ByteArray) (k:Nat) (h:k<s.size):s.data.toList.take (k+1)=s.data.toList.take k++[s[k]]:=by
 rw[List.take_succ_eq_append_getElem (by simpa using h)];rfl
theorem valL_take_succ (s:ByteArray) (k:Nat) (h:k<s.size):valL (s.data.toList.take (k+1))=valL (s.data.toList.take k)+256^k*s[k].toNat:=by
 rw[take_succ_bytes s k h,valL_snoc,List.length_take,Array.length_toList,Nat.min_eq_left (show k≤s.data.size from Nat.le_of_lt h)]
theorem valL_take_lt (s:ByteArray) (k:Nat) (h:k≤s.size):valL (s.data.toList.take k)<256^k:=by
 have:=valL_lt (s.data.toList.take k)
 rwa[List.length_take,Array.length_toList,Nat.min_eq_left (show k≤s.data.size from h)]at this
theorem wrap_u64_byte (b:UInt8):IntKind.u64.wrap (b.toNat:Int)=b.toNat:=by
 have:=b.toNat_lt
 rw[IntKind.wrap_u64];omega
theorem wrap_u64_in (x:Int) (h0:0≤x) (h:x<18446744073709551616):IntKind.u64.wrap x=x:=by
 rw[IntKind.wrap_u64];omega
def textS (s:ByteArray):ByteArray:=strOfNums [(s.size:Int)]++s
theorem strOfNums_one (x:Int):(strOfNums [x]).size=1:=strOfNums_size _
theorem convert_owned {P:Program} (w:World) (src e:TypeId) (hs:P.underlying src=some (.slice e)) (he:P.underlying e=some (.int .u8)) (base:Nat) (v:Value) (n:Nat) (xs:List Int)
  (h:w.ownsRow base e 1 v n (xs.map (Value.int .u8))):∀dst,P.underlying dst=some .string→(convert src dst v).run P w = .ok (.string (strOfNums xs)) w:=by
 intro dst hd
 have hl:xs.length=n:=by simpa using h.1
 rcases h.2 with⟨rfl,rfl⟩ | ⟨g,cap,cur,rfl,_⟩
 ·obtain rfl:xs=[]:=List.eq_nil_of_length_eq_zero hl
  exact run_convert_bytes_nil w src e hs he 0 0 dst hd
 · exact run_convert_bytes_arg (P:=P) w src e hs he g 0 n cap xs hl (fun i hi=>by
   rw[Nat.zero_add,h.cellAt i (by omega)];simp[List.getD,hl,hi]) dst hd
theorem shift_div (n:Int) (j:Nat):n/2^(8*j)/256=n/2^(8*(j+1)):=by
 rw[Nat.mul_add,Int.pow_add,Int.ediv_ediv_of_nonneg (Int.le_of_lt (Int.pow_pos (by omega)))];rfl
theorem shift_nonneg (n:Int) (k:Nat) (h0:0≤n):0≤n/2^k:=Int.ediv_nonneg h0 (Int.le_of_lt (Int.pow_pos (by omega)))
theorem shift_le (n:Int) (k:Nat) (h0:0≤n):n/2^k≤n:=Int.ediv_le_self _ h0
theorem tdiv_step (n:Int) (j:Nat) (h0:0≤n) (h:n<18446744073709551616) :
  IntKind.u64.wrap ((n/2^(8*j)).tdiv 256)=n/2^(8*(j+1)):=by
 have h1:=shift_nonneg n (8*j) h0
 have h2:=shift_le n (8*j) h0
 rw[Int.tdiv_eq_ediv_of_nonneg h1,shift_div]
 exact wrap_u64_in _ (shift_nonneg _ _ h0) (by have:=shift_le n (8*(j+1)) h0;omega)
structure Keeps (S:Nat→Prop) (w w':World):Prop where
 os:w'.os=w.os
 tape:w'.tape=w.tape
 output:w'.output=w.output
 size:w.heap.size≤w'.heap.size
 block:∀k,k<w.heap.size→¬S k→w'.heap[k]? = w.heap[k]?
theorem Keeps.refl (S:Nat→Prop) (w:World):Keeps S w w:=⟨rfl,rfl,rfl,Nat.le_refl _,fun _ _ _=>rfl⟩
theorem Keeps.trans {S T:Nat→Prop} {a b c:World} (h:Keeps S a b) (k:Keeps T b c) (hST:∀i,i<a.heap.size→T i→S i):Keeps S a c :=
 ⟨k.os.trans h.os,k.tape.trans h.tape,k.output.trans h.output,Nat.le_trans h.size k.size,
  fun i hi hs=>(k.block i (Nat.lt_of_lt_of_le hi h.size) (fun ht=>hs (hST i hi ht))).trans (h.block i hi hs)⟩
theorem Keeps.mono {S T:Nat→Prop} {a b:World} (h:Keeps S a b) (hST:∀i,i<a.heap.size→S i→T i):Keeps T a b :=
 ⟨h.os,h.tape,h.output,h.size,fun i hi ht=>h.block i hi (fun hs=>ht (hST i hi hs))⟩
theorem Keeps.of_below {w w':World} (S:Nat→Prop) (h:Below w.heap.size w w'):Keeps S w w' :=
 ⟨h.os,h.tape,h.output,h.size,fun k hk _=>h.block k hk⟩
theorem Keeps.below {w w':World} (h:Keeps (fun _=>False) w w'):Below w.heap.size w w' :=
 ⟨h.os,h.tape,h.output,h.size,fun k hk=>h.block k hk (fun f=>f)⟩
theorem Keeps.belowB {B:Nat} {S:Nat→Prop} {w w':World} (h:Keeps S w w') (hB:B≤w.heap.size) (hS:∀k,S k→B≤k):Below B w w' :=
 ⟨h.os,h.tape,h.output,h.size,fun k hk=>h.block k (Nat.lt_of_lt_of_le hk hB) (fun hs=>by have:=hS k hs;omega)⟩
theorem Keeps.drew {S:Nat→Prop} {a w:World} (h:Keeps S a w):Keeps S a w.drew:=⟨h.os,h.tape,h.output,h.size,h.block⟩
theorem Keeps.alloc {S:Nat→Prop} {a w:World} (h:Keeps S a w) (o:Obj):Keeps S a (w.alloc o) :=
 ⟨h.os,h.tape,h.output,Nat.le_trans h.size (by simp),fun k hk hs=>(Below.heap_alloc w o k (Nat.lt_of_lt_of_le hk h.size)).trans (h.block k hk hs)⟩
theorem Keeps.setCell {S:Nat→Prop} {a w:World} (h:Keeps S a w) (p:Addr) (u:Value) (hp:S p.block∨a.heap.size≤p.block):Keeps S a (w.setCell p u) :=
 ⟨h.os,h.tape,h.output,by simpa[World.setCell]using h.size,fun k hk hs=>by
  rw[Below.heap_setCell _ _ _ _ (fun e=>by subst e;rcases hp with hp | hp;exact hs hp;omega)]
  exact h.block k hk hs⟩
theorem Keeps.grown {S:Nat→Prop} {a w w':World} {row:Option Nat} (h:Keeps S a w) (hg:w.grownBy w' row) (hr:∀k,row=some k→S k∨a.heap.size≤k):Keeps S a w' :=
 ⟨hg.os.trans h.os,hg.tape.trans h.tape,hg.output.trans h.output,Nat.le_trans h.size hg.size,fun k hk hs=>by
  rw[hg.block k (Nat.lt_of_lt_of_le hk h.size) (fun e=>by rcases hr k e.symm with h' | h';exact hs h';omega)]
  exact h.block k hk hs⟩
theorem cell_at {w:World} {b:Nat} {C:Array Value} {T:TypeId} {f:Nat×Nat} (h:w.heap[b]? = some (.cells C T f)) (j:Nat):w.cell? ⟨b,j,none⟩=C[j]? := by
 simp[World.cell?,h]
theorem free_at {w:World} {b:Nat} {C:Array Value} {T:TypeId} (h:w.heap[b]? = some (.cells C T (0,0))) (j:Nat):w.frozen? ⟨b,j,none⟩=false:=by
 simp[World.frozen?,h]
theorem block_lt {w:World} {b:Nat} {o:Obj} (h:w.heap[b]? = some o):b<w.heap.size:=(Array.getElem?_eq_some_iff.1 h).1
theorem Keeps.keep {S:Nat→Prop} {w w':World} (h:Keeps S w w') {b:Nat} {o:Obj} (hb:w.heap[b]? = some o) (hs:¬S b):w'.heap[b]? = some o :=
 (h.block b (block_lt hb) hs).trans hb
theorem heap_set {w:World} {b:Nat} {C:Array Value} {T:TypeId} {f:Nat×Nat} (h:w.heap[b]? = some (.cells C T f)) (j:Nat) (u:Value) :
  (w.setCell ⟨b,j,none⟩ u).heap[b]? = some (.cells (C.setIfInBounds j u) T f):=by
 simp[World.setCell,Array.getElem?_modify,h]
theorem bR {w:World}:Below w.heap.size w w:=Below.refl _ _
theorem bA {a w:World} {o:Obj} (h:Below a.heap.size a w):Below a.heap.size a (w.alloc o):=h.alloc h.size o
theorem bD {B:Nat} {a w:World} (h:Below B a w):Below B a w.drew:=h.drew
theorem bT {a b c:World} (h:Below a.heap.size a b) (k:Below b.heap.size b c):Below a.heap.size a c:=h.trans (k.mono h.size)
theorem hN {w:World} {o:Obj} {n:Nat} (h:n=w.heap.size):(w.alloc o).heap[n]? = some o:=by subst h;exact heap_alloc_new w o
theorem hO {w:World} {o x:Obj} {k:Nat} (h:w.heap[k]? = some x):(w.alloc o).heap[k]? = some x:=(Below.heap_alloc w o k (block_lt h)).trans h
theorem hB {B:Nat} {w w1:World} {x:Obj} {k:Nat} (hb:Below B w w1) (hk:k<B) (h:w.heap[k]? = some x):w1.heap[k]? = some x:=(hb.block k hk).trans h
theorem hBs {w w1:World} {x:Obj} {k:Nat} (hb:Below w.heap.size w w1) (h:w.heap[k]? = some x):w1.heap[k]? = some x:=(hb.block k (block_lt h)).trans h
theorem bS {a w:World} {p:Addr} {u:Value} (h:Below a.heap.size a w) (hp:a.heap.size≤p.block):Below a.heap.size a (w.setCell p u):=h.setCell hp u
theorem hSO {w:World} {p:Addr} {u:Value} {x:Obj} {k:Nat} (h:w.heap[k]? = some x) (hk:k≠p.block):(w.setCell p u).heap[k]? = some x:=(Below.heap_setCell w p u k hk).trans h
theorem hDr {w:World} {x:Obj} {k:Nat} (h:w.heap[k]? = some x):w.drew.heap[k]? = some x:=h
theorem bK {a b c:World} {S:Nat→Prop} (h:Below a.heap.size a b) (k:Keeps S b c) (hS:∀i,S i→a.heap.size≤i):Below a.heap.size a c:=h.trans (k.belowB h.size hS)
end Go.Proofs.YtimomjheanfbmaaGreatDoor
namespace Go.Proofs.YtimomjheanfbmaaGreatDoor
open Go.RowKit
theorem str_some {k:ByteArray} (h:k.size≠0):(¬k.toList=[])∧k.toList.isEmpty=false:=by
 have:¬k.toList=[]:=fun e=>h (by
  rw[ByteArray.toList_eq]at e
  have:k.data = #[]:=Array.toList_inj.1 e
  show k.data.size=0;rw[this];rfl)
 exact⟨this,by simpa using this⟩
theorem str_none {k:ByteArray} (h:k.size=0):k=⟨#[]⟩:=by
 cases k with
 | mk d=>exact congrArg _ (Array.eq_empty_of_size_eq_zero h)
def zeros (n:Nat):ByteArray:=strOfNums (List.replicate n 0)
theorem zeros_size (n:Nat):(zeros n).size=n:=by unfold zeros;rw[strOfNums_size,List.length_replicate]
theorem extract_extract (s:ByteArray) (a b c d:Nat) (h:c≤d) (hb:a+d≤b) (hs:b≤s.size):(s.extract a b).extract c d=s.extract (a+c) (a+d):=by
 rw[ByteArray.extract_extract]
 congr 1
 omega
end Go.Proofs.YtimomjheanfbmaaGreatDoor
