import Derived.Test.YtimomjheanfbmaaGreatDoorQaa
import Derived.Shelf.Strings.Builder1
import Derived.Shelf.Strings.BuilderK
import Derived.Shelf.Strings.Trim
import Derived.Shelf.Strings.Repeat
import Derived.Test.YtimomjheanfbmaaGreatDoorQab
import Derived.Laws.StructEq
import Derived.Deep.MidRow
set_option linter.unusedSimpArgs false
set_option linter.unusedVariables false
namespace Go.Proofs.YtimomjheanfbmaaGreatDoor
open Go.Shelf
def Tryz.lays160_ren:Go.Shelf.Ren:=⟨fun | 160=>109 | 232=>140 | 231=>139 | 227=>141 | 234=>143 | 233=>142 | 236=>145 | 235=>144 | 228=>169 | 271=>172 | 151=>171 | 197=>170 | 120=>185 | 152=>184 | 260=>183 | 137=>191 | 119=>192 | 224=>193 | 225=>194 | 217=>195 | 266=>196 | n=>n,fun | 9=>9 | 4=>4 | 3=>3 | 5=>5 | 117=>244 | 116=>243 | 0=>0 | 124=>247 | 21=>21 | 105=>274 | 46=>206 | 119=>292 | 139=>295 | 138=>294 | n=>n,fun | 3=>2 | 4=>3 | n=>n⟩
theorem Tryz.lays160:Go.Proofs.Lays.n160 Tryz.prog Tryz.lays160_ren:={
 mixed:=by kernel_rfl
 f119:=Tryz.func192.trans (congrArg some (by kernel_rfl))
 f120:=Tryz.func185.trans (congrArg some (by kernel_rfl))
 f137:=Tryz.func191.trans (congrArg some (by kernel_rfl))
 f151:=Tryz.func171.trans (congrArg some (by kernel_rfl))
 f152:=Tryz.func184.trans (congrArg some (by kernel_rfl))
 f160:=Tryz.func109.trans (congrArg some (by kernel_rfl))
 f197:=Tryz.func170.trans (congrArg some (by kernel_rfl))
 f217:=Tryz.func195.trans (congrArg some (by kernel_rfl))
 f224:=Tryz.func193.trans (congrArg some (by kernel_rfl))
 f225:=Tryz.func194.trans (congrArg some (by kernel_rfl))
 f227:=Tryz.func141.trans (congrArg some (by kernel_rfl))
 f228:=Tryz.func169.trans (congrArg some (by kernel_rfl))
 f231:=Tryz.func139.trans (congrArg some (by kernel_rfl))
 f232:=Tryz.func140.trans (congrArg some (by kernel_rfl))
 f233:=Tryz.func142.trans (congrArg some (by kernel_rfl))
 f234:=Tryz.func143.trans (congrArg some (by kernel_rfl))
 f235:=Tryz.func144.trans (congrArg some (by kernel_rfl))
 f236:=Tryz.func145.trans (congrArg some (by kernel_rfl))
 f260:=Tryz.func183.trans (congrArg some (by kernel_rfl))
 f266:=Tryz.func196.trans (congrArg some (by kernel_rfl))
 f271:=Tryz.func172.trans (congrArg some (by kernel_rfl))
 t0:=Tryz.underlying0
 a0:=Tryz.isAgg0
 z0:=Tryz.sizeOf0
 v0:=Tryz.zeroValue0
 t3:=Tryz.underlying3
 a3:=Tryz.isAgg3
 z3:=Tryz.sizeOf3
 v3:=Tryz.zeroValue3
 t4:=Tryz.underlying4
 a4:=Tryz.isAgg4
 z4:=Tryz.sizeOf4
 v4:=Tryz.zeroValue4
 t5:=Tryz.underlying5
 a5:=Tryz.isAgg5
 z5:=Tryz.sizeOf5
 v5:=Tryz.zeroValue5
 t9:=Tryz.underlying9
 a9:=Tryz.isAgg9
 z9:=Tryz.sizeOf9
 v9:=Tryz.zeroValue9
 t21:=Tryz.underlying21
 a21:=Tryz.isAgg21
 z21:=Tryz.sizeOf21
 v21:=Tryz.zeroValue21
 t46:=Tryz.underlying206
 a46:=Tryz.isAgg206
 z46:=Tryz.sizeOf206
 v46:=Tryz.zeroValue206
 t105:=Tryz.underlying274
 a105:=Tryz.isAgg274
 z105:=Tryz.sizeOf274
 v105:=Tryz.zeroValue274
 t116:=Tryz.underlying243
 a116:=Tryz.isAgg243
 z116:=Tryz.sizeOf243
 t117:=Tryz.underlying244
 a117:=Tryz.isAgg244
 z117:=Tryz.sizeOf244
 v117:=Tryz.zeroValue244
 t119:=Tryz.underlying292
 a119:=Tryz.isAgg292
 z119:=Tryz.sizeOf292
 t124:=Tryz.underlying247
 a124:=Tryz.isAgg247
 z124:=Tryz.sizeOf247
 v124:=Tryz.zeroValue247
 t138:=Tryz.underlying294
 a138:=Tryz.isAgg294
 z138:=Tryz.sizeOf294
 v138:=Tryz.zeroValue294
 t139:=Tryz.underlying295
 a139:=Tryz.isAgg295
 z139:=Tryz.sizeOf295
 v139:=Tryz.zeroValue295
 g3:=by kernel_rfl
 g4:=by kernel_rfl}
open Go.RowKit in
theorem Tryz.strings_Trim_one (s:ByteArray) (c:UInt8) (hc:c.toNat<128) (w:World) (hs:s.size≤9223372036854775807) :
 Calls Tryz.prog 109 #[.string s,.string ⟨#[c]⟩] w fun e w'=>e = .returned (.string ⟨(Lib.trimB s.data.toList c).toArray⟩)∧(w'=w∨w'=w.drew):=Any.strings_Trim_one Tryz.lays160 s c hc w hs
def Tryz.lays105_ren:Go.Shelf.Ren:=⟨fun | 105=>71 | 167=>152 | 212=>110 | 99=>111 | 165=>112 | 166=>113 | 170=>114 | 169=>115 | 263=>146 | 264=>147 | 206=>148 | 240=>149 | 241=>150 | 276=>173 | 277=>174 | n=>n,fun | 9=>9 | 3=>3 | 4=>4 | 20=>20 | 0=>0 | 46=>206 | 109=>207 | 5=>5 | 72=>212 | 76=>215 | 51=>248 | 146=>249 | 53=>147 | 148=>251 | 70=>210 | 37=>141 | 75=>214 | 127=>253 | 164=>277 | 80=>149 | n=>n,fun | n=>n⟩
theorem Tryz.lays105:Go.Proofs.Lays.n105 Tryz.prog Tryz.lays105_ren:={
 mixed:=by kernel_rfl
 f99:=Tryz.func111.trans (congrArg some (by kernel_rfl))
 f105:=Tryz.func71.trans (congrArg some (by kernel_rfl))
 f165:=Tryz.func112.trans (congrArg some (by kernel_rfl))
 f166:=Tryz.func113.trans (congrArg some (by kernel_rfl))
 f169:=Tryz.func115.trans (congrArg some (by kernel_rfl))
 f170:=Tryz.func114.trans (congrArg some (by kernel_rfl))
 f206:=Tryz.func148.trans (congrArg some (by kernel_rfl))
 f212:=Tryz.func110.trans (congrArg some (by kernel_rfl))
 f240:=Tryz.func149.trans (congrArg some (by kernel_rfl))
 f241:=Tryz.func150.trans (congrArg some (by kernel_rfl))
 f263:=Tryz.func146.trans (congrArg some (by kernel_rfl))
 f264:=Tryz.func147.trans (congrArg some (by kernel_rfl))
 f276:=Tryz.func173.trans (congrArg some (by kernel_rfl))
 f277:=Tryz.func174.trans (congrArg some (by kernel_rfl))
 t0:=Tryz.underlying0
 a0:=Tryz.isAgg0
 z0:=Tryz.sizeOf0
 v0:=Tryz.zeroValue0
 t3:=Tryz.underlying3
 a3:=Tryz.isAgg3
 z3:=Tryz.sizeOf3
 v3:=Tryz.zeroValue3
 t4:=Tryz.underlying4
 a4:=Tryz.isAgg4
 z4:=Tryz.sizeOf4
 v4:=Tryz.zeroValue4
 t5:=Tryz.underlying5
 a5:=Tryz.isAgg5
 z5:=Tryz.sizeOf5
 v5:=Tryz.zeroValue5
 t9:=Tryz.underlying9
 a9:=Tryz.isAgg9
 z9:=Tryz.sizeOf9
 v9:=Tryz.zeroValue9
 t20:=Tryz.underlying20
 a20:=Tryz.isAgg20
 z20:=Tryz.sizeOf20
 v20:=Tryz.zeroValue20
 t37:=Tryz.underlying141
 a37:=Tryz.isAgg141
 z37:=Tryz.sizeOf141
 v37:=Tryz.zeroValue141
 t46:=Tryz.underlying206
 a46:=Tryz.isAgg206
 z46:=Tryz.sizeOf206
 v46:=Tryz.zeroValue206
 t51:=Tryz.underlying248
 a51:=Tryz.isAgg248
 z51:=Tryz.sizeOf248
 v51:=Tryz.zeroValue248
 t53:=Tryz.underlying147
 a53:=Tryz.isAgg147
 z53:=Tryz.sizeOf147
 v53:=Tryz.zeroValue147
 t70:=Tryz.underlying210
 a70:=Tryz.isAgg210
 z70:=Tryz.sizeOf210
 v70:=Tryz.zeroValue210
 t72:=Tryz.underlying212
 a72:=Tryz.isAgg212
 z72:=Tryz.sizeOf212
 v72:=Tryz.zeroValue212
 t75:=Tryz.underlying214
 a75:=Tryz.isAgg214
 z75:=Tryz.sizeOf214
 v75:=Tryz.zeroValue214
 t76:=Tryz.underlying215
 a76:=Tryz.isAgg215
 z76:=Tryz.sizeOf215
 v76:=Tryz.zeroValue215
 t109:=Tryz.underlying207
 a109:=Tryz.isAgg207
 z109:=Tryz.sizeOf207
 v109:=Tryz.zeroValue207
 t127:=Tryz.underlying253
 a127:=Tryz.isAgg253
 z127:=Tryz.sizeOf253
 v127:=Tryz.zeroValue253
 t146:=Tryz.underlying249
 a146:=Tryz.isAgg249
 z146:=Tryz.sizeOf249
 v146:=Tryz.zeroValue249
 t148:=Tryz.underlying251
 a148:=Tryz.isAgg251
 z148:=Tryz.sizeOf251
 v148:=Tryz.zeroValue251
 t164:=Tryz.underlying277
 a164:=Tryz.isAgg277
 z164:=Tryz.sizeOf277
 v164:=Tryz.zeroValue277}
theorem Tryz.Builder_Extra_105:Builder.Extra Tryz.prog Tryz.lays105_ren:={
 sizeBuilder:=by kernel_rfl
 liesBuilder:=by kernel_rfl
 t5:=Tryz.underlying5
 a5:=Tryz.isAgg5
 z5:=Tryz.sizeOf5
 v5:=Tryz.zeroValue5
 infoByte:=by kernel_rfl
 cellsByte:=by kernel_rfl
 sizeByte:=by kernel_rfl
 neB5:=by decide}
open Go.RowKit Go.Lib in
theorem Tryz.strings_Repeat (s:ByteArray) (c:Nat) (w:World) (hc:c≤9223372036854775807) (hlen:s.size*c≤140737488355328) :
 Calls Tryz.prog 71 #[.string s,.int .i64 c] w fun e w'=>e = .returned (.string ⟨(Lib.repeatL s.data.toList c).toArray⟩)∧Below w.heap.size w w':=Any.strings_Repeat Tryz.lays105 Tryz.Builder_Extra_105 s c w hc hlen
end Go.Proofs.YtimomjheanfbmaaGreatDoor
namespace Go.Proofs.YtimomjheanfbmaaGreatDoor
open Go.Shelf
theorem Tryz.lays166:Go.Proofs.Lays.n166 Tryz.prog Tryz.lays105_ren:={Tryz.lays105 with}
theorem Tryz.lays167:Go.Proofs.Lays.n167 Tryz.prog Tryz.lays105_ren:={Tryz.lays105 with f167:=Tryz.func152.trans (congrArg some (by kernel_rfl))}
theorem Tryz.lays169:Go.Proofs.Lays.n169 Tryz.prog Tryz.lays105_ren:={Tryz.lays105 with}
open Go.RowKit
def BdAt (w:World) (b:Nat) (l:List UInt8):Prop:=Lib.IsBuilderF 212 5 b b (Lib.byteCells l) w
theorem BdAt.new (w:World):BdAt (w.alloc (.cells #[.pointer none,.slice none 0 0] 212)) w.heap.size []:=Lib.IsBuilderF.of (Lib.fresh_isBuilder _ _ w)
theorem BdAt.lt {w:World} {b:Nat} {l:List UInt8} (h:BdAt w b l):b<w.heap.size:=h.elim (fun x=>x.lt) (fun x=>x.lt)
theorem BdAt.alloc {w:World} {b:Nat} {l:List UInt8} (h:BdAt w b l) (o:Obj):BdAt (w.alloc o) b l:=Lib.IsBuilderF.alloc h o
theorem BdAt.later {w w':World} {b:Nat} {l:List UInt8} (h:BdAt w b l) (hb:Below w.heap.size w w'):BdAt w' b l:=by
 have go:∀p,Lib.BuilderAtF 212 5 b b p (Lib.byteCells l) w→Lib.BuilderAtF 212 5 b b p (Lib.byteCells l) w':=by
  rintro p ⟨hB,v,hv,ho,hne⟩
  refine⟨hB,v,hBs hb hv,⟨ho.1,?_⟩,hne⟩
  rcases ho.2 with h2 | ⟨g,cap,cur,fz,e,hbg,hg,r⟩
  · exact .inl h2
  · exact .inr ⟨g,cap,cur,fz,e,hbg,hBs hb hg,r⟩
 exact h.elim (fun x => .inl (go _ x)) (fun x => .inr (go _ x))
theorem kept_block {w w':World} {b k:Nat} {c:Array Value} {t:TypeId} {f:Nat×Nat} (h:Lib.OthersKept 5 (some b) w w') (hk:w.heap[k]? = some (.cells c t f)) (hkb:k≠b) (ht:t≠5) :
 w'.heap[k]? = some (.cells c t f):=h k _ hk (fun e=>hkb (Option.some.inj e)) (fun c' fz e=>ht (by cases e;rfl))
theorem bd_string (b:Nat) (l:List UInt8) (s:ByteArray) (w:World) (h:BdAt w b l) (hlen:l.length+s.size≤1048576) :
  Calls Tryz.prog 113 #[.pointer (some ⟨b,0,none⟩),.string s] w fun e w'=>e = .returned (.tuple #[.int .i64 s.size,.nilIface])∧BdAt w' b (l++s.data.toList)∧Below b w w'∧Lib.OthersKept 5 (some b) w w':=by
 refine(Any.Builder_WriteString_k Tryz.lays166 Tryz.Builder_Extra_105 b b _ s w h (by rw[Lib.byteCells_length];omega) (Nat.le_of_lt h.lt)).mono ?_
 rintro e w' ⟨rfl,h1,h2,h3⟩
 refine⟨rfl,?_,h2,h3⟩
 unfold BdAt
 rw[Lib.byteCells_append]
 exact .inr h1
theorem bd_byte (b:Nat) (l:List UInt8) (c:UInt8) (w:World) (h:BdAt w b l) (hlen:l.length≤1048576) :
  Calls Tryz.prog 152 #[.pointer (some ⟨b,0,none⟩),.int .u8 c.toNat] w fun e w'=>e = .returned .nilIface∧BdAt w' b (l++[c])∧Below b w w'∧Lib.OthersKept 5 (some b) w w':=by
 refine(Any.Builder_WriteByte_k Tryz.lays167 Tryz.Builder_Extra_105 b b _ (c.toNat:Int) w h (by rw[Lib.byteCells_length];omega) (Nat.le_of_lt h.lt)).mono ?_
 rintro e w' ⟨rfl,h1,h2,h3⟩
 refine⟨rfl,?_,h2,h3⟩
 unfold BdAt
 rw[Lib.byteCells_append]
 exact .inr h1
theorem bd_done (b:Nat) (l:List UInt8) (w:World) (h:BdAt w b l) :
  Calls Tryz.prog 115 #[.pointer (some ⟨b,0,none⟩)] w fun e w'=>e = .returned (.string ⟨l.toArray⟩)∧Below b w w':=by
 refine(Any.Builder_String_any_k Tryz.lays169 Tryz.Builder_Extra_105 b b l w h (Nat.le_of_lt h.lt)).mono ?_
 rintro e w' ⟨rfl,h1,h2,h3⟩
 exact⟨rfl,h2⟩
theorem repeatL_zero:∀n,Lib.repeatL [0] n=List.replicate n 0
 | 0=>rfl
 | n+1=>by rw[Lib.repeatL,repeatL_zero n];rfl
theorem str_repeat (n:Nat) (hn:n≤64) (w:World) :
  Calls Tryz.prog 71 #[.string ⟨#[0]⟩,.int .i64 n] w fun e w'=>e = .returned (.string ⟨(List.replicate n (0:UInt8)).toArray⟩)∧Below w.heap.size w w':=by
 refine(Tryz.strings_Repeat ⟨#[0]⟩ n w (by omega) (by show 1*n≤_;omega)).mono ?_
 rintro e w' ⟨rfl,hb⟩
 refine⟨?_,hb⟩
 show Ending.returned (Value.string ⟨(Lib.repeatL [0] n).toArray⟩)=_
 rw[repeatL_zero]
theorem str_trim (s:ByteArray) (hs:s.size≤4096) (w:World) :
  Calls Tryz.prog 109 #[.string s,.string ⟨#[0]⟩] w fun e w'=>e = .returned (.string ⟨(Lib.trimB s.data.toList 0).toArray⟩)∧Below w.heap.size w w':=by
 refine(Tryz.strings_Trim_one s 0 (by decide) w (by omega)).mono ?_
 rintro e w' ⟨rfl,h⟩
 refine⟨rfl,?_⟩
 rcases h with rfl | rfl
 · exact bR
 · exact bD bR
end Go.Proofs.YtimomjheanfbmaaGreatDoor
namespace Go.Proofs.YtimomjheanfbmaaGreatDoor
open Go.RowKit
theorem name_world {P:Program} {c:Code} {Q:Exit→Act→World→Prop} {a:Act} {W:World} (F:World→Prop) (hF:F W) (h:∀W',F W'→c.wp P Q a W'):c.wp P Q a W:=h W hF
theorem bytes_left (a b:ByteArray):(a++b).extract 0 a.size=a:=ByteArray.extract_append_eq_left rfl
theorem bytes_right (a b:ByteArray):(a++b).extract a.size (a++b).size=b:=ByteArray.extract_append_eq_right rfl ByteArray.size_append
theorem bytes_size (a b:ByteArray):(a++b).size=a.size+b.size:=ByteArray.size_append
theorem bytes_assoc (a b c:ByteArray):a++b++c=a++(b++c):=ByteArray.append_assoc
theorem bytes_nil_left (a:ByteArray):(⟨#[]⟩:ByteArray)++a=a:=by
 apply ByteArray.ext
 simp
theorem bytes_nil_right (a:ByteArray):a++(⟨#[]⟩:ByteArray)=a:=by
 apply ByteArray.ext
 simp
theorem valL_leS (n:Nat):∀k:Nat,valL ((leS (n:Int) k).data.toList)=((n%256^k:Nat):Int)
 | 0=>by simp[leS,le,strOfNums,valL,Nat.mod_one]
 | k+1=>by
  have e:(leS (n:Int) (k+1)).data.toList=(leS (n:Int) k).data.toList++[UInt8.ofNat ((n:Int)/2^(8*k)%256).toNat]:=by
   rw[leS,leS,strOfNums_data,strOfNums_data,le_succ,List.map_append];rfl
  have hl:(leS (n:Int) k).data.toList.length=k:=by rw[Array.length_toList];exact leS_size _ _
  rw[e,valL_snoc,valL_leS n k,hl,Nat.mod_pow_succ,UInt8.toNat_ofNat',two_pow_8,int_pow_256]
  have h1:((n:Int)/((256^k:Nat):Int)%256).toNat=n/256^k%256:=by
   rw[←Int.natCast_ediv];omega
  rw[h1]
  have h2:n/256^k%256%2^8=n/256^k%256:=by omega
  rw[h2,←Int.natCast_mul]
  omega
theorem valS_leS (n:Int) (k:Nat) (h0:0≤n) (h:n<256^k):valS (leS n k)=n:=by
 obtain⟨m,rfl⟩:=Int.eq_ofNat_of_zero_le h0
 unfold valS
 rw[int_pow_256]at h
 rw[valL_leS,Nat.mod_eq_of_lt (by omega)]
theorem list_of {α β:Type} {f:β→α} {p:β→Prop}:∀{xs:List α} (h:∀x∈xs,∃b,x=f b∧p b),∃bs:List β,xs=bs.map f∧∀b∈bs,p b
 | [],_=>⟨[],rfl,by simp⟩
 | x::xs,h=>by
  obtain⟨b,rfl,hb⟩:=h x (by simp)
  obtain⟨bs,rfl,hbs⟩:=list_of (xs:=xs) (fun y hy=>h y (by simp[hy]))
  exact⟨b::bs,rfl,by simpa using⟨hb,hbs⟩⟩
end Go.Proofs.YtimomjheanfbmaaGreatDoor
namespace Go.Proofs.YtimomjheanfbmaaGreatDoor
open Go.RowKit
def eqElems (d:Nat) (e:TypeId) (n:Nat) (xs ys:Array Value):List Nat→Sem Bool
 | []=>pure true
 | i::r=>do
  if !(←Op.equalIn d e (←part e xs (i*n)) (←part e ys (i*n))) then pure false else eqElems d e n xs ys r
theorem run_equalIn_array {P:Program} (w:World) (d:Nat) (t e:TypeId) (len:Nat) (i:TypeInfo) (xs ys:Array Value) (ht:P.underlying t=some (.array len e)) (hi:P.info? e=some i) :
  (Op.equalIn (d+1) t (.agg xs) (.agg ys)).run P w=(eqElems d e i.size xs ys (List.range len)).run P w:=by
 simp only[Op.equalIn,Sem.run_bind,run_underlying ht,Result.andThen_ok,sizeOf,typeInfo,hi]
 simp[Std.Legacy.Range.forIn_eq_forIn_range',hi]
 rw[List.range_eq_range']
 generalize List.range' 0 len=l
 induction l generalizing w with
 | nil=>simp[eqElems]
 | cons j l ih =>
  simp only[List.forIn_cons,eqElems,Sem.run_bind,Sem.run_ite]
  generalize (part e xs (j*i.size)).run P w=r1
  cases r1 with
  | ok a w1 =>
   simp only[Result.andThen_ok]
   generalize (part e ys (j*i.size)).run P w1=r2
   cases r2 with
   | ok b w2 =>
    simp only[Result.andThen_ok]
    generalize (Op.equalIn d e a b).run P w2=r3
    cases r3 with
    | ok r w3 =>
     cases r
     · simp
     ·simp
      exact ih w3
    | halt x w3=>simp[Result.andThen]
   | halt x w2=>simp[Result.andThen]
  | halt x w1=>simp[Result.andThen]
end Go.Proofs.YtimomjheanfbmaaGreatDoor
namespace Go.Proofs.YtimomjheanfbmaaGreatDoor
open Go.RowKit
structure Pg where
 kind:Int
 level:Int
 store:Int
 next:Int
 st:Nat→Int
 dt:Nat→ByteArray
def pgC (P:Pg):Array Value := #[.int .i64 P.kind,.int .i64 P.level,.int .i64 P.store,.int .i64 P.next,.int .i64 (P.st 0),.string (P.dt 0),.int .i64 (P.st 1),.string (P.dt 1),.int .i64 (P.st 2),.string (P.dt 2),
 .int .i64 (P.st 3),.string (P.dt 3),.int .i64 (P.st 4),.string (P.dt 4),.int .i64 (P.st 5),.string (P.dt 5)]
def pgV (P:Pg):Value := .agg (pgC P)
theorem pg_at {w:World} {b:Nat} {P:Pg} {T:TypeId} {f:Nat×Nat} (h:w.heap[b]? = some (.cells (pgC P) T f)) (i:Nat) (hi:i<6) :
  w.cell? ⟨b,4+i*2,none⟩=some (.int .i64 (P.st i))∧w.cell? ⟨b,4+i*2+1,none⟩=some (.string (P.dt i)):=by
 rw[cell_at h,cell_at h]
 match i,hi with
 | 0,_=>exact⟨rfl,rfl⟩
 | 1,_=>exact⟨rfl,rfl⟩
 | 2,_=>exact⟨rfl,rfl⟩
 | 3,_=>exact⟨rfl,rfl⟩
 | 4,_=>exact⟨rfl,rfl⟩
 | 5,_=>exact⟨rfl,rfl⟩
def pgA (P:Pg):Array Value := #[.int .i64 (P.st 0),.string (P.dt 0),.int .i64 (P.st 1),.string (P.dt 1),.int .i64 (P.st 2),.string (P.dt 2),.int .i64 (P.st 3),.string (P.dt 3),.int .i64 (P.st 4),.string (P.dt 4),.int .i64 (P.st 5),.string (P.dt 5)]
theorem run_index_pg (P:Pg) (k:Nat) (hk:k<6) (w:World):(Instr.index 47 (.agg (pgA P)) (.int .i64 k)).run Tryz.prog w = .ok (.agg #[.int .i64 (P.st k),.string (P.dt k)]) w:=by
 match k,hk with
 | 0,_=>simp[Instr.index,asIntOf,go_sem,pgA]
 | 1,_=>simp[Instr.index,asIntOf,go_sem,pgA]
 | 2,_=>simp[Instr.index,asIntOf,go_sem,pgA]
 | 3,_=>simp[Instr.index,asIntOf,go_sem,pgA]
 | 4,_=>simp[Instr.index,asIntOf,go_sem,pgA]
 | 5,_=>simp[Instr.index,asIntOf,go_sem,pgA]
theorem run_storeVar_whole {P:Program} (w:World) (g:Nat) (t ty:TypeId) (cur C:Array Value) (hg:w.heap[g]? = some (.cells cur t (0,0))) (hsz:cur.size=C.size)
  (hi:(P.info? ty).map (·.size)=some C.size) (h1:∀v∈C.toList,v.oneCell'=true):(storeVar ty ⟨g,0,none⟩ (.agg C)).run P w = .ok () (w.setRow g C):=by
 have hst:=run_storeCells_at P g 0 t C.toList 0 cur w hg (by simp[hsz]) h1
 have e:(cur.toList.take (0+0)++C.toList++cur.toList.drop (0+0+C.toList.length)).toArray=C:=by
  rw[List.drop_of_length_le (by simp[hsz])]
  simp
 rw[e]at hst
 cases hq:P.info? ty with
 | none=>simp[hq]at hi
 | some i =>
  have hs:C.size=i.size:=by simp[hq]at hi;omega
  simp[storeVar,sizeOf,typeInfo,hq,Value.cells,hs,hst]
theorem wpList_store_whole {P:Program} {ops:Array Oper} {rest:List Oper} {o:Oper} {a:Act} {w:World} {Q:Exit→Act→World→Prop} (hgd:o.guard=none) (ty:TypeId) (x y:Operand) (ho:o.op = .store ty x y)
  (g:Nat) (C:Array Value) (hx:a.eval x = .pointer (some ⟨g,0,none⟩)) (hy:a.eval y = .agg C) (t:TypeId) (cur:Array Value) (hg:w.heap[g]? = some (.cells cur t (0,0))) (hsz:cur.size=C.size)
  (hi:(P.info? ty).map (·.size)=some C.size) (h1:∀v∈C.toList,v.oneCell'=true)
  (h:∀w',Hid (w'.heap[g]? = some (.cells C t (0,0)))→Hid (Keeps (· = g) w w')→wpList P ops Q rest (a.put o.dst undef) w'):wpList P ops Q (o::rest) a w :=
 wpList_plain hgd fun K hK=>by
  unfold Oper.wp execOp
  simp only[ho,hx,hy,Instr.storeAt,Instr.sureAddr,Sem.run_bind,Sem.run_pure,Result.andThen_ok,run_storeVar_whole w g t ty cur C hg hsz hi h1]
  exact hK _ _ (h _ (setRow_heap w g _ _ t _ hg) ⟨rfl,rfl,rfl,by simp,fun j _ hj=>setRow_other w g j _ hj⟩)
theorem pgC_one (P:Pg):∀v∈(pgC P).toList,v.oneCell'=true:=by
 intro v hv
 simp only[pgC,List.mem_cons,List.not_mem_nil,or_false]at hv
 rcases hv with h | h | h | h | h | h | h | h | h | h | h | h | h | h | h | h <;> (rw[h];rfl)
theorem range_of {w:World} {b:Nat} {C:Array Value} {T:TypeId} {f:Nat×Nat} (h:w.heap[b]? = some (.cells C T f)):w.rangeAt b 0 C.toList:=fun j v hv=>by
 rw[Nat.zero_add,cell_at h]
 simpa using hv
theorem wpList_want {P:Program} {ops:Array Oper} {rest:List Oper} {o:Oper} {a:Act} {w:World} {Q:Exit→Act→World→Prop} (hw:Region.wanted o (yielded ops a.tmps)=true)
  (h:∀K:Act→World→Prop,(∀a w,wpList P ops Q rest a w→K a w)→o.wp P a w K Q):wpList P ops Q (o::rest) a w :=
 wpList_step fun K hK=>by simp only[hw,if_true];exact h K hK
theorem wpList_load_want {P:Program} {ops:Array Oper} {rest:List Oper} {o:Oper} {a:Act} {w:World} {Q:Exit→Act→World→Prop} (hw:Region.wanted o (yielded ops a.tmps)=true) (ty:TypeId) (x:Operand) (ho:o.op = .load ty x)
  (g:Nat) (hx:a.eval x = .pointer (some ⟨g,0,none⟩)) (t:TypeId) (cs:Array Value) (fr:Nat×Nat) (d:TypeDesc) (hg:w.heap[g]? = some (.cells cs t fr))
  (hu:P.underlying ty=some d) (hd:(match d with | .struct _ | .array _ _=>true | _=>false)=true) (hi:(P.info? ty).map (·.size)=some cs.size)
  (h:wpList P ops Q rest (a.put o.dst (.agg cs)) w):wpList P ops Q (o::rest) a w :=
 wpList_want hw fun _ hK=>wp_load_row ty x ho g hx t cs fr d hg hu hd hi (hK _ _ h)
def ClOk (s:Int) (d:ByteArray):Prop:=0≤s∧s≤2∧d.size≤34∧(s=0→d.size=0)
instance (s:Int) (d:ByteArray):Decidable (ClOk s d):=by unfold ClOk;exact inferInstance
def HdOk (P:Pg):Prop:=0≤P.kind∧P.kind≤4∧0≤P.level∧P.level≤255∧0≤P.store∧P.store≤65535∧0≤P.next∧P.next<1024
instance (P:Pg):Decidable (HdOk P):=by unfold HdOk;exact inferInstance
def PgOk (P:Pg):Prop:=HdOk P∧∀i,i<6→ClOk (P.st i) (P.dt i)
instance (P:Pg):Decidable (PgOk P):=by unfold PgOk;exact inferInstance
theorem not_hd {P:Pg} (h:¬HdOk P):¬PgOk P:=fun n=>h n.1
theorem not_cl {P:Pg} {k:Nat} (hk:k<6) (h:¬ClOk (P.st k) (P.dt k)):¬PgOk P:=fun n=>h (n.2 k hk)
theorem cl_more {P:Pg} {k:Nat} (h:∀j,j<k→ClOk (P.st j) (P.dt j)) (hk:ClOk (P.st k) (P.dt k)):∀j,j<k+1→ClOk (P.st j) (P.dt j):=fun j hj=>by
 by_cases e:j=k
 · subst e;exact hk
 · exact h j (by omega)
theorem hd_cases {P:Pg} (h:¬HdOk P):P.kind<0∨(0≤P.kind∧4<P.kind)∨(0≤P.kind∧P.kind≤4∧P.level<0)∨(0≤P.kind∧P.kind≤4∧0≤P.level∧255<P.level)∨(0≤P.kind∧P.kind≤4∧0≤P.level∧P.level≤255∧P.store<0)
 ∨ (0≤P.kind∧P.kind≤4∧0≤P.level∧P.level≤255∧0≤P.store∧65535<P.store)∨(0≤P.kind∧P.kind≤4∧0≤P.level∧P.level≤255∧0≤P.store∧P.store≤65535∧P.next<0)
 ∨ (0≤P.kind∧P.kind≤4∧0≤P.level∧P.level≤255∧0≤P.store∧P.store≤65535∧0≤P.next∧1024≤P.next):=by unfold HdOk at h;omega
theorem cl_cases {s:Int} {d:ByteArray} (h:¬ClOk s d):s<0∨(0≤s∧2<s)∨(0≤s∧s≤2∧34<d.size)∨(s=0∧d.size≤34∧d.size≠0):=by
 unfold ClOk at h
 by_cases e:s=0
 ·subst e
  have:¬d.size≤34∨d.size≠0:=by
   by_cases g:d.size≤34
   · exact .inr fun e=>h ⟨by omega,by omega,g,fun _=>e⟩
   · exact .inl g
  omega
 ·have:¬(0≤s∧s≤2∧d.size≤34):=fun g=>h ⟨g.1,g.2.1,g.2.2,fun h=>absurd h e⟩
  omega
set_option maxRecDepth 100000 in
set_option maxHeartbeats 16000000 in
theorem pg_check (P:Pg) (hd:∀i,i<6→(P.dt i).size≤maxLen) (w:World):Calls Tryz.prog 80 #[pgV P] w fun e w'=>(e = .returned (.int .i64 0)∧PgOk P∨e = .returned (.int .i64 1)∧¬PgOk P)∧Below w.heap.size w w':=by
 have hpc:pgC P = #[.int .i64 P.kind,.int .i64 P.level,.int .i64 P.store,.int .i64 P.next,.int .i64 (P.st 0),.string (P.dt 0),.int .i64 (P.st 1),.string (P.dt 1),.int .i64 (P.st 2),.string (P.dt 2),
 .int .i64 (P.st 3),.string (P.dt 3),.int .i64 (P.st 4),.string (P.dt 4),.int .i64 (P.st 5),.string (P.dt 5)]:=rfl
 replace hpc:=Hd hpc
 have hpa:Hid (pgA P = #[.int .i64 (P.st 0),.string (P.dt 0),.int .i64 (P.st 1),.string (P.dt 1),.int .i64 (P.st 2),.string (P.dt 2),.int .i64 (P.st 3),.string (P.dt 3),.int .i64 (P.st 4),.string (P.dt 4),.int .i64 (P.st 5),.string (P.dt 5)]):=rfl
 have HQ:Hid ((w.alloc (.cells (pgC P) 49)).heap[w.heap.size]? = some (.cells (pgC P) 49 (0,0))):=hN rfl
 unfold pgV
 rw[hpc.out]
 by_cases hh:HdOk P
 rotate_left
 ·have hbad:=Hd (not_hd hh)
  rcases hd_cases hh with h | ⟨h1,h⟩ | ⟨h1,h2,h⟩ | ⟨h1,h2,h3,h⟩ | ⟨h1,h2,h3,h4,h⟩ | ⟨h1,h2,h3,h4,h5,h⟩ | ⟨h1,h2,h3,h4,h5,h6,h⟩ | ⟨h1,h2,h3,h4,h5,h6,h7,h⟩
  all_goals
   clear hh HQ hpa hpc
   go_enter Tryz.func80,Tryz.ntmps80
   go_wp2_with fail
   go_ret
   exact⟨.inr ⟨rfl,hbad.out⟩,bA bR⟩
 obtain⟨h1,h2,h3,h4,h5,h6,h7,h8⟩:=hh
 have hH:Hid (HdOk P):=⟨h1,h2,h3,h4,h5,h6,h7,h8⟩
 go_enter Tryz.func80,Tryz.ntmps80
 go_wp2_with fail
 clear h1 h2 h3 h4 h5 h6 h7 h8
 rw[←hpc.out]
 try rw[←hpa.out]
 clear hpc hpa
 go_loopw [45] (fun i wr=>∃(k:Nat),k≤6∧i = .int .i64 k∧Hid (∀j,j<k→ClOk (P.st j) (P.dt j))∧Hid (wr.heap[w.heap.size]? = some (.cells (pgC P) 49 (0,0)))∧Hid (Below w.heap.size w wr)) (fun i _=>6-(intOf i).toNat)
 case atStart=>exact⟨0,by omega,rfl,fun j h=>by omega,HQ,bA bR⟩
 case round =>
  obtain⟨k,hk,rfl,hstep,HQ,HBr⟩:=hrel
  by_cases hk6:k<6
  rotate_left
  ·obtain rfl:k=6:=by omega
   go_wp2_with fail
   go_ret
   exact⟨.inl ⟨rfl,hH.out,hstep.out⟩,HBr.out⟩
  have hix:=run_index_pg P k hk6
  obtain⟨c0,c1⟩:=pg_at HQ.out k hk6
  have hqr:=block_lt HQ.out
  obtain⟨s,es⟩:∃s,P.st k=s:=⟨_,rfl⟩
  obtain⟨d,ed⟩:∃d,P.dt k=d:=⟨_,rfl⟩
  have hdz:d.size≤maxLen:=ed ▸ hd k hk6
  unfold maxLen at hdz
  have hiff:=Hd (cl_more hstep.out (k:=k))
  have hno:=Hd (not_cl (P:=P) hk6)
  rw[es,ed]at hix hiff hno
  rw[es]at c0
  rw[ed]at c1
  replace es:=Hd es
  replace ed:=Hd ed
  have hk6':(k:Int)<6:=by omega
  by_cases hc:ClOk s d
  ·have hcl:=Hd (hiff.out hc)
   obtain⟨h1,h2,h3,h4⟩:=hc
   by_cases e:s=0
   ·subst e
    obtain rfl:=str_none (h4 rfl)
    clear hiff hno h1 h2 h3 h4 hdz
    go_wp2_with fail
    go_roundw
    case rel=>exact⟨k+1,by omega,rfl,hcl.out,hO HQ.out,bA HBr.out⟩
    case measure=>simp[intOf];omega
   ·have e':(s==0)=false:=by simpa using e
    clear hiff hno h4
    go_wp2_with fail
    go_roundw
    case rel=>exact⟨k+1,by omega,rfl,hcl.out,hO HQ.out,bA HBr.out⟩
    case measure=>simp[intOf];omega
  ·have hbad:=Hd (hno.out hc)
   rcases cl_cases hc with h | ⟨h1,h⟩ | ⟨h1,h2,h⟩ | ⟨h1,h2,h⟩
   ·clear hc hiff hno hstep
    go_wp2_with fail
    go_ret
    exact⟨.inr ⟨rfl,hbad.out⟩,bA HBr.out⟩
   ·clear hc hiff hno hstep
    go_wp2_with fail
    go_ret
    exact⟨.inr ⟨rfl,hbad.out⟩,bA HBr.out⟩
   ·clear hc hiff hno hstep
    go_wp2_with fail
    go_ret
    exact⟨.inr ⟨rfl,hbad.out⟩,bA HBr.out⟩
   ·subst h1
    obtain⟨n1,n2⟩:=str_some h
    clear hc hiff hno hstep
    go_wp2_with fail
    go_ret
    exact⟨.inr ⟨rfl,hbad.out⟩,bA HBr.out⟩
end Go.Proofs.YtimomjheanfbmaaGreatDoor
