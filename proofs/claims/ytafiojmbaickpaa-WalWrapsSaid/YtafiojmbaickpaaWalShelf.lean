import Derived.Shelf.Strings.Repeat
import Derived.Test.YtafiojmbaickpaaLibB
import Derived.Test.YtafiojmbaickpaaDiskE
set_option linter.unusedSimpArgs false
set_option linter.unusedVariables false
namespace Go.Proofs.Ytafiojmbaickpaa
open Go.Shelf
def Try.lays105_ren : Go.Shelf.Ren := ⟨fun | 105 => 25 | 212 => 38 | 99 => 39 | 165 => 40 | 166 => 41 | 170 => 42 | 169 => 43 | 263 => 50 | 264 => 51 | 206 => 52 | 240 => 53 | 241 => 54 | 276 => 55 | 277 => 56 | n => n, fun | 9 => 9 | 3 => 3 | 4 => 4 | 20 => 20 | 0 => 0 | 46 => 82 | 109 => 83 | 5 => 5 | 72 => 88 | 76 => 91 | 51 => 102 | 146 => 103 | 53 => 70 | 148 => 105 | 70 => 86 | 37 => 62 | 75 => 90 | 127 => 107 | 164 => 110 | 80 => 93 | n => n, fun | n => n⟩
theorem Try.lays105 : Go.Proofs.Lays.n105 Try.prog Try.lays105_ren := {
  mixed := by kernel_rfl
  f99 := Try.func39.trans (congrArg some (by kernel_rfl))
  f105 := Try.func25.trans (congrArg some (by kernel_rfl))
  f165 := Try.func40.trans (congrArg some (by kernel_rfl))
  f166 := Try.func41.trans (congrArg some (by kernel_rfl))
  f169 := Try.func43.trans (congrArg some (by kernel_rfl))
  f170 := Try.func42.trans (congrArg some (by kernel_rfl))
  f206 := Try.func52.trans (congrArg some (by kernel_rfl))
  f212 := Try.func38.trans (congrArg some (by kernel_rfl))
  f240 := Try.func53.trans (congrArg some (by kernel_rfl))
  f241 := Try.func54.trans (congrArg some (by kernel_rfl))
  f263 := Try.func50.trans (congrArg some (by kernel_rfl))
  f264 := Try.func51.trans (congrArg some (by kernel_rfl))
  f276 := Try.func55.trans (congrArg some (by kernel_rfl))
  f277 := Try.func56.trans (congrArg some (by kernel_rfl))
  t0 := Try.underlying0
  a0 := Try.isAgg0
  z0 := Try.sizeOf0
  v0 := Try.zeroValue0
  t3 := Try.underlying3
  a3 := Try.isAgg3
  z3 := Try.sizeOf3
  v3 := Try.zeroValue3
  t4 := Try.underlying4
  a4 := Try.isAgg4
  z4 := Try.sizeOf4
  v4 := Try.zeroValue4
  t5 := Try.underlying5
  a5 := Try.isAgg5
  z5 := Try.sizeOf5
  v5 := Try.zeroValue5
  t9 := Try.underlying9
  a9 := Try.isAgg9
  z9 := Try.sizeOf9
  v9 := Try.zeroValue9
  t20 := Try.underlying20
  a20 := Try.isAgg20
  z20 := Try.sizeOf20
  v20 := Try.zeroValue20
  t37 := Try.underlying62
  a37 := Try.isAgg62
  z37 := Try.sizeOf62
  v37 := Try.zeroValue62
  t46 := Try.underlying82
  a46 := Try.isAgg82
  z46 := Try.sizeOf82
  v46 := Try.zeroValue82
  t51 := Try.underlying102
  a51 := Try.isAgg102
  z51 := Try.sizeOf102
  v51 := Try.zeroValue102
  t53 := Try.underlying70
  a53 := Try.isAgg70
  z53 := Try.sizeOf70
  v53 := Try.zeroValue70
  t70 := Try.underlying86
  a70 := Try.isAgg86
  z70 := Try.sizeOf86
  v70 := Try.zeroValue86
  t72 := Try.underlying88
  a72 := Try.isAgg88
  z72 := Try.sizeOf88
  v72 := Try.zeroValue88
  t75 := Try.underlying90
  a75 := Try.isAgg90
  z75 := Try.sizeOf90
  v75 := Try.zeroValue90
  t76 := Try.underlying91
  a76 := Try.isAgg91
  z76 := Try.sizeOf91
  v76 := Try.zeroValue91
  t109 := Try.underlying83
  a109 := Try.isAgg83
  z109 := Try.sizeOf83
  v109 := Try.zeroValue83
  t127 := Try.underlying107
  a127 := Try.isAgg107
  z127 := Try.sizeOf107
  v127 := Try.zeroValue107
  t146 := Try.underlying103
  a146 := Try.isAgg103
  z146 := Try.sizeOf103
  v146 := Try.zeroValue103
  t148 := Try.underlying105
  a148 := Try.isAgg105
  z148 := Try.sizeOf105
  v148 := Try.zeroValue105
  t164 := Try.underlying110
  a164 := Try.isAgg110
  z164 := Try.sizeOf110
  v164 := Try.zeroValue110 }
theorem Try.Builder_Extra_105 : Builder.Extra Try.prog Try.lays105_ren := {
  sizeBuilder := by kernel_rfl
  liesBuilder := by kernel_rfl
  t5 := Try.underlying5
  a5 := Try.isAgg5
  z5 := Try.sizeOf5
  v5 := Try.zeroValue5
  infoByte := by kernel_rfl
  cellsByte := by kernel_rfl
  sizeByte := by kernel_rfl
  neB5 := by decide }
open Go.RowKit Go.Lib in
theorem Try.strings_Repeat (s : ByteArray) (c : Nat) (w : World) (hc : c ≤ 9223372036854775807) (hlen : s.size * c ≤ 140737488355328) :
    Calls Try.prog 25 #[.string s, .int .i64 c] w fun e w' => e = .returned (.string ⟨(Lib.repeatL s.data.toList c).toArray⟩) ∧ Below w.heap.size w w' := Any.strings_Repeat Try.lays105 Try.Builder_Extra_105 s c w hc hlen
theorem repeat_zeros (s : ByteArray) (hs : s.data.toList = [0]) : ∀ n, (⟨(Lib.repeatL s.data.toList n).toArray⟩ : ByteArray) = zeros n := by
  intro n
  apply ByteArray.ext
  apply Array.toList_inj.1
  rw [hs]
  show Lib.repeatL [0] n = _
  have h : ∀ n, Lib.repeatL [0] n = List.replicate n 0 := by
    intro n
    induction n with
    | zero => rfl
    | succ n ih => rw [Lib.repeatL, ih]; rfl
  rw [h, zeros]
  show List.replicate n 0 = (List.replicate n (0 : Int)).map fun n => UInt8.ofNat n.toNat
  simp [List.map_replicate]
theorem str_repeat (s : ByteArray) (hs : s.data.toList = [0]) (n : Nat) (hn : n ≤ 64) (w : World) : Calls Try.prog 25 #[.string s, .int .i64 n] w fun e w' => e = .returned (.string (zeros n)) ∧ RowKit.Below w.heap.size w w' := by
  have h1 : s.size = 1 := by rw [Lib.size_eq, hs]; rfl
  refine (Try.strings_Repeat s n w (by omega) (by rw [h1]; omega)).mono ?_
  rintro e w' ⟨rfl, hb⟩
  rw [repeat_zeros s hs]
  exact ⟨rfl, hb⟩
end Go.Proofs.Ytafiojmbaickpaa
