/-
  strings.Repeat over this program, by the shelf's contract: count copies of s. Condition: the text is at most 2^47 bytes long. (Laid by the kit's lay-plain.mjs.)
-/
import Derived.Shelf.Strings.Builder1
import Derived.Shelf.Strings.Builder2
import Derived.Shelf.Strings.BuilderF
import Derived.Shelf.Strings.Prefix
import Derived.Shelf.Bits.Mul64
import Derived.Shelf.Strings.Repeat
import Derived.Test.YtdhklomnaodcnaaProg
namespace Go.Proofs
open Go.Shelf
def Try.lays105_ren : Go.Shelf.Ren := ⟨fun | 105 => 34 | 212 => 55 | 99 => 56 | 165 => 57 | 166 => 58 | 170 => 59 | 169 => 60 | 263 => 70 | 264 => 71 | 206 => 72 | 240 => 73 | 241 => 74 | 276 => 75 | 277 => 76 | n => n, fun | 9 => 9 | 3 => 3 | 4 => 4 | 20 => 20 | 0 => 0 | 46 => 106 | 109 => 107 | 5 => 5 | 72 => 112 | 76 => 115 | 51 => 126 | 146 => 127 | 53 => 88 | 148 => 129 | 70 => 110 | 37 => 76 | 75 => 114 | 127 => 131 | 164 => 134 | 80 => 77 | n => n, fun | n => n⟩
theorem Try.lays105 : Go.Proofs.Lays.n105 Try.prog Try.lays105_ren := {
  mixed := by kernel_rfl
  f99 := Try.func56.trans (congrArg some (by kernel_rfl))
  f105 := Try.func34.trans (congrArg some (by kernel_rfl))
  f165 := Try.func57.trans (congrArg some (by kernel_rfl))
  f166 := Try.func58.trans (congrArg some (by kernel_rfl))
  f169 := Try.func60.trans (congrArg some (by kernel_rfl))
  f170 := Try.func59.trans (congrArg some (by kernel_rfl))
  f206 := Try.func72.trans (congrArg some (by kernel_rfl))
  f212 := Try.func55.trans (congrArg some (by kernel_rfl))
  f240 := Try.func73.trans (congrArg some (by kernel_rfl))
  f241 := Try.func74.trans (congrArg some (by kernel_rfl))
  f263 := Try.func70.trans (congrArg some (by kernel_rfl))
  f264 := Try.func71.trans (congrArg some (by kernel_rfl))
  f276 := Try.func75.trans (congrArg some (by kernel_rfl))
  f277 := Try.func76.trans (congrArg some (by kernel_rfl))
  t0 := Try.underlying0
  a0 := Try.isAgg0
  z0 := Try.sizeOf0
  v0 := Try.zeroValue0
  t3 := Try.underlying3
  a3 := Try.isAgg3
  z3 := Try.sizeOf3
  v3 := Try.zeroValue3
  t4 := Try.underlying4
  a4 := Try.isAgg4
  z4 := Try.sizeOf4
  v4 := Try.zeroValue4
  t5 := Try.underlying5
  a5 := Try.isAgg5
  z5 := Try.sizeOf5
  v5 := Try.zeroValue5
  t9 := Try.underlying9
  a9 := Try.isAgg9
  z9 := Try.sizeOf9
  v9 := Try.zeroValue9
  t20 := Try.underlying20
  a20 := Try.isAgg20
  z20 := Try.sizeOf20
  v20 := Try.zeroValue20
  t37 := Try.underlying76
  a37 := Try.isAgg76
  z37 := Try.sizeOf76
  v37 := Try.zeroValue76
  t46 := Try.underlying106
  a46 := Try.isAgg106
  z46 := Try.sizeOf106
  v46 := Try.zeroValue106
  t51 := Try.underlying126
  a51 := Try.isAgg126
  z51 := Try.sizeOf126
  v51 := Try.zeroValue126
  t53 := Try.underlying88
  a53 := Try.isAgg88
  z53 := Try.sizeOf88
  v53 := Try.zeroValue88
  t70 := Try.underlying110
  a70 := Try.isAgg110
  z70 := Try.sizeOf110
  v70 := Try.zeroValue110
  t72 := Try.underlying112
  a72 := Try.isAgg112
  z72 := Try.sizeOf112
  v72 := Try.zeroValue112
  t75 := Try.underlying114
  a75 := Try.isAgg114
  z75 := Try.sizeOf114
  v75 := Try.zeroValue114
  t76 := Try.underlying115
  a76 := Try.isAgg115
  z76 := Try.sizeOf115
  v76 := Try.zeroValue115
  t109 := Try.underlying107
  a109 := Try.isAgg107
  z109 := Try.sizeOf107
  v109 := Try.zeroValue107
  t127 := Try.underlying131
  a127 := Try.isAgg131
  z127 := Try.sizeOf131
  v127 := Try.zeroValue131
  t146 := Try.underlying127
  a146 := Try.isAgg127
  z146 := Try.sizeOf127
  v146 := Try.zeroValue127
  t148 := Try.underlying129
  a148 := Try.isAgg129
  z148 := Try.sizeOf129
  v148 := Try.zeroValue129
  t164 := Try.underlying134
  a164 := Try.isAgg134
  z164 := Try.sizeOf134
  v164 := Try.zeroValue134 }
theorem Try.Builder_Extra_105 : Builder.Extra Try.prog Try.lays105_ren := {
  sizeBuilder := by kernel_rfl
  liesBuilder := by kernel_rfl
  t5 := Try.underlying5
  a5 := Try.isAgg5
  z5 := Try.sizeOf5
  v5 := Try.zeroValue5
  infoByte := by kernel_rfl
  cellsByte := by kernel_rfl
  sizeByte := by kernel_rfl
  neB5 := by decide }
open Go.RowKit Go.Lib in
/-- **strings.Repeat: count ≥ 0, the result within one allocation: count copies of s.** (LAID: no walk: one application.) -/
theorem Try.strings_Repeat (s : ByteArray) (c : Nat) (w : World) (hc : c ≤ 9223372036854775807) (hlen : s.size * c ≤ 140737488355328) :
    Calls Try.prog 34 #[.string s, .int .i64 c] w fun e w' => e = .returned (.string ⟨(Lib.repeatL s.data.toList c).toArray⟩) ∧ Below w.heap.size w w' := Any.strings_Repeat Try.lays105 Try.Builder_Extra_105 s c w hc hlen
end Go.Proofs
