/-
  Contracts of Go's library at this dump, in plain words.
-/
import Derived.Shelf.Strings.Repeat
import Derived.Test.YtjeoelhenlckaaaProg
namespace Go.Proofs
open Go.Shelf
def Try.lays105_ren : Go.Shelf.Ren := ⟨fun | 105 => 106 | 212 => 112 | 99 => 113 | 165 => 114 | 166 => 92 | 170 => 115 | 169 => 98 | 263 => 121 | 264 => 122 | 206 => 123 | 240 => 108 | 241 => 124 | 276 => 118 | 277 => 127 | n => n, fun | 9 => 9 | 3 => 3 | 4 => 4 | 20 => 20 | 0 => 0 | 46 => 68 | 109 => 159 | 5 => 5 | 72 => 99 | 76 => 139 | 51 => 155 | 146 => 168 | 53 => 170 | 148 => 171 | 70 => 97 | 37 => 64 | 75 => 138 | 127 => 157 | 164 => 164 | 80 => 105 | n => n, fun | n => n⟩
theorem Try.lays105 : Go.Proofs.Lays.n105 Try.prog Try.lays105_ren := {
  mixed := by kernel_rfl
  f99 := Try.func113.trans (congrArg some (by kernel_rfl))
  f105 := Try.func106.trans (congrArg some (by kernel_rfl))
  f165 := Try.func114.trans (congrArg some (by kernel_rfl))
  f166 := Try.func92.trans (congrArg some (by kernel_rfl))
  f169 := Try.func98.trans (congrArg some (by kernel_rfl))
  f170 := Try.func115.trans (congrArg some (by kernel_rfl))
  f206 := Try.func123.trans (congrArg some (by kernel_rfl))
  f212 := Try.func112.trans (congrArg some (by kernel_rfl))
  f240 := Try.func108.trans (congrArg some (by kernel_rfl))
  f241 := Try.func124.trans (congrArg some (by kernel_rfl))
  f263 := Try.func121.trans (congrArg some (by kernel_rfl))
  f264 := Try.func122.trans (congrArg some (by kernel_rfl))
  f276 := Try.func118.trans (congrArg some (by kernel_rfl))
  f277 := Try.func127.trans (congrArg some (by kernel_rfl))
  t0 := Try.underlying0
  a0 := Try.isAgg0
  z0 := Try.sizeOf0
  v0 := Try.zeroValue0
  t3 := Try.underlying3
  a3 := Try.isAgg3
  z3 := Try.sizeOf3
  v3 := Try.zeroValue3
  t4 := Try.underlying4
  a4 := Try.isAgg4
  z4 := Try.sizeOf4
  v4 := Try.zeroValue4
  t5 := Try.underlying5
  a5 := Try.isAgg5
  z5 := Try.sizeOf5
  v5 := Try.zeroValue5
  t9 := Try.underlying9
  a9 := Try.isAgg9
  z9 := Try.sizeOf9
  v9 := Try.zeroValue9
  t20 := Try.underlying20
  a20 := Try.isAgg20
  z20 := Try.sizeOf20
  v20 := Try.zeroValue20
  t37 := Try.underlying64
  a37 := Try.isAgg64
  z37 := Try.sizeOf64
  v37 := Try.zeroValue64
  t46 := Try.underlying68
  a46 := Try.isAgg68
  z46 := Try.sizeOf68
  v46 := Try.zeroValue68
  t51 := Try.underlying155
  a51 := Try.isAgg155
  z51 := Try.sizeOf155
  v51 := Try.zeroValue155
  t53 := Try.underlying170
  a53 := Try.isAgg170
  z53 := Try.sizeOf170
  v53 := Try.zeroValue170
  t70 := Try.underlying97
  a70 := Try.isAgg97
  z70 := Try.sizeOf97
  v70 := Try.zeroValue97
  t72 := Try.underlying99
  a72 := Try.isAgg99
  z72 := Try.sizeOf99
  v72 := Try.zeroValue99
  t75 := Try.underlying138
  a75 := Try.isAgg138
  z75 := Try.sizeOf138
  v75 := Try.zeroValue138
  t76 := Try.underlying139
  a76 := Try.isAgg139
  z76 := Try.sizeOf139
  v76 := Try.zeroValue139
  t109 := Try.underlying159
  a109 := Try.isAgg159
  z109 := Try.sizeOf159
  v109 := Try.zeroValue159
  t127 := Try.underlying157
  a127 := Try.isAgg157
  z127 := Try.sizeOf157
  v127 := Try.zeroValue157
  t146 := Try.underlying168
  a146 := Try.isAgg168
  z146 := Try.sizeOf168
  v146 := Try.zeroValue168
  t148 := Try.underlying171
  a148 := Try.isAgg171
  z148 := Try.sizeOf171
  v148 := Try.zeroValue171
  t164 := Try.underlying164
  a164 := Try.isAgg164
  z164 := Try.sizeOf164
  v164 := Try.zeroValue164 }
theorem Try.Builder_Extra_105 : Builder.Extra Try.prog Try.lays105_ren := {
  sizeBuilder := by kernel_rfl
  liesBuilder := by kernel_rfl
  t5 := Try.underlying5
  a5 := Try.isAgg5
  z5 := Try.sizeOf5
  v5 := Try.zeroValue5
  infoByte := by kernel_rfl
  cellsByte := by kernel_rfl
  sizeByte := by kernel_rfl
  neB5 := by decide }
open Go.RowKit Go.Lib in
/-- **strings.Repeat: count ≥ 0, the result within one allocation: count copies of s.** (LAID: no walk: one application.) -/
theorem Try.strings_Repeat (s : ByteArray) (c : Nat) (w : World) (hc : c ≤ 9223372036854775807) (hlen : s.size * c ≤ 140737488355328) :
    Calls Try.prog 106 #[.string s, .int .i64 c] w fun e w' => e = .returned (.string ⟨(Lib.repeatL s.data.toList c).toArray⟩) ∧ Below w.heap.size w w' := Any.strings_Repeat Try.lays105 Try.Builder_Extra_105 s c w hc hlen
end Go.Proofs
