/-
  Contracts of Go's library at this dump, in plain words.
-/
import Derived.Shelf.Strings.Repeat
import Derived.Test.YtcklgaenedlbiaaProg
namespace Go.Proofs
open Go.Shelf
def Try.lays105_ren : Go.Shelf.Ren := ⟨fun | 105 => 71 | 212 => 91 | 99 => 92 | 165 => 93 | 166 => 94 | 170 => 95 | 169 => 96 | 263 => 115 | 264 => 116 | 206 => 117 | 240 => 118 | 241 => 119 | 276 => 126 | 277 => 127 | n => n, fun | 9 => 9 | 3 => 3 | 4 => 4 | 20 => 20 | 0 => 0 | 46 => 23 | 109 => 139 | 5 => 5 | 72 => 129 | 76 => 145 | 51 => 24 | 146 => 160 | 53 => 162 | 148 => 163 | 70 => 127 | 37 => 63 | 75 => 144 | 127 => 165 | 164 => 169 | 80 => 54 | n => n, fun | n => n⟩
theorem Try.lays105 : Go.Proofs.Lays.n105 Try.prog Try.lays105_ren := {
  mixed := by kernel_rfl
  f99 := Try.func92.trans (congrArg some (by kernel_rfl))
  f105 := Try.func71.trans (congrArg some (by kernel_rfl))
  f165 := Try.func93.trans (congrArg some (by kernel_rfl))
  f166 := Try.func94.trans (congrArg some (by kernel_rfl))
  f169 := Try.func96.trans (congrArg some (by kernel_rfl))
  f170 := Try.func95.trans (congrArg some (by kernel_rfl))
  f206 := Try.func117.trans (congrArg some (by kernel_rfl))
  f212 := Try.func91.trans (congrArg some (by kernel_rfl))
  f240 := Try.func118.trans (congrArg some (by kernel_rfl))
  f241 := Try.func119.trans (congrArg some (by kernel_rfl))
  f263 := Try.func115.trans (congrArg some (by kernel_rfl))
  f264 := Try.func116.trans (congrArg some (by kernel_rfl))
  f276 := Try.func126.trans (congrArg some (by kernel_rfl))
  f277 := Try.func127.trans (congrArg some (by kernel_rfl))
  t0 := Try.underlying0
  a0 := Try.isAgg0
  z0 := Try.sizeOf0
  v0 := Try.zeroValue0
  t3 := Try.underlying3
  a3 := Try.isAgg3
  z3 := Try.sizeOf3
  v3 := Try.zeroValue3
  t4 := Try.underlying4
  a4 := Try.isAgg4
  z4 := Try.sizeOf4
  v4 := Try.zeroValue4
  t5 := Try.underlying5
  a5 := Try.isAgg5
  z5 := Try.sizeOf5
  v5 := Try.zeroValue5
  t9 := Try.underlying9
  a9 := Try.isAgg9
  z9 := Try.sizeOf9
  v9 := Try.zeroValue9
  t20 := Try.underlying20
  a20 := Try.isAgg20
  z20 := Try.sizeOf20
  v20 := Try.zeroValue20
  t37 := Try.underlying63
  a37 := Try.isAgg63
  z37 := Try.sizeOf63
  v37 := Try.zeroValue63
  t46 := Try.underlying23
  a46 := Try.isAgg23
  z46 := Try.sizeOf23
  v46 := Try.zeroValue23
  t51 := Try.underlying24
  a51 := Try.isAgg24
  z51 := Try.sizeOf24
  v51 := Try.zeroValue24
  t53 := Try.underlying162
  a53 := Try.isAgg162
  z53 := Try.sizeOf162
  v53 := Try.zeroValue162
  t70 := Try.underlying127
  a70 := Try.isAgg127
  z70 := Try.sizeOf127
  v70 := Try.zeroValue127
  t72 := Try.underlying129
  a72 := Try.isAgg129
  z72 := Try.sizeOf129
  v72 := Try.zeroValue129
  t75 := Try.underlying144
  a75 := Try.isAgg144
  z75 := Try.sizeOf144
  v75 := Try.zeroValue144
  t76 := Try.underlying145
  a76 := Try.isAgg145
  z76 := Try.sizeOf145
  v76 := Try.zeroValue145
  t109 := Try.underlying139
  a109 := Try.isAgg139
  z109 := Try.sizeOf139
  v109 := Try.zeroValue139
  t127 := Try.underlying165
  a127 := Try.isAgg165
  z127 := Try.sizeOf165
  v127 := Try.zeroValue165
  t146 := Try.underlying160
  a146 := Try.isAgg160
  z146 := Try.sizeOf160
  v146 := Try.zeroValue160
  t148 := Try.underlying163
  a148 := Try.isAgg163
  z148 := Try.sizeOf163
  v148 := Try.zeroValue163
  t164 := Try.underlying169
  a164 := Try.isAgg169
  z164 := Try.sizeOf169
  v164 := Try.zeroValue169 }
theorem Try.Builder_Extra_105 : Builder.Extra Try.prog Try.lays105_ren := {
  sizeBuilder := by kernel_rfl
  liesBuilder := by kernel_rfl
  t5 := Try.underlying5
  a5 := Try.isAgg5
  z5 := Try.sizeOf5
  v5 := Try.zeroValue5
  infoByte := by kernel_rfl
  cellsByte := by kernel_rfl
  sizeByte := by kernel_rfl
  neB5 := by decide }
open Go.RowKit Go.Lib in
/-- **strings.Repeat: count ≥ 0, the result within one allocation: count copies of s.** (LAID: no walk: one application.) -/
theorem Try.strings_Repeat (s : ByteArray) (c : Nat) (w : World) (hc : c ≤ 9223372036854775807) (hlen : s.size * c ≤ 140737488355328) :
    Calls Try.prog 71 #[.string s, .int .i64 c] w fun e w' => e = .returned (.string ⟨(Lib.repeatL s.data.toList c).toArray⟩) ∧ Below w.heap.size w w' := Any.strings_Repeat Try.lays105 Try.Builder_Extra_105 s c w hc hlen
end Go.Proofs
