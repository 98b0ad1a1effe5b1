/-
  No cell of these rows narrows 'for every input' (looked for: loops, veiled, ifaces, maps, wideKeys, modest, calm, conditions, laid).
  DERIVED. THE GIVEN ROWS OF THIS SEAT. 6 by the template 'for every input the law returns true; each argument reads behind the call as it read before'; 0 by the template 'total and deterministic' (their statements: YtcklgaenedlbiaaTotals.lean).
  GIVEN WITH THE SEED: the statements are not yours to turn. If you find one false, say at which input.
  Laid BY PROGRAM, IN A SANDBOX (cutbox-rows.mjs): the forced cells as the released guide's own fill.sh prints them over the translation 9be91ee3cc50afe2… (all of the seat's roots in one cut). By AI agents, Wed Nov 11 2026. No macro, syntax, notation, axiom, sorry.
-/
import Derived.Test.YtcklgaenedlbiaaChecked
import GoSem.Claim
import GoSem.ClaimJoined
import GoSem.ClaimMapViews
import Derived.JoinedTies
import Derived.KernelRfl
namespace Go.Proofs.Ytcklgaenedlbiaa
/- THE CELL 'sum', in the pinned program and in every row, IS THE sha256 OF THE DUMP (.gsa) THAT YtcklgaenedlbiaaProg.lean LOADS. Nothing in Lean hashes anything: it is a label: what it is worth is what the hold of that sum in a sandbox is worth. -/
noncomputable def Try.pinned : Pinned := { name := "ytcklgaenedlbiaa", sum := "9be91ee3cc50afe2e15b2f28bf77d510f901cb55ee370b855d78435ea57b0efb", checked := Try.checked }
namespace Rows
def none {H : Type} : Left H := { results := [], args := [] }

/-- 'grangerlaw02.CrcParts': WHATEVER THE INPUT: true; the input reads as it did. -/
def crcPartsSpec : ChangeSpec := { name := "crcParts", fn := fun _ => fun
  | [d1, d2, d3] => { results := [.lit (.bool true)], args := [d1, d2, d3] }
  | _ => none }
def crcPartsRow : OpenClaim := { program := "ytcklgaenedlbiaa", sum := "9be91ee3cc50afe2e15b2f28bf77d510f901cb55ee370b855d78435ea57b0efb", func := "granger/grangerlaw02.CrcParts", spec := "crcParts", inPlace := ["internal/bytealg.IndexByteString"], apart := false }
def CrcPartsSaid : Prop := crcPartsRow.holds Try.pinned (OpenSpec.ofChange crcPartsSpec)

/-- ITS FALSE NEIGHBOUR: 'it returns false'. Refute it at one input. -/
def crcPartsWrong : ChangeSpec := { name := "crcParts", fn := fun _ => fun
  | [d1, d2, d3] => { results := [.lit (.bool false)], args := [d1, d2, d3] }
  | _ => none }
def CrcPartsWrongFalsely : Prop := crcPartsRow.holds Try.pinned (OpenSpec.ofChange crcPartsWrong)

/-- 'grangerlaw03.DevExact': WHATEVER THE INPUT: true; the input reads as it did. -/
def devExactSpec : ChangeSpec := { name := "devExact", fn := fun _ => fun
  | [d1, d2] => { results := [.lit (.bool true)], args := [d1, d2] }
  | _ => none }
def devExactRow : OpenClaim := { program := "ytcklgaenedlbiaa", sum := "9be91ee3cc50afe2e15b2f28bf77d510f901cb55ee370b855d78435ea57b0efb", func := "granger/grangerlaw03.DevExact", spec := "devExact", apart := false }
def DevExactSaid : Prop := devExactRow.holds Try.pinned (OpenSpec.ofChange devExactSpec)

/-- ITS FALSE NEIGHBOUR: 'it returns false'. Refute it at one input. -/
def devExactWrong : ChangeSpec := { name := "devExact", fn := fun _ => fun
  | [d1, d2] => { results := [.lit (.bool false)], args := [d1, d2] }
  | _ => none }
def DevExactWrongFalsely : Prop := devExactRow.holds Try.pinned (OpenSpec.ofChange devExactWrong)

/-- 'grangerlaw21.SuperErases': WHATEVER THE INPUT: true; the input reads as it did. -/
def superErasesSpec : ChangeSpec := { name := "superErases", fn := fun _ => fun
  | [d1, d2, d3, d4] => { results := [.lit (.bool true)], args := [d1, d2, d3, d4] }
  | _ => none }
def superErasesRow : OpenClaim := { program := "ytcklgaenedlbiaa", sum := "9be91ee3cc50afe2e15b2f28bf77d510f901cb55ee370b855d78435ea57b0efb", func := "granger/grangerlaw21.SuperErases", spec := "superErases", inPlace := ["internal/abi.NoEscape", "internal/bytealg.MakeNoZero"], unfollowed := true, recurses := true, apart := false }
def SuperErasesSaid : Prop := superErasesRow.holds Try.pinned (OpenSpec.ofChange superErasesSpec)

/-- ITS FALSE NEIGHBOUR: 'it returns false'. Refute it at one input. -/
def superErasesWrong : ChangeSpec := { name := "superErases", fn := fun _ => fun
  | [d1, d2, d3, d4] => { results := [.lit (.bool false)], args := [d1, d2, d3, d4] }
  | _ => none }
def SuperErasesWrongFalsely : Prop := superErasesRow.holds Try.pinned (OpenSpec.ofChange superErasesWrong)

/-- 'grangerlaw23.WalNil': WHATEVER THE INPUT: true; the input reads as it did. -/
def walNilSpec : ChangeSpec := { name := "walNil", fn := fun _ => fun
  | [d1, d2, d3] => { results := [.lit (.bool true)], args := [d1, d2, d3] }
  | _ => none }
def walNilRow : OpenClaim := { program := "ytcklgaenedlbiaa", sum := "9be91ee3cc50afe2e15b2f28bf77d510f901cb55ee370b855d78435ea57b0efb", func := "granger/grangerlaw23.WalNil", spec := "walNil", inPlace := ["internal/abi.NoEscape", "internal/bytealg.MakeNoZero"], unfollowed := true, recurses := true, apart := false }
def WalNilSaid : Prop := walNilRow.holds Try.pinned (OpenSpec.ofChange walNilSpec)

/-- ITS FALSE NEIGHBOUR: 'it returns false'. Refute it at one input. -/
def walNilWrong : ChangeSpec := { name := "walNil", fn := fun _ => fun
  | [d1, d2, d3] => { results := [.lit (.bool false)], args := [d1, d2, d3] }
  | _ => none }
def WalNilWrongFalsely : Prop := walNilRow.holds Try.pinned (OpenSpec.ofChange walNilWrong)

/-- 'grangerlaw23.WalRound': WHATEVER THE INPUT: true; the input reads as it did. -/
def walRoundSpec : ChangeSpec := { name := "walRound", fn := fun _ => fun
  | [d1, d2, d3, d4] => { results := [.lit (.bool true)], args := [d1, d2, d3, d4] }
  | _ => none }
def walRoundRow : OpenClaim := { program := "ytcklgaenedlbiaa", sum := "9be91ee3cc50afe2e15b2f28bf77d510f901cb55ee370b855d78435ea57b0efb", func := "granger/grangerlaw23.WalRound", spec := "walRound", inPlace := ["internal/abi.NoEscape", "internal/bytealg.MakeNoZero"], unfollowed := true, recurses := true, apart := false }
def WalRoundSaid : Prop := walRoundRow.holds Try.pinned (OpenSpec.ofChange walRoundSpec)

/-- ITS FALSE NEIGHBOUR: 'it returns false'. Refute it at one input. -/
def walRoundWrong : ChangeSpec := { name := "walRound", fn := fun _ => fun
  | [d1, d2, d3, d4] => { results := [.lit (.bool false)], args := [d1, d2, d3, d4] }
  | _ => none }
def WalRoundWrongFalsely : Prop := walRoundRow.holds Try.pinned (OpenSpec.ofChange walRoundWrong)

/-- 'grangerlaw23.WalRoom': WHATEVER THE INPUT: true; the input reads as it did. -/
def walRoomSpec : ChangeSpec := { name := "walRoom", fn := fun _ => fun
  | [d1, d2, d3] => { results := [.lit (.bool true)], args := [d1, d2, d3] }
  | _ => none }
def walRoomRow : OpenClaim := { program := "ytcklgaenedlbiaa", sum := "9be91ee3cc50afe2e15b2f28bf77d510f901cb55ee370b855d78435ea57b0efb", func := "granger/grangerlaw23.WalRoom", spec := "walRoom", inPlace := ["internal/abi.NoEscape", "internal/bytealg.MakeNoZero"], unfollowed := true, recurses := true, apart := false }
def WalRoomSaid : Prop := walRoomRow.holds Try.pinned (OpenSpec.ofChange walRoomSpec)

/-- ITS FALSE NEIGHBOUR: 'it returns false'. Refute it at one input. -/
def walRoomWrong : ChangeSpec := { name := "walRoom", fn := fun _ => fun
  | [d1, d2, d3] => { results := [.lit (.bool false)], args := [d1, d2, d3] }
  | _ => none }
def WalRoomWrongFalsely : Prop := walRoomRow.holds Try.pinned (OpenSpec.ofChange walRoomWrong)

/- THE SECOND FORM. 'bulk': how many values and letters a reading holds, each counted each time it is reached (what is shared counts as often as it is met; a slice's spare places count too). A statement '..UptoSaid' is the law's where the arguments, and the package variables that the reading takes, are together of bulk at most 1048576: NARROWER than '..Said'. Prove '..Said' where nothing that the law and all that it calls make is longer than what came in: it says more and counts as full. Else prove '..UptoSaid'. A law counts once. -/
mutual
def uptoBulk {H : Type} : DataW H → Nat
  | .lit (.string bytes) => bytes.length + 1
  | .lit _ => 1
  | .nil => 1
  | .ptr d => uptoBulk d + 1
  | .slice elems spare => uptoBulkAll elems + uptoBulkAll spare + 1
  | .agg parts => uptoBulkAll parts + 1
  | .iface _ d => uptoBulk d + 1
  | .map entries => uptoBulkEntries entries + 1
  | .held _ => 1
def uptoBulkAll {H : Type} : List (DataW H) → Nat
  | [] => 0
  | d :: r => uptoBulk d + uptoBulkAll r
def uptoBulkEntries {H : Type} : List (Lit × DataW H) → Nat
  | [] => 0
  | x :: r => uptoBulkEntry x + uptoBulkEntries r
def uptoBulkEntry {H : Type} : Lit × DataW H → Nat
  | (.string bytes, d) => bytes.length + uptoBulk d + 1
  | (_, d) => uptoBulk d + 1
 end
def uptoSmall : (H : Type) → List (DataW H) → Bool := fun _ ds => decide (uptoBulkAll ds ≤ 1048576)
def OpenSpec.upto (s : _root_.Go.ChangeSpec) : _root_.Go.OpenSpec := { _root_.Go.OpenSpec.ofChange s with cond := some uptoSmall }

/-- 'grangerlaw02.CrcParts', WHERE WHAT IT READS IS OF BULK AT MOST 1048576: true; the input reads as it did. -/
def crcPartsUptoRow : OpenClaim := { program := "ytcklgaenedlbiaa", sum := "9be91ee3cc50afe2e15b2f28bf77d510f901cb55ee370b855d78435ea57b0efb", func := "granger/grangerlaw02.CrcParts", spec := "crcParts", inPlace := ["internal/bytealg.IndexByteString"], apart := false, narrowed := true }
def CrcPartsUptoSaid : Prop := crcPartsUptoRow.holds Try.pinned (OpenSpec.upto crcPartsSpec)

/-- 'grangerlaw03.DevExact', WHERE WHAT IT READS IS OF BULK AT MOST 1048576: true; the input reads as it did. -/
def devExactUptoRow : OpenClaim := { program := "ytcklgaenedlbiaa", sum := "9be91ee3cc50afe2e15b2f28bf77d510f901cb55ee370b855d78435ea57b0efb", func := "granger/grangerlaw03.DevExact", spec := "devExact", apart := false, narrowed := true }
def DevExactUptoSaid : Prop := devExactUptoRow.holds Try.pinned (OpenSpec.upto devExactSpec)

/-- 'grangerlaw21.SuperErases', WHERE WHAT IT READS IS OF BULK AT MOST 1048576: true; the input reads as it did. -/
def superErasesUptoRow : OpenClaim := { program := "ytcklgaenedlbiaa", sum := "9be91ee3cc50afe2e15b2f28bf77d510f901cb55ee370b855d78435ea57b0efb", func := "granger/grangerlaw21.SuperErases", spec := "superErases", inPlace := ["internal/abi.NoEscape", "internal/bytealg.MakeNoZero"], unfollowed := true, recurses := true, apart := false, narrowed := true }
def SuperErasesUptoSaid : Prop := superErasesUptoRow.holds Try.pinned (OpenSpec.upto superErasesSpec)

/-- 'grangerlaw23.WalNil', WHERE WHAT IT READS IS OF BULK AT MOST 1048576: true; the input reads as it did. -/
def walNilUptoRow : OpenClaim := { program := "ytcklgaenedlbiaa", sum := "9be91ee3cc50afe2e15b2f28bf77d510f901cb55ee370b855d78435ea57b0efb", func := "granger/grangerlaw23.WalNil", spec := "walNil", inPlace := ["internal/abi.NoEscape", "internal/bytealg.MakeNoZero"], unfollowed := true, recurses := true, apart := false, narrowed := true }
def WalNilUptoSaid : Prop := walNilUptoRow.holds Try.pinned (OpenSpec.upto walNilSpec)

/-- 'grangerlaw23.WalRound', WHERE WHAT IT READS IS OF BULK AT MOST 1048576: true; the input reads as it did. -/
def walRoundUptoRow : OpenClaim := { program := "ytcklgaenedlbiaa", sum := "9be91ee3cc50afe2e15b2f28bf77d510f901cb55ee370b855d78435ea57b0efb", func := "granger/grangerlaw23.WalRound", spec := "walRound", inPlace := ["internal/abi.NoEscape", "internal/bytealg.MakeNoZero"], unfollowed := true, recurses := true, apart := false, narrowed := true }
def WalRoundUptoSaid : Prop := walRoundUptoRow.holds Try.pinned (OpenSpec.upto walRoundSpec)

/-- 'grangerlaw23.WalRoom', WHERE WHAT IT READS IS OF BULK AT MOST 1048576: true; the input reads as it did. -/
def walRoomUptoRow : OpenClaim := { program := "ytcklgaenedlbiaa", sum := "9be91ee3cc50afe2e15b2f28bf77d510f901cb55ee370b855d78435ea57b0efb", func := "granger/grangerlaw23.WalRoom", spec := "walRoom", inPlace := ["internal/abi.NoEscape", "internal/bytealg.MakeNoZero"], unfollowed := true, recurses := true, apart := false, narrowed := true }
def WalRoomUptoSaid : Prop := walRoomUptoRow.holds Try.pinned (OpenSpec.upto walRoomSpec)

end Rows
end Go.Proofs.Ytcklgaenedlbiaa
