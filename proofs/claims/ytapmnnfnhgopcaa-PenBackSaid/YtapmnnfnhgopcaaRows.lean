/-
  No cell of these rows narrows 'for every input' (looked for: loops, veiled, ifaces, maps, wideKeys, modest, calm, conditions, laid).
  DERIVED. THE GIVEN ROWS OF THIS SEAT. 13 by the template 'for every input the law returns true; each argument reads behind the call as it read before'; 0 by the template 'total and deterministic' (their statements: YtapmnnfnhgopcaaTotals.lean).
  GIVEN WITH THE SEED: the statements are not yours to turn. If you find one false, say at which input.
  Laid BY PROGRAM, IN A SANDBOX (cutbox-rows.mjs): the forced cells as the released guide's own fill.sh prints them over the translation e8037d3c6262417a… (all of the seat's roots in one cut). By AI agents, Wed Nov 11 2026. No macro, syntax, notation, axiom, sorry.
-/
import Derived.Test.YtapmnnfnhgopcaaChecked
import GoSem.Claim
import GoSem.ClaimJoined
import GoSem.ClaimMapViews
import Derived.JoinedTies
import Derived.KernelRfl
namespace Go.Proofs.Ytapmnnfnhgopcaa
/- THE CELL 'sum', in the pinned program and in every row, IS THE sha256 OF THE DUMP (.gsa) THAT YtapmnnfnhgopcaaProg.lean LOADS. Nothing in Lean hashes anything: it is a label: what it is worth is what the hold of that sum in a sandbox is worth. -/
noncomputable def Try.pinned : Pinned := { name := "ytapmnnfnhgopcaa", sum := "e8037d3c6262417a29ba5ae4862bd5457acdb50d143522904cd33310b6d0aa53", checked := Try.checked }
namespace Rows
def none {H : Type} : Left H := { results := [], args := [] }

/-- 'grangerlaw02.CrcExact': WHATEVER THE INPUT: true; the input reads as it did. -/
def crcExactSpec : ChangeSpec := { name := "crcExact", fn := fun _ => fun
  | [d1, d2] => { results := [.lit (.bool true)], args := [d1, d2] }
  | _ => none }
def crcExactRow : OpenClaim := { program := "ytapmnnfnhgopcaa", sum := "e8037d3c6262417a29ba5ae4862bd5457acdb50d143522904cd33310b6d0aa53", func := "granger/grangerlaw02.CrcExact", spec := "crcExact", inPlace := ["internal/bytealg.IndexByteString"], apart := false }
def CrcExactSaid : Prop := crcExactRow.holds Try.pinned (OpenSpec.ofChange crcExactSpec)

/-- ITS FALSE NEIGHBOUR: 'it returns false'. Refute it at one input. -/
def crcExactWrong : ChangeSpec := { name := "crcExact", fn := fun _ => fun
  | [d1, d2] => { results := [.lit (.bool false)], args := [d1, d2] }
  | _ => none }
def CrcExactWrongFalsely : Prop := crcExactRow.holds Try.pinned (OpenSpec.ofChange crcExactWrong)

/-- 'grangerlaw02.CrcTexts': WHATEVER THE INPUT: true; the input reads as it did. -/
def crcTextsSpec : ChangeSpec := { name := "crcTexts", fn := fun _ => fun
  | [d1, d2] => { results := [.lit (.bool true)], args := [d1, d2] }
  | _ => none }
def crcTextsRow : OpenClaim := { program := "ytapmnnfnhgopcaa", sum := "e8037d3c6262417a29ba5ae4862bd5457acdb50d143522904cd33310b6d0aa53", func := "granger/grangerlaw02.CrcTexts", spec := "crcTexts", inPlace := ["internal/bytealg.IndexByteString"], apart := false }
def CrcTextsSaid : Prop := crcTextsRow.holds Try.pinned (OpenSpec.ofChange crcTextsSpec)

/-- ITS FALSE NEIGHBOUR: 'it returns false'. Refute it at one input. -/
def crcTextsWrong : ChangeSpec := { name := "crcTexts", fn := fun _ => fun
  | [d1, d2] => { results := [.lit (.bool false)], args := [d1, d2] }
  | _ => none }
def CrcTextsWrongFalsely : Prop := crcTextsRow.holds Try.pinned (OpenSpec.ofChange crcTextsWrong)

/-- 'grangerlaw02.CrcParts': WHATEVER THE INPUT: true; the input reads as it did. -/
def crcPartsSpec : ChangeSpec := { name := "crcParts", fn := fun _ => fun
  | [d1, d2, d3] => { results := [.lit (.bool true)], args := [d1, d2, d3] }
  | _ => none }
def crcPartsRow : OpenClaim := { program := "ytapmnnfnhgopcaa", sum := "e8037d3c6262417a29ba5ae4862bd5457acdb50d143522904cd33310b6d0aa53", func := "granger/grangerlaw02.CrcParts", spec := "crcParts", inPlace := ["internal/bytealg.IndexByteString"], apart := false }
def CrcPartsSaid : Prop := crcPartsRow.holds Try.pinned (OpenSpec.ofChange crcPartsSpec)

/-- ITS FALSE NEIGHBOUR: 'it returns false'. Refute it at one input. -/
def crcPartsWrong : ChangeSpec := { name := "crcParts", fn := fun _ => fun
  | [d1, d2, d3] => { results := [.lit (.bool false)], args := [d1, d2, d3] }
  | _ => none }
def CrcPartsWrongFalsely : Prop := crcPartsRow.holds Try.pinned (OpenSpec.ofChange crcPartsWrong)

/-- 'grangerlaw02.CrcTurned': WHATEVER THE INPUT: true; the input reads as it did. -/
def crcTurnedSpec : ChangeSpec := { name := "crcTurned", fn := fun _ => fun
  | [d1, d2, d3] => { results := [.lit (.bool true)], args := [d1, d2, d3] }
  | _ => none }
def crcTurnedRow : OpenClaim := { program := "ytapmnnfnhgopcaa", sum := "e8037d3c6262417a29ba5ae4862bd5457acdb50d143522904cd33310b6d0aa53", func := "granger/grangerlaw02.CrcTurned", spec := "crcTurned", inPlace := ["internal/bytealg.IndexByteString"], apart := false }
def CrcTurnedSaid : Prop := crcTurnedRow.holds Try.pinned (OpenSpec.ofChange crcTurnedSpec)

/-- ITS FALSE NEIGHBOUR: 'it returns false'. Refute it at one input. -/
def crcTurnedWrong : ChangeSpec := { name := "crcTurned", fn := fun _ => fun
  | [d1, d2, d3] => { results := [.lit (.bool false)], args := [d1, d2, d3] }
  | _ => none }
def CrcTurnedWrongFalsely : Prop := crcTurnedRow.holds Try.pinned (OpenSpec.ofChange crcTurnedWrong)

/-- 'grangerlaw03.DevSafe': WHATEVER THE INPUT: true; the input reads as it did. -/
def devSafeSpec : ChangeSpec := { name := "devSafe", fn := fun _ => fun
  | [d1, d2, d3, d4] => { results := [.lit (.bool true)], args := [d1, d2, d3, d4] }
  | _ => none }
def devSafeRow : OpenClaim := { program := "ytapmnnfnhgopcaa", sum := "e8037d3c6262417a29ba5ae4862bd5457acdb50d143522904cd33310b6d0aa53", func := "granger/grangerlaw03.DevSafe", spec := "devSafe", apart := false }
def DevSafeSaid : Prop := devSafeRow.holds Try.pinned (OpenSpec.ofChange devSafeSpec)

/-- ITS FALSE NEIGHBOUR: 'it returns false'. Refute it at one input. -/
def devSafeWrong : ChangeSpec := { name := "devSafe", fn := fun _ => fun
  | [d1, d2, d3, d4] => { results := [.lit (.bool false)], args := [d1, d2, d3, d4] }
  | _ => none }
def DevSafeWrongFalsely : Prop := devSafeRow.holds Try.pinned (OpenSpec.ofChange devSafeWrong)

/-- 'grangerlaw03.DevAll': WHATEVER THE INPUT: true; the input reads as it did. -/
def devAllSpec : ChangeSpec := { name := "devAll", fn := fun _ => fun
  | [d] => { results := [.lit (.bool true)], args := [d] }
  | _ => none }
def devAllRow : OpenClaim := { program := "ytapmnnfnhgopcaa", sum := "e8037d3c6262417a29ba5ae4862bd5457acdb50d143522904cd33310b6d0aa53", func := "granger/grangerlaw03.DevAll", spec := "devAll", apart := false }
def DevAllSaid : Prop := devAllRow.holds Try.pinned (OpenSpec.ofChange devAllSpec)

/-- ITS FALSE NEIGHBOUR: 'it returns false'. Refute it at one input. -/
def devAllWrong : ChangeSpec := { name := "devAll", fn := fun _ => fun
  | [d] => { results := [.lit (.bool false)], args := [d] }
  | _ => none }
def DevAllWrongFalsely : Prop := devAllRow.holds Try.pinned (OpenSpec.ofChange devAllWrong)

/-- 'grangerlaw07.KeyParts': WHATEVER THE INPUT: true; the input reads as it did. -/
def keyPartsSpec : ChangeSpec := { name := "keyParts", fn := fun _ => fun
  | [d1, d2, d3, d4] => { results := [.lit (.bool true)], args := [d1, d2, d3, d4] }
  | _ => none }
def keyPartsRow : OpenClaim := { program := "ytapmnnfnhgopcaa", sum := "e8037d3c6262417a29ba5ae4862bd5457acdb50d143522904cd33310b6d0aa53", func := "granger/grangerlaw07.KeyParts", spec := "keyParts", unfollowed := true, recurses := true, apart := false }
def KeyPartsSaid : Prop := keyPartsRow.holds Try.pinned (OpenSpec.ofChange keyPartsSpec)

/-- ITS FALSE NEIGHBOUR: 'it returns false'. Refute it at one input. -/
def keyPartsWrong : ChangeSpec := { name := "keyParts", fn := fun _ => fun
  | [d1, d2, d3, d4] => { results := [.lit (.bool false)], args := [d1, d2, d3, d4] }
  | _ => none }
def KeyPartsWrongFalsely : Prop := keyPartsRow.holds Try.pinned (OpenSpec.ofChange keyPartsWrong)

/-- 'grangerlaw07.KeyNumbers': WHATEVER THE INPUT: true; the input reads as it did. -/
def keyNumbersSpec : ChangeSpec := { name := "keyNumbers", fn := fun _ => fun
  | [d1, d2] => { results := [.lit (.bool true)], args := [d1, d2] }
  | _ => none }
def keyNumbersRow : OpenClaim := { program := "ytapmnnfnhgopcaa", sum := "e8037d3c6262417a29ba5ae4862bd5457acdb50d143522904cd33310b6d0aa53", func := "granger/grangerlaw07.KeyNumbers", spec := "keyNumbers", inPlace := ["internal/abi.NoEscape"], unfollowed := true, recurses := true, apart := false }
def KeyNumbersSaid : Prop := keyNumbersRow.holds Try.pinned (OpenSpec.ofChange keyNumbersSpec)

/-- ITS FALSE NEIGHBOUR: 'it returns false'. Refute it at one input. -/
def keyNumbersWrong : ChangeSpec := { name := "keyNumbers", fn := fun _ => fun
  | [d1, d2] => { results := [.lit (.bool false)], args := [d1, d2] }
  | _ => none }
def KeyNumbersWrongFalsely : Prop := keyNumbersRow.holds Try.pinned (OpenSpec.ofChange keyNumbersWrong)

/-- 'grangerlaw01.PenWrites': WHATEVER THE INPUT: true; the input reads as it did. -/
def penWritesSpec : ChangeSpec := { name := "penWrites", fn := fun _ => fun
  | [d] => { results := [.lit (.bool true)], args := [d] }
  | _ => none }
def penWritesRow : OpenClaim := { program := "ytapmnnfnhgopcaa", sum := "e8037d3c6262417a29ba5ae4862bd5457acdb50d143522904cd33310b6d0aa53", func := "granger/grangerlaw01.PenWrites", spec := "penWrites", inPlace := ["internal/abi.NoEscape"], unfollowed := true, recurses := true, apart := false }
def PenWritesSaid : Prop := penWritesRow.holds Try.pinned (OpenSpec.ofChange penWritesSpec)

/-- ITS FALSE NEIGHBOUR: 'it returns false'. Refute it at one input. -/
def penWritesWrong : ChangeSpec := { name := "penWrites", fn := fun _ => fun
  | [d] => { results := [.lit (.bool false)], args := [d] }
  | _ => none }
def PenWritesWrongFalsely : Prop := penWritesRow.holds Try.pinned (OpenSpec.ofChange penWritesWrong)

/-- 'grangerlaw03.DevExact': WHATEVER THE INPUT: true; the input reads as it did. -/
def devExactSpec : ChangeSpec := { name := "devExact", fn := fun _ => fun
  | [d1, d2] => { results := [.lit (.bool true)], args := [d1, d2] }
  | _ => none }
def devExactRow : OpenClaim := { program := "ytapmnnfnhgopcaa", sum := "e8037d3c6262417a29ba5ae4862bd5457acdb50d143522904cd33310b6d0aa53", func := "granger/grangerlaw03.DevExact", spec := "devExact", apart := false }
def DevExactSaid : Prop := devExactRow.holds Try.pinned (OpenSpec.ofChange devExactSpec)

/-- ITS FALSE NEIGHBOUR: 'it returns false'. Refute it at one input. -/
def devExactWrong : ChangeSpec := { name := "devExact", fn := fun _ => fun
  | [d1, d2] => { results := [.lit (.bool false)], args := [d1, d2] }
  | _ => none }
def DevExactWrongFalsely : Prop := devExactRow.holds Try.pinned (OpenSpec.ofChange devExactWrong)

/-- 'grangerlaw03.DevSizes': WHATEVER THE INPUT: true; the input reads as it did. -/
def devSizesSpec : ChangeSpec := { name := "devSizes", fn := fun _ => fun
  | [d1, d2] => { results := [.lit (.bool true)], args := [d1, d2] }
  | _ => none }
def devSizesRow : OpenClaim := { program := "ytapmnnfnhgopcaa", sum := "e8037d3c6262417a29ba5ae4862bd5457acdb50d143522904cd33310b6d0aa53", func := "granger/grangerlaw03.DevSizes", spec := "devSizes", apart := false }
def DevSizesSaid : Prop := devSizesRow.holds Try.pinned (OpenSpec.ofChange devSizesSpec)

/-- ITS FALSE NEIGHBOUR: 'it returns false'. Refute it at one input. -/
def devSizesWrong : ChangeSpec := { name := "devSizes", fn := fun _ => fun
  | [d1, d2] => { results := [.lit (.bool false)], args := [d1, d2] }
  | _ => none }
def DevSizesWrongFalsely : Prop := devSizesRow.holds Try.pinned (OpenSpec.ofChange devSizesWrong)

/-- 'grangerlaw01.PenReads': WHATEVER THE INPUT: true; the input reads as it did. -/
def penReadsSpec : ChangeSpec := { name := "penReads", fn := fun _ => fun
  | [d1, d2] => { results := [.lit (.bool true)], args := [d1, d2] }
  | _ => none }
def penReadsRow : OpenClaim := { program := "ytapmnnfnhgopcaa", sum := "e8037d3c6262417a29ba5ae4862bd5457acdb50d143522904cd33310b6d0aa53", func := "granger/grangerlaw01.PenReads", spec := "penReads", inPlace := ["internal/abi.NoEscape"], unfollowed := true, recurses := true, apart := false }
def PenReadsSaid : Prop := penReadsRow.holds Try.pinned (OpenSpec.ofChange penReadsSpec)

/-- ITS FALSE NEIGHBOUR: 'it returns false'. Refute it at one input. -/
def penReadsWrong : ChangeSpec := { name := "penReads", fn := fun _ => fun
  | [d1, d2] => { results := [.lit (.bool false)], args := [d1, d2] }
  | _ => none }
def PenReadsWrongFalsely : Prop := penReadsRow.holds Try.pinned (OpenSpec.ofChange penReadsWrong)

/-- 'grangerlaw01.PenBack': WHATEVER THE INPUT: true; the input reads as it did. -/
def penBackSpec : ChangeSpec := { name := "penBack", fn := fun _ => fun
  | [d1, d2, d3] => { results := [.lit (.bool true)], args := [d1, d2, d3] }
  | _ => none }
def penBackRow : OpenClaim := { program := "ytapmnnfnhgopcaa", sum := "e8037d3c6262417a29ba5ae4862bd5457acdb50d143522904cd33310b6d0aa53", func := "granger/grangerlaw01.PenBack", spec := "penBack", inPlace := ["internal/abi.NoEscape"], unfollowed := true, recurses := true, apart := false }
def PenBackSaid : Prop := penBackRow.holds Try.pinned (OpenSpec.ofChange penBackSpec)

/-- ITS FALSE NEIGHBOUR: 'it returns false'. Refute it at one input. -/
def penBackWrong : ChangeSpec := { name := "penBack", fn := fun _ => fun
  | [d1, d2, d3] => { results := [.lit (.bool false)], args := [d1, d2, d3] }
  | _ => none }
def PenBackWrongFalsely : Prop := penBackRow.holds Try.pinned (OpenSpec.ofChange penBackWrong)

/- THE SECOND FORM. 'bulk': how many values and letters a reading holds, each counted each time it is reached (what is shared counts as often as it is met; a slice's spare places count too). A statement '..UptoSaid' is the law's where the arguments, and the package variables that the reading takes, are together of bulk at most 1048576: NARROWER than '..Said'. Prove '..Said' where nothing that the law and all that it calls make is longer than what came in: it says more and counts as full. Else prove '..UptoSaid'. A law counts once. -/
mutual
def uptoBulk {H : Type} : DataW H → Nat
  | .lit (.string bytes) => bytes.length + 1
  | .lit _ => 1
  | .nil => 1
  | .ptr d => uptoBulk d + 1
  | .slice elems spare => uptoBulkAll elems + uptoBulkAll spare + 1
  | .agg parts => uptoBulkAll parts + 1
  | .iface _ d => uptoBulk d + 1
  | .map entries => uptoBulkEntries entries + 1
  | .held _ => 1
def uptoBulkAll {H : Type} : List (DataW H) → Nat
  | [] => 0
  | d :: r => uptoBulk d + uptoBulkAll r
def uptoBulkEntries {H : Type} : List (Lit × DataW H) → Nat
  | [] => 0
  | x :: r => uptoBulkEntry x + uptoBulkEntries r
def uptoBulkEntry {H : Type} : Lit × DataW H → Nat
  | (.string bytes, d) => bytes.length + uptoBulk d + 1
  | (_, d) => uptoBulk d + 1
 end
def uptoSmall : (H : Type) → List (DataW H) → Bool := fun _ ds => decide (uptoBulkAll ds ≤ 1048576)
def OpenSpec.upto (s : _root_.Go.ChangeSpec) : _root_.Go.OpenSpec := { _root_.Go.OpenSpec.ofChange s with cond := some uptoSmall }

/-- 'grangerlaw02.CrcExact', WHERE WHAT IT READS IS OF BULK AT MOST 1048576: true; the input reads as it did. -/
def crcExactUptoRow : OpenClaim := { program := "ytapmnnfnhgopcaa", sum := "e8037d3c6262417a29ba5ae4862bd5457acdb50d143522904cd33310b6d0aa53", func := "granger/grangerlaw02.CrcExact", spec := "crcExact", inPlace := ["internal/bytealg.IndexByteString"], apart := false, narrowed := true }
def CrcExactUptoSaid : Prop := crcExactUptoRow.holds Try.pinned (OpenSpec.upto crcExactSpec)

/-- 'grangerlaw02.CrcTexts', WHERE WHAT IT READS IS OF BULK AT MOST 1048576: true; the input reads as it did. -/
def crcTextsUptoRow : OpenClaim := { program := "ytapmnnfnhgopcaa", sum := "e8037d3c6262417a29ba5ae4862bd5457acdb50d143522904cd33310b6d0aa53", func := "granger/grangerlaw02.CrcTexts", spec := "crcTexts", inPlace := ["internal/bytealg.IndexByteString"], apart := false, narrowed := true }
def CrcTextsUptoSaid : Prop := crcTextsUptoRow.holds Try.pinned (OpenSpec.upto crcTextsSpec)

/-- 'grangerlaw02.CrcParts', WHERE WHAT IT READS IS OF BULK AT MOST 1048576: true; the input reads as it did. -/
def crcPartsUptoRow : OpenClaim := { program := "ytapmnnfnhgopcaa", sum := "e8037d3c6262417a29ba5ae4862bd5457acdb50d143522904cd33310b6d0aa53", func := "granger/grangerlaw02.CrcParts", spec := "crcParts", inPlace := ["internal/bytealg.IndexByteString"], apart := false, narrowed := true }
def CrcPartsUptoSaid : Prop := crcPartsUptoRow.holds Try.pinned (OpenSpec.upto crcPartsSpec)

/-- 'grangerlaw02.CrcTurned', WHERE WHAT IT READS IS OF BULK AT MOST 1048576: true; the input reads as it did. -/
def crcTurnedUptoRow : OpenClaim := { program := "ytapmnnfnhgopcaa", sum := "e8037d3c6262417a29ba5ae4862bd5457acdb50d143522904cd33310b6d0aa53", func := "granger/grangerlaw02.CrcTurned", spec := "crcTurned", inPlace := ["internal/bytealg.IndexByteString"], apart := false, narrowed := true }
def CrcTurnedUptoSaid : Prop := crcTurnedUptoRow.holds Try.pinned (OpenSpec.upto crcTurnedSpec)

/-- 'grangerlaw03.DevSafe', WHERE WHAT IT READS IS OF BULK AT MOST 1048576: true; the input reads as it did. -/
def devSafeUptoRow : OpenClaim := { program := "ytapmnnfnhgopcaa", sum := "e8037d3c6262417a29ba5ae4862bd5457acdb50d143522904cd33310b6d0aa53", func := "granger/grangerlaw03.DevSafe", spec := "devSafe", apart := false, narrowed := true }
def DevSafeUptoSaid : Prop := devSafeUptoRow.holds Try.pinned (OpenSpec.upto devSafeSpec)

/-- 'grangerlaw03.DevAll', WHERE WHAT IT READS IS OF BULK AT MOST 1048576: true; the input reads as it did. -/
def devAllUptoRow : OpenClaim := { program := "ytapmnnfnhgopcaa", sum := "e8037d3c6262417a29ba5ae4862bd5457acdb50d143522904cd33310b6d0aa53", func := "granger/grangerlaw03.DevAll", spec := "devAll", apart := false, narrowed := true }
def DevAllUptoSaid : Prop := devAllUptoRow.holds Try.pinned (OpenSpec.upto devAllSpec)

/-- 'grangerlaw07.KeyParts', WHERE WHAT IT READS IS OF BULK AT MOST 1048576: true; the input reads as it did. -/
def keyPartsUptoRow : OpenClaim := { program := "ytapmnnfnhgopcaa", sum := "e8037d3c6262417a29ba5ae4862bd5457acdb50d143522904cd33310b6d0aa53", func := "granger/grangerlaw07.KeyParts", spec := "keyParts", unfollowed := true, recurses := true, apart := false, narrowed := true }
def KeyPartsUptoSaid : Prop := keyPartsUptoRow.holds Try.pinned (OpenSpec.upto keyPartsSpec)

/-- 'grangerlaw07.KeyNumbers', WHERE WHAT IT READS IS OF BULK AT MOST 1048576: true; the input reads as it did. -/
def keyNumbersUptoRow : OpenClaim := { program := "ytapmnnfnhgopcaa", sum := "e8037d3c6262417a29ba5ae4862bd5457acdb50d143522904cd33310b6d0aa53", func := "granger/grangerlaw07.KeyNumbers", spec := "keyNumbers", inPlace := ["internal/abi.NoEscape"], unfollowed := true, recurses := true, apart := false, narrowed := true }
def KeyNumbersUptoSaid : Prop := keyNumbersUptoRow.holds Try.pinned (OpenSpec.upto keyNumbersSpec)

/-- 'grangerlaw01.PenWrites', WHERE WHAT IT READS IS OF BULK AT MOST 1048576: true; the input reads as it did. -/
def penWritesUptoRow : OpenClaim := { program := "ytapmnnfnhgopcaa", sum := "e8037d3c6262417a29ba5ae4862bd5457acdb50d143522904cd33310b6d0aa53", func := "granger/grangerlaw01.PenWrites", spec := "penWrites", inPlace := ["internal/abi.NoEscape"], unfollowed := true, recurses := true, apart := false, narrowed := true }
def PenWritesUptoSaid : Prop := penWritesUptoRow.holds Try.pinned (OpenSpec.upto penWritesSpec)

/-- 'grangerlaw03.DevExact', WHERE WHAT IT READS IS OF BULK AT MOST 1048576: true; the input reads as it did. -/
def devExactUptoRow : OpenClaim := { program := "ytapmnnfnhgopcaa", sum := "e8037d3c6262417a29ba5ae4862bd5457acdb50d143522904cd33310b6d0aa53", func := "granger/grangerlaw03.DevExact", spec := "devExact", apart := false, narrowed := true }
def DevExactUptoSaid : Prop := devExactUptoRow.holds Try.pinned (OpenSpec.upto devExactSpec)

/-- 'grangerlaw03.DevSizes', WHERE WHAT IT READS IS OF BULK AT MOST 1048576: true; the input reads as it did. -/
def devSizesUptoRow : OpenClaim := { program := "ytapmnnfnhgopcaa", sum := "e8037d3c6262417a29ba5ae4862bd5457acdb50d143522904cd33310b6d0aa53", func := "granger/grangerlaw03.DevSizes", spec := "devSizes", apart := false, narrowed := true }
def DevSizesUptoSaid : Prop := devSizesUptoRow.holds Try.pinned (OpenSpec.upto devSizesSpec)

/-- 'grangerlaw01.PenReads', WHERE WHAT IT READS IS OF BULK AT MOST 1048576: true; the input reads as it did. -/
def penReadsUptoRow : OpenClaim := { program := "ytapmnnfnhgopcaa", sum := "e8037d3c6262417a29ba5ae4862bd5457acdb50d143522904cd33310b6d0aa53", func := "granger/grangerlaw01.PenReads", spec := "penReads", inPlace := ["internal/abi.NoEscape"], unfollowed := true, recurses := true, apart := false, narrowed := true }
def PenReadsUptoSaid : Prop := penReadsUptoRow.holds Try.pinned (OpenSpec.upto penReadsSpec)

/-- 'grangerlaw01.PenBack', WHERE WHAT IT READS IS OF BULK AT MOST 1048576: true; the input reads as it did. -/
def penBackUptoRow : OpenClaim := { program := "ytapmnnfnhgopcaa", sum := "e8037d3c6262417a29ba5ae4862bd5457acdb50d143522904cd33310b6d0aa53", func := "granger/grangerlaw01.PenBack", spec := "penBack", inPlace := ["internal/abi.NoEscape"], unfollowed := true, recurses := true, apart := false, narrowed := true }
def PenBackUptoSaid : Prop := penBackUptoRow.holds Try.pinned (OpenSpec.upto penBackSpec)

end Rows
end Go.Proofs.Ytapmnnfnhgopcaa
