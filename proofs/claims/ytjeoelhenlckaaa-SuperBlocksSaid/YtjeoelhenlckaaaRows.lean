/-
  No cell of these rows narrows 'for every input' (looked for: loops, veiled, ifaces, maps, wideKeys, modest, calm, conditions, laid).
  DERIVED. THE GIVEN ROWS OF THIS SEAT. 8 by the template 'for every input the law returns true; each argument reads behind the call as it read before'; 0 by the template 'total and deterministic' (their statements: YtjeoelhenlckaaaTotals.lean).
  GIVEN WITH THE SEED: the statements are not yours to turn. If you find one false, say at which input.
  Laid BY PROGRAM, IN A SANDBOX (cutbox-rows.mjs): the forced cells as the released guide's own fill.sh prints them over the translation 0e0a5212fea588c5… (all of the seat's roots in one cut). By AI agents, Wed Nov 11 2026. No macro, syntax, notation, axiom, sorry.
-/
import Derived.Test.YtjeoelhenlckaaaChecked
import GoSem.Claim
import GoSem.ClaimJoined
import GoSem.ClaimMapViews
import Derived.JoinedTies
import Derived.KernelRfl
namespace Go.Proofs.Ytjeoelhenlckaaa
/- THE CELL 'sum', in the pinned program and in every row, IS THE sha256 OF THE DUMP (.gsa) THAT YtjeoelhenlckaaaProg.lean LOADS. Nothing in Lean hashes anything: it is a label: what it is worth is what the hold of that sum in a sandbox is worth. -/
noncomputable def Try.pinned : Pinned := { name := "ytjeoelhenlckaaa", sum := "0e0a5212fea588c53966949db88a401fd0e9c5ead86e7c53288b62deaccc9750", checked := Try.checked }
namespace Rows
def none {H : Type} : Left H := { results := [], args := [] }

/-- 'grangerlaw22.RecExact': WHATEVER THE INPUT: true; the input reads as it did. -/
def recExactSpec : ChangeSpec := { name := "recExact", fn := fun _ => fun
  | [d] => { results := [.lit (.bool true)], args := [d] }
  | _ => none }
def recExactRow : OpenClaim := { program := "ytjeoelhenlckaaa", sum := "0e0a5212fea588c53966949db88a401fd0e9c5ead86e7c53288b62deaccc9750", func := "granger/grangerlaw22.RecExact", spec := "recExact", inPlace := ["internal/abi.NoEscape"], unfollowed := true, recurses := true, apart := false }
def RecExactSaid : Prop := recExactRow.holds Try.pinned (OpenSpec.ofChange recExactSpec)

/-- ITS FALSE NEIGHBOUR: 'it returns false'. Refute it at one input. -/
def recExactWrong : ChangeSpec := { name := "recExact", fn := fun _ => fun
  | [d] => { results := [.lit (.bool false)], args := [d] }
  | _ => none }
def RecExactWrongFalsely : Prop := recExactRow.holds Try.pinned (OpenSpec.ofChange recExactWrong)

/-- 'grangerlaw22.RecParse': WHATEVER THE INPUT: true; the input reads as it did. -/
def recParseSpec : ChangeSpec := { name := "recParse", fn := fun _ => fun
  | [d] => { results := [.lit (.bool true)], args := [d] }
  | _ => none }
def recParseRow : OpenClaim := { program := "ytjeoelhenlckaaa", sum := "0e0a5212fea588c53966949db88a401fd0e9c5ead86e7c53288b62deaccc9750", func := "granger/grangerlaw22.RecParse", spec := "recParse", inPlace := ["internal/abi.NoEscape"], unfollowed := true, recurses := true, apart := false }
def RecParseSaid : Prop := recParseRow.holds Try.pinned (OpenSpec.ofChange recParseSpec)

/-- ITS FALSE NEIGHBOUR: 'it returns false'. Refute it at one input. -/
def recParseWrong : ChangeSpec := { name := "recParse", fn := fun _ => fun
  | [d] => { results := [.lit (.bool false)], args := [d] }
  | _ => none }
def RecParseWrongFalsely : Prop := recParseRow.holds Try.pinned (OpenSpec.ofChange recParseWrong)

/-- 'grangerlaw22.RecBack': WHATEVER THE INPUT: true; the input reads as it did. -/
def recBackSpec : ChangeSpec := { name := "recBack", fn := fun _ => fun
  | [d1, d2] => { results := [.lit (.bool true)], args := [d1, d2] }
  | _ => none }
def recBackRow : OpenClaim := { program := "ytjeoelhenlckaaa", sum := "0e0a5212fea588c53966949db88a401fd0e9c5ead86e7c53288b62deaccc9750", func := "granger/grangerlaw22.RecBack", spec := "recBack", inPlace := ["internal/abi.NoEscape"], unfollowed := true, recurses := true, apart := false }
def RecBackSaid : Prop := recBackRow.holds Try.pinned (OpenSpec.ofChange recBackSpec)

/-- ITS FALSE NEIGHBOUR: 'it returns false'. Refute it at one input. -/
def recBackWrong : ChangeSpec := { name := "recBack", fn := fun _ => fun
  | [d1, d2] => { results := [.lit (.bool false)], args := [d1, d2] }
  | _ => none }
def RecBackWrongFalsely : Prop := recBackRow.holds Try.pinned (OpenSpec.ofChange recBackWrong)

/-- 'grangerlaw22.RecGrows': WHATEVER THE INPUT: true; the input reads as it did. -/
def recGrowsSpec : ChangeSpec := { name := "recGrows", fn := fun _ => fun
  | [d1, d2] => { results := [.lit (.bool true)], args := [d1, d2] }
  | _ => none }
def recGrowsRow : OpenClaim := { program := "ytjeoelhenlckaaa", sum := "0e0a5212fea588c53966949db88a401fd0e9c5ead86e7c53288b62deaccc9750", func := "granger/grangerlaw22.RecGrows", spec := "recGrows", inPlace := ["internal/abi.NoEscape"], unfollowed := true, recurses := true, apart := false }
def RecGrowsSaid : Prop := recGrowsRow.holds Try.pinned (OpenSpec.ofChange recGrowsSpec)

/-- ITS FALSE NEIGHBOUR: 'it returns false'. Refute it at one input. -/
def recGrowsWrong : ChangeSpec := { name := "recGrows", fn := fun _ => fun
  | [d1, d2] => { results := [.lit (.bool false)], args := [d1, d2] }
  | _ => none }
def RecGrowsWrongFalsely : Prop := recGrowsRow.holds Try.pinned (OpenSpec.ofChange recGrowsWrong)

/-- 'grangerlaw21.SuperBlocks': WHATEVER THE INPUT: true; the input reads as it did. -/
def superBlocksSpec : ChangeSpec := { name := "superBlocks", fn := fun _ => fun
  | [d1, d2] => { results := [.lit (.bool true)], args := [d1, d2] }
  | _ => none }
def superBlocksRow : OpenClaim := { program := "ytjeoelhenlckaaa", sum := "0e0a5212fea588c53966949db88a401fd0e9c5ead86e7c53288b62deaccc9750", func := "granger/grangerlaw21.SuperBlocks", spec := "superBlocks", inPlace := ["internal/abi.NoEscape", "internal/bytealg.MakeNoZero"], unfollowed := true, recurses := true, apart := false }
def SuperBlocksSaid : Prop := superBlocksRow.holds Try.pinned (OpenSpec.ofChange superBlocksSpec)

/-- ITS FALSE NEIGHBOUR: 'it returns false'. Refute it at one input. -/
def superBlocksWrong : ChangeSpec := { name := "superBlocks", fn := fun _ => fun
  | [d1, d2] => { results := [.lit (.bool false)], args := [d1, d2] }
  | _ => none }
def SuperBlocksWrongFalsely : Prop := superBlocksRow.holds Try.pinned (OpenSpec.ofChange superBlocksWrong)

/-- 'grangerlaw21.SuperBack': WHATEVER THE INPUT: true; the input reads as it did. -/
def superBackSpec : ChangeSpec := { name := "superBack", fn := fun _ => fun
  | [d1, d2, d3] => { results := [.lit (.bool true)], args := [d1, d2, d3] }
  | _ => none }
def superBackRow : OpenClaim := { program := "ytjeoelhenlckaaa", sum := "0e0a5212fea588c53966949db88a401fd0e9c5ead86e7c53288b62deaccc9750", func := "granger/grangerlaw21.SuperBack", spec := "superBack", inPlace := ["internal/abi.NoEscape", "internal/bytealg.MakeNoZero"], unfollowed := true, recurses := true, apart := false }
def SuperBackSaid : Prop := superBackRow.holds Try.pinned (OpenSpec.ofChange superBackSpec)

/-- ITS FALSE NEIGHBOUR: 'it returns false'. Refute it at one input. -/
def superBackWrong : ChangeSpec := { name := "superBack", fn := fun _ => fun
  | [d1, d2, d3] => { results := [.lit (.bool false)], args := [d1, d2, d3] }
  | _ => none }
def SuperBackWrongFalsely : Prop := superBackRow.holds Try.pinned (OpenSpec.ofChange superBackWrong)

/-- 'grangerlaw21.SuperErases': WHATEVER THE INPUT: true; the input reads as it did. -/
def superErasesSpec : ChangeSpec := { name := "superErases", fn := fun _ => fun
  | [d1, d2, d3, d4] => { results := [.lit (.bool true)], args := [d1, d2, d3, d4] }
  | _ => none }
def superErasesRow : OpenClaim := { program := "ytjeoelhenlckaaa", sum := "0e0a5212fea588c53966949db88a401fd0e9c5ead86e7c53288b62deaccc9750", func := "granger/grangerlaw21.SuperErases", spec := "superErases", inPlace := ["internal/abi.NoEscape", "internal/bytealg.MakeNoZero"], unfollowed := true, recurses := true, apart := false }
def SuperErasesSaid : Prop := superErasesRow.holds Try.pinned (OpenSpec.ofChange superErasesSpec)

/-- ITS FALSE NEIGHBOUR: 'it returns false'. Refute it at one input. -/
def superErasesWrong : ChangeSpec := { name := "superErases", fn := fun _ => fun
  | [d1, d2, d3, d4] => { results := [.lit (.bool false)], args := [d1, d2, d3, d4] }
  | _ => none }
def SuperErasesWrongFalsely : Prop := superErasesRow.holds Try.pinned (OpenSpec.ofChange superErasesWrong)

/-- 'grangerlaw21.SuperSaves': WHATEVER THE INPUT: true; the input reads as it did. -/
def superSavesSpec : ChangeSpec := { name := "superSaves", fn := fun _ => fun
  | [d1, d2, d3, d4, d5] => { results := [.lit (.bool true)], args := [d1, d2, d3, d4, d5] }
  | _ => none }
def superSavesRow : OpenClaim := { program := "ytjeoelhenlckaaa", sum := "0e0a5212fea588c53966949db88a401fd0e9c5ead86e7c53288b62deaccc9750", func := "granger/grangerlaw21.SuperSaves", spec := "superSaves", inPlace := ["internal/abi.NoEscape", "internal/bytealg.MakeNoZero"], unfollowed := true, recurses := true, apart := false }
def SuperSavesSaid : Prop := superSavesRow.holds Try.pinned (OpenSpec.ofChange superSavesSpec)

/-- ITS FALSE NEIGHBOUR: 'it returns false'. Refute it at one input. -/
def superSavesWrong : ChangeSpec := { name := "superSaves", fn := fun _ => fun
  | [d1, d2, d3, d4, d5] => { results := [.lit (.bool false)], args := [d1, d2, d3, d4, d5] }
  | _ => none }
def SuperSavesWrongFalsely : Prop := superSavesRow.holds Try.pinned (OpenSpec.ofChange superSavesWrong)

/- THE SECOND FORM. 'bulk': how many values and letters a reading holds, each counted each time it is reached (what is shared counts as often as it is met; a slice's spare places count too). A statement '..UptoSaid' is the law's where the arguments, and the package variables that the reading takes, are together of bulk at most 1048576: NARROWER than '..Said'. Prove '..Said' where nothing that the law and all that it calls make is longer than what came in: it says more and counts as full. Else prove '..UptoSaid'. A law counts once. -/
mutual
def uptoBulk {H : Type} : DataW H → Nat
  | .lit (.string bytes) => bytes.length + 1
  | .lit _ => 1
  | .nil => 1
  | .ptr d => uptoBulk d + 1
  | .slice elems spare => uptoBulkAll elems + uptoBulkAll spare + 1
  | .agg parts => uptoBulkAll parts + 1
  | .iface _ d => uptoBulk d + 1
  | .map entries => uptoBulkEntries entries + 1
  | .held _ => 1
def uptoBulkAll {H : Type} : List (DataW H) → Nat
  | [] => 0
  | d :: r => uptoBulk d + uptoBulkAll r
def uptoBulkEntries {H : Type} : List (Lit × DataW H) → Nat
  | [] => 0
  | x :: r => uptoBulkEntry x + uptoBulkEntries r
def uptoBulkEntry {H : Type} : Lit × DataW H → Nat
  | (.string bytes, d) => bytes.length + uptoBulk d + 1
  | (_, d) => uptoBulk d + 1
 end
def uptoSmall : (H : Type) → List (DataW H) → Bool := fun _ ds => decide (uptoBulkAll ds ≤ 1048576)
def OpenSpec.upto (s : _root_.Go.ChangeSpec) : _root_.Go.OpenSpec := { _root_.Go.OpenSpec.ofChange s with cond := some uptoSmall }

/-- 'grangerlaw22.RecExact', WHERE WHAT IT READS IS OF BULK AT MOST 1048576: true; the input reads as it did. -/
def recExactUptoRow : OpenClaim := { program := "ytjeoelhenlckaaa", sum := "0e0a5212fea588c53966949db88a401fd0e9c5ead86e7c53288b62deaccc9750", func := "granger/grangerlaw22.RecExact", spec := "recExact", inPlace := ["internal/abi.NoEscape"], unfollowed := true, recurses := true, apart := false, narrowed := true }
def RecExactUptoSaid : Prop := recExactUptoRow.holds Try.pinned (OpenSpec.upto recExactSpec)

/-- 'grangerlaw22.RecParse', WHERE WHAT IT READS IS OF BULK AT MOST 1048576: true; the input reads as it did. -/
def recParseUptoRow : OpenClaim := { program := "ytjeoelhenlckaaa", sum := "0e0a5212fea588c53966949db88a401fd0e9c5ead86e7c53288b62deaccc9750", func := "granger/grangerlaw22.RecParse", spec := "recParse", inPlace := ["internal/abi.NoEscape"], unfollowed := true, recurses := true, apart := false, narrowed := true }
def RecParseUptoSaid : Prop := recParseUptoRow.holds Try.pinned (OpenSpec.upto recParseSpec)

/-- 'grangerlaw22.RecBack', WHERE WHAT IT READS IS OF BULK AT MOST 1048576: true; the input reads as it did. -/
def recBackUptoRow : OpenClaim := { program := "ytjeoelhenlckaaa", sum := "0e0a5212fea588c53966949db88a401fd0e9c5ead86e7c53288b62deaccc9750", func := "granger/grangerlaw22.RecBack", spec := "recBack", inPlace := ["internal/abi.NoEscape"], unfollowed := true, recurses := true, apart := false, narrowed := true }
def RecBackUptoSaid : Prop := recBackUptoRow.holds Try.pinned (OpenSpec.upto recBackSpec)

/-- 'grangerlaw22.RecGrows', WHERE WHAT IT READS IS OF BULK AT MOST 1048576: true; the input reads as it did. -/
def recGrowsUptoRow : OpenClaim := { program := "ytjeoelhenlckaaa", sum := "0e0a5212fea588c53966949db88a401fd0e9c5ead86e7c53288b62deaccc9750", func := "granger/grangerlaw22.RecGrows", spec := "recGrows", inPlace := ["internal/abi.NoEscape"], unfollowed := true, recurses := true, apart := false, narrowed := true }
def RecGrowsUptoSaid : Prop := recGrowsUptoRow.holds Try.pinned (OpenSpec.upto recGrowsSpec)

/-- 'grangerlaw21.SuperBlocks', WHERE WHAT IT READS IS OF BULK AT MOST 1048576: true; the input reads as it did. -/
def superBlocksUptoRow : OpenClaim := { program := "ytjeoelhenlckaaa", sum := "0e0a5212fea588c53966949db88a401fd0e9c5ead86e7c53288b62deaccc9750", func := "granger/grangerlaw21.SuperBlocks", spec := "superBlocks", inPlace := ["internal/abi.NoEscape", "internal/bytealg.MakeNoZero"], unfollowed := true, recurses := true, apart := false, narrowed := true }
def SuperBlocksUptoSaid : Prop := superBlocksUptoRow.holds Try.pinned (OpenSpec.upto superBlocksSpec)

/-- 'grangerlaw21.SuperBack', WHERE WHAT IT READS IS OF BULK AT MOST 1048576: true; the input reads as it did. -/
def superBackUptoRow : OpenClaim := { program := "ytjeoelhenlckaaa", sum := "0e0a5212fea588c53966949db88a401fd0e9c5ead86e7c53288b62deaccc9750", func := "granger/grangerlaw21.SuperBack", spec := "superBack", inPlace := ["internal/abi.NoEscape", "internal/bytealg.MakeNoZero"], unfollowed := true, recurses := true, apart := false, narrowed := true }
def SuperBackUptoSaid : Prop := superBackUptoRow.holds Try.pinned (OpenSpec.upto superBackSpec)

/-- 'grangerlaw21.SuperErases', WHERE WHAT IT READS IS OF BULK AT MOST 1048576: true; the input reads as it did. -/
def superErasesUptoRow : OpenClaim := { program := "ytjeoelhenlckaaa", sum := "0e0a5212fea588c53966949db88a401fd0e9c5ead86e7c53288b62deaccc9750", func := "granger/grangerlaw21.SuperErases", spec := "superErases", inPlace := ["internal/abi.NoEscape", "internal/bytealg.MakeNoZero"], unfollowed := true, recurses := true, apart := false, narrowed := true }
def SuperErasesUptoSaid : Prop := superErasesUptoRow.holds Try.pinned (OpenSpec.upto superErasesSpec)

/-- 'grangerlaw21.SuperSaves', WHERE WHAT IT READS IS OF BULK AT MOST 1048576: true; the input reads as it did. -/
def superSavesUptoRow : OpenClaim := { program := "ytjeoelhenlckaaa", sum := "0e0a5212fea588c53966949db88a401fd0e9c5ead86e7c53288b62deaccc9750", func := "granger/grangerlaw21.SuperSaves", spec := "superSaves", inPlace := ["internal/abi.NoEscape", "internal/bytealg.MakeNoZero"], unfollowed := true, recurses := true, apart := false, narrowed := true }
def SuperSavesUptoSaid : Prop := superSavesUptoRow.holds Try.pinned (OpenSpec.upto superSavesSpec)

end Rows
end Go.Proofs.Ytjeoelhenlckaaa
