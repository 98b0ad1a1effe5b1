/-
  No cell of these rows narrows 'for every input' (looked for: loops, veiled, ifaces, maps, wideKeys, modest, calm, conditions, laid).
  DERIVED. THE GIVEN ROWS OF THIS SEAT. 10 by the template 'for every input the law returns true; each argument reads behind the call as it read before'; 0 by the template 'total and deterministic' (their statements: YtbhmkigomlpkcaaTotals.lean).
  GIVEN WITH THE SEED: the statements are not yours to turn. If you find one false, say at which input.
  Laid BY PROGRAM, IN A SANDBOX (cutbox-rows.mjs): the forced cells as the released guide's own fill.sh prints them over the translation 5828195fd902b349… (all of the seat's roots in one cut). By AI agents, Wed Nov 11 2026. No macro, syntax, notation, axiom, sorry.
-/
import Derived.Test.YtbhmkigomlpkcaaChecked
import GoSem.Claim
import GoSem.ClaimJoined
import GoSem.ClaimMapViews
import Derived.JoinedTies
import Derived.KernelRfl
namespace Go.Proofs.Ytbhmkigomlpkcaa
/- THE CELL 'sum', in the pinned program and in every row, IS THE sha256 OF THE DUMP (.gsa) THAT YtbhmkigomlpkcaaProg.lean LOADS. Nothing in Lean hashes anything: it is a label: what it is worth is what the hold of that sum in a sandbox is worth. -/
noncomputable def Try.pinned : Pinned := { name := "ytbhmkigomlpkcaa", sum := "5828195fd902b349f80b2506e1777a84ed58ab9a808371614fe5412698f715ff", checked := Try.checked }
namespace Rows
def none {H : Type} : Left H := { results := [], args := [] }

/-- 'grangerlaw08.MsgExact': WHATEVER THE INPUT: true; the input reads as it did. -/
def msgExactSpec : ChangeSpec := { name := "msgExact", fn := fun _ => fun
  | [d1, d2, d3, d4] => { results := [.lit (.bool true)], args := [d1, d2, d3, d4] }
  | _ => none }
def msgExactRow : OpenClaim := { program := "ytbhmkigomlpkcaa", sum := "5828195fd902b349f80b2506e1777a84ed58ab9a808371614fe5412698f715ff", func := "granger/grangerlaw08.MsgExact", spec := "msgExact", inPlace := ["internal/abi.NoEscape"], unfollowed := true, recurses := true, apart := false }
def MsgExactSaid : Prop := msgExactRow.holds Try.pinned (OpenSpec.ofChange msgExactSpec)

/-- ITS FALSE NEIGHBOUR: 'it returns false'. Refute it at one input. -/
def msgExactWrong : ChangeSpec := { name := "msgExact", fn := fun _ => fun
  | [d1, d2, d3, d4] => { results := [.lit (.bool false)], args := [d1, d2, d3, d4] }
  | _ => none }
def MsgExactWrongFalsely : Prop := msgExactRow.holds Try.pinned (OpenSpec.ofChange msgExactWrong)

/-- 'grangerlaw08.MsgPairs': WHATEVER THE INPUT: true; the input reads as it did. -/
def msgPairsSpec : ChangeSpec := { name := "msgPairs", fn := fun _ => fun
  | [d1, d2] => { results := [.lit (.bool true)], args := [d1, d2] }
  | _ => none }
def msgPairsRow : OpenClaim := { program := "ytbhmkigomlpkcaa", sum := "5828195fd902b349f80b2506e1777a84ed58ab9a808371614fe5412698f715ff", func := "granger/grangerlaw08.MsgPairs", spec := "msgPairs", inPlace := ["internal/abi.NoEscape"], unfollowed := true, recurses := true, apart := false }
def MsgPairsSaid : Prop := msgPairsRow.holds Try.pinned (OpenSpec.ofChange msgPairsSpec)

/-- ITS FALSE NEIGHBOUR: 'it returns false'. Refute it at one input. -/
def msgPairsWrong : ChangeSpec := { name := "msgPairs", fn := fun _ => fun
  | [d1, d2] => { results := [.lit (.bool false)], args := [d1, d2] }
  | _ => none }
def MsgPairsWrongFalsely : Prop := msgPairsRow.holds Try.pinned (OpenSpec.ofChange msgPairsWrong)

/-- 'grangerlaw08.MsgThen': WHATEVER THE INPUT: true; the input reads as it did. -/
def msgThenSpec : ChangeSpec := { name := "msgThen", fn := fun _ => fun
  | [d1, d2, d3, d4, d5] => { results := [.lit (.bool true)], args := [d1, d2, d3, d4, d5] }
  | _ => none }
def msgThenRow : OpenClaim := { program := "ytbhmkigomlpkcaa", sum := "5828195fd902b349f80b2506e1777a84ed58ab9a808371614fe5412698f715ff", func := "granger/grangerlaw08.MsgThen", spec := "msgThen", inPlace := ["internal/abi.NoEscape"], unfollowed := true, recurses := true, apart := false }
def MsgThenSaid : Prop := msgThenRow.holds Try.pinned (OpenSpec.ofChange msgThenSpec)

/-- ITS FALSE NEIGHBOUR: 'it returns false'. Refute it at one input. -/
def msgThenWrong : ChangeSpec := { name := "msgThen", fn := fun _ => fun
  | [d1, d2, d3, d4, d5] => { results := [.lit (.bool false)], args := [d1, d2, d3, d4, d5] }
  | _ => none }
def MsgThenWrongFalsely : Prop := msgThenRow.holds Try.pinned (OpenSpec.ofChange msgThenWrong)

/-- 'grangerlaw08.MsgAdds': WHATEVER THE INPUT: true; the input reads as it did. -/
def msgAddsSpec : ChangeSpec := { name := "msgAdds", fn := fun _ => fun
  | [d1, d2, d3] => { results := [.lit (.bool true)], args := [d1, d2, d3] }
  | _ => none }
def msgAddsRow : OpenClaim := { program := "ytbhmkigomlpkcaa", sum := "5828195fd902b349f80b2506e1777a84ed58ab9a808371614fe5412698f715ff", func := "granger/grangerlaw08.MsgAdds", spec := "msgAdds", inPlace := ["internal/abi.NoEscape"], unfollowed := true, recurses := true, apart := false }
def MsgAddsSaid : Prop := msgAddsRow.holds Try.pinned (OpenSpec.ofChange msgAddsSpec)

/-- ITS FALSE NEIGHBOUR: 'it returns false'. Refute it at one input. -/
def msgAddsWrong : ChangeSpec := { name := "msgAdds", fn := fun _ => fun
  | [d1, d2, d3] => { results := [.lit (.bool false)], args := [d1, d2, d3] }
  | _ => none }
def MsgAddsWrongFalsely : Prop := msgAddsRow.holds Try.pinned (OpenSpec.ofChange msgAddsWrong)

/-- 'grangerlaw08.MsgBytes': WHATEVER THE INPUT: true; the input reads as it did. -/
def msgBytesSpec : ChangeSpec := { name := "msgBytes", fn := fun _ => fun
  | [d1, d2] => { results := [.lit (.bool true)], args := [d1, d2] }
  | _ => none }
def msgBytesRow : OpenClaim := { program := "ytbhmkigomlpkcaa", sum := "5828195fd902b349f80b2506e1777a84ed58ab9a808371614fe5412698f715ff", func := "granger/grangerlaw08.MsgBytes", spec := "msgBytes", inPlace := ["internal/abi.NoEscape"], unfollowed := true, recurses := true, apart := false }
def MsgBytesSaid : Prop := msgBytesRow.holds Try.pinned (OpenSpec.ofChange msgBytesSpec)

/-- ITS FALSE NEIGHBOUR: 'it returns false'. Refute it at one input. -/
def msgBytesWrong : ChangeSpec := { name := "msgBytes", fn := fun _ => fun
  | [d1, d2] => { results := [.lit (.bool false)], args := [d1, d2] }
  | _ => none }
def MsgBytesWrongFalsely : Prop := msgBytesRow.holds Try.pinned (OpenSpec.ofChange msgBytesWrong)

/-- 'grangerlaw08.MsgBack': WHATEVER THE INPUT: true; the input reads as it did. -/
def msgBackSpec : ChangeSpec := { name := "msgBack", fn := fun _ => fun
  | [d] => { results := [.lit (.bool true)], args := [d] }
  | _ => none }
def msgBackRow : OpenClaim := { program := "ytbhmkigomlpkcaa", sum := "5828195fd902b349f80b2506e1777a84ed58ab9a808371614fe5412698f715ff", func := "granger/grangerlaw08.MsgBack", spec := "msgBack", inPlace := ["internal/abi.NoEscape"], unfollowed := true, recurses := true, apart := false }
def MsgBackSaid : Prop := msgBackRow.holds Try.pinned (OpenSpec.ofChange msgBackSpec)

/-- ITS FALSE NEIGHBOUR: 'it returns false'. Refute it at one input. -/
def msgBackWrong : ChangeSpec := { name := "msgBack", fn := fun _ => fun
  | [d] => { results := [.lit (.bool false)], args := [d] }
  | _ => none }
def MsgBackWrongFalsely : Prop := msgBackRow.holds Try.pinned (OpenSpec.ofChange msgBackWrong)

/-- 'grangerlaw22.RecExact': WHATEVER THE INPUT: true; the input reads as it did. -/
def recExactSpec : ChangeSpec := { name := "recExact", fn := fun _ => fun
  | [d] => { results := [.lit (.bool true)], args := [d] }
  | _ => none }
def recExactRow : OpenClaim := { program := "ytbhmkigomlpkcaa", sum := "5828195fd902b349f80b2506e1777a84ed58ab9a808371614fe5412698f715ff", func := "granger/grangerlaw22.RecExact", spec := "recExact", inPlace := ["internal/abi.NoEscape"], unfollowed := true, recurses := true, apart := false }
def RecExactSaid : Prop := recExactRow.holds Try.pinned (OpenSpec.ofChange recExactSpec)

/-- ITS FALSE NEIGHBOUR: 'it returns false'. Refute it at one input. -/
def recExactWrong : ChangeSpec := { name := "recExact", fn := fun _ => fun
  | [d] => { results := [.lit (.bool false)], args := [d] }
  | _ => none }
def RecExactWrongFalsely : Prop := recExactRow.holds Try.pinned (OpenSpec.ofChange recExactWrong)

/-- 'grangerlaw22.RecParse': WHATEVER THE INPUT: true; the input reads as it did. -/
def recParseSpec : ChangeSpec := { name := "recParse", fn := fun _ => fun
  | [d] => { results := [.lit (.bool true)], args := [d] }
  | _ => none }
def recParseRow : OpenClaim := { program := "ytbhmkigomlpkcaa", sum := "5828195fd902b349f80b2506e1777a84ed58ab9a808371614fe5412698f715ff", func := "granger/grangerlaw22.RecParse", spec := "recParse", inPlace := ["internal/abi.NoEscape"], unfollowed := true, recurses := true, apart := false }
def RecParseSaid : Prop := recParseRow.holds Try.pinned (OpenSpec.ofChange recParseSpec)

/-- ITS FALSE NEIGHBOUR: 'it returns false'. Refute it at one input. -/
def recParseWrong : ChangeSpec := { name := "recParse", fn := fun _ => fun
  | [d] => { results := [.lit (.bool false)], args := [d] }
  | _ => none }
def RecParseWrongFalsely : Prop := recParseRow.holds Try.pinned (OpenSpec.ofChange recParseWrong)

/-- 'grangerlaw22.RecBack': WHATEVER THE INPUT: true; the input reads as it did. -/
def recBackSpec : ChangeSpec := { name := "recBack", fn := fun _ => fun
  | [d1, d2] => { results := [.lit (.bool true)], args := [d1, d2] }
  | _ => none }
def recBackRow : OpenClaim := { program := "ytbhmkigomlpkcaa", sum := "5828195fd902b349f80b2506e1777a84ed58ab9a808371614fe5412698f715ff", func := "granger/grangerlaw22.RecBack", spec := "recBack", inPlace := ["internal/abi.NoEscape"], unfollowed := true, recurses := true, apart := false }
def RecBackSaid : Prop := recBackRow.holds Try.pinned (OpenSpec.ofChange recBackSpec)

/-- ITS FALSE NEIGHBOUR: 'it returns false'. Refute it at one input. -/
def recBackWrong : ChangeSpec := { name := "recBack", fn := fun _ => fun
  | [d1, d2] => { results := [.lit (.bool false)], args := [d1, d2] }
  | _ => none }
def RecBackWrongFalsely : Prop := recBackRow.holds Try.pinned (OpenSpec.ofChange recBackWrong)

/-- 'grangerlaw22.RecGrows': WHATEVER THE INPUT: true; the input reads as it did. -/
def recGrowsSpec : ChangeSpec := { name := "recGrows", fn := fun _ => fun
  | [d1, d2] => { results := [.lit (.bool true)], args := [d1, d2] }
  | _ => none }
def recGrowsRow : OpenClaim := { program := "ytbhmkigomlpkcaa", sum := "5828195fd902b349f80b2506e1777a84ed58ab9a808371614fe5412698f715ff", func := "granger/grangerlaw22.RecGrows", spec := "recGrows", inPlace := ["internal/abi.NoEscape"], unfollowed := true, recurses := true, apart := false }
def RecGrowsSaid : Prop := recGrowsRow.holds Try.pinned (OpenSpec.ofChange recGrowsSpec)

/-- ITS FALSE NEIGHBOUR: 'it returns false'. Refute it at one input. -/
def recGrowsWrong : ChangeSpec := { name := "recGrows", fn := fun _ => fun
  | [d1, d2] => { results := [.lit (.bool false)], args := [d1, d2] }
  | _ => none }
def RecGrowsWrongFalsely : Prop := recGrowsRow.holds Try.pinned (OpenSpec.ofChange recGrowsWrong)

/- THE SECOND FORM. 'bulk': how many values and letters a reading holds, each counted each time it is reached (what is shared counts as often as it is met; a slice's spare places count too). A statement '..UptoSaid' is the law's where the arguments, and the package variables that the reading takes, are together of bulk at most 1048576: NARROWER than '..Said'. Prove '..Said' where nothing that the law and all that it calls make is longer than what came in: it says more and counts as full. Else prove '..UptoSaid'. A law counts once. -/
mutual
def uptoBulk {H : Type} : DataW H → Nat
  | .lit (.string bytes) => bytes.length + 1
  | .lit _ => 1
  | .nil => 1
  | .ptr d => uptoBulk d + 1
  | .slice elems spare => uptoBulkAll elems + uptoBulkAll spare + 1
  | .agg parts => uptoBulkAll parts + 1
  | .iface _ d => uptoBulk d + 1
  | .map entries => uptoBulkEntries entries + 1
  | .held _ => 1
def uptoBulkAll {H : Type} : List (DataW H) → Nat
  | [] => 0
  | d :: r => uptoBulk d + uptoBulkAll r
def uptoBulkEntries {H : Type} : List (Lit × DataW H) → Nat
  | [] => 0
  | x :: r => uptoBulkEntry x + uptoBulkEntries r
def uptoBulkEntry {H : Type} : Lit × DataW H → Nat
  | (.string bytes, d) => bytes.length + uptoBulk d + 1
  | (_, d) => uptoBulk d + 1
 end
def uptoSmall : (H : Type) → List (DataW H) → Bool := fun _ ds => decide (uptoBulkAll ds ≤ 1048576)
def OpenSpec.upto (s : _root_.Go.ChangeSpec) : _root_.Go.OpenSpec := { _root_.Go.OpenSpec.ofChange s with cond := some uptoSmall }

/-- 'grangerlaw08.MsgExact', WHERE WHAT IT READS IS OF BULK AT MOST 1048576: true; the input reads as it did. -/
def msgExactUptoRow : OpenClaim := { program := "ytbhmkigomlpkcaa", sum := "5828195fd902b349f80b2506e1777a84ed58ab9a808371614fe5412698f715ff", func := "granger/grangerlaw08.MsgExact", spec := "msgExact", inPlace := ["internal/abi.NoEscape"], unfollowed := true, recurses := true, apart := false, narrowed := true }
def MsgExactUptoSaid : Prop := msgExactUptoRow.holds Try.pinned (OpenSpec.upto msgExactSpec)

/-- 'grangerlaw08.MsgPairs', WHERE WHAT IT READS IS OF BULK AT MOST 1048576: true; the input reads as it did. -/
def msgPairsUptoRow : OpenClaim := { program := "ytbhmkigomlpkcaa", sum := "5828195fd902b349f80b2506e1777a84ed58ab9a808371614fe5412698f715ff", func := "granger/grangerlaw08.MsgPairs", spec := "msgPairs", inPlace := ["internal/abi.NoEscape"], unfollowed := true, recurses := true, apart := false, narrowed := true }
def MsgPairsUptoSaid : Prop := msgPairsUptoRow.holds Try.pinned (OpenSpec.upto msgPairsSpec)

/-- 'grangerlaw08.MsgThen', WHERE WHAT IT READS IS OF BULK AT MOST 1048576: true; the input reads as it did. -/
def msgThenUptoRow : OpenClaim := { program := "ytbhmkigomlpkcaa", sum := "5828195fd902b349f80b2506e1777a84ed58ab9a808371614fe5412698f715ff", func := "granger/grangerlaw08.MsgThen", spec := "msgThen", inPlace := ["internal/abi.NoEscape"], unfollowed := true, recurses := true, apart := false, narrowed := true }
def MsgThenUptoSaid : Prop := msgThenUptoRow.holds Try.pinned (OpenSpec.upto msgThenSpec)

/-- 'grangerlaw08.MsgAdds', WHERE WHAT IT READS IS OF BULK AT MOST 1048576: true; the input reads as it did. -/
def msgAddsUptoRow : OpenClaim := { program := "ytbhmkigomlpkcaa", sum := "5828195fd902b349f80b2506e1777a84ed58ab9a808371614fe5412698f715ff", func := "granger/grangerlaw08.MsgAdds", spec := "msgAdds", inPlace := ["internal/abi.NoEscape"], unfollowed := true, recurses := true, apart := false, narrowed := true }
def MsgAddsUptoSaid : Prop := msgAddsUptoRow.holds Try.pinned (OpenSpec.upto msgAddsSpec)

/-- 'grangerlaw08.MsgBytes', WHERE WHAT IT READS IS OF BULK AT MOST 1048576: true; the input reads as it did. -/
def msgBytesUptoRow : OpenClaim := { program := "ytbhmkigomlpkcaa", sum := "5828195fd902b349f80b2506e1777a84ed58ab9a808371614fe5412698f715ff", func := "granger/grangerlaw08.MsgBytes", spec := "msgBytes", inPlace := ["internal/abi.NoEscape"], unfollowed := true, recurses := true, apart := false, narrowed := true }
def MsgBytesUptoSaid : Prop := msgBytesUptoRow.holds Try.pinned (OpenSpec.upto msgBytesSpec)

/-- 'grangerlaw08.MsgBack', WHERE WHAT IT READS IS OF BULK AT MOST 1048576: true; the input reads as it did. -/
def msgBackUptoRow : OpenClaim := { program := "ytbhmkigomlpkcaa", sum := "5828195fd902b349f80b2506e1777a84ed58ab9a808371614fe5412698f715ff", func := "granger/grangerlaw08.MsgBack", spec := "msgBack", inPlace := ["internal/abi.NoEscape"], unfollowed := true, recurses := true, apart := false, narrowed := true }
def MsgBackUptoSaid : Prop := msgBackUptoRow.holds Try.pinned (OpenSpec.upto msgBackSpec)

/-- 'grangerlaw22.RecExact', WHERE WHAT IT READS IS OF BULK AT MOST 1048576: true; the input reads as it did. -/
def recExactUptoRow : OpenClaim := { program := "ytbhmkigomlpkcaa", sum := "5828195fd902b349f80b2506e1777a84ed58ab9a808371614fe5412698f715ff", func := "granger/grangerlaw22.RecExact", spec := "recExact", inPlace := ["internal/abi.NoEscape"], unfollowed := true, recurses := true, apart := false, narrowed := true }
def RecExactUptoSaid : Prop := recExactUptoRow.holds Try.pinned (OpenSpec.upto recExactSpec)

/-- 'grangerlaw22.RecParse', WHERE WHAT IT READS IS OF BULK AT MOST 1048576: true; the input reads as it did. -/
def recParseUptoRow : OpenClaim := { program := "ytbhmkigomlpkcaa", sum := "5828195fd902b349f80b2506e1777a84ed58ab9a808371614fe5412698f715ff", func := "granger/grangerlaw22.RecParse", spec := "recParse", inPlace := ["internal/abi.NoEscape"], unfollowed := true, recurses := true, apart := false, narrowed := true }
def RecParseUptoSaid : Prop := recParseUptoRow.holds Try.pinned (OpenSpec.upto recParseSpec)

/-- 'grangerlaw22.RecBack', WHERE WHAT IT READS IS OF BULK AT MOST 1048576: true; the input reads as it did. -/
def recBackUptoRow : OpenClaim := { program := "ytbhmkigomlpkcaa", sum := "5828195fd902b349f80b2506e1777a84ed58ab9a808371614fe5412698f715ff", func := "granger/grangerlaw22.RecBack", spec := "recBack", inPlace := ["internal/abi.NoEscape"], unfollowed := true, recurses := true, apart := false, narrowed := true }
def RecBackUptoSaid : Prop := recBackUptoRow.holds Try.pinned (OpenSpec.upto recBackSpec)

/-- 'grangerlaw22.RecGrows', WHERE WHAT IT READS IS OF BULK AT MOST 1048576: true; the input reads as it did. -/
def recGrowsUptoRow : OpenClaim := { program := "ytbhmkigomlpkcaa", sum := "5828195fd902b349f80b2506e1777a84ed58ab9a808371614fe5412698f715ff", func := "granger/grangerlaw22.RecGrows", spec := "recGrows", inPlace := ["internal/abi.NoEscape"], unfollowed := true, recurses := true, apart := false, narrowed := true }
def RecGrowsUptoSaid : Prop := recGrowsUptoRow.holds Try.pinned (OpenSpec.upto recGrowsSpec)

end Rows
end Go.Proofs.Ytbhmkigomlpkcaa
