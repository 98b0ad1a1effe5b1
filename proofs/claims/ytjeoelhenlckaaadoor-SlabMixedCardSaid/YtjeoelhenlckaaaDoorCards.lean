/-
  DERIVED. GIVEN WITH THE SEED: THE CARDS: each row of YtjeoelhenlckaaaDoorRows.lean that lists a variable, with what it lists TIED to the program's text (the seventh form; the later family's looks); each row that meets fmt, with fmt's text TOLD by the authors' own Lean function (tested against real Go, not proved from fmt's source: count such statements apart). THE CARD IS WHAT COUNTS. Prove the row's statement (the work); the ties are given (YtjeoelhenlckaaaDoorTie.lean); close each card by the builder's one call (the guide's Derived/Test/ToyasCard.lean, 'card_holds'). Laid BY PROGRAM, IN A SANDBOX (cutbox-door.mjs). By AI agents, Wed Nov 11 2026. No macro, syntax, notation, axiom, sorry.
-/
import Derived.Test.YtjeoelhenlckaaaDoorRows
import GoSem.ClaimSeven
namespace Go.Proofs.YtjeoelhenlckaaaDoor
namespace Rows

/-- THE TIED CARD OF 'grangerlaw04.SlabPlain'. -/
def slabPlainCard : Claim7 := { stood := { row := slabPlainRow, standIns := [], harness := (true, "2db3cdbd1018e6197361c8cb5a722536f9d01905d4f05bc701c622ccca36e5a5"), looks := false }, kinds := [], alts := [], laidByText := true, laidKinds := [.data, .pinned], laidTests := true, laidLooks := .later }
def SlabPlainCardSaid : Prop := Claim7.holds Tryd.pinned (.plain (OpenSpec.ofChange slabPlainSpec)) slabPlainCard

/-- THE TIED CARD OF 'grangerlaw04.SlabStamped'. -/
def slabStampedCard : Claim7 := { stood := { row := slabStampedRow, standIns := [], harness := (true, "2db3cdbd1018e6197361c8cb5a722536f9d01905d4f05bc701c622ccca36e5a5"), looks := false }, kinds := [], alts := [], laidByText := true, laidKinds := [.data, .pinned], laidTests := true, laidLooks := .later }
def SlabStampedCardSaid : Prop := Claim7.holds Tryd.pinned (.plain (OpenSpec.ofChange slabStampedSpec)) slabStampedCard

/-- THE TIED CARD OF 'grangerlaw04.SlabBack'. -/
def slabBackCard : Claim7 := { stood := { row := slabBackRow, standIns := [], harness := (true, "2db3cdbd1018e6197361c8cb5a722536f9d01905d4f05bc701c622ccca36e5a5"), looks := false }, kinds := [], alts := [], laidByText := true, laidKinds := [.data, .pinned], laidTests := true, laidLooks := .later }
def SlabBackCardSaid : Prop := Claim7.holds Tryd.pinned (.plain (OpenSpec.ofChange slabBackSpec)) slabBackCard

/-- THE TIED CARD OF 'grangerlaw04.SlabMixed'. -/
def slabMixedCard : Claim7 := { stood := { row := slabMixedRow, standIns := [], harness := (true, "2db3cdbd1018e6197361c8cb5a722536f9d01905d4f05bc701c622ccca36e5a5"), looks := false }, kinds := [], alts := [], laidByText := true, laidKinds := [.data, .pinned], laidTests := true, laidLooks := .later }
def SlabMixedCardSaid : Prop := Claim7.holds Tryd.pinned (.plain (OpenSpec.ofChange slabMixedSpec)) slabMixedCard

/-- THE SECOND FORM's CARD OF 'grangerlaw04.SlabPlain'. -/
def slabPlainUptoCard : Claim7 := { stood := { row := slabPlainUptoRow, standIns := [], harness := (true, "2db3cdbd1018e6197361c8cb5a722536f9d01905d4f05bc701c622ccca36e5a5"), looks := false }, kinds := [], alts := [], laidByText := true, laidKinds := [.data, .pinned], laidTests := true, laidLooks := .later }
def SlabPlainUptoCardSaid : Prop := Claim7.holds Tryd.pinned (.plain (OpenSpec.upto slabPlainSpec)) slabPlainUptoCard

/-- THE SECOND FORM's CARD OF 'grangerlaw04.SlabStamped'. -/
def slabStampedUptoCard : Claim7 := { stood := { row := slabStampedUptoRow, standIns := [], harness := (true, "2db3cdbd1018e6197361c8cb5a722536f9d01905d4f05bc701c622ccca36e5a5"), looks := false }, kinds := [], alts := [], laidByText := true, laidKinds := [.data, .pinned], laidTests := true, laidLooks := .later }
def SlabStampedUptoCardSaid : Prop := Claim7.holds Tryd.pinned (.plain (OpenSpec.upto slabStampedSpec)) slabStampedUptoCard

/-- THE SECOND FORM's CARD OF 'grangerlaw04.SlabBack'. -/
def slabBackUptoCard : Claim7 := { stood := { row := slabBackUptoRow, standIns := [], harness := (true, "2db3cdbd1018e6197361c8cb5a722536f9d01905d4f05bc701c622ccca36e5a5"), looks := false }, kinds := [], alts := [], laidByText := true, laidKinds := [.data, .pinned], laidTests := true, laidLooks := .later }
def SlabBackUptoCardSaid : Prop := Claim7.holds Tryd.pinned (.plain (OpenSpec.upto slabBackSpec)) slabBackUptoCard

/-- THE SECOND FORM's CARD OF 'grangerlaw04.SlabMixed'. -/
def slabMixedUptoCard : Claim7 := { stood := { row := slabMixedUptoRow, standIns := [], harness := (true, "2db3cdbd1018e6197361c8cb5a722536f9d01905d4f05bc701c622ccca36e5a5"), looks := false }, kinds := [], alts := [], laidByText := true, laidKinds := [.data, .pinned], laidTests := true, laidLooks := .later }
def SlabMixedUptoCardSaid : Prop := Claim7.holds Tryd.pinned (.plain (OpenSpec.upto slabMixedSpec)) slabMixedUptoCard
end Rows
end Go.Proofs.YtjeoelhenlckaaaDoor
