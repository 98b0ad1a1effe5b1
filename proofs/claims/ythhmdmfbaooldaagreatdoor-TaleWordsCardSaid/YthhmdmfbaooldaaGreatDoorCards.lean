/-
  DERIVED. GIVEN WITH THE SEED: THE CARDS: each row of YthhmdmfbaooldaaGreatDoorRows.lean that lists a variable, with what it lists TIED to the program's text (the seventh form; the later family's looks); each row that meets fmt, with fmt's text TOLD by the authors' own Lean function (tested against real Go, not proved from fmt's source: count such statements apart). THE CARD IS WHAT COUNTS. Prove the row's statement (the work); the ties are given (YthhmdmfbaooldaaGreatDoorTie.lean); close each card by the builder's one call (the guide's Derived/Test/ToyasCard.lean, 'card_holds'). Laid BY PROGRAM, IN A SANDBOX (cutbox-door.mjs). By AI agents, Wed Nov 11 2026. No macro, syntax, notation, axiom, sorry.
-/
import Derived.Test.YthhmdmfbaooldaaGreatDoorRows
import GoSem.ClaimSeven
namespace Go.Proofs.YthhmdmfbaooldaaGreatDoor
namespace Rows

/-- THE TIED CARD OF 'grangerlaw28.TaleWords'. -/
def taleWordsCard : Claim7 := { stood := { row := taleWordsRow, standIns := [], harness := (true, "27b09b6958f6348aa156708dbd5c204bf1d54d34ccfbbb5eb7235683b1d26102"), looks := true }, kinds := [], alts := [], laidByText := true, laidKinds := [.data, .data, .data, .data, .sentinel, .sentinel, .pinned], laidTests := true, laidLooks := .later }
def TaleWordsCardSaid : Prop := Claim7.holds Tryz.pinned (.plain (OpenSpec.ofChange taleWordsSpec)) taleWordsCard

/-- THE TIED CARD OF 'grangerlaw28.TaleLines'. -/
def taleLinesCard : Claim7 := { stood := { row := taleLinesRow, standIns := [], harness := (true, "27b09b6958f6348aa156708dbd5c204bf1d54d34ccfbbb5eb7235683b1d26102"), looks := true }, kinds := [], alts := [], laidByText := true, laidKinds := [.data, .data, .data, .data, .sentinel, .sentinel, .pinned], laidTests := true, laidLooks := .later }
def TaleLinesCardSaid : Prop := Claim7.holds Tryz.pinned (.plain (OpenSpec.ofChange taleLinesSpec)) taleLinesCard

/-- THE TIED CARD OF 'grangerlaw28.TaleTells'. -/
def taleTellsCard : Claim7 := { stood := { row := taleTellsRow, standIns := [], harness := (true, "27b09b6958f6348aa156708dbd5c204bf1d54d34ccfbbb5eb7235683b1d26102"), looks := true }, kinds := [], alts := [], laidByText := true, laidKinds := [.data, .data, .data, .data, .sentinel, .sentinel, .pinned], laidTests := true, laidLooks := .later }
def TaleTellsCardSaid : Prop := Claim7.holds Tryz.pinned (.plain (OpenSpec.ofChange taleTellsSpec)) taleTellsCard

/-- THE TIED CARD OF 'grangerlaw28.TaleBack'. -/
def taleBackCard : Claim7 := { stood := { row := taleBackRow, standIns := [], harness := (true, "27b09b6958f6348aa156708dbd5c204bf1d54d34ccfbbb5eb7235683b1d26102"), looks := true }, kinds := [], alts := [], laidByText := true, laidKinds := [.data, .data, .data, .data, .sentinel, .sentinel, .pinned], laidTests := true, laidLooks := .later }
def TaleBackCardSaid : Prop := Claim7.holds Tryz.pinned (.plain (OpenSpec.ofChange taleBackSpec)) taleBackCard

/-- THE TIED CARD OF 'grangerlaw28.TaleWordsBack'. -/
def taleWordsBackCard : Claim7 := { stood := { row := taleWordsBackRow, standIns := [], harness := (true, "27b09b6958f6348aa156708dbd5c204bf1d54d34ccfbbb5eb7235683b1d26102"), looks := true }, kinds := [], alts := [], laidByText := true, laidKinds := [.data, .data, .data, .data, .sentinel, .sentinel, .pinned], laidTests := true, laidLooks := .later }
def TaleWordsBackCardSaid : Prop := Claim7.holds Tryz.pinned (.plain (OpenSpec.ofChange taleWordsBackSpec)) taleWordsBackCard

/-- THE TIED CARD OF 'grangerlaw28.TaleApart'. -/
def taleApartCard : Claim7 := { stood := { row := taleApartRow, standIns := [], harness := (true, "27b09b6958f6348aa156708dbd5c204bf1d54d34ccfbbb5eb7235683b1d26102"), looks := true }, kinds := [], alts := [], laidByText := true, laidKinds := [.data, .data, .data, .data, .sentinel, .sentinel, .pinned], laidTests := true, laidLooks := .later }
def TaleApartCardSaid : Prop := Claim7.holds Tryz.pinned (.plain (OpenSpec.ofChange taleApartSpec)) taleApartCard

/-- THE SECOND FORM's CARD OF 'grangerlaw28.TaleWords'. -/
def taleWordsUptoCard : Claim7 := { stood := { row := taleWordsUptoRow, standIns := [], harness := (true, "27b09b6958f6348aa156708dbd5c204bf1d54d34ccfbbb5eb7235683b1d26102"), looks := true }, kinds := [], alts := [], laidByText := true, laidKinds := [.data, .data, .data, .data, .sentinel, .sentinel, .pinned], laidTests := true, laidLooks := .later }
def TaleWordsUptoCardSaid : Prop := Claim7.holds Tryz.pinned (.plain (OpenSpec.upto taleWordsSpec)) taleWordsUptoCard

/-- THE SECOND FORM's CARD OF 'grangerlaw28.TaleLines'. -/
def taleLinesUptoCard : Claim7 := { stood := { row := taleLinesUptoRow, standIns := [], harness := (true, "27b09b6958f6348aa156708dbd5c204bf1d54d34ccfbbb5eb7235683b1d26102"), looks := true }, kinds := [], alts := [], laidByText := true, laidKinds := [.data, .data, .data, .data, .sentinel, .sentinel, .pinned], laidTests := true, laidLooks := .later }
def TaleLinesUptoCardSaid : Prop := Claim7.holds Tryz.pinned (.plain (OpenSpec.upto taleLinesSpec)) taleLinesUptoCard

/-- THE SECOND FORM's CARD OF 'grangerlaw28.TaleTells'. -/
def taleTellsUptoCard : Claim7 := { stood := { row := taleTellsUptoRow, standIns := [], harness := (true, "27b09b6958f6348aa156708dbd5c204bf1d54d34ccfbbb5eb7235683b1d26102"), looks := true }, kinds := [], alts := [], laidByText := true, laidKinds := [.data, .data, .data, .data, .sentinel, .sentinel, .pinned], laidTests := true, laidLooks := .later }
def TaleTellsUptoCardSaid : Prop := Claim7.holds Tryz.pinned (.plain (OpenSpec.upto taleTellsSpec)) taleTellsUptoCard

/-- THE SECOND FORM's CARD OF 'grangerlaw28.TaleBack'. -/
def taleBackUptoCard : Claim7 := { stood := { row := taleBackUptoRow, standIns := [], harness := (true, "27b09b6958f6348aa156708dbd5c204bf1d54d34ccfbbb5eb7235683b1d26102"), looks := true }, kinds := [], alts := [], laidByText := true, laidKinds := [.data, .data, .data, .data, .sentinel, .sentinel, .pinned], laidTests := true, laidLooks := .later }
def TaleBackUptoCardSaid : Prop := Claim7.holds Tryz.pinned (.plain (OpenSpec.upto taleBackSpec)) taleBackUptoCard

/-- THE SECOND FORM's CARD OF 'grangerlaw28.TaleWordsBack'. -/
def taleWordsBackUptoCard : Claim7 := { stood := { row := taleWordsBackUptoRow, standIns := [], harness := (true, "27b09b6958f6348aa156708dbd5c204bf1d54d34ccfbbb5eb7235683b1d26102"), looks := true }, kinds := [], alts := [], laidByText := true, laidKinds := [.data, .data, .data, .data, .sentinel, .sentinel, .pinned], laidTests := true, laidLooks := .later }
def TaleWordsBackUptoCardSaid : Prop := Claim7.holds Tryz.pinned (.plain (OpenSpec.upto taleWordsBackSpec)) taleWordsBackUptoCard

/-- THE SECOND FORM's CARD OF 'grangerlaw28.TaleApart'. -/
def taleApartUptoCard : Claim7 := { stood := { row := taleApartUptoRow, standIns := [], harness := (true, "27b09b6958f6348aa156708dbd5c204bf1d54d34ccfbbb5eb7235683b1d26102"), looks := true }, kinds := [], alts := [], laidByText := true, laidKinds := [.data, .data, .data, .data, .sentinel, .sentinel, .pinned], laidTests := true, laidLooks := .later }
def TaleApartUptoCardSaid : Prop := Claim7.holds Tryz.pinned (.plain (OpenSpec.upto taleApartSpec)) taleApartUptoCard
end Rows
end Go.Proofs.YthhmdmfbaooldaaGreatDoor
