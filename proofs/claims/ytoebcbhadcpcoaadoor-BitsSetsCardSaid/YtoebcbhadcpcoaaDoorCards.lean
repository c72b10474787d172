/-
  DERIVED. GIVEN WITH THE SEED: THE CARDS: each row of YtoebcbhadcpcoaaDoorRows.lean that lists a variable, with what it lists TIED to the program's text (the seventh form; the later family's looks); each row that meets fmt, with fmt's text TOLD by the authors' own Lean function (tested against real Go, not proved from fmt's source: count such statements apart). THE CARD IS WHAT COUNTS. Prove the row's statement (the work); the ties are given (YtoebcbhadcpcoaaDoorTie.lean); close each card by the builder's one call (the guide's Derived/Test/ToyasCard.lean, 'card_holds'). Laid BY PROGRAM, IN A SANDBOX (cutbox-door.mjs). By AI agents, Wed Nov 11 2026. No macro, syntax, notation, axiom, sorry.
-/
import Derived.Test.YtoebcbhadcpcoaaDoorRows
import GoSem.ClaimSeven
namespace Go.Proofs.YtoebcbhadcpcoaaDoor
namespace Rows

/-- THE TIED CARD OF 'cubitlaw03.BitsPlaces'. -/
def bitsPlacesCard : Claim7 := { stood := { row := bitsPlacesRow, standIns := [], harness := (true, "0bdc6f4a0ed9bd6eca636e55aeceddba94cd2b8968662dc34c486b9a3784a4f4"), looks := false }, kinds := [], alts := [], laidByText := true, laidKinds := [.data], laidTests := true, laidLooks := .later }
def BitsPlacesCardSaid : Prop := Claim7.holds Tryd.pinned (.plain (OpenSpec.ofChange bitsPlacesSpec)) bitsPlacesCard

/-- THE TIED CARD OF 'cubitlaw03.BitsWhole'. -/
def bitsWholeCard : Claim7 := { stood := { row := bitsWholeRow, standIns := [], harness := (true, "0bdc6f4a0ed9bd6eca636e55aeceddba94cd2b8968662dc34c486b9a3784a4f4"), looks := false }, kinds := [], alts := [], laidByText := true, laidKinds := [.data], laidTests := true, laidLooks := .later }
def BitsWholeCardSaid : Prop := Claim7.holds Tryd.pinned (.plain (OpenSpec.ofChange bitsWholeSpec)) bitsWholeCard

/-- THE TIED CARD OF 'cubitlaw03.BitsTexts'. -/
def bitsTextsCard : Claim7 := { stood := { row := bitsTextsRow, standIns := [], harness := (true, "0bdc6f4a0ed9bd6eca636e55aeceddba94cd2b8968662dc34c486b9a3784a4f4"), looks := false }, kinds := [], alts := [], laidByText := true, laidKinds := [.data], laidTests := true, laidLooks := .later }
def BitsTextsCardSaid : Prop := Claim7.holds Tryd.pinned (.plain (OpenSpec.ofChange bitsTextsSpec)) bitsTextsCard

/-- THE TIED CARD OF 'cubitlaw03.BitsSets'. -/
def bitsSetsCard : Claim7 := { stood := { row := bitsSetsRow, standIns := [], harness := (true, "0bdc6f4a0ed9bd6eca636e55aeceddba94cd2b8968662dc34c486b9a3784a4f4"), looks := false }, kinds := [], alts := [], laidByText := true, laidKinds := [.data], laidTests := true, laidLooks := .later }
def BitsSetsCardSaid : Prop := Claim7.holds Tryd.pinned (.plain (OpenSpec.ofChange bitsSetsSpec)) bitsSetsCard

/-- THE TIED CARD OF 'cubitlaw03.BitsBack'. -/
def bitsBackCard : Claim7 := { stood := { row := bitsBackRow, standIns := [], harness := (true, "0bdc6f4a0ed9bd6eca636e55aeceddba94cd2b8968662dc34c486b9a3784a4f4"), looks := false }, kinds := [], alts := [], laidByText := true, laidKinds := [.data], laidTests := true, laidLooks := .later }
def BitsBackCardSaid : Prop := Claim7.holds Tryd.pinned (.plain (OpenSpec.ofChange bitsBackSpec)) bitsBackCard

/-- THE TIED CARD OF 'cubitlaw03.BitsNumbers'. -/
def bitsNumbersCard : Claim7 := { stood := { row := bitsNumbersRow, standIns := [], harness := (true, "0bdc6f4a0ed9bd6eca636e55aeceddba94cd2b8968662dc34c486b9a3784a4f4"), looks := false }, kinds := [], alts := [], laidByText := true, laidKinds := [.data], laidTests := true, laidLooks := .later }
def BitsNumbersCardSaid : Prop := Claim7.holds Tryd.pinned (.plain (OpenSpec.ofChange bitsNumbersSpec)) bitsNumbersCard

/-- THE SECOND FORM's CARD OF 'cubitlaw03.BitsPlaces'. -/
def bitsPlacesUptoCard : Claim7 := { stood := { row := bitsPlacesUptoRow, standIns := [], harness := (true, "0bdc6f4a0ed9bd6eca636e55aeceddba94cd2b8968662dc34c486b9a3784a4f4"), looks := false }, kinds := [], alts := [], laidByText := true, laidKinds := [.data], laidTests := true, laidLooks := .later }
def BitsPlacesUptoCardSaid : Prop := Claim7.holds Tryd.pinned (.plain (OpenSpec.upto bitsPlacesSpec)) bitsPlacesUptoCard

/-- THE SECOND FORM's CARD OF 'cubitlaw03.BitsWhole'. -/
def bitsWholeUptoCard : Claim7 := { stood := { row := bitsWholeUptoRow, standIns := [], harness := (true, "0bdc6f4a0ed9bd6eca636e55aeceddba94cd2b8968662dc34c486b9a3784a4f4"), looks := false }, kinds := [], alts := [], laidByText := true, laidKinds := [.data], laidTests := true, laidLooks := .later }
def BitsWholeUptoCardSaid : Prop := Claim7.holds Tryd.pinned (.plain (OpenSpec.upto bitsWholeSpec)) bitsWholeUptoCard

/-- THE SECOND FORM's CARD OF 'cubitlaw03.BitsTexts'. -/
def bitsTextsUptoCard : Claim7 := { stood := { row := bitsTextsUptoRow, standIns := [], harness := (true, "0bdc6f4a0ed9bd6eca636e55aeceddba94cd2b8968662dc34c486b9a3784a4f4"), looks := false }, kinds := [], alts := [], laidByText := true, laidKinds := [.data], laidTests := true, laidLooks := .later }
def BitsTextsUptoCardSaid : Prop := Claim7.holds Tryd.pinned (.plain (OpenSpec.upto bitsTextsSpec)) bitsTextsUptoCard

/-- THE SECOND FORM's CARD OF 'cubitlaw03.BitsSets'. -/
def bitsSetsUptoCard : Claim7 := { stood := { row := bitsSetsUptoRow, standIns := [], harness := (true, "0bdc6f4a0ed9bd6eca636e55aeceddba94cd2b8968662dc34c486b9a3784a4f4"), looks := false }, kinds := [], alts := [], laidByText := true, laidKinds := [.data], laidTests := true, laidLooks := .later }
def BitsSetsUptoCardSaid : Prop := Claim7.holds Tryd.pinned (.plain (OpenSpec.upto bitsSetsSpec)) bitsSetsUptoCard

/-- THE SECOND FORM's CARD OF 'cubitlaw03.BitsBack'. -/
def bitsBackUptoCard : Claim7 := { stood := { row := bitsBackUptoRow, standIns := [], harness := (true, "0bdc6f4a0ed9bd6eca636e55aeceddba94cd2b8968662dc34c486b9a3784a4f4"), looks := false }, kinds := [], alts := [], laidByText := true, laidKinds := [.data], laidTests := true, laidLooks := .later }
def BitsBackUptoCardSaid : Prop := Claim7.holds Tryd.pinned (.plain (OpenSpec.upto bitsBackSpec)) bitsBackUptoCard

/-- THE SECOND FORM's CARD OF 'cubitlaw03.BitsNumbers'. -/
def bitsNumbersUptoCard : Claim7 := { stood := { row := bitsNumbersUptoRow, standIns := [], harness := (true, "0bdc6f4a0ed9bd6eca636e55aeceddba94cd2b8968662dc34c486b9a3784a4f4"), looks := false }, kinds := [], alts := [], laidByText := true, laidKinds := [.data], laidTests := true, laidLooks := .later }
def BitsNumbersUptoCardSaid : Prop := Claim7.holds Tryd.pinned (.plain (OpenSpec.upto bitsNumbersSpec)) bitsNumbersUptoCard
end Rows
end Go.Proofs.YtoebcbhadcpcoaaDoor
