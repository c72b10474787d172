/-
  DERIVED. GIVEN WITH THE SEED: THE CARDS: each row of YtechbhjdgfcgoaaDoorRows.lean that lists a variable, with what it lists TIED to the program's text (the seventh form; the later family's looks); each row that meets fmt, with fmt's text TOLD by the authors' own Lean function (tested against real Go, not proved from fmt's source: count such statements apart). THE CARD IS WHAT COUNTS. Prove the row's statement (the work); the ties are given (YtechbhjdgfcgoaaDoorTie.lean); close each card by the builder's one call (the guide's Derived/Test/ToyasCard.lean, 'card_holds'). Laid BY PROGRAM, IN A SANDBOX (cutbox-door.mjs). By AI agents, Wed Nov 11 2026. No macro, syntax, notation, axiom, sorry.
-/
import Derived.Test.YtechbhjdgfcgoaaDoorRows
import GoSem.ClaimSeven
namespace Go.Proofs.YtechbhjdgfcgoaaDoor
namespace Rows

/-- THE TIED CARD OF 'cubitlaw07.PauliParses'. -/
def pauliParsesCard : Claim7 := { stood := { row := pauliParsesRow, standIns := [], harness := (true, "91bc7ea7f141a37f3e0ec60a663726a7898dfd1b9402400593da937306c351c5"), looks := false }, kinds := [], alts := [], laidByText := true, laidKinds := [.data, .pinned], laidTests := true, laidLooks := .later }
def PauliParsesCardSaid : Prop := Claim7.holds Tryd.pinned (.plain (OpenSpec.ofChange pauliParsesSpec)) pauliParsesCard

/-- THE TIED CARD OF 'cubitlaw07.PauliTexts'. -/
def pauliTextsCard : Claim7 := { stood := { row := pauliTextsRow, standIns := [], harness := (true, "91bc7ea7f141a37f3e0ec60a663726a7898dfd1b9402400593da937306c351c5"), looks := false }, kinds := [], alts := [], laidByText := true, laidKinds := [.data, .pinned], laidTests := true, laidLooks := .later }
def PauliTextsCardSaid : Prop := Claim7.holds Tryd.pinned (.plain (OpenSpec.ofChange pauliTextsSpec)) pauliTextsCard

/-- THE SECOND FORM's CARD OF 'cubitlaw07.PauliParses'. -/
def pauliParsesUptoCard : Claim7 := { stood := { row := pauliParsesUptoRow, standIns := [], harness := (true, "91bc7ea7f141a37f3e0ec60a663726a7898dfd1b9402400593da937306c351c5"), looks := false }, kinds := [], alts := [], laidByText := true, laidKinds := [.data, .pinned], laidTests := true, laidLooks := .later }
def PauliParsesUptoCardSaid : Prop := Claim7.holds Tryd.pinned (.plain (OpenSpec.upto pauliParsesSpec)) pauliParsesUptoCard

/-- THE SECOND FORM's CARD OF 'cubitlaw07.PauliTexts'. -/
def pauliTextsUptoCard : Claim7 := { stood := { row := pauliTextsUptoRow, standIns := [], harness := (true, "91bc7ea7f141a37f3e0ec60a663726a7898dfd1b9402400593da937306c351c5"), looks := false }, kinds := [], alts := [], laidByText := true, laidKinds := [.data, .pinned], laidTests := true, laidLooks := .later }
def PauliTextsUptoCardSaid : Prop := Claim7.holds Tryd.pinned (.plain (OpenSpec.upto pauliTextsSpec)) pauliTextsUptoCard
end Rows
end Go.Proofs.YtechbhjdgfcgoaaDoor
