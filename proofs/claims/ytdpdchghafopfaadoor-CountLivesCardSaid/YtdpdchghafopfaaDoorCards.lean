/-
  DERIVED. GIVEN WITH THE SEED: THE CARDS: each row of YtdpdchghafopfaaDoorRows.lean that lists a variable, with what it lists TIED to the program's text (the seventh form; the later family's looks); each row that meets fmt, with fmt's text TOLD by the authors' own Lean function (tested against real Go, not proved from fmt's source: count such statements apart). THE CARD IS WHAT COUNTS. Prove the row's statement (the work); the ties are given (YtdpdchghafopfaaDoorTie.lean); close each card by the builder's one call (the guide's Derived/Test/ToyasCard.lean, 'card_holds'). Laid BY PROGRAM, IN A SANDBOX (cutbox-door.mjs). By AI agents, Wed Nov 11 2026. No macro, syntax, notation, axiom, sorry.
-/
import Derived.Test.YtdpdchghafopfaaDoorRows
import GoSem.ClaimSeven
namespace Go.Proofs.YtdpdchghafopfaaDoor
namespace Rows

/-- THE TIED CARD OF 'wigeonlaw06.CountHistories'. -/
def countHistoriesCard : Claim7 := { stood := { row := countHistoriesRow, standIns := [], harness := (true, "8f174c74167e2a90cfb6b8450c1b5ef83358d7521a4944eb72a9fa70f84a99c0"), looks := true }, kinds := [], alts := [], laidByText := true, laidKinds := [.data, .pinned], laidTests := true, laidLooks := .later }
def CountHistoriesCardSaid : Prop := Claim7.holds Tryd.pinned (.plain (OpenSpec.ofChange countHistoriesSpec)) countHistoriesCard

/-- THE TIED CARD OF 'wigeonlaw06.CountLives'. -/
def countLivesCard : Claim7 := { stood := { row := countLivesRow, standIns := [], harness := (true, "8f174c74167e2a90cfb6b8450c1b5ef83358d7521a4944eb72a9fa70f84a99c0"), looks := true }, kinds := [], alts := [], laidByText := true, laidKinds := [.data, .pinned], laidTests := true, laidLooks := .later }
def CountLivesCardSaid : Prop := Claim7.holds Tryd.pinned (.plain (OpenSpec.ofChange countLivesSpec)) countLivesCard

/-- THE TIED CARD OF 'wigeonlaw02.ScreenTexts'. -/
def screenTextsCard : Claim7 := { stood := { row := screenTextsRow, standIns := [], harness := (true, "8f174c74167e2a90cfb6b8450c1b5ef83358d7521a4944eb72a9fa70f84a99c0"), looks := true }, kinds := [], alts := [], laidByText := true, laidKinds := [.data, .data, .data, .data, .sentinel, .sentinel, .pinned], laidTests := true, laidLooks := .later }
def ScreenTextsCardSaid : Prop := Claim7.holds Tryd.pinned (.plain (OpenSpec.ofChange screenTextsSpec)) screenTextsCard

/-- THE SECOND FORM's CARD OF 'wigeonlaw06.CountHistories'. -/
def countHistoriesUptoCard : Claim7 := { stood := { row := countHistoriesUptoRow, standIns := [], harness := (true, "8f174c74167e2a90cfb6b8450c1b5ef83358d7521a4944eb72a9fa70f84a99c0"), looks := true }, kinds := [], alts := [], laidByText := true, laidKinds := [.data, .pinned], laidTests := true, laidLooks := .later }
def CountHistoriesUptoCardSaid : Prop := Claim7.holds Tryd.pinned (.plain (OpenSpec.upto countHistoriesSpec)) countHistoriesUptoCard

/-- THE SECOND FORM's CARD OF 'wigeonlaw06.CountLives'. -/
def countLivesUptoCard : Claim7 := { stood := { row := countLivesUptoRow, standIns := [], harness := (true, "8f174c74167e2a90cfb6b8450c1b5ef83358d7521a4944eb72a9fa70f84a99c0"), looks := true }, kinds := [], alts := [], laidByText := true, laidKinds := [.data, .pinned], laidTests := true, laidLooks := .later }
def CountLivesUptoCardSaid : Prop := Claim7.holds Tryd.pinned (.plain (OpenSpec.upto countLivesSpec)) countLivesUptoCard

/-- THE SECOND FORM's CARD OF 'wigeonlaw02.ScreenTexts'. -/
def screenTextsUptoCard : Claim7 := { stood := { row := screenTextsUptoRow, standIns := [], harness := (true, "8f174c74167e2a90cfb6b8450c1b5ef83358d7521a4944eb72a9fa70f84a99c0"), looks := true }, kinds := [], alts := [], laidByText := true, laidKinds := [.data, .data, .data, .data, .sentinel, .sentinel, .pinned], laidTests := true, laidLooks := .later }
def ScreenTextsUptoCardSaid : Prop := Claim7.holds Tryd.pinned (.plain (OpenSpec.upto screenTextsSpec)) screenTextsUptoCard
end Rows
end Go.Proofs.YtdpdchghafopfaaDoor
