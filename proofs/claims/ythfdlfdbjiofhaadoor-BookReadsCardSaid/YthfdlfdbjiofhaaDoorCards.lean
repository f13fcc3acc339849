/-
  DERIVED. GIVEN WITH THE SEED: THE CARDS: each row of YthfdlfdbjiofhaaDoorRows.lean that lists a variable, with what it lists TIED to the program's text (the seventh form; the later family's looks); each row that meets fmt, with fmt's text TOLD by the authors' own Lean function (tested against real Go, not proved from fmt's source: count such statements apart). THE CARD IS WHAT COUNTS. Prove the row's statement (the work); the ties are given (YthfdlfdbjiofhaaDoorTie.lean); close each card by the builder's one call (the guide's Derived/Test/ToyasCard.lean, 'card_holds'). Laid BY PROGRAM, IN A SANDBOX (cutbox-door.mjs). By AI agents, Wed Nov 11 2026. No macro, syntax, notation, axiom, sorry.
-/
import Derived.Test.YthfdlfdbjiofhaaDoorRows
import GoSem.ClaimSeven
namespace Go.Proofs.YthfdlfdbjiofhaaDoor
namespace Rows

/-- THE TIED CARD OF 'wigeonlaw09.BookReads'. -/
def bookReadsCard : Claim7 := { stood := { row := bookReadsRow, standIns := [], harness := (true, "dd634c60b8a92978d86891b89fb02dea5cd2428316b8ff9efe4e5b564aed3290"), looks := true }, kinds := [], alts := [], laidByText := true, laidKinds := [.data, .data, .data, .data, .sentinel, .sentinel, .pinned], laidTests := true, laidLooks := .later }
def BookReadsCardSaid : Prop := Claim7.holds Tryd.pinned (.plain (OpenSpec.ofChange bookReadsSpec)) bookReadsCard

/-- THE TIED CARD OF 'wigeonlaw09.BookMerges'. -/
def bookMergesCard : Claim7 := { stood := { row := bookMergesRow, standIns := [], harness := (true, "dd634c60b8a92978d86891b89fb02dea5cd2428316b8ff9efe4e5b564aed3290"), looks := true }, kinds := [], alts := [], laidByText := true, laidKinds := [.data, .data, .data, .data, .sentinel, .sentinel, .pinned], laidTests := true, laidLooks := .later }
def BookMergesCardSaid : Prop := Claim7.holds Tryd.pinned (.plain (OpenSpec.ofChange bookMergesSpec)) bookMergesCard

/-- THE TIED CARD OF 'wigeonlaw09.BookWrites'. -/
def bookWritesCard : Claim7 := { stood := { row := bookWritesRow, standIns := [], harness := (true, "dd634c60b8a92978d86891b89fb02dea5cd2428316b8ff9efe4e5b564aed3290"), looks := true }, kinds := [], alts := [], laidByText := true, laidKinds := [.data, .data, .data, .data, .sentinel, .sentinel, .pinned], laidTests := true, laidLooks := .later }
def BookWritesCardSaid : Prop := Claim7.holds Tryd.pinned (.plain (OpenSpec.ofChange bookWritesSpec)) bookWritesCard

/-- THE TIED CARD OF 'wigeonlaw04.LureTexts'. -/
def lureTextsCard : Claim7 := { stood := { row := lureTextsRow, standIns := [], harness := (true, "dd634c60b8a92978d86891b89fb02dea5cd2428316b8ff9efe4e5b564aed3290"), looks := true }, kinds := [], alts := [], laidByText := true, laidKinds := [.data, .data, .data, .data, .sentinel, .sentinel, .pinned], laidTests := true, laidLooks := .later }
def LureTextsCardSaid : Prop := Claim7.holds Tryd.pinned (.plain (OpenSpec.ofChange lureTextsSpec)) lureTextsCard

/-- THE SECOND FORM's CARD OF 'wigeonlaw09.BookReads'. -/
def bookReadsUptoCard : Claim7 := { stood := { row := bookReadsUptoRow, standIns := [], harness := (true, "dd634c60b8a92978d86891b89fb02dea5cd2428316b8ff9efe4e5b564aed3290"), looks := true }, kinds := [], alts := [], laidByText := true, laidKinds := [.data, .data, .data, .data, .sentinel, .sentinel, .pinned], laidTests := true, laidLooks := .later }
def BookReadsUptoCardSaid : Prop := Claim7.holds Tryd.pinned (.plain (OpenSpec.upto bookReadsSpec)) bookReadsUptoCard

/-- THE SECOND FORM's CARD OF 'wigeonlaw09.BookMerges'. -/
def bookMergesUptoCard : Claim7 := { stood := { row := bookMergesUptoRow, standIns := [], harness := (true, "dd634c60b8a92978d86891b89fb02dea5cd2428316b8ff9efe4e5b564aed3290"), looks := true }, kinds := [], alts := [], laidByText := true, laidKinds := [.data, .data, .data, .data, .sentinel, .sentinel, .pinned], laidTests := true, laidLooks := .later }
def BookMergesUptoCardSaid : Prop := Claim7.holds Tryd.pinned (.plain (OpenSpec.upto bookMergesSpec)) bookMergesUptoCard

/-- THE SECOND FORM's CARD OF 'wigeonlaw09.BookWrites'. -/
def bookWritesUptoCard : Claim7 := { stood := { row := bookWritesUptoRow, standIns := [], harness := (true, "dd634c60b8a92978d86891b89fb02dea5cd2428316b8ff9efe4e5b564aed3290"), looks := true }, kinds := [], alts := [], laidByText := true, laidKinds := [.data, .data, .data, .data, .sentinel, .sentinel, .pinned], laidTests := true, laidLooks := .later }
def BookWritesUptoCardSaid : Prop := Claim7.holds Tryd.pinned (.plain (OpenSpec.upto bookWritesSpec)) bookWritesUptoCard

/-- THE SECOND FORM's CARD OF 'wigeonlaw04.LureTexts'. -/
def lureTextsUptoCard : Claim7 := { stood := { row := lureTextsUptoRow, standIns := [], harness := (true, "dd634c60b8a92978d86891b89fb02dea5cd2428316b8ff9efe4e5b564aed3290"), looks := true }, kinds := [], alts := [], laidByText := true, laidKinds := [.data, .data, .data, .data, .sentinel, .sentinel, .pinned], laidTests := true, laidLooks := .later }
def LureTextsUptoCardSaid : Prop := Claim7.holds Tryd.pinned (.plain (OpenSpec.upto lureTextsSpec)) lureTextsUptoCard
end Rows
end Go.Proofs.YthfdlfdbjiofhaaDoor
