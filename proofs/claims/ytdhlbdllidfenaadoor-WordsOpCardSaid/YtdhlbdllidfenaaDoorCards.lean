/-
  DERIVED. GIVEN WITH THE SEED: THE CARDS: each row of YtdhlbdllidfenaaDoorRows.lean that lists a variable, with what it lists TIED to the program's text (the seventh form; the later family's looks); each row that meets fmt, with fmt's text TOLD by the authors' own Lean function (tested against real Go, not proved from fmt's source: count such statements apart). THE CARD IS WHAT COUNTS. Prove the row's statement (the work); the ties are given (YtdhlbdllidfenaaDoorTie.lean); close each card by the builder's one call (the guide's Derived/Test/ToyasCard.lean, 'card_holds'). Laid BY PROGRAM, IN A SANDBOX (cutbox-door.mjs). By AI agents, Wed Nov 11 2026. No macro, syntax, notation, axiom, sorry.
-/
import Derived.Test.YtdhlbdllidfenaaDoorRows
import GoSem.ClaimSeven
namespace Go.Proofs.YtdhlbdllidfenaaDoor
namespace Rows

/-- THE TIED CARD OF 'flotillalaw16.WordsNumber'. -/
def wordsNumberCard : Claim7 := { stood := { row := wordsNumberRow, standIns := [], harness := (true, "323a44a4a49cd40669fb7c5e5b16d573d6f6c180b4cdb52273e44c1422f1fb64"), looks := true }, kinds := [], alts := [], laidByText := true, laidKinds := [.data, .data, .data, .sentinel, .sentinel], laidTests := true, laidLooks := .later }
def WordsNumberCardSaid : Prop := Claim7.holds Tryd.pinned (.plain (OpenSpec.ofChange wordsNumberSpec)) wordsNumberCard

/-- THE TIED CARD OF 'flotillalaw16.WordsResult'. -/
def wordsResultCard : Claim7 := { stood := { row := wordsResultRow, standIns := [], harness := (true, "323a44a4a49cd40669fb7c5e5b16d573d6f6c180b4cdb52273e44c1422f1fb64"), looks := true }, kinds := [], alts := [], laidByText := true, laidKinds := [.data, .data, .data, .sentinel, .sentinel, .data], laidTests := true, laidLooks := .later }
def WordsResultCardSaid : Prop := Claim7.holds Tryd.pinned (.plain (OpenSpec.ofChange wordsResultSpec)) wordsResultCard

/-- THE TIED CARD OF 'flotillalaw16.WordsReadResult'. -/
def wordsReadResultCard : Claim7 := { stood := { row := wordsReadResultRow, standIns := [], harness := (true, "323a44a4a49cd40669fb7c5e5b16d573d6f6c180b4cdb52273e44c1422f1fb64"), looks := true }, kinds := [], alts := [], laidByText := true, laidKinds := [.data, .data, .data, .sentinel, .sentinel, .data], laidTests := true, laidLooks := .later }
def WordsReadResultCardSaid : Prop := Claim7.holds Tryd.pinned (.plain (OpenSpec.ofChange wordsReadResultSpec)) wordsReadResultCard

/-- THE TIED CARD OF 'flotillalaw16.WordsOp'. -/
def wordsOpCard : Claim7 := { stood := { row := wordsOpRow, standIns := [], harness := (true, "323a44a4a49cd40669fb7c5e5b16d573d6f6c180b4cdb52273e44c1422f1fb64"), looks := true }, kinds := [], alts := [], laidByText := true, laidKinds := [.data, .data, .data, .sentinel, .sentinel, .data], laidTests := true, laidLooks := .later }
def WordsOpCardSaid : Prop := Claim7.holds Tryd.pinned (.plain (OpenSpec.ofChange wordsOpSpec)) wordsOpCard

/-- THE TIED CARD OF 'flotillalaw16.WordsReadOp'. -/
def wordsReadOpCard : Claim7 := { stood := { row := wordsReadOpRow, standIns := [], harness := (true, "323a44a4a49cd40669fb7c5e5b16d573d6f6c180b4cdb52273e44c1422f1fb64"), looks := true }, kinds := [], alts := [], laidByText := true, laidKinds := [.data, .data, .data, .sentinel, .sentinel, .data], laidTests := true, laidLooks := .later }
def WordsReadOpCardSaid : Prop := Claim7.holds Tryd.pinned (.plain (OpenSpec.ofChange wordsReadOpSpec)) wordsReadOpCard

/-- THE SECOND FORM's CARD OF 'flotillalaw16.WordsNumber'. -/
def wordsNumberUptoCard : Claim7 := { stood := { row := wordsNumberUptoRow, standIns := [], harness := (true, "323a44a4a49cd40669fb7c5e5b16d573d6f6c180b4cdb52273e44c1422f1fb64"), looks := true }, kinds := [], alts := [], laidByText := true, laidKinds := [.data, .data, .data, .sentinel, .sentinel], laidTests := true, laidLooks := .later }
def WordsNumberUptoCardSaid : Prop := Claim7.holds Tryd.pinned (.plain (OpenSpec.upto wordsNumberSpec)) wordsNumberUptoCard

/-- THE SECOND FORM's CARD OF 'flotillalaw16.WordsResult'. -/
def wordsResultUptoCard : Claim7 := { stood := { row := wordsResultUptoRow, standIns := [], harness := (true, "323a44a4a49cd40669fb7c5e5b16d573d6f6c180b4cdb52273e44c1422f1fb64"), looks := true }, kinds := [], alts := [], laidByText := true, laidKinds := [.data, .data, .data, .sentinel, .sentinel, .data], laidTests := true, laidLooks := .later }
def WordsResultUptoCardSaid : Prop := Claim7.holds Tryd.pinned (.plain (OpenSpec.upto wordsResultSpec)) wordsResultUptoCard

/-- THE SECOND FORM's CARD OF 'flotillalaw16.WordsReadResult'. -/
def wordsReadResultUptoCard : Claim7 := { stood := { row := wordsReadResultUptoRow, standIns := [], harness := (true, "323a44a4a49cd40669fb7c5e5b16d573d6f6c180b4cdb52273e44c1422f1fb64"), looks := true }, kinds := [], alts := [], laidByText := true, laidKinds := [.data, .data, .data, .sentinel, .sentinel, .data], laidTests := true, laidLooks := .later }
def WordsReadResultUptoCardSaid : Prop := Claim7.holds Tryd.pinned (.plain (OpenSpec.upto wordsReadResultSpec)) wordsReadResultUptoCard

/-- THE SECOND FORM's CARD OF 'flotillalaw16.WordsOp'. -/
def wordsOpUptoCard : Claim7 := { stood := { row := wordsOpUptoRow, standIns := [], harness := (true, "323a44a4a49cd40669fb7c5e5b16d573d6f6c180b4cdb52273e44c1422f1fb64"), looks := true }, kinds := [], alts := [], laidByText := true, laidKinds := [.data, .data, .data, .sentinel, .sentinel, .data], laidTests := true, laidLooks := .later }
def WordsOpUptoCardSaid : Prop := Claim7.holds Tryd.pinned (.plain (OpenSpec.upto wordsOpSpec)) wordsOpUptoCard

/-- THE SECOND FORM's CARD OF 'flotillalaw16.WordsReadOp'. -/
def wordsReadOpUptoCard : Claim7 := { stood := { row := wordsReadOpUptoRow, standIns := [], harness := (true, "323a44a4a49cd40669fb7c5e5b16d573d6f6c180b4cdb52273e44c1422f1fb64"), looks := true }, kinds := [], alts := [], laidByText := true, laidKinds := [.data, .data, .data, .sentinel, .sentinel, .data], laidTests := true, laidLooks := .later }
def WordsReadOpUptoCardSaid : Prop := Claim7.holds Tryd.pinned (.plain (OpenSpec.upto wordsReadOpSpec)) wordsReadOpUptoCard
end Rows
end Go.Proofs.YtdhlbdllidfenaaDoor
