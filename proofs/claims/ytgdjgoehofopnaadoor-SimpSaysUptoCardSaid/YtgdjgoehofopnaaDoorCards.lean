/-
  DERIVED. GIVEN WITH THE SEED: THE CARDS: each row of YtgdjgoehofopnaaDoorRows.lean that lists a variable, with what it lists TIED to the program's text (the seventh form; the later family's looks); each row that meets fmt, with fmt's text TOLD by the authors' own Lean function (tested against real Go, not proved from fmt's source: count such statements apart). THE CARD IS WHAT COUNTS. Prove the row's statement (the work); the ties are given (YtgdjgoehofopnaaDoorTie.lean); close each card by the builder's one call (the guide's Derived/Test/ToyasCard.lean, 'card_holds'). Laid BY PROGRAM, IN A SANDBOX (cutbox-door.mjs). By AI agents, Wed Nov 11 2026. No macro, syntax, notation, axiom, sorry.
-/
import Derived.Test.YtgdjgoehofopnaaDoorRows
import GoSem.ClaimSeven
namespace Go.Proofs.YtgdjgoehofopnaaDoor
namespace Rows

/-- THE TIED CARD OF 'catchpolelaw18.SimpSays'. -/
def simpSaysCard : Claim7 := { stood := { row := simpSaysRow, standIns := [], harness := (true, "8bf75403a9c519c170d7dbe0b52852e9a75d50c06c43fe19e7910611b6703a07"), looks := false }, kinds := [], alts := [], laidByText := true, laidKinds := [.data, .pinned], laidTests := true, laidLooks := .later }
def SimpSaysCardSaid : Prop := Claim7.holds Tryd.pinned (.plain (OpenSpec.ofChange simpSaysSpec)) simpSaysCard

/-- THE TIED CARD OF 'catchpolelaw12.CapsSays'. -/
def capsSaysCard : Claim7 := { stood := { row := capsSaysRow, standIns := [], harness := (true, "8bf75403a9c519c170d7dbe0b52852e9a75d50c06c43fe19e7910611b6703a07"), looks := false }, kinds := [], alts := [], laidByText := true, laidKinds := [.data, .data, .data], laidTests := true, laidLooks := .later }
def CapsSaysCardSaid : Prop := Claim7.holds Tryd.pinned (.plain (OpenSpec.ofChange capsSaysSpec)) capsSaysCard

/-- THE TIED CARD OF 'catchpolelaw18.SimpKeeps'. -/
def simpKeepsCard : Claim7 := { stood := { row := simpKeepsRow, standIns := [], harness := (true, "8bf75403a9c519c170d7dbe0b52852e9a75d50c06c43fe19e7910611b6703a07"), looks := false }, kinds := [], alts := [], laidByText := true, laidKinds := [.data, .pinned], laidTests := true, laidLooks := .later }
def SimpKeepsCardSaid : Prop := Claim7.holds Tryd.pinned (.plain (OpenSpec.ofChange simpKeepsSpec)) simpKeepsCard

/-- THE SECOND FORM's CARD OF 'catchpolelaw18.SimpSays'. -/
def simpSaysUptoCard : Claim7 := { stood := { row := simpSaysUptoRow, standIns := [], harness := (true, "8bf75403a9c519c170d7dbe0b52852e9a75d50c06c43fe19e7910611b6703a07"), looks := false }, kinds := [], alts := [], laidByText := true, laidKinds := [.data, .pinned], laidTests := true, laidLooks := .later }
def SimpSaysUptoCardSaid : Prop := Claim7.holds Tryd.pinned (.plain (OpenSpec.upto simpSaysSpec)) simpSaysUptoCard

/-- THE SECOND FORM's CARD OF 'catchpolelaw12.CapsSays'. -/
def capsSaysUptoCard : Claim7 := { stood := { row := capsSaysUptoRow, standIns := [], harness := (true, "8bf75403a9c519c170d7dbe0b52852e9a75d50c06c43fe19e7910611b6703a07"), looks := false }, kinds := [], alts := [], laidByText := true, laidKinds := [.data, .data, .data], laidTests := true, laidLooks := .later }
def CapsSaysUptoCardSaid : Prop := Claim7.holds Tryd.pinned (.plain (OpenSpec.upto capsSaysSpec)) capsSaysUptoCard

/-- THE SECOND FORM's CARD OF 'catchpolelaw18.SimpKeeps'. -/
def simpKeepsUptoCard : Claim7 := { stood := { row := simpKeepsUptoRow, standIns := [], harness := (true, "8bf75403a9c519c170d7dbe0b52852e9a75d50c06c43fe19e7910611b6703a07"), looks := false }, kinds := [], alts := [], laidByText := true, laidKinds := [.data, .pinned], laidTests := true, laidLooks := .later }
def SimpKeepsUptoCardSaid : Prop := Claim7.holds Tryd.pinned (.plain (OpenSpec.upto simpKeepsSpec)) simpKeepsUptoCard
end Rows
end Go.Proofs.YtgdjgoehofopnaaDoor
