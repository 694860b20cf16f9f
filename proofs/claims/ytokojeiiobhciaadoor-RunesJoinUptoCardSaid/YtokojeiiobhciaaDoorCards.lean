/-
  DERIVED. GIVEN WITH THE SEED: THE CARDS: each row of YtokojeiiobhciaaDoorRows.lean that lists a variable, with what it lists TIED to the program's text (the seventh form; the later family's looks); each row that meets fmt, with fmt's text TOLD by the authors' own Lean function (tested against real Go, not proved from fmt's source: count such statements apart). THE CARD IS WHAT COUNTS. Prove the row's statement (the work); the ties are given (YtokojeiiobhciaaDoorTie.lean); close each card by the builder's one call (the guide's Derived/Test/ToyasCard.lean, 'card_holds'). Laid BY PROGRAM, IN A SANDBOX (cutbox-door.mjs). By AI agents, Wed Nov 11 2026. No macro, syntax, notation, axiom, sorry.
-/
import Derived.Test.YtokojeiiobhciaaDoorRows
import GoSem.ClaimSeven
namespace Go.Proofs.YtokojeiiobhciaaDoor
namespace Rows

/-- THE TIED CARD OF 'scriptoriumlaw01.RunesLines'. -/
def runesLinesCard : Claim7 := { stood := { row := runesLinesRow, standIns := [], harness := (true, "25f04b395c530c4f208398bb510f1e3a660e2040cef94d5eeccfd0106f4545d9"), looks := true }, kinds := [], alts := [], laidByText := true, laidKinds := [.data, .pinned], laidTests := true, laidLooks := .later }
def RunesLinesCardSaid : Prop := Claim7.holds Tryd.pinned (.plain (OpenSpec.ofChange runesLinesSpec)) runesLinesCard

/-- THE TIED CARD OF 'scriptoriumlaw01.RunesJoin'. -/
def runesJoinCard : Claim7 := { stood := { row := runesJoinRow, standIns := [], harness := (true, "25f04b395c530c4f208398bb510f1e3a660e2040cef94d5eeccfd0106f4545d9"), looks := true }, kinds := [], alts := [], laidByText := true, laidKinds := [.data, .pinned], laidTests := true, laidLooks := .later }
def RunesJoinCardSaid : Prop := Claim7.holds Tryd.pinned (.plain (OpenSpec.ofChange runesJoinSpec)) runesJoinCard

/-- THE TIED CARD OF 'scriptoriumlaw01.RunesStays'. -/
def runesStaysCard : Claim7 := { stood := { row := runesStaysRow, standIns := [], harness := (true, "25f04b395c530c4f208398bb510f1e3a660e2040cef94d5eeccfd0106f4545d9"), looks := true }, kinds := [], alts := [], laidByText := true, laidKinds := [.data, .pinned], laidTests := true, laidLooks := .later }
def RunesStaysCardSaid : Prop := Claim7.holds Tryd.pinned (.plain (OpenSpec.ofChange runesStaysSpec)) runesStaysCard

/-- THE TIED CARD OF 'scriptoriumlaw01.RunesApart'. -/
def runesApartCard : Claim7 := { stood := { row := runesApartRow, standIns := [], harness := (true, "25f04b395c530c4f208398bb510f1e3a660e2040cef94d5eeccfd0106f4545d9"), looks := true }, kinds := [], alts := [], laidByText := true, laidKinds := [.data, .pinned], laidTests := true, laidLooks := .later }
def RunesApartCardSaid : Prop := Claim7.holds Tryd.pinned (.plain (OpenSpec.ofChange runesApartSpec)) runesApartCard

/-- THE SECOND FORM's CARD OF 'scriptoriumlaw01.RunesLines'. -/
def runesLinesUptoCard : Claim7 := { stood := { row := runesLinesUptoRow, standIns := [], harness := (true, "25f04b395c530c4f208398bb510f1e3a660e2040cef94d5eeccfd0106f4545d9"), looks := true }, kinds := [], alts := [], laidByText := true, laidKinds := [.data, .pinned], laidTests := true, laidLooks := .later }
def RunesLinesUptoCardSaid : Prop := Claim7.holds Tryd.pinned (.plain (OpenSpec.upto runesLinesSpec)) runesLinesUptoCard

/-- THE SECOND FORM's CARD OF 'scriptoriumlaw01.RunesJoin'. -/
def runesJoinUptoCard : Claim7 := { stood := { row := runesJoinUptoRow, standIns := [], harness := (true, "25f04b395c530c4f208398bb510f1e3a660e2040cef94d5eeccfd0106f4545d9"), looks := true }, kinds := [], alts := [], laidByText := true, laidKinds := [.data, .pinned], laidTests := true, laidLooks := .later }
def RunesJoinUptoCardSaid : Prop := Claim7.holds Tryd.pinned (.plain (OpenSpec.upto runesJoinSpec)) runesJoinUptoCard

/-- THE SECOND FORM's CARD OF 'scriptoriumlaw01.RunesStays'. -/
def runesStaysUptoCard : Claim7 := { stood := { row := runesStaysUptoRow, standIns := [], harness := (true, "25f04b395c530c4f208398bb510f1e3a660e2040cef94d5eeccfd0106f4545d9"), looks := true }, kinds := [], alts := [], laidByText := true, laidKinds := [.data, .pinned], laidTests := true, laidLooks := .later }
def RunesStaysUptoCardSaid : Prop := Claim7.holds Tryd.pinned (.plain (OpenSpec.upto runesStaysSpec)) runesStaysUptoCard

/-- THE SECOND FORM's CARD OF 'scriptoriumlaw01.RunesApart'. -/
def runesApartUptoCard : Claim7 := { stood := { row := runesApartUptoRow, standIns := [], harness := (true, "25f04b395c530c4f208398bb510f1e3a660e2040cef94d5eeccfd0106f4545d9"), looks := true }, kinds := [], alts := [], laidByText := true, laidKinds := [.data, .pinned], laidTests := true, laidLooks := .later }
def RunesApartUptoCardSaid : Prop := Claim7.holds Tryd.pinned (.plain (OpenSpec.upto runesApartSpec)) runesApartUptoCard
end Rows
end Go.Proofs.YtokojeiiobhciaaDoor
