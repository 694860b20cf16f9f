/-
  DERIVED. GIVEN WITH THE SEED: THE CARDS: each row of YtokojeiiobhciaaGreatDoorRows.lean that lists a variable, with what it lists TIED to the program's text (the seventh form; the later family's looks); each row that meets fmt, with fmt's text TOLD by the authors' own Lean function (tested against real Go, not proved from fmt's source: count such statements apart). THE CARD IS WHAT COUNTS. Prove the row's statement (the work); the ties are given (YtokojeiiobhciaaGreatDoorTie.lean); close each card by the builder's one call (the guide's Derived/Test/ToyasCard.lean, 'card_holds'). Laid BY PROGRAM, IN A SANDBOX (cutbox-door.mjs). By AI agents, Wed Nov 11 2026. No macro, syntax, notation, axiom, sorry.
-/
import Derived.Test.YtokojeiiobhciaaGreatDoorRows
import GoSem.ClaimSeven
namespace Go.Proofs.YtokojeiiobhciaaGreatDoor
namespace Rows

/-- THE TIED CARD OF 'scriptoriumlaw01.RunesClean'. -/
def runesCleanCard : Claim7 := { stood := { row := runesCleanRow, standIns := [], harness := (true, "6a50af1e965ff156f6fe06ca8a98ea53d4967398a887084a5764822f29df4d68"), looks := true }, kinds := [], alts := [], laidByText := true, laidKinds := [.data, .pinned], laidTests := true, laidLooks := .later }
def RunesCleanCardSaid : Prop := Claim7.holds Tryz.pinned (.plain (OpenSpec.ofChange runesCleanSpec)) runesCleanCard

/-- THE TIED CARD OF 'scriptoriumlaw01.RunesFold'. -/
def runesFoldCard : Claim7 := { stood := { row := runesFoldRow, standIns := [], harness := (true, "6a50af1e965ff156f6fe06ca8a98ea53d4967398a887084a5764822f29df4d68"), looks := true }, kinds := [], alts := [], laidByText := true, laidKinds := [.data, .pinned], laidTests := true, laidLooks := .later }
def RunesFoldCardSaid : Prop := Claim7.holds Tryz.pinned (.plain (OpenSpec.ofChange runesFoldSpec)) runesFoldCard

/-- THE TIED CARD OF 'scriptoriumlaw01.RunesKinds'. -/
def runesKindsCard : Claim7 := { stood := { row := runesKindsRow, standIns := [], harness := (true, "6a50af1e965ff156f6fe06ca8a98ea53d4967398a887084a5764822f29df4d68"), looks := true }, kinds := [], alts := [], laidByText := true, laidKinds := [.data, .pinned], laidTests := true, laidLooks := .later }
def RunesKindsCardSaid : Prop := Claim7.holds Tryz.pinned (.plain (OpenSpec.ofChange runesKindsSpec)) runesKindsCard

/-- THE SECOND FORM's CARD OF 'scriptoriumlaw01.RunesClean'. -/
def runesCleanUptoCard : Claim7 := { stood := { row := runesCleanUptoRow, standIns := [], harness := (true, "6a50af1e965ff156f6fe06ca8a98ea53d4967398a887084a5764822f29df4d68"), looks := true }, kinds := [], alts := [], laidByText := true, laidKinds := [.data, .pinned], laidTests := true, laidLooks := .later }
def RunesCleanUptoCardSaid : Prop := Claim7.holds Tryz.pinned (.plain (OpenSpec.upto runesCleanSpec)) runesCleanUptoCard

/-- THE SECOND FORM's CARD OF 'scriptoriumlaw01.RunesFold'. -/
def runesFoldUptoCard : Claim7 := { stood := { row := runesFoldUptoRow, standIns := [], harness := (true, "6a50af1e965ff156f6fe06ca8a98ea53d4967398a887084a5764822f29df4d68"), looks := true }, kinds := [], alts := [], laidByText := true, laidKinds := [.data, .pinned], laidTests := true, laidLooks := .later }
def RunesFoldUptoCardSaid : Prop := Claim7.holds Tryz.pinned (.plain (OpenSpec.upto runesFoldSpec)) runesFoldUptoCard

/-- THE SECOND FORM's CARD OF 'scriptoriumlaw01.RunesKinds'. -/
def runesKindsUptoCard : Claim7 := { stood := { row := runesKindsUptoRow, standIns := [], harness := (true, "6a50af1e965ff156f6fe06ca8a98ea53d4967398a887084a5764822f29df4d68"), looks := true }, kinds := [], alts := [], laidByText := true, laidKinds := [.data, .pinned], laidTests := true, laidLooks := .later }
def RunesKindsUptoCardSaid : Prop := Claim7.holds Tryz.pinned (.plain (OpenSpec.upto runesKindsSpec)) runesKindsUptoCard
end Rows
end Go.Proofs.YtokojeiiobhciaaGreatDoor
