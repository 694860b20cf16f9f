/-
  DERIVED. GIVEN WITH THE SEED: THE CARDS: each row of YtknaaaphdjdaoaaDoorRows.lean that lists a variable, with what it lists TIED to the program's text (the seventh form; the later family's looks); each row that meets fmt, with fmt's text TOLD by the authors' own Lean function (tested against real Go, not proved from fmt's source: count such statements apart). THE CARD IS WHAT COUNTS. Prove the row's statement (the work); the ties are given (YtknaaaphdjdaoaaDoorTie.lean); close each card by the builder's one call (the guide's Derived/Test/ToyasCard.lean, 'card_holds'). Laid BY PROGRAM, IN A SANDBOX (cutbox-door.mjs). By AI agents, Wed Nov 11 2026. No macro, syntax, notation, axiom, sorry.
-/
import Derived.Test.YtknaaaphdjdaoaaDoorRows
import GoSem.ClaimSeven
namespace Go.Proofs.YtknaaaphdjdaoaaDoor
namespace Rows

/-- THE TIED CARD OF 'scriptoriumlaw17.WireWrites'. -/
def wireWritesCard : Claim7 := { stood := { row := wireWritesRow, standIns := [], harness := (true, "89aa7f13485354ca99027ea2a1d7ac994c3934e404d648dc03fcb2de8d12b9e1"), looks := true }, kinds := [], alts := [], laidByText := true, laidKinds := [.handle], laidTests := true, laidLooks := .later }
def WireWritesCardSaid : Prop := Claim7.holds Tryd.pinned (.plain (OpenSpec.ofChange wireWritesSpec)) wireWritesCard

/-- THE TIED CARD OF 'scriptoriumlaw17.WireBack'. -/
def wireBackCard : Claim7 := { stood := { row := wireBackRow, standIns := [], harness := (true, "89aa7f13485354ca99027ea2a1d7ac994c3934e404d648dc03fcb2de8d12b9e1"), looks := true }, kinds := [], alts := [], laidByText := true, laidKinds := [.handle], laidTests := true, laidLooks := .later }
def WireBackCardSaid : Prop := Claim7.holds Tryd.pinned (.plain (OpenSpec.ofChange wireBackSpec)) wireBackCard

/-- THE TIED CARD OF 'scriptoriumlaw17.WireApart'. -/
def wireApartCard : Claim7 := { stood := { row := wireApartRow, standIns := [], harness := (true, "89aa7f13485354ca99027ea2a1d7ac994c3934e404d648dc03fcb2de8d12b9e1"), looks := true }, kinds := [], alts := [], laidByText := true, laidKinds := [.handle], laidTests := true, laidLooks := .later }
def WireApartCardSaid : Prop := Claim7.holds Tryd.pinned (.plain (OpenSpec.ofChange wireApartSpec)) wireApartCard

/-- THE TIED CARD OF 'scriptoriumlaw17.WireBounds'. -/
def wireBoundsCard : Claim7 := { stood := { row := wireBoundsRow, standIns := [], harness := (true, "89aa7f13485354ca99027ea2a1d7ac994c3934e404d648dc03fcb2de8d12b9e1"), looks := true }, kinds := [], alts := [], laidByText := true, laidKinds := [.handle], laidTests := true, laidLooks := .later }
def WireBoundsCardSaid : Prop := Claim7.holds Tryd.pinned (.plain (OpenSpec.ofChange wireBoundsSpec)) wireBoundsCard

/-- THE SECOND FORM's CARD OF 'scriptoriumlaw17.WireWrites'. -/
def wireWritesUptoCard : Claim7 := { stood := { row := wireWritesUptoRow, standIns := [], harness := (true, "89aa7f13485354ca99027ea2a1d7ac994c3934e404d648dc03fcb2de8d12b9e1"), looks := true }, kinds := [], alts := [], laidByText := true, laidKinds := [.handle], laidTests := true, laidLooks := .later }
def WireWritesUptoCardSaid : Prop := Claim7.holds Tryd.pinned (.plain (OpenSpec.upto wireWritesSpec)) wireWritesUptoCard

/-- THE SECOND FORM's CARD OF 'scriptoriumlaw17.WireBack'. -/
def wireBackUptoCard : Claim7 := { stood := { row := wireBackUptoRow, standIns := [], harness := (true, "89aa7f13485354ca99027ea2a1d7ac994c3934e404d648dc03fcb2de8d12b9e1"), looks := true }, kinds := [], alts := [], laidByText := true, laidKinds := [.handle], laidTests := true, laidLooks := .later }
def WireBackUptoCardSaid : Prop := Claim7.holds Tryd.pinned (.plain (OpenSpec.upto wireBackSpec)) wireBackUptoCard

/-- THE SECOND FORM's CARD OF 'scriptoriumlaw17.WireApart'. -/
def wireApartUptoCard : Claim7 := { stood := { row := wireApartUptoRow, standIns := [], harness := (true, "89aa7f13485354ca99027ea2a1d7ac994c3934e404d648dc03fcb2de8d12b9e1"), looks := true }, kinds := [], alts := [], laidByText := true, laidKinds := [.handle], laidTests := true, laidLooks := .later }
def WireApartUptoCardSaid : Prop := Claim7.holds Tryd.pinned (.plain (OpenSpec.upto wireApartSpec)) wireApartUptoCard

/-- THE SECOND FORM's CARD OF 'scriptoriumlaw17.WireBounds'. -/
def wireBoundsUptoCard : Claim7 := { stood := { row := wireBoundsUptoRow, standIns := [], harness := (true, "89aa7f13485354ca99027ea2a1d7ac994c3934e404d648dc03fcb2de8d12b9e1"), looks := true }, kinds := [], alts := [], laidByText := true, laidKinds := [.handle], laidTests := true, laidLooks := .later }
def WireBoundsUptoCardSaid : Prop := Claim7.holds Tryd.pinned (.plain (OpenSpec.upto wireBoundsSpec)) wireBoundsUptoCard
end Rows
end Go.Proofs.YtknaaaphdjdaoaaDoor
