/-
  DERIVED. GIVEN WITH THE SEED: THE CARDS: each row of YtealopafgipimaaDoorRows.lean that lists a variable, with what it lists TIED to the program's text (the seventh form; the later family's looks); each row that meets fmt, with fmt's text TOLD by the authors' own Lean function (tested against real Go, not proved from fmt's source: count such statements apart). THE CARD IS WHAT COUNTS. Prove the row's statement (the work); the ties are given (YtealopafgipimaaDoorTie.lean); close each card by the builder's one call (the guide's Derived/Test/ToyasCard.lean, 'card_holds'). Laid BY PROGRAM, IN A SANDBOX (cutbox-door.mjs). By AI agents, Wed Nov 11 2026. No macro, syntax, notation, axiom, sorry.
-/
import Derived.Test.YtealopafgipimaaDoorRows
import GoSem.ClaimSeven
namespace Go.Proofs.YtealopafgipimaaDoor
namespace Rows

/-- THE TIED CARD OF 'scriptoriumlaw13.SnapNumbers'. -/
def snapNumbersCard : Claim7 := { stood := { row := snapNumbersRow, standIns := [], harness := (true, "4a79cc8e07b957b89610466dd970cb115ade8d01a5baef7be0128dc79f194f17"), looks := true }, kinds := [], alts := [], laidByText := true, laidKinds := [.handle], laidTests := true, laidLooks := .later }
def SnapNumbersCardSaid : Prop := Claim7.holds Tryd.pinned (.plain (OpenSpec.ofChange snapNumbersSpec)) snapNumbersCard

/-- THE TIED CARD OF 'scriptoriumlaw13.SnapBack'. -/
def snapBackCard : Claim7 := { stood := { row := snapBackRow, standIns := [], harness := (true, "4a79cc8e07b957b89610466dd970cb115ade8d01a5baef7be0128dc79f194f17"), looks := true }, kinds := [], alts := [], laidByText := true, laidKinds := [.handle], laidTests := true, laidLooks := .later }
def SnapBackCardSaid : Prop := Claim7.holds Tryd.pinned (.plain (OpenSpec.ofChange snapBackSpec)) snapBackCard

/-- THE TIED CARD OF 'scriptoriumlaw13.SnapStores'. -/
def snapStoresCard : Claim7 := { stood := { row := snapStoresRow, standIns := [], harness := (true, "4a79cc8e07b957b89610466dd970cb115ade8d01a5baef7be0128dc79f194f17"), looks := true }, kinds := [], alts := [], laidByText := true, laidKinds := [.handle], laidTests := true, laidLooks := .later }
def SnapStoresCardSaid : Prop := Claim7.holds Tryd.pinned (.plain (OpenSpec.ofChange snapStoresSpec)) snapStoresCard

/-- THE TIED CARD OF 'scriptoriumlaw13.SnapApart'. -/
def snapApartCard : Claim7 := { stood := { row := snapApartRow, standIns := [], harness := (true, "4a79cc8e07b957b89610466dd970cb115ade8d01a5baef7be0128dc79f194f17"), looks := true }, kinds := [], alts := [], laidByText := true, laidKinds := [.handle], laidTests := true, laidLooks := .later }
def SnapApartCardSaid : Prop := Claim7.holds Tryd.pinned (.plain (OpenSpec.ofChange snapApartSpec)) snapApartCard

/-- THE SECOND FORM's CARD OF 'scriptoriumlaw13.SnapNumbers'. -/
def snapNumbersUptoCard : Claim7 := { stood := { row := snapNumbersUptoRow, standIns := [], harness := (true, "4a79cc8e07b957b89610466dd970cb115ade8d01a5baef7be0128dc79f194f17"), looks := true }, kinds := [], alts := [], laidByText := true, laidKinds := [.handle], laidTests := true, laidLooks := .later }
def SnapNumbersUptoCardSaid : Prop := Claim7.holds Tryd.pinned (.plain (OpenSpec.upto snapNumbersSpec)) snapNumbersUptoCard

/-- THE SECOND FORM's CARD OF 'scriptoriumlaw13.SnapBack'. -/
def snapBackUptoCard : Claim7 := { stood := { row := snapBackUptoRow, standIns := [], harness := (true, "4a79cc8e07b957b89610466dd970cb115ade8d01a5baef7be0128dc79f194f17"), looks := true }, kinds := [], alts := [], laidByText := true, laidKinds := [.handle], laidTests := true, laidLooks := .later }
def SnapBackUptoCardSaid : Prop := Claim7.holds Tryd.pinned (.plain (OpenSpec.upto snapBackSpec)) snapBackUptoCard

/-- THE SECOND FORM's CARD OF 'scriptoriumlaw13.SnapStores'. -/
def snapStoresUptoCard : Claim7 := { stood := { row := snapStoresUptoRow, standIns := [], harness := (true, "4a79cc8e07b957b89610466dd970cb115ade8d01a5baef7be0128dc79f194f17"), looks := true }, kinds := [], alts := [], laidByText := true, laidKinds := [.handle], laidTests := true, laidLooks := .later }
def SnapStoresUptoCardSaid : Prop := Claim7.holds Tryd.pinned (.plain (OpenSpec.upto snapStoresSpec)) snapStoresUptoCard

/-- THE SECOND FORM's CARD OF 'scriptoriumlaw13.SnapApart'. -/
def snapApartUptoCard : Claim7 := { stood := { row := snapApartUptoRow, standIns := [], harness := (true, "4a79cc8e07b957b89610466dd970cb115ade8d01a5baef7be0128dc79f194f17"), looks := true }, kinds := [], alts := [], laidByText := true, laidKinds := [.handle], laidTests := true, laidLooks := .later }
def SnapApartUptoCardSaid : Prop := Claim7.holds Tryd.pinned (.plain (OpenSpec.upto snapApartSpec)) snapApartUptoCard
end Rows
end Go.Proofs.YtealopafgipimaaDoor
