/-
  DERIVED. GIVEN WITH THE SEED: THE CARDS: each row of YtkmidilaabgooaaDoorRows.lean that lists a variable, with what it lists TIED to the program's text (the seventh form; the later family's looks); each row that meets fmt, with fmt's text TOLD by the authors' own Lean function (tested against real Go, not proved from fmt's source: count such statements apart). THE CARD IS WHAT COUNTS. Prove the row's statement (the work); the ties are given (YtkmidilaabgooaaDoorTie.lean); close each card by the builder's one call (the guide's Derived/Test/ToyasCard.lean, 'card_holds'). Laid BY PROGRAM, IN A SANDBOX (cutbox-door.mjs). By AI agents, Wed Nov 11 2026. No macro, syntax, notation, axiom, sorry.
-/
import Derived.Test.YtkmidilaabgooaaDoorRows
import GoSem.ClaimSeven
namespace Go.Proofs.YtkmidilaabgooaaDoor
namespace Rows

/-- THE TIED CARD OF 'scriptoriumlaw04.SpanTells'. -/
def spanTellsCard : Claim7 := { stood := { row := spanTellsRow, standIns := [], harness := (true, "09e40ad72973873df7c988a477217c7cdaee3923b8d0a83600c9a370a52d9f17"), looks := false }, kinds := [], alts := [], laidByText := true, laidKinds := [.data, .pinned], laidTests := true, laidLooks := .later }
def SpanTellsCardSaid : Prop := Claim7.holds Tryd.pinned (.plain (OpenSpec.ofChange spanTellsSpec)) spanTellsCard

/-- THE TIED CARD OF 'scriptoriumlaw04.SpanFront'. -/
def spanFrontCard : Claim7 := { stood := { row := spanFrontRow, standIns := [], harness := (true, "09e40ad72973873df7c988a477217c7cdaee3923b8d0a83600c9a370a52d9f17"), looks := false }, kinds := [], alts := [], laidByText := true, laidKinds := [.data, .pinned], laidTests := true, laidLooks := .later }
def SpanFrontCardSaid : Prop := Claim7.holds Tryd.pinned (.plain (OpenSpec.ofChange spanFrontSpec)) spanFrontCard

/-- THE TIED CARD OF 'scriptoriumlaw04.SpanCode'. -/
def spanCodeCard : Claim7 := { stood := { row := spanCodeRow, standIns := [], harness := (true, "09e40ad72973873df7c988a477217c7cdaee3923b8d0a83600c9a370a52d9f17"), looks := false }, kinds := [], alts := [], laidByText := true, laidKinds := [.data, .pinned], laidTests := true, laidLooks := .later }
def SpanCodeCardSaid : Prop := Claim7.holds Tryd.pinned (.plain (OpenSpec.ofChange spanCodeSpec)) spanCodeCard

/-- THE TIED CARD OF 'scriptoriumlaw04.SpanTags'. -/
def spanTagsCard : Claim7 := { stood := { row := spanTagsRow, standIns := [], harness := (true, "09e40ad72973873df7c988a477217c7cdaee3923b8d0a83600c9a370a52d9f17"), looks := false }, kinds := [], alts := [], laidByText := true, laidKinds := [.data, .pinned], laidTests := true, laidLooks := .later }
def SpanTagsCardSaid : Prop := Claim7.holds Tryd.pinned (.plain (OpenSpec.ofChange spanTagsSpec)) spanTagsCard

/-- THE TIED CARD OF 'scriptoriumlaw04.SpanComments'. -/
def spanCommentsCard : Claim7 := { stood := { row := spanCommentsRow, standIns := [], harness := (true, "09e40ad72973873df7c988a477217c7cdaee3923b8d0a83600c9a370a52d9f17"), looks := false }, kinds := [], alts := [], laidByText := true, laidKinds := [.data, .pinned], laidTests := true, laidLooks := .later }
def SpanCommentsCardSaid : Prop := Claim7.holds Tryd.pinned (.plain (OpenSpec.ofChange spanCommentsSpec)) spanCommentsCard

/-- THE TIED CARD OF 'scriptoriumlaw04.SpanLinks'. -/
def spanLinksCard : Claim7 := { stood := { row := spanLinksRow, standIns := [], harness := (true, "09e40ad72973873df7c988a477217c7cdaee3923b8d0a83600c9a370a52d9f17"), looks := false }, kinds := [], alts := [], laidByText := true, laidKinds := [.data, .pinned], laidTests := true, laidLooks := .later }
def SpanLinksCardSaid : Prop := Claim7.holds Tryd.pinned (.plain (OpenSpec.ofChange spanLinksSpec)) spanLinksCard

/-- THE SECOND FORM's CARD OF 'scriptoriumlaw04.SpanTells'. -/
def spanTellsUptoCard : Claim7 := { stood := { row := spanTellsUptoRow, standIns := [], harness := (true, "09e40ad72973873df7c988a477217c7cdaee3923b8d0a83600c9a370a52d9f17"), looks := false }, kinds := [], alts := [], laidByText := true, laidKinds := [.data, .pinned], laidTests := true, laidLooks := .later }
def SpanTellsUptoCardSaid : Prop := Claim7.holds Tryd.pinned (.plain (OpenSpec.upto spanTellsSpec)) spanTellsUptoCard

/-- THE SECOND FORM's CARD OF 'scriptoriumlaw04.SpanFront'. -/
def spanFrontUptoCard : Claim7 := { stood := { row := spanFrontUptoRow, standIns := [], harness := (true, "09e40ad72973873df7c988a477217c7cdaee3923b8d0a83600c9a370a52d9f17"), looks := false }, kinds := [], alts := [], laidByText := true, laidKinds := [.data, .pinned], laidTests := true, laidLooks := .later }
def SpanFrontUptoCardSaid : Prop := Claim7.holds Tryd.pinned (.plain (OpenSpec.upto spanFrontSpec)) spanFrontUptoCard

/-- THE SECOND FORM's CARD OF 'scriptoriumlaw04.SpanCode'. -/
def spanCodeUptoCard : Claim7 := { stood := { row := spanCodeUptoRow, standIns := [], harness := (true, "09e40ad72973873df7c988a477217c7cdaee3923b8d0a83600c9a370a52d9f17"), looks := false }, kinds := [], alts := [], laidByText := true, laidKinds := [.data, .pinned], laidTests := true, laidLooks := .later }
def SpanCodeUptoCardSaid : Prop := Claim7.holds Tryd.pinned (.plain (OpenSpec.upto spanCodeSpec)) spanCodeUptoCard

/-- THE SECOND FORM's CARD OF 'scriptoriumlaw04.SpanTags'. -/
def spanTagsUptoCard : Claim7 := { stood := { row := spanTagsUptoRow, standIns := [], harness := (true, "09e40ad72973873df7c988a477217c7cdaee3923b8d0a83600c9a370a52d9f17"), looks := false }, kinds := [], alts := [], laidByText := true, laidKinds := [.data, .pinned], laidTests := true, laidLooks := .later }
def SpanTagsUptoCardSaid : Prop := Claim7.holds Tryd.pinned (.plain (OpenSpec.upto spanTagsSpec)) spanTagsUptoCard

/-- THE SECOND FORM's CARD OF 'scriptoriumlaw04.SpanComments'. -/
def spanCommentsUptoCard : Claim7 := { stood := { row := spanCommentsUptoRow, standIns := [], harness := (true, "09e40ad72973873df7c988a477217c7cdaee3923b8d0a83600c9a370a52d9f17"), looks := false }, kinds := [], alts := [], laidByText := true, laidKinds := [.data, .pinned], laidTests := true, laidLooks := .later }
def SpanCommentsUptoCardSaid : Prop := Claim7.holds Tryd.pinned (.plain (OpenSpec.upto spanCommentsSpec)) spanCommentsUptoCard

/-- THE SECOND FORM's CARD OF 'scriptoriumlaw04.SpanLinks'. -/
def spanLinksUptoCard : Claim7 := { stood := { row := spanLinksUptoRow, standIns := [], harness := (true, "09e40ad72973873df7c988a477217c7cdaee3923b8d0a83600c9a370a52d9f17"), looks := false }, kinds := [], alts := [], laidByText := true, laidKinds := [.data, .pinned], laidTests := true, laidLooks := .later }
def SpanLinksUptoCardSaid : Prop := Claim7.holds Tryd.pinned (.plain (OpenSpec.upto spanLinksSpec)) spanLinksUptoCard
end Rows
end Go.Proofs.YtkmidilaabgooaaDoor
