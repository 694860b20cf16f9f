/-
  NARROWER THAN 'FOR EVERY INPUT', by the rows' own cells (each row's printed sentence says how): SpanTells: laid · SpanFront: laid · SpanCode: laid · SpanTags: laid · SpanComments: laid · SpanLinks: laid.
  DERIVED. THE GIVEN ROWS OF THIS SEAT. 6 by the template 'for every input the law returns true; each argument reads behind the call as it read before'; 0 by the template 'total and deterministic' (their statements: YtkmidilaabgooaaDoorTotals.lean).
  GIVEN WITH THE SEED: the statements are not yours to turn. If you find one false, say at which input.
  Laid BY PROGRAM, IN A SANDBOX (cutbox-rows.mjs): the forced cells as the released guide's own fill.sh prints them over the translation 6127f93150854081… (all of the seat's roots in one cut). By AI agents, Wed Nov 11 2026. No macro, syntax, notation, axiom, sorry.
-/
import Derived.Test.YtkmidilaabgooaaDoorChecked
import GoSem.PinnedTables
import GoSem.Claim
import GoSem.ClaimJoined
import GoSem.ClaimMapViews
import Derived.JoinedTies
import Derived.KernelRfl
namespace Go.Proofs.YtkmidilaabgooaaDoor
/- THE CELL 'sum', in the pinned program and in every row, IS THE sha256 OF THE DUMP (.gsa) THAT YtkmidilaabgooaaDoorProg.lean LOADS. Nothing in Lean hashes anything: it is a label: what it is worth is what the hold of that sum in a sandbox is worth. -/
noncomputable def Tryd.pinned : Pinned := { name := "ytkmidilaabgooaadoor", sum := "6127f93150854081cc5b028779ce134258cd5cb155c6fb6c5a8bd796158b6c5f", checked := Tryd.checked }
namespace Rows
def none {H : Type} : Left H := { results := [], args := [] }

/- WHAT THE LISTED PACKAGE-LEVEL VARIABLES READ AS WHEN THE CALL BEGINS. Each datum BY PROGRAM (the guide's laid-datum.mjs) off the statement by which the dump's own 'gosem.cut.vars' lays the variable. In a bare row this is a premise. The card (YtkmidilaabgooaaDoorCards.lean) ties it to the program's text. -/
def laid_unicode_utf8_acceptRanges {H : Type} : DataW H := .agg [.agg [.lit (.int .u8 128), .lit (.int .u8 191)], .agg [.lit (.int .u8 160), .lit (.int .u8 191)], .agg [.lit (.int .u8 128), .lit (.int .u8 159)], .agg [.lit (.int .u8 144), .lit (.int .u8 191)], .agg [.lit (.int .u8 128), .lit (.int .u8 143)], .agg [.lit (.int .u8 0), .lit (.int .u8 0)], .agg [.lit (.int .u8 0), .lit (.int .u8 0)], .agg [.lit (.int .u8 0), .lit (.int .u8 0)], .agg [.lit (.int .u8 0), .lit (.int .u8 0)], .agg [.lit (.int .u8 0), .lit (.int .u8 0)], .agg [.lit (.int .u8 0), .lit (.int .u8 0)], .agg [.lit (.int .u8 0), .lit (.int .u8 0)], .agg [.lit (.int .u8 0), .lit (.int .u8 0)], .agg [.lit (.int .u8 0), .lit (.int .u8 0)], .agg [.lit (.int .u8 0), .lit (.int .u8 0)], .agg [.lit (.int .u8 0), .lit (.int .u8 0)]]
/-- One of Go's own tables, pinned by name: the form's constant. -/
def laid_unicode_utf8_first : DataW Unit := Go.Pinned.utf8First

/-- 'scriptoriumlaw04.SpanTells': WHATEVER THE INPUT: true; the input reads as it did. -/
def spanTellsSpec : ChangeSpec := { name := "spanTells", fn := fun _ => fun
  | [d] => { results := [.lit (.bool true)], args := [d] }
  | _ => none }
def spanTellsRow : OpenClaim := { program := "ytkmidilaabgooaadoor", sum := "6127f93150854081cc5b028779ce134258cd5cb155c6fb6c5a8bd796158b6c5f", func := "scriptorium/scriptoriumlaw04.SpanTells", spec := "spanTells", inPlace := ["internal/bytealg.IndexByteString", "internal/bytealg.IndexString", "internal/bytealg.CountString", "internal/abi.NoEscape", "internal/bytealg.MakeNoZero"], unfollowed := true, recurses := true, named := ["unicode/utf8.first", "unicode/utf8.acceptRanges", "internal/bytealg.MaxLen"], apart := false, laid := [("unicode/utf8.acceptRanges", laid_unicode_utf8_acceptRanges), ("unicode/utf8.first", laid_unicode_utf8_first)] }
def SpanTellsSaid : Prop := spanTellsRow.holds Tryd.pinned (OpenSpec.ofChange spanTellsSpec)

/-- ITS FALSE NEIGHBOUR: 'it returns false'. Refute it at one input. -/
def spanTellsWrong : ChangeSpec := { name := "spanTells", fn := fun _ => fun
  | [d] => { results := [.lit (.bool false)], args := [d] }
  | _ => none }
def SpanTellsWrongFalsely : Prop := spanTellsRow.holds Tryd.pinned (OpenSpec.ofChange spanTellsWrong)

/-- 'scriptoriumlaw04.SpanFront': WHATEVER THE INPUT: true; the input reads as it did. -/
def spanFrontSpec : ChangeSpec := { name := "spanFront", fn := fun _ => fun
  | [d1, d2] => { results := [.lit (.bool true)], args := [d1, d2] }
  | _ => none }
def spanFrontRow : OpenClaim := { program := "ytkmidilaabgooaadoor", sum := "6127f93150854081cc5b028779ce134258cd5cb155c6fb6c5a8bd796158b6c5f", func := "scriptorium/scriptoriumlaw04.SpanFront", spec := "spanFront", inPlace := ["internal/bytealg.IndexByteString", "internal/bytealg.IndexString", "internal/bytealg.CountString", "internal/abi.NoEscape", "internal/bytealg.MakeNoZero"], unfollowed := true, recurses := true, named := ["unicode/utf8.first", "unicode/utf8.acceptRanges", "internal/bytealg.MaxLen"], apart := false, laid := [("unicode/utf8.acceptRanges", laid_unicode_utf8_acceptRanges), ("unicode/utf8.first", laid_unicode_utf8_first)] }
def SpanFrontSaid : Prop := spanFrontRow.holds Tryd.pinned (OpenSpec.ofChange spanFrontSpec)

/-- ITS FALSE NEIGHBOUR: 'it returns false'. Refute it at one input. -/
def spanFrontWrong : ChangeSpec := { name := "spanFront", fn := fun _ => fun
  | [d1, d2] => { results := [.lit (.bool false)], args := [d1, d2] }
  | _ => none }
def SpanFrontWrongFalsely : Prop := spanFrontRow.holds Tryd.pinned (OpenSpec.ofChange spanFrontWrong)

/-- 'scriptoriumlaw04.SpanCode': WHATEVER THE INPUT: true; the input reads as it did. -/
def spanCodeSpec : ChangeSpec := { name := "spanCode", fn := fun _ => fun
  | [d1, d2] => { results := [.lit (.bool true)], args := [d1, d2] }
  | _ => none }
def spanCodeRow : OpenClaim := { program := "ytkmidilaabgooaadoor", sum := "6127f93150854081cc5b028779ce134258cd5cb155c6fb6c5a8bd796158b6c5f", func := "scriptorium/scriptoriumlaw04.SpanCode", spec := "spanCode", inPlace := ["internal/bytealg.IndexByteString", "internal/bytealg.IndexString", "internal/bytealg.CountString", "internal/abi.NoEscape", "internal/bytealg.MakeNoZero"], unfollowed := true, recurses := true, named := ["unicode/utf8.first", "unicode/utf8.acceptRanges", "internal/bytealg.MaxLen"], apart := false, laid := [("unicode/utf8.acceptRanges", laid_unicode_utf8_acceptRanges), ("unicode/utf8.first", laid_unicode_utf8_first)] }
def SpanCodeSaid : Prop := spanCodeRow.holds Tryd.pinned (OpenSpec.ofChange spanCodeSpec)

/-- ITS FALSE NEIGHBOUR: 'it returns false'. Refute it at one input. -/
def spanCodeWrong : ChangeSpec := { name := "spanCode", fn := fun _ => fun
  | [d1, d2] => { results := [.lit (.bool false)], args := [d1, d2] }
  | _ => none }
def SpanCodeWrongFalsely : Prop := spanCodeRow.holds Tryd.pinned (OpenSpec.ofChange spanCodeWrong)

/-- 'scriptoriumlaw04.SpanTags': WHATEVER THE INPUT: true; the input reads as it did. -/
def spanTagsSpec : ChangeSpec := { name := "spanTags", fn := fun _ => fun
  | [d1, d2, d3, d4, d5] => { results := [.lit (.bool true)], args := [d1, d2, d3, d4, d5] }
  | _ => none }
def spanTagsRow : OpenClaim := { program := "ytkmidilaabgooaadoor", sum := "6127f93150854081cc5b028779ce134258cd5cb155c6fb6c5a8bd796158b6c5f", func := "scriptorium/scriptoriumlaw04.SpanTags", spec := "spanTags", inPlace := ["internal/bytealg.IndexByteString", "internal/bytealg.IndexString", "internal/bytealg.CountString", "internal/abi.NoEscape", "internal/bytealg.MakeNoZero"], unfollowed := true, recurses := true, named := ["unicode/utf8.first", "unicode/utf8.acceptRanges", "internal/bytealg.MaxLen"], apart := false, laid := [("unicode/utf8.acceptRanges", laid_unicode_utf8_acceptRanges), ("unicode/utf8.first", laid_unicode_utf8_first)] }
def SpanTagsSaid : Prop := spanTagsRow.holds Tryd.pinned (OpenSpec.ofChange spanTagsSpec)

/-- ITS FALSE NEIGHBOUR: 'it returns false'. Refute it at one input. -/
def spanTagsWrong : ChangeSpec := { name := "spanTags", fn := fun _ => fun
  | [d1, d2, d3, d4, d5] => { results := [.lit (.bool false)], args := [d1, d2, d3, d4, d5] }
  | _ => none }
def SpanTagsWrongFalsely : Prop := spanTagsRow.holds Tryd.pinned (OpenSpec.ofChange spanTagsWrong)

/-- 'scriptoriumlaw04.SpanComments': WHATEVER THE INPUT: true; the input reads as it did. -/
def spanCommentsSpec : ChangeSpec := { name := "spanComments", fn := fun _ => fun
  | [d1, d2] => { results := [.lit (.bool true)], args := [d1, d2] }
  | _ => none }
def spanCommentsRow : OpenClaim := { program := "ytkmidilaabgooaadoor", sum := "6127f93150854081cc5b028779ce134258cd5cb155c6fb6c5a8bd796158b6c5f", func := "scriptorium/scriptoriumlaw04.SpanComments", spec := "spanComments", inPlace := ["internal/bytealg.IndexByteString", "internal/bytealg.IndexString", "internal/bytealg.CountString", "internal/abi.NoEscape", "internal/bytealg.MakeNoZero"], unfollowed := true, recurses := true, named := ["unicode/utf8.first", "unicode/utf8.acceptRanges", "internal/bytealg.MaxLen"], apart := false, laid := [("unicode/utf8.acceptRanges", laid_unicode_utf8_acceptRanges), ("unicode/utf8.first", laid_unicode_utf8_first)] }
def SpanCommentsSaid : Prop := spanCommentsRow.holds Tryd.pinned (OpenSpec.ofChange spanCommentsSpec)

/-- ITS FALSE NEIGHBOUR: 'it returns false'. Refute it at one input. -/
def spanCommentsWrong : ChangeSpec := { name := "spanComments", fn := fun _ => fun
  | [d1, d2] => { results := [.lit (.bool false)], args := [d1, d2] }
  | _ => none }
def SpanCommentsWrongFalsely : Prop := spanCommentsRow.holds Tryd.pinned (OpenSpec.ofChange spanCommentsWrong)

/-- 'scriptoriumlaw04.SpanLinks': WHATEVER THE INPUT: true; the input reads as it did. -/
def spanLinksSpec : ChangeSpec := { name := "spanLinks", fn := fun _ => fun
  | [d1, d2, d3, d4] => { results := [.lit (.bool true)], args := [d1, d2, d3, d4] }
  | _ => none }
def spanLinksRow : OpenClaim := { program := "ytkmidilaabgooaadoor", sum := "6127f93150854081cc5b028779ce134258cd5cb155c6fb6c5a8bd796158b6c5f", func := "scriptorium/scriptoriumlaw04.SpanLinks", spec := "spanLinks", inPlace := ["internal/bytealg.IndexByteString", "internal/bytealg.IndexString", "internal/bytealg.CountString", "internal/abi.NoEscape", "internal/bytealg.MakeNoZero"], unfollowed := true, recurses := true, named := ["unicode/utf8.first", "unicode/utf8.acceptRanges", "internal/bytealg.MaxLen"], apart := false, laid := [("unicode/utf8.acceptRanges", laid_unicode_utf8_acceptRanges), ("unicode/utf8.first", laid_unicode_utf8_first)] }
def SpanLinksSaid : Prop := spanLinksRow.holds Tryd.pinned (OpenSpec.ofChange spanLinksSpec)

/-- ITS FALSE NEIGHBOUR: 'it returns false'. Refute it at one input. -/
def spanLinksWrong : ChangeSpec := { name := "spanLinks", fn := fun _ => fun
  | [d1, d2, d3, d4] => { results := [.lit (.bool false)], args := [d1, d2, d3, d4] }
  | _ => none }
def SpanLinksWrongFalsely : Prop := spanLinksRow.holds Tryd.pinned (OpenSpec.ofChange spanLinksWrong)

/- THE SECOND FORM. 'bulk': how many values and letters a reading holds, each counted each time it is reached (what is shared counts as often as it is met; a slice's spare places count too). A statement '..UptoSaid' is the law's where the arguments, and the package variables that the reading takes, are together of bulk at most 1048576: NARROWER than '..Said'. Prove '..Said' where nothing that the law and all that it calls make is longer than what came in: it says more and counts as full. Else prove '..UptoSaid'. A law counts once. -/
mutual
def uptoBulk {H : Type} : DataW H → Nat
  | .lit (.string bytes) => bytes.length + 1
  | .lit _ => 1
  | .nil => 1
  | .ptr d => uptoBulk d + 1
  | .slice elems spare => uptoBulkAll elems + uptoBulkAll spare + 1
  | .agg parts => uptoBulkAll parts + 1
  | .iface _ d => uptoBulk d + 1
  | .map entries => uptoBulkEntries entries + 1
  | .held _ => 1
def uptoBulkAll {H : Type} : List (DataW H) → Nat
  | [] => 0
  | d :: r => uptoBulk d + uptoBulkAll r
def uptoBulkEntries {H : Type} : List (Lit × DataW H) → Nat
  | [] => 0
  | x :: r => uptoBulkEntry x + uptoBulkEntries r
def uptoBulkEntry {H : Type} : Lit × DataW H → Nat
  | (.string bytes, d) => bytes.length + uptoBulk d + 1
  | (_, d) => uptoBulk d + 1
 end
def uptoSmall : (H : Type) → List (DataW H) → Bool := fun _ ds => decide (uptoBulkAll ds ≤ 1048576)
def OpenSpec.upto (s : _root_.Go.ChangeSpec) : _root_.Go.OpenSpec := { _root_.Go.OpenSpec.ofChange s with cond := some uptoSmall }

/-- 'scriptoriumlaw04.SpanTells', WHERE WHAT IT READS IS OF BULK AT MOST 1048576: true; the input reads as it did. -/
def spanTellsUptoRow : OpenClaim := { program := "ytkmidilaabgooaadoor", sum := "6127f93150854081cc5b028779ce134258cd5cb155c6fb6c5a8bd796158b6c5f", func := "scriptorium/scriptoriumlaw04.SpanTells", spec := "spanTells", inPlace := ["internal/bytealg.IndexByteString", "internal/bytealg.IndexString", "internal/bytealg.CountString", "internal/abi.NoEscape", "internal/bytealg.MakeNoZero"], unfollowed := true, recurses := true, named := ["unicode/utf8.first", "unicode/utf8.acceptRanges", "internal/bytealg.MaxLen"], apart := false, laid := [("unicode/utf8.acceptRanges", laid_unicode_utf8_acceptRanges), ("unicode/utf8.first", laid_unicode_utf8_first)], narrowed := true }
def SpanTellsUptoSaid : Prop := spanTellsUptoRow.holds Tryd.pinned (OpenSpec.upto spanTellsSpec)

/-- 'scriptoriumlaw04.SpanFront', WHERE WHAT IT READS IS OF BULK AT MOST 1048576: true; the input reads as it did. -/
def spanFrontUptoRow : OpenClaim := { program := "ytkmidilaabgooaadoor", sum := "6127f93150854081cc5b028779ce134258cd5cb155c6fb6c5a8bd796158b6c5f", func := "scriptorium/scriptoriumlaw04.SpanFront", spec := "spanFront", inPlace := ["internal/bytealg.IndexByteString", "internal/bytealg.IndexString", "internal/bytealg.CountString", "internal/abi.NoEscape", "internal/bytealg.MakeNoZero"], unfollowed := true, recurses := true, named := ["unicode/utf8.first", "unicode/utf8.acceptRanges", "internal/bytealg.MaxLen"], apart := false, laid := [("unicode/utf8.acceptRanges", laid_unicode_utf8_acceptRanges), ("unicode/utf8.first", laid_unicode_utf8_first)], narrowed := true }
def SpanFrontUptoSaid : Prop := spanFrontUptoRow.holds Tryd.pinned (OpenSpec.upto spanFrontSpec)

/-- 'scriptoriumlaw04.SpanCode', WHERE WHAT IT READS IS OF BULK AT MOST 1048576: true; the input reads as it did. -/
def spanCodeUptoRow : OpenClaim := { program := "ytkmidilaabgooaadoor", sum := "6127f93150854081cc5b028779ce134258cd5cb155c6fb6c5a8bd796158b6c5f", func := "scriptorium/scriptoriumlaw04.SpanCode", spec := "spanCode", inPlace := ["internal/bytealg.IndexByteString", "internal/bytealg.IndexString", "internal/bytealg.CountString", "internal/abi.NoEscape", "internal/bytealg.MakeNoZero"], unfollowed := true, recurses := true, named := ["unicode/utf8.first", "unicode/utf8.acceptRanges", "internal/bytealg.MaxLen"], apart := false, laid := [("unicode/utf8.acceptRanges", laid_unicode_utf8_acceptRanges), ("unicode/utf8.first", laid_unicode_utf8_first)], narrowed := true }
def SpanCodeUptoSaid : Prop := spanCodeUptoRow.holds Tryd.pinned (OpenSpec.upto spanCodeSpec)

/-- 'scriptoriumlaw04.SpanTags', WHERE WHAT IT READS IS OF BULK AT MOST 1048576: true; the input reads as it did. -/
def spanTagsUptoRow : OpenClaim := { program := "ytkmidilaabgooaadoor", sum := "6127f93150854081cc5b028779ce134258cd5cb155c6fb6c5a8bd796158b6c5f", func := "scriptorium/scriptoriumlaw04.SpanTags", spec := "spanTags", inPlace := ["internal/bytealg.IndexByteString", "internal/bytealg.IndexString", "internal/bytealg.CountString", "internal/abi.NoEscape", "internal/bytealg.MakeNoZero"], unfollowed := true, recurses := true, named := ["unicode/utf8.first", "unicode/utf8.acceptRanges", "internal/bytealg.MaxLen"], apart := false, laid := [("unicode/utf8.acceptRanges", laid_unicode_utf8_acceptRanges), ("unicode/utf8.first", laid_unicode_utf8_first)], narrowed := true }
def SpanTagsUptoSaid : Prop := spanTagsUptoRow.holds Tryd.pinned (OpenSpec.upto spanTagsSpec)

/-- 'scriptoriumlaw04.SpanComments', WHERE WHAT IT READS IS OF BULK AT MOST 1048576: true; the input reads as it did. -/
def spanCommentsUptoRow : OpenClaim := { program := "ytkmidilaabgooaadoor", sum := "6127f93150854081cc5b028779ce134258cd5cb155c6fb6c5a8bd796158b6c5f", func := "scriptorium/scriptoriumlaw04.SpanComments", spec := "spanComments", inPlace := ["internal/bytealg.IndexByteString", "internal/bytealg.IndexString", "internal/bytealg.CountString", "internal/abi.NoEscape", "internal/bytealg.MakeNoZero"], unfollowed := true, recurses := true, named := ["unicode/utf8.first", "unicode/utf8.acceptRanges", "internal/bytealg.MaxLen"], apart := false, laid := [("unicode/utf8.acceptRanges", laid_unicode_utf8_acceptRanges), ("unicode/utf8.first", laid_unicode_utf8_first)], narrowed := true }
def SpanCommentsUptoSaid : Prop := spanCommentsUptoRow.holds Tryd.pinned (OpenSpec.upto spanCommentsSpec)

/-- 'scriptoriumlaw04.SpanLinks', WHERE WHAT IT READS IS OF BULK AT MOST 1048576: true; the input reads as it did. -/
def spanLinksUptoRow : OpenClaim := { program := "ytkmidilaabgooaadoor", sum := "6127f93150854081cc5b028779ce134258cd5cb155c6fb6c5a8bd796158b6c5f", func := "scriptorium/scriptoriumlaw04.SpanLinks", spec := "spanLinks", inPlace := ["internal/bytealg.IndexByteString", "internal/bytealg.IndexString", "internal/bytealg.CountString", "internal/abi.NoEscape", "internal/bytealg.MakeNoZero"], unfollowed := true, recurses := true, named := ["unicode/utf8.first", "unicode/utf8.acceptRanges", "internal/bytealg.MaxLen"], apart := false, laid := [("unicode/utf8.acceptRanges", laid_unicode_utf8_acceptRanges), ("unicode/utf8.first", laid_unicode_utf8_first)], narrowed := true }
def SpanLinksUptoSaid : Prop := spanLinksUptoRow.holds Tryd.pinned (OpenSpec.upto spanLinksSpec)

end Rows
end Go.Proofs.YtkmidilaabgooaaDoor
