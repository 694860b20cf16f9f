/-
  No cell of these rows narrows 'for every input' (looked for: loops, veiled, ifaces, maps, wideKeys, modest, calm, conditions, laid).
  DERIVED. THE GIVEN ROWS OF THIS SEAT. 4 by the template 'for every input the law returns true; each argument reads behind the call as it read before'; 0 by the template 'total and deterministic' (their statements: YtbmflpojcgocaaaTotals.lean).
  GIVEN WITH THE SEED: the statements are not yours to turn. If you find one false, say at which input.
  Laid BY PROGRAM, IN A SANDBOX (cutbox-rows.mjs): the forced cells as the released guide's own fill.sh prints them over the translation 0b427bac3fae4c5e… (all of the seat's roots in one cut). By AI agents, Wed Nov 11 2026. No macro, syntax, notation, axiom, sorry.
-/
import Derived.Test.YtbmflpojcgocaaaChecked
import GoSem.Claim
import GoSem.ClaimJoined
import GoSem.ClaimMapViews
import Derived.JoinedTies
import Derived.KernelRfl
namespace Go.Proofs.Ytbmflpojcgocaaa
/- THE CELL 'sum', in the pinned program and in every row, IS THE sha256 OF THE DUMP (.gsa) THAT YtbmflpojcgocaaaProg.lean LOADS. Nothing in Lean hashes anything: it is a label: what it is worth is what the hold of that sum in a sandbox is worth. -/
noncomputable def Try.pinned : Pinned := { name := "ytbmflpojcgocaaa", sum := "0b427bac3fae4c5e70ed22c79ceab047a8753d058557aa3fdd94ec4f2dd17121", checked := Try.checked }
namespace Rows
def none {H : Type} : Left H := { results := [], args := [] }

/-- 'scriptoriumlaw03.CursorSteps': WHATEVER THE INPUT: true; the input reads as it did. -/
def cursorStepsSpec : ChangeSpec := { name := "cursorSteps", fn := fun _ => fun
  | [d1, d2] => { results := [.lit (.bool true)], args := [d1, d2] }
  | _ => none }
def cursorStepsRow : OpenClaim := { program := "ytbmflpojcgocaaa", sum := "0b427bac3fae4c5e70ed22c79ceab047a8753d058557aa3fdd94ec4f2dd17121", func := "scriptorium/scriptoriumlaw03.CursorSteps", spec := "cursorSteps", inPlace := ["internal/abi.NoEscape", "internal/bytealg.MakeNoZero"], apart := false }
def CursorStepsSaid : Prop := cursorStepsRow.holds Try.pinned (OpenSpec.ofChange cursorStepsSpec)

/-- ITS FALSE NEIGHBOUR: 'it returns false'. Refute it at one input. -/
def cursorStepsWrong : ChangeSpec := { name := "cursorSteps", fn := fun _ => fun
  | [d1, d2] => { results := [.lit (.bool false)], args := [d1, d2] }
  | _ => none }
def CursorStepsWrongFalsely : Prop := cursorStepsRow.holds Try.pinned (OpenSpec.ofChange cursorStepsWrong)

/-- 'scriptoriumlaw03.CursorPlays': WHATEVER THE INPUT: true; the input reads as it did. -/
def cursorPlaysSpec : ChangeSpec := { name := "cursorPlays", fn := fun _ => fun
  | [d1, d2, d3] => { results := [.lit (.bool true)], args := [d1, d2, d3] }
  | _ => none }
def cursorPlaysRow : OpenClaim := { program := "ytbmflpojcgocaaa", sum := "0b427bac3fae4c5e70ed22c79ceab047a8753d058557aa3fdd94ec4f2dd17121", func := "scriptorium/scriptoriumlaw03.CursorPlays", spec := "cursorPlays", inPlace := ["internal/abi.NoEscape", "internal/bytealg.MakeNoZero"], apart := false }
def CursorPlaysSaid : Prop := cursorPlaysRow.holds Try.pinned (OpenSpec.ofChange cursorPlaysSpec)

/-- ITS FALSE NEIGHBOUR: 'it returns false'. Refute it at one input. -/
def cursorPlaysWrong : ChangeSpec := { name := "cursorPlays", fn := fun _ => fun
  | [d1, d2, d3] => { results := [.lit (.bool false)], args := [d1, d2, d3] }
  | _ => none }
def CursorPlaysWrongFalsely : Prop := cursorPlaysRow.holds Try.pinned (OpenSpec.ofChange cursorPlaysWrong)

/-- 'scriptoriumlaw03.CursorTabs': WHATEVER THE INPUT: true; the input reads as it did. -/
def cursorTabsSpec : ChangeSpec := { name := "cursorTabs", fn := fun _ => fun
  | [d1, d2, d3] => { results := [.lit (.bool true)], args := [d1, d2, d3] }
  | _ => none }
def cursorTabsRow : OpenClaim := { program := "ytbmflpojcgocaaa", sum := "0b427bac3fae4c5e70ed22c79ceab047a8753d058557aa3fdd94ec4f2dd17121", func := "scriptorium/scriptoriumlaw03.CursorTabs", spec := "cursorTabs", inPlace := ["internal/abi.NoEscape", "internal/bytealg.MakeNoZero"], apart := false }
def CursorTabsSaid : Prop := cursorTabsRow.holds Try.pinned (OpenSpec.ofChange cursorTabsSpec)

/-- ITS FALSE NEIGHBOUR: 'it returns false'. Refute it at one input. -/
def cursorTabsWrong : ChangeSpec := { name := "cursorTabs", fn := fun _ => fun
  | [d1, d2, d3] => { results := [.lit (.bool false)], args := [d1, d2, d3] }
  | _ => none }
def CursorTabsWrongFalsely : Prop := cursorTabsRow.holds Try.pinned (OpenSpec.ofChange cursorTabsWrong)

/-- 'scriptoriumlaw03.CursorMoves': WHATEVER THE INPUT: true; the input reads as it did. -/
def cursorMovesSpec : ChangeSpec := { name := "cursorMoves", fn := fun _ => fun
  | [d1, d2] => { results := [.lit (.bool true)], args := [d1, d2] }
  | _ => none }
def cursorMovesRow : OpenClaim := { program := "ytbmflpojcgocaaa", sum := "0b427bac3fae4c5e70ed22c79ceab047a8753d058557aa3fdd94ec4f2dd17121", func := "scriptorium/scriptoriumlaw03.CursorMoves", spec := "cursorMoves", inPlace := ["internal/abi.NoEscape", "internal/bytealg.MakeNoZero"], apart := false }
def CursorMovesSaid : Prop := cursorMovesRow.holds Try.pinned (OpenSpec.ofChange cursorMovesSpec)

/-- ITS FALSE NEIGHBOUR: 'it returns false'. Refute it at one input. -/
def cursorMovesWrong : ChangeSpec := { name := "cursorMoves", fn := fun _ => fun
  | [d1, d2] => { results := [.lit (.bool false)], args := [d1, d2] }
  | _ => none }
def CursorMovesWrongFalsely : Prop := cursorMovesRow.holds Try.pinned (OpenSpec.ofChange cursorMovesWrong)

/- THE SECOND FORM. 'bulk': how many values and letters a reading holds, each counted each time it is reached (what is shared counts as often as it is met; a slice's spare places count too). A statement '..UptoSaid' is the law's where the arguments, and the package variables that the reading takes, are together of bulk at most 1048576: NARROWER than '..Said'. Prove '..Said' where nothing that the law and all that it calls make is longer than what came in: it says more and counts as full. Else prove '..UptoSaid'. A law counts once. -/
mutual
def uptoBulk {H : Type} : DataW H → Nat
  | .lit (.string bytes) => bytes.length + 1
  | .lit _ => 1
  | .nil => 1
  | .ptr d => uptoBulk d + 1
  | .slice elems spare => uptoBulkAll elems + uptoBulkAll spare + 1
  | .agg parts => uptoBulkAll parts + 1
  | .iface _ d => uptoBulk d + 1
  | .map entries => uptoBulkEntries entries + 1
  | .held _ => 1
def uptoBulkAll {H : Type} : List (DataW H) → Nat
  | [] => 0
  | d :: r => uptoBulk d + uptoBulkAll r
def uptoBulkEntries {H : Type} : List (Lit × DataW H) → Nat
  | [] => 0
  | x :: r => uptoBulkEntry x + uptoBulkEntries r
def uptoBulkEntry {H : Type} : Lit × DataW H → Nat
  | (.string bytes, d) => bytes.length + uptoBulk d + 1
  | (_, d) => uptoBulk d + 1
 end
def uptoSmall : (H : Type) → List (DataW H) → Bool := fun _ ds => decide (uptoBulkAll ds ≤ 1048576)
def OpenSpec.upto (s : _root_.Go.ChangeSpec) : _root_.Go.OpenSpec := { _root_.Go.OpenSpec.ofChange s with cond := some uptoSmall }

/-- 'scriptoriumlaw03.CursorSteps', WHERE WHAT IT READS IS OF BULK AT MOST 1048576: true; the input reads as it did. -/
def cursorStepsUptoRow : OpenClaim := { program := "ytbmflpojcgocaaa", sum := "0b427bac3fae4c5e70ed22c79ceab047a8753d058557aa3fdd94ec4f2dd17121", func := "scriptorium/scriptoriumlaw03.CursorSteps", spec := "cursorSteps", inPlace := ["internal/abi.NoEscape", "internal/bytealg.MakeNoZero"], apart := false, narrowed := true }
def CursorStepsUptoSaid : Prop := cursorStepsUptoRow.holds Try.pinned (OpenSpec.upto cursorStepsSpec)

/-- 'scriptoriumlaw03.CursorPlays', WHERE WHAT IT READS IS OF BULK AT MOST 1048576: true; the input reads as it did. -/
def cursorPlaysUptoRow : OpenClaim := { program := "ytbmflpojcgocaaa", sum := "0b427bac3fae4c5e70ed22c79ceab047a8753d058557aa3fdd94ec4f2dd17121", func := "scriptorium/scriptoriumlaw03.CursorPlays", spec := "cursorPlays", inPlace := ["internal/abi.NoEscape", "internal/bytealg.MakeNoZero"], apart := false, narrowed := true }
def CursorPlaysUptoSaid : Prop := cursorPlaysUptoRow.holds Try.pinned (OpenSpec.upto cursorPlaysSpec)

/-- 'scriptoriumlaw03.CursorTabs', WHERE WHAT IT READS IS OF BULK AT MOST 1048576: true; the input reads as it did. -/
def cursorTabsUptoRow : OpenClaim := { program := "ytbmflpojcgocaaa", sum := "0b427bac3fae4c5e70ed22c79ceab047a8753d058557aa3fdd94ec4f2dd17121", func := "scriptorium/scriptoriumlaw03.CursorTabs", spec := "cursorTabs", inPlace := ["internal/abi.NoEscape", "internal/bytealg.MakeNoZero"], apart := false, narrowed := true }
def CursorTabsUptoSaid : Prop := cursorTabsUptoRow.holds Try.pinned (OpenSpec.upto cursorTabsSpec)

/-- 'scriptoriumlaw03.CursorMoves', WHERE WHAT IT READS IS OF BULK AT MOST 1048576: true; the input reads as it did. -/
def cursorMovesUptoRow : OpenClaim := { program := "ytbmflpojcgocaaa", sum := "0b427bac3fae4c5e70ed22c79ceab047a8753d058557aa3fdd94ec4f2dd17121", func := "scriptorium/scriptoriumlaw03.CursorMoves", spec := "cursorMoves", inPlace := ["internal/abi.NoEscape", "internal/bytealg.MakeNoZero"], apart := false, narrowed := true }
def CursorMovesUptoSaid : Prop := cursorMovesUptoRow.holds Try.pinned (OpenSpec.upto cursorMovesSpec)

end Rows
end Go.Proofs.Ytbmflpojcgocaaa
