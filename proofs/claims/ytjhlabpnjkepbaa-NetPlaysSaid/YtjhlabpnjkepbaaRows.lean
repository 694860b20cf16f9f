/-
  No cell of these rows narrows 'for every input' (looked for: loops, veiled, ifaces, maps, wideKeys, modest, calm, conditions, laid).
  DERIVED. THE GIVEN ROWS OF THIS SEAT. 4 by the template 'for every input the law returns true; each argument reads behind the call as it read before'; 0 by the template 'total and deterministic' (their statements: YtjhlabpnjkepbaaTotals.lean).
  GIVEN WITH THE SEED: the statements are not yours to turn. If you find one false, say at which input.
  Laid BY PROGRAM, IN A SANDBOX (cutbox-rows.mjs): the forced cells as the released guide's own fill.sh prints them over the translation 529fe67f7fa652db… (all of the seat's roots in one cut). By AI agents, Wed Nov 11 2026. No macro, syntax, notation, axiom, sorry.
-/
import Derived.Test.YtjhlabpnjkepbaaChecked
import GoSem.Claim
import GoSem.ClaimJoined
import GoSem.ClaimMapViews
import Derived.JoinedTies
import Derived.KernelRfl
namespace Go.Proofs.Ytjhlabpnjkepbaa
/- THE CELL 'sum', in the pinned program and in every row, IS THE sha256 OF THE DUMP (.gsa) THAT YtjhlabpnjkepbaaProg.lean LOADS. Nothing in Lean hashes anything: it is a label: what it is worth is what the hold of that sum in a sandbox is worth. -/
noncomputable def Try.pinned : Pinned := { name := "ytjhlabpnjkepbaa", sum := "529fe67f7fa652db0b3a96e0a69b2765c698dcc509f27260c8053127c9e0f485", checked := Try.checked }
namespace Rows
def none {H : Type} : Left H := { results := [], args := [] }

/-- 'scriptoriumlaw18.NetPlays': WHATEVER THE INPUT: true; the input reads as it did. -/
def netPlaysSpec : ChangeSpec := { name := "netPlays", fn := fun _ => fun
  | [d] => { results := [.lit (.bool true)], args := [d] }
  | _ => none }
def netPlaysRow : OpenClaim := { program := "ytjhlabpnjkepbaa", sum := "529fe67f7fa652db0b3a96e0a69b2765c698dcc509f27260c8053127c9e0f485", func := "scriptorium/scriptoriumlaw18.NetPlays", spec := "netPlays", inPlace := ["slices.overlaps[scriptorium/net.letter]"], apart := false }
def NetPlaysSaid : Prop := netPlaysRow.holds Try.pinned (OpenSpec.ofChange netPlaysSpec)

/-- ITS FALSE NEIGHBOUR: 'it returns false'. Refute it at one input. -/
def netPlaysWrong : ChangeSpec := { name := "netPlays", fn := fun _ => fun
  | [d] => { results := [.lit (.bool false)], args := [d] }
  | _ => none }
def NetPlaysWrongFalsely : Prop := netPlaysRow.holds Try.pinned (OpenSpec.ofChange netPlaysWrong)

/-- 'scriptoriumlaw18.NetGives': WHATEVER THE INPUT: true; the input reads as it did. -/
def netGivesSpec : ChangeSpec := { name := "netGives", fn := fun _ => fun
  | [d1, d2, d3] => { results := [.lit (.bool true)], args := [d1, d2, d3] }
  | _ => none }
def netGivesRow : OpenClaim := { program := "ytjhlabpnjkepbaa", sum := "529fe67f7fa652db0b3a96e0a69b2765c698dcc509f27260c8053127c9e0f485", func := "scriptorium/scriptoriumlaw18.NetGives", spec := "netGives", inPlace := ["slices.overlaps[scriptorium/net.letter]"], apart := false }
def NetGivesSaid : Prop := netGivesRow.holds Try.pinned (OpenSpec.ofChange netGivesSpec)

/-- ITS FALSE NEIGHBOUR: 'it returns false'. Refute it at one input. -/
def netGivesWrong : ChangeSpec := { name := "netGives", fn := fun _ => fun
  | [d1, d2, d3] => { results := [.lit (.bool false)], args := [d1, d2, d3] }
  | _ => none }
def NetGivesWrongFalsely : Prop := netGivesRow.holds Try.pinned (OpenSpec.ofChange netGivesWrong)

/-- 'scriptoriumlaw18.NetSplits': WHATEVER THE INPUT: true; the input reads as it did. -/
def netSplitsSpec : ChangeSpec := { name := "netSplits", fn := fun _ => fun
  | [d1, d2, d3, d4] => { results := [.lit (.bool true)], args := [d1, d2, d3, d4] }
  | _ => none }
def netSplitsRow : OpenClaim := { program := "ytjhlabpnjkepbaa", sum := "529fe67f7fa652db0b3a96e0a69b2765c698dcc509f27260c8053127c9e0f485", func := "scriptorium/scriptoriumlaw18.NetSplits", spec := "netSplits", inPlace := ["slices.overlaps[scriptorium/net.letter]"], apart := false }
def NetSplitsSaid : Prop := netSplitsRow.holds Try.pinned (OpenSpec.ofChange netSplitsSpec)

/-- ITS FALSE NEIGHBOUR: 'it returns false'. Refute it at one input. -/
def netSplitsWrong : ChangeSpec := { name := "netSplits", fn := fun _ => fun
  | [d1, d2, d3, d4] => { results := [.lit (.bool false)], args := [d1, d2, d3, d4] }
  | _ => none }
def NetSplitsWrongFalsely : Prop := netSplitsRow.holds Try.pinned (OpenSpec.ofChange netSplitsWrong)

/-- 'scriptoriumlaw18.NetMoves': WHATEVER THE INPUT: true; the input reads as it did. -/
def netMovesSpec : ChangeSpec := { name := "netMoves", fn := fun _ => fun
  | [d1, d2, d3] => { results := [.lit (.bool true)], args := [d1, d2, d3] }
  | _ => none }
def netMovesRow : OpenClaim := { program := "ytjhlabpnjkepbaa", sum := "529fe67f7fa652db0b3a96e0a69b2765c698dcc509f27260c8053127c9e0f485", func := "scriptorium/scriptoriumlaw18.NetMoves", spec := "netMoves", inPlace := ["slices.overlaps[scriptorium/net.letter]"], apart := false }
def NetMovesSaid : Prop := netMovesRow.holds Try.pinned (OpenSpec.ofChange netMovesSpec)

/-- ITS FALSE NEIGHBOUR: 'it returns false'. Refute it at one input. -/
def netMovesWrong : ChangeSpec := { name := "netMoves", fn := fun _ => fun
  | [d1, d2, d3] => { results := [.lit (.bool false)], args := [d1, d2, d3] }
  | _ => none }
def NetMovesWrongFalsely : Prop := netMovesRow.holds Try.pinned (OpenSpec.ofChange netMovesWrong)

/- THE SECOND FORM. 'bulk': how many values and letters a reading holds, each counted each time it is reached (what is shared counts as often as it is met; a slice's spare places count too). A statement '..UptoSaid' is the law's where the arguments, and the package variables that the reading takes, are together of bulk at most 1048576: NARROWER than '..Said'. Prove '..Said' where nothing that the law and all that it calls make is longer than what came in: it says more and counts as full. Else prove '..UptoSaid'. A law counts once. -/
mutual
def uptoBulk {H : Type} : DataW H → Nat
  | .lit (.string bytes) => bytes.length + 1
  | .lit _ => 1
  | .nil => 1
  | .ptr d => uptoBulk d + 1
  | .slice elems spare => uptoBulkAll elems + uptoBulkAll spare + 1
  | .agg parts => uptoBulkAll parts + 1
  | .iface _ d => uptoBulk d + 1
  | .map entries => uptoBulkEntries entries + 1
  | .held _ => 1
def uptoBulkAll {H : Type} : List (DataW H) → Nat
  | [] => 0
  | d :: r => uptoBulk d + uptoBulkAll r
def uptoBulkEntries {H : Type} : List (Lit × DataW H) → Nat
  | [] => 0
  | x :: r => uptoBulkEntry x + uptoBulkEntries r
def uptoBulkEntry {H : Type} : Lit × DataW H → Nat
  | (.string bytes, d) => bytes.length + uptoBulk d + 1
  | (_, d) => uptoBulk d + 1
 end
def uptoSmall : (H : Type) → List (DataW H) → Bool := fun _ ds => decide (uptoBulkAll ds ≤ 1048576)
def OpenSpec.upto (s : _root_.Go.ChangeSpec) : _root_.Go.OpenSpec := { _root_.Go.OpenSpec.ofChange s with cond := some uptoSmall }

/-- 'scriptoriumlaw18.NetPlays', WHERE WHAT IT READS IS OF BULK AT MOST 1048576: true; the input reads as it did. -/
def netPlaysUptoRow : OpenClaim := { program := "ytjhlabpnjkepbaa", sum := "529fe67f7fa652db0b3a96e0a69b2765c698dcc509f27260c8053127c9e0f485", func := "scriptorium/scriptoriumlaw18.NetPlays", spec := "netPlays", inPlace := ["slices.overlaps[scriptorium/net.letter]"], apart := false, narrowed := true }
def NetPlaysUptoSaid : Prop := netPlaysUptoRow.holds Try.pinned (OpenSpec.upto netPlaysSpec)

/-- 'scriptoriumlaw18.NetGives', WHERE WHAT IT READS IS OF BULK AT MOST 1048576: true; the input reads as it did. -/
def netGivesUptoRow : OpenClaim := { program := "ytjhlabpnjkepbaa", sum := "529fe67f7fa652db0b3a96e0a69b2765c698dcc509f27260c8053127c9e0f485", func := "scriptorium/scriptoriumlaw18.NetGives", spec := "netGives", inPlace := ["slices.overlaps[scriptorium/net.letter]"], apart := false, narrowed := true }
def NetGivesUptoSaid : Prop := netGivesUptoRow.holds Try.pinned (OpenSpec.upto netGivesSpec)

/-- 'scriptoriumlaw18.NetSplits', WHERE WHAT IT READS IS OF BULK AT MOST 1048576: true; the input reads as it did. -/
def netSplitsUptoRow : OpenClaim := { program := "ytjhlabpnjkepbaa", sum := "529fe67f7fa652db0b3a96e0a69b2765c698dcc509f27260c8053127c9e0f485", func := "scriptorium/scriptoriumlaw18.NetSplits", spec := "netSplits", inPlace := ["slices.overlaps[scriptorium/net.letter]"], apart := false, narrowed := true }
def NetSplitsUptoSaid : Prop := netSplitsUptoRow.holds Try.pinned (OpenSpec.upto netSplitsSpec)

/-- 'scriptoriumlaw18.NetMoves', WHERE WHAT IT READS IS OF BULK AT MOST 1048576: true; the input reads as it did. -/
def netMovesUptoRow : OpenClaim := { program := "ytjhlabpnjkepbaa", sum := "529fe67f7fa652db0b3a96e0a69b2765c698dcc509f27260c8053127c9e0f485", func := "scriptorium/scriptoriumlaw18.NetMoves", spec := "netMoves", inPlace := ["slices.overlaps[scriptorium/net.letter]"], apart := false, narrowed := true }
def NetMovesUptoSaid : Prop := netMovesUptoRow.holds Try.pinned (OpenSpec.upto netMovesSpec)

end Rows
end Go.Proofs.Ytjhlabpnjkepbaa
