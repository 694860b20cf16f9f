/-
  No cell of these rows narrows 'for every input' (looked for: loops, veiled, ifaces, maps, wideKeys, modest, calm, conditions, laid).
  DERIVED. THE GIVEN ROWS OF THIS SEAT. 4 by the template 'for every input the law returns true; each argument reads behind the call as it read before'; 0 by the template 'total and deterministic' (their statements: YtpbdcjgconopnaaTotals.lean).
  GIVEN WITH THE SEED: the statements are not yours to turn. If you find one false, say at which input.
  Laid BY PROGRAM, IN A SANDBOX (cutbox-rows.mjs): the forced cells as the released guide's own fill.sh prints them over the translation b28c243744ae453f… (all of the seat's roots in one cut). By AI agents, Wed Nov 11 2026. No macro, syntax, notation, axiom, sorry.
-/
import Derived.Test.YtpbdcjgconopnaaChecked
import GoSem.Claim
import GoSem.ClaimJoined
import GoSem.ClaimMapViews
import Derived.JoinedTies
import Derived.KernelRfl
namespace Go.Proofs.Ytpbdcjgconopnaa
/- THE CELL 'sum', in the pinned program and in every row, IS THE sha256 OF THE DUMP (.gsa) THAT YtpbdcjgconopnaaProg.lean LOADS. Nothing in Lean hashes anything: it is a label: what it is worth is what the hold of that sum in a sandbox is worth. -/
noncomputable def Try.pinned : Pinned := { name := "ytpbdcjgconopnaa", sum := "b28c243744ae453f2368a7138a5c2ad902a317f55a803869176ebe6aceda95f1", checked := Try.checked }
namespace Rows
def none {H : Type} : Left H := { results := [], args := [] }

/-- 'scriptoriumlaw11.AclGives': WHATEVER THE INPUT: true; the input reads as it did. -/
def aclGivesSpec : ChangeSpec := { name := "aclGives", fn := fun _ => fun
  | [d1, d2, d3, d4] => { results := [.lit (.bool true)], args := [d1, d2, d3, d4] }
  | _ => none }
def aclGivesRow : OpenClaim := { program := "ytpbdcjgconopnaa", sum := "b28c243744ae453f2368a7138a5c2ad902a317f55a803869176ebe6aceda95f1", func := "scriptorium/scriptoriumlaw11.AclGives", spec := "aclGives", inPlace := ["internal/bytealg.IndexByteString", "internal/bytealg.IndexString", "internal/bytealg.abigen_runtime_cmpstring", "slices.overlaps[scriptorium/api.Grant]"], unfollowed := true, recurses := true, named := ["internal/bytealg.MaxLen"], apart := false }
def AclGivesSaid : Prop := aclGivesRow.holds Try.pinned (OpenSpec.ofChange aclGivesSpec)

/-- ITS FALSE NEIGHBOUR: 'it returns false'. Refute it at one input. -/
def aclGivesWrong : ChangeSpec := { name := "aclGives", fn := fun _ => fun
  | [d1, d2, d3, d4] => { results := [.lit (.bool false)], args := [d1, d2, d3, d4] }
  | _ => none }
def AclGivesWrongFalsely : Prop := aclGivesRow.holds Try.pinned (OpenSpec.ofChange aclGivesWrong)

/-- 'scriptoriumlaw11.AclHome': WHATEVER THE INPUT: true; the input reads as it did. -/
def aclHomeSpec : ChangeSpec := { name := "aclHome", fn := fun _ => fun
  | [d1, d2, d3, d4] => { results := [.lit (.bool true)], args := [d1, d2, d3, d4] }
  | _ => none }
def aclHomeRow : OpenClaim := { program := "ytpbdcjgconopnaa", sum := "b28c243744ae453f2368a7138a5c2ad902a317f55a803869176ebe6aceda95f1", func := "scriptorium/scriptoriumlaw11.AclHome", spec := "aclHome", inPlace := ["internal/bytealg.IndexByteString", "internal/bytealg.IndexString", "internal/bytealg.abigen_runtime_cmpstring", "slices.overlaps[scriptorium/api.Grant]"], unfollowed := true, recurses := true, named := ["internal/bytealg.MaxLen"], apart := false }
def AclHomeSaid : Prop := aclHomeRow.holds Try.pinned (OpenSpec.ofChange aclHomeSpec)

/-- ITS FALSE NEIGHBOUR: 'it returns false'. Refute it at one input. -/
def aclHomeWrong : ChangeSpec := { name := "aclHome", fn := fun _ => fun
  | [d1, d2, d3, d4] => { results := [.lit (.bool false)], args := [d1, d2, d3, d4] }
  | _ => none }
def AclHomeWrongFalsely : Prop := aclHomeRow.holds Try.pinned (OpenSpec.ofChange aclHomeWrong)

/-- 'scriptoriumlaw11.AclMany': WHATEVER THE INPUT: true; the input reads as it did. -/
def aclManySpec : ChangeSpec := { name := "aclMany", fn := fun _ => fun
  | [d1, d2] => { results := [.lit (.bool true)], args := [d1, d2] }
  | _ => none }
def aclManyRow : OpenClaim := { program := "ytpbdcjgconopnaa", sum := "b28c243744ae453f2368a7138a5c2ad902a317f55a803869176ebe6aceda95f1", func := "scriptorium/scriptoriumlaw11.AclMany", spec := "aclMany", inPlace := ["internal/bytealg.IndexByteString", "internal/bytealg.IndexString", "internal/bytealg.abigen_runtime_cmpstring", "slices.overlaps[scriptorium/api.Grant]"], unfollowed := true, recurses := true, named := ["internal/bytealg.MaxLen"], apart := false }
def AclManySaid : Prop := aclManyRow.holds Try.pinned (OpenSpec.ofChange aclManySpec)

/-- ITS FALSE NEIGHBOUR: 'it returns false'. Refute it at one input. -/
def aclManyWrong : ChangeSpec := { name := "aclMany", fn := fun _ => fun
  | [d1, d2] => { results := [.lit (.bool false)], args := [d1, d2] }
  | _ => none }
def AclManyWrongFalsely : Prop := aclManyRow.holds Try.pinned (OpenSpec.ofChange aclManyWrong)

/-- 'scriptoriumlaw11.AclTells': WHATEVER THE INPUT: true; the input reads as it did. -/
def aclTellsSpec : ChangeSpec := { name := "aclTells", fn := fun _ => fun
  | [d1, d2, d3, d4] => { results := [.lit (.bool true)], args := [d1, d2, d3, d4] }
  | _ => none }
def aclTellsRow : OpenClaim := { program := "ytpbdcjgconopnaa", sum := "b28c243744ae453f2368a7138a5c2ad902a317f55a803869176ebe6aceda95f1", func := "scriptorium/scriptoriumlaw11.AclTells", spec := "aclTells", inPlace := ["internal/bytealg.IndexByteString", "internal/bytealg.IndexString", "internal/bytealg.abigen_runtime_cmpstring", "slices.overlaps[scriptorium/api.Grant]"], unfollowed := true, recurses := true, named := ["internal/bytealg.MaxLen"], apart := false }
def AclTellsSaid : Prop := aclTellsRow.holds Try.pinned (OpenSpec.ofChange aclTellsSpec)

/-- ITS FALSE NEIGHBOUR: 'it returns false'. Refute it at one input. -/
def aclTellsWrong : ChangeSpec := { name := "aclTells", fn := fun _ => fun
  | [d1, d2, d3, d4] => { results := [.lit (.bool false)], args := [d1, d2, d3, d4] }
  | _ => none }
def AclTellsWrongFalsely : Prop := aclTellsRow.holds Try.pinned (OpenSpec.ofChange aclTellsWrong)

/- THE SECOND FORM. 'bulk': how many values and letters a reading holds, each counted each time it is reached (what is shared counts as often as it is met; a slice's spare places count too). A statement '..UptoSaid' is the law's where the arguments, and the package variables that the reading takes, are together of bulk at most 1048576: NARROWER than '..Said'. Prove '..Said' where nothing that the law and all that it calls make is longer than what came in: it says more and counts as full. Else prove '..UptoSaid'. A law counts once. -/
mutual
def uptoBulk {H : Type} : DataW H → Nat
  | .lit (.string bytes) => bytes.length + 1
  | .lit _ => 1
  | .nil => 1
  | .ptr d => uptoBulk d + 1
  | .slice elems spare => uptoBulkAll elems + uptoBulkAll spare + 1
  | .agg parts => uptoBulkAll parts + 1
  | .iface _ d => uptoBulk d + 1
  | .map entries => uptoBulkEntries entries + 1
  | .held _ => 1
def uptoBulkAll {H : Type} : List (DataW H) → Nat
  | [] => 0
  | d :: r => uptoBulk d + uptoBulkAll r
def uptoBulkEntries {H : Type} : List (Lit × DataW H) → Nat
  | [] => 0
  | x :: r => uptoBulkEntry x + uptoBulkEntries r
def uptoBulkEntry {H : Type} : Lit × DataW H → Nat
  | (.string bytes, d) => bytes.length + uptoBulk d + 1
  | (_, d) => uptoBulk d + 1
 end
def uptoSmall : (H : Type) → List (DataW H) → Bool := fun _ ds => decide (uptoBulkAll ds ≤ 1048576)
def OpenSpec.upto (s : _root_.Go.ChangeSpec) : _root_.Go.OpenSpec := { _root_.Go.OpenSpec.ofChange s with cond := some uptoSmall }

/-- 'scriptoriumlaw11.AclGives', WHERE WHAT IT READS IS OF BULK AT MOST 1048576: true; the input reads as it did. -/
def aclGivesUptoRow : OpenClaim := { program := "ytpbdcjgconopnaa", sum := "b28c243744ae453f2368a7138a5c2ad902a317f55a803869176ebe6aceda95f1", func := "scriptorium/scriptoriumlaw11.AclGives", spec := "aclGives", inPlace := ["internal/bytealg.IndexByteString", "internal/bytealg.IndexString", "internal/bytealg.abigen_runtime_cmpstring", "slices.overlaps[scriptorium/api.Grant]"], unfollowed := true, recurses := true, named := ["internal/bytealg.MaxLen"], apart := false, narrowed := true }
def AclGivesUptoSaid : Prop := aclGivesUptoRow.holds Try.pinned (OpenSpec.upto aclGivesSpec)

/-- 'scriptoriumlaw11.AclHome', WHERE WHAT IT READS IS OF BULK AT MOST 1048576: true; the input reads as it did. -/
def aclHomeUptoRow : OpenClaim := { program := "ytpbdcjgconopnaa", sum := "b28c243744ae453f2368a7138a5c2ad902a317f55a803869176ebe6aceda95f1", func := "scriptorium/scriptoriumlaw11.AclHome", spec := "aclHome", inPlace := ["internal/bytealg.IndexByteString", "internal/bytealg.IndexString", "internal/bytealg.abigen_runtime_cmpstring", "slices.overlaps[scriptorium/api.Grant]"], unfollowed := true, recurses := true, named := ["internal/bytealg.MaxLen"], apart := false, narrowed := true }
def AclHomeUptoSaid : Prop := aclHomeUptoRow.holds Try.pinned (OpenSpec.upto aclHomeSpec)

/-- 'scriptoriumlaw11.AclMany', WHERE WHAT IT READS IS OF BULK AT MOST 1048576: true; the input reads as it did. -/
def aclManyUptoRow : OpenClaim := { program := "ytpbdcjgconopnaa", sum := "b28c243744ae453f2368a7138a5c2ad902a317f55a803869176ebe6aceda95f1", func := "scriptorium/scriptoriumlaw11.AclMany", spec := "aclMany", inPlace := ["internal/bytealg.IndexByteString", "internal/bytealg.IndexString", "internal/bytealg.abigen_runtime_cmpstring", "slices.overlaps[scriptorium/api.Grant]"], unfollowed := true, recurses := true, named := ["internal/bytealg.MaxLen"], apart := false, narrowed := true }
def AclManyUptoSaid : Prop := aclManyUptoRow.holds Try.pinned (OpenSpec.upto aclManySpec)

/-- 'scriptoriumlaw11.AclTells', WHERE WHAT IT READS IS OF BULK AT MOST 1048576: true; the input reads as it did. -/
def aclTellsUptoRow : OpenClaim := { program := "ytpbdcjgconopnaa", sum := "b28c243744ae453f2368a7138a5c2ad902a317f55a803869176ebe6aceda95f1", func := "scriptorium/scriptoriumlaw11.AclTells", spec := "aclTells", inPlace := ["internal/bytealg.IndexByteString", "internal/bytealg.IndexString", "internal/bytealg.abigen_runtime_cmpstring", "slices.overlaps[scriptorium/api.Grant]"], unfollowed := true, recurses := true, named := ["internal/bytealg.MaxLen"], apart := false, narrowed := true }
def AclTellsUptoSaid : Prop := aclTellsUptoRow.holds Try.pinned (OpenSpec.upto aclTellsSpec)

end Rows
end Go.Proofs.Ytpbdcjgconopnaa
