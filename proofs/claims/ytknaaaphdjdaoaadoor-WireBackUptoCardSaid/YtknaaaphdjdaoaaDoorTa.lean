/-
  What the listed variable reads as.
-/
import Derived.Test.YtknaaaphdjdaoaaDoorCards
import Derived.Test.YtknaaaphdjdaoaaDoorFa
import Derived.LaidLaws
import Derived.LaidHandle
import Derived.ChangeVars
import Derived.JoinedOf
import Derived.Stop.Joined
namespace Go.Proofs.YtknaaaphdjdaoaaDoor
open Go.RowKit Mem
set_option linter.unusedVariables false

/-- What errors.As looks its own type up by. -/
def ErrT (w : World) : Prop := w.cell? ⟨0, 0, none⟩ = some (.iface 101 (.agg #[.pointer (some ⟨1, 37, none⟩)]))
theorem ErrT.mod {w w' : World} (h : ErrT w) (hm : Mod (fun _ => False) w w') : ErrT w' := cell_keep hm h (fun h => h)
theorem e_et : Tryd.prog.globalNamed "errors.errorType" = some 0 := by kernel_rfl
theorem e_rt : (Tryd.prog.cutTypes.find? (·.1 == "internal/reflectlite.rtype")).map (·.2) = some 101 := by kernel_rfl
theorem e_row : ((List.range Tryd.prog.types.size).filter fun t => Tryd.prog.rowNamed t [101, 114, 114, 111, 114]) = [37] := by kernel_rfl
/-- What the condition gives a walk: the variable's one cell. -/
theorem errT_laid {w : World} (h : laidMetH Tryd.prog [("errors.errorType", Rows.laid_errors_errorType)] w) : ErrT w := by
  have h' : laidMet Tryd.prog [] w ∧ handlesMet Tryd.prog [("errors.errorType", Rows.laid_errors_errorType)] w := h
  obtain ⟨name, u, ty, e1, e2, e3, e4, e5⟩ := h'.2 _ (List.mem_singleton.2 rfl)
  have en : name = [101, 114, 114, 111, 114] := (Option.some.inj e1).symm
  subst en
  obtain rfl := Option.some.inj (e_rt.symm.trans e2)
  have hm : ty ∈ (List.range Tryd.prog.types.size).filter fun t => Tryd.prog.rowNamed t [101, 114, 114, 111, 114] := List.mem_filter.2 ⟨List.mem_range.2 e3, e4⟩
  rw [e_row] at hm
  obtain rfl := List.mem_singleton.1 hm
  have hh : typeHandle Tryd.prog 37 = .pointer (some ⟨1, 37, none⟩) := by kernel_rfl
  rw [hh] at e5
  simpa [ErrT] using World.var?_cell e_et e5 0
/-- A world that meets the condition: the settled one, the variable's cell laid. -/
noncomputable def laidWorld (os : Os) : World :=
  let w0 := World.holding Tryd.prog os ⟨#[], #[], []⟩
  { w0 with heap := w0.heap.modify 0 fun
      | .cells _ t frozen => .cells #[.iface 101 (.agg #[.pointer (some ⟨1, 37, none⟩)])] t frozen
      | o => o }
theorem laidWorld_met (os : Os) (args : Array Value) : laidMetH Tryd.prog [("errors.errorType", Rows.laid_errors_errorType)] ((laidWorld os).forCall (fun _ _ => 0) ⟨#[], args, []⟩).memory :=
  laidMetH_of_parts (laidMet_nil _ _) (by kernel_rfl)
end Go.Proofs.YtknaaaphdjdaoaaDoor
