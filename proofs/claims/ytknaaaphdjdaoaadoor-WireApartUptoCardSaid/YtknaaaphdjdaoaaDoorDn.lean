/-
  Decode's deferred function, where nothing has gone wrong.
-/
import Derived.Test.YtknaaaphdjdaoaaDoorDc
namespace Go.Proofs.YtknaaaphdjdaoaaDoor
open Go.RowKit Mem
set_option linter.unusedVariables false
set_option linter.unusedSimpArgs false

set_option maxRecDepth 100000 in
set_option maxHeartbeats 1600000 in
theorem catch_none (a b : Value) (w : World) :
    CallsD Tryd.prog 36 #[a, b] .returning w fun ev u' w' => ev = .returned (.tuple #[]) ∧ u' = .returning ∧ w' = w := by
  refine callsD_of_wpS Tryd.func36 rfl fun q₀ cs hu => ?_
  apply wpS_seq
  apply wpS_region
  simp [wpOpsS, go_sem, recoverD, hu, Tryd.ntmps36, Exit.thenS]
  generalize hC : (q₀ :: cs : List Frame) = C
  have e1 : (Array.replicate 14 undef : Array Value) = #[undef, undef, undef, undef, undef, undef, undef, undef, undef, undef, undef, undef, undef, undef] := rfl
  simp only [e1, List.setIfInBounds_toArray, List.set_cons_succ, List.set_cons_zero, List.append_toArray, List.cons_append, List.nil_append]
  refine wpS_of_wp ?_
  go_wp2_with (fail)
  refine ⟨rfl, .returning, ?_, .tuple #[], results_none rfl _ _ _, rfl, rfl, rfl⟩
  rw [← hC, ← hu]
end Go.Proofs.YtknaaaphdjdaoaaDoor
