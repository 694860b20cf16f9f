/-
  A region that draws its order, whose operations read, and whose calls turn nothing that was there: one walk in the order of the text serves every order. No program in sight.
-/
import Derived.Test.YtknaaaphdjdaoaaDoorMem
import Derived.Deep.QuietTactic
import Derived.BigQuiet
namespace Go.Proofs.YtknaaaphdjdaoaaDoor.Mem
open Go.RowKit
set_option linter.unusedVariables false

/-- A world in which only new blocks have turned since W. -/
structure After (W : World) where
  w : World
  m : Mod (fun _ => False) W w
instance {W : World} : Nonempty (After W) := ⟨⟨W, Mod.refl _ _⟩⟩
theorem region_calm {P : Program} {id : Nat} {Q : Exit → Act → World → Prop} {a : Act} {W : World} {l : List Oper} (hm : P.follows .mixedOrders = true) (hB : Region.lexB .any l.toArray = true)
    (h : wpQuiet P l.toArray (fun w' => ∃ x : After W, w' = x.w) (fun a' => ∀ w', (∃ x : After W, w' = x.w) → Q .normal a' w') l a) : (Code.region id l.toArray true).wp P Q a W :=
  wp_region_quiet (C := fun w' => ∃ x : After W, w' = x.w) hm hB ⟨⟨W.drew, (Mod.refl _ W).drew⟩, rfl⟩ (by simpa using h)
theorem calm_call {P : Program} {f : FuncId} {args : Array Value} {W : World} {x : After W} {v : Value} (h : Calls P f args x.w fun e w' => e = .returned v ∧ Mod (fun _ => False) x.w w') :
    Calls P f args x.w fun e w'' => e = .returned v ∧ ∃ y : After W, w'' = y.w :=
  h.mono fun e w' ⟨he, hm⟩ => ⟨he, ⟨w', x.m.trans hm (fun _ h => h.elim)⟩, rfl⟩
theorem calm_dr {P : Program} {f : FuncId} {args : Array Value} {W : World} {x : After W} {v : Value} (h : Calls P f args x.w fun e w' => e = .returned v ∧ Dr x.w w') :
    Calls P f args x.w fun e w'' => e = .returned v ∧ ∃ y : After W, w'' = y.w := calm_call (h.mono fun _ _ ⟨he, hd⟩ => ⟨he, hd.mod⟩)
theorem calm_eq {P : Program} {f : FuncId} {args : Array Value} {W : World} {x : After W} {v : Value} (h : Calls P f args x.w fun e w' => e = .returned v ∧ x.w = w') :
    Calls P f args x.w fun e w'' => e = .returned v ∧ ∃ y : After W, w'' = y.w := h.mono fun _ _ ⟨he, hd⟩ => ⟨he, x, hd.symm⟩
theorem calm_eq' {P : Program} {f : FuncId} {args : Array Value} {W : World} {x : After W} {v : Value} (h : Calls P f args x.w fun e w' => e = .returned v ∧ w' = x.w) :
    Calls P f args x.w fun e w'' => e = .returned v ∧ ∃ y : After W, w'' = y.w := h.mono fun _ _ ⟨he, hd⟩ => ⟨he, x, hd⟩
/-- The end of such a region. -/
theorem calm_end {P : Program} {ops : Array Oper} {W : World} {Q : Act → World → Prop} {a : Act} (h : ∀ w', Mod (fun _ => False) W w' → Q a w') : wpQuiet P ops (fun w' => ∃ x : After W, w' = x.w) (fun a' => ∀ w', (∃ x : After W, w' = x.w) → Q a' w') [] a :=
  wpQuiet_nil (fun w' ⟨x, hx⟩ => h w' (by rw [hx]; exact x.m))
/-- A cell that is read in such a region. -/
theorem calm_cell {W : World} {p : Addr} {u : Value} (h : W.cell? p = some u) : ∀ x : After W, x.w.cell? p = some u := fun x =>
  (World.cell?_of_block (w := W) (x.m.block _ (World.block_lt_of_cell? W p h) (fun h => h))).trans h
end Go.Proofs.YtknaaaphdjdaoaaDoor.Mem
