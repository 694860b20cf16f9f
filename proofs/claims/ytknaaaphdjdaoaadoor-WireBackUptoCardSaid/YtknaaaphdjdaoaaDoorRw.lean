/-
  Parts of Right, of an LAppend.
-/
import Derived.Test.YtknaaaphdjdaoaaDoorRs
namespace Go.Proofs.YtknaaaphdjdaoaaDoor
open Go.RowKit Mem
set_option linter.unusedVariables false
set_option linter.unusedSimpArgs false

theorem RE.at_ {w : World} {A : Option Addr} {n c : Nat} {es : List En} (h : RE w (.slice A n c) es) (j : Nat) (hj : j < es.length) : ∃ a dv nv, A = some a ∧ w.cell? (a.add (j * 5)) = some (.int .i64 es[j].ix) ∧ w.cell? ⟨(a.add (j * 5)).block, (a.add (j * 5)).off + 1, none⟩ = some (.int .i64 es[j].tm) ∧ w.cell? ⟨(a.add (j * 5)).block, (a.add (j * 5)).off + 2, none⟩ = some (.int .i64 es[j].kd) ∧ w.cell? ⟨(a.add (j * 5)).block, (a.add (j * 5)).off + 3, none⟩ = some dv ∧ w.cell? ⟨(a.add (j * 5)).block, (a.add (j * 5)).off + 4, none⟩ = some nv ∧ RdC w dv es[j].dt ∧ RI w nv es[j].nd := by
  rcases h with ⟨h, rfl⟩ | ⟨a, c', h, _, _, hc⟩
  · simp at hj
  · injection h with h1
    obtain ⟨dv, nv, r⟩ := hc j _ (List.getElem?_eq_getElem hj)
    exact ⟨a, dv, nv, h1, r⟩
theorem RdC.vl {w : World} {v : Value} {l : Bs} (h : RdC w v l) : ∃ A c, v = .slice A l.length c := by
  obtain ⟨_, A, c, hv, _⟩ := h
  exact ⟨A, c, hv⟩
theorem EnV.mod {w w' : World} {v : Value} {e : En} (h : EnV w v e) (hm : Mod (fun _ => False) w w') : EnV w' v e := by
  obtain ⟨dv, nv, hv, hd, hn⟩ := h
  exact ⟨dv, nv, hv, hd.mod hm, hn.mod hm⟩
theorem blk_one (w : World) (a : Array Value) (o : Obj) (t : TypeId) : Blk ((w.alloc (Obj.cells a t)).alloc o) w.heap.size a t := (Blk.new w a t).alloc o
theorem blk_two (w : World) (a b : Array Value) (t u : TypeId) : Blk ((w.alloc (Obj.cells a t)).alloc (Obj.cells b u)) (w.heap.size + 1) b u := by
  have := Blk.new (w.alloc (Obj.cells a t)) b u
  have e : (w.alloc (Obj.cells a t)).heap.size = w.heap.size + 1 := by simp
  rwa [e] at this
end Go.Proofs.YtknaaaphdjdaoaaDoor
