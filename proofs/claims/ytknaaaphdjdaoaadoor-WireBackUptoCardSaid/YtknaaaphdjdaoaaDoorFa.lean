/-
  The law's fault(err) at a *api.Fault.
-/
import Derived.Test.YtknaaaphdjdaoaaDoorAs
import Derived.Tactics2
namespace Go.Proofs.YtknaaaphdjdaoaaDoor
open Go.RowKit Mem
set_option linter.unusedVariables false
set_option linter.unusedSimpArgs false

set_option maxRecDepth 100000 in
theorem fault_hit (fb : Nat) (x y : Int) (w : World) (hg : w.cell? ⟨0, 0, none⟩ = some (.iface 101 (.agg #[.pointer (some ⟨1, 37, none⟩)]))) (hb : Blk w fb #[.int .i64 x, .int .i64 y] 42) :
    Calls Tryd.prog 16 #[.iface 66 (.pointer (some ⟨fb, 0, none⟩))] w fun e w' => e = .returned (.agg #[.int .i64 x, .int .i64 y]) ∧ Mod (fun _ => False) w w' := by
  have hlt : 0 < w.heap.size := by
    rcases Nat.eq_zero_or_pos w.heap.size with h0 | h
    · simp [World.cell?, h0] at hg
    · exact h
  have hg1 : ((w.alloc (.cells #[.int .i64 0, .int .i64 0] 42)).alloc (.cells #[.pointer none] 66)).cell? ⟨0, 0, none⟩ = some (.iface 101 (.agg #[.pointer (some ⟨1, 37, none⟩)])) := by
    rw [World.cell?_alloc_lt _ _ ⟨0, 0, none⟩ (by simp), World.cell?_alloc_lt _ _ ⟨0, 0, none⟩ hlt]; exact hg
  go_enter Tryd.func16, Tryd.ntmps16
  go_wp2_with (fail)
  refine (as_hit ⟨fb, 0, none⟩ ⟨w.heap.size + 1, 0, none⟩ (.pointer none) _ hg1 (by rw [World.cell?_alloc_at _ _ _ _ (by simp)]; rfl) (by simp)).mono ?_
  rintro e w2 ⟨rfl, he⟩
  have hm0 : Mod (fun _ => False) (w.alloc (.cells #[.int .i64 0, .int .i64 0] 42)) w2 := by
    rw [he]
    exact (((((Mod.refl _ _).alloc _).alloc _).alloc _).alloc _ |>.alloc _).setCell (.inr (by simp)) _
  have hm : Mod (fun _ => False) w w2 := ((Mod.refl _ w).alloc _).trans hm0 (fun _ h => h.elim)
  have hres := (Blk.new w #[.int .i64 0, .int .i64 0] 42).mod hm0 (fun h => h)
  have c4 := hres.cell 0
  have c5 := hres.cell 1
  have f4 := hres.frozen 0
  have f5 := hres.frozen 1
  have hp := Blk.new (w.alloc (.cells #[.int .i64 0, .int .i64 0] 42)) #[.pointer none] 66
  have hsz : (w.alloc (.cells #[.int .i64 0, .int .i64 0] 42)).heap.size = w.heap.size + 1 := by simp
  rw [hsz] at hp
  have hp2 : Blk w2 (w.heap.size + 1) #[.pointer (some ⟨fb, 0, none⟩)] 66 := by
    rw [he]; exact ((((hp.alloc _).alloc _).alloc _).alloc _).set 0 _
  have c1 := hp2.cell 0
  have hb2 : Blk w2 fb #[.int .i64 x, .int .i64 y] 42 := hb.mod hm (fun h => h)
  have c2 := hb2.cell 0
  have c3 := hb2.cell 1
  have HM := Lib.hid hm
  have HR := Lib.hid hres
  clear hm hm0 he hb hp hp2 hsz hres hb2
  go_wp2_with (fail)
  have hr2 := (HR.out.set 0 (.int .i64 x)).set 1 (.int .i64 y)
  have c6 : ((w2.setCell ⟨w.heap.size, 0, none⟩ (.int .i64 x)).setCell ⟨w.heap.size, 1, none⟩ (.int .i64 y)).cell? ⟨w.heap.size, 0, none⟩ = some (.int .i64 x) := hr2.cell 0
  have c7 : ((w2.setCell ⟨w.heap.size, 0, none⟩ (.int .i64 x)).setCell ⟨w.heap.size, 1, none⟩ (.int .i64 y)).cell? ⟨w.heap.size, 1, none⟩ = some (.int .i64 y) := hr2.cell 1
  refine ⟨rfl, .agg #[.int .i64 x, .int .i64 y], ?_, rfl, (HM.out.setCell (.inr (by simp)) _).setCell (.inr (by simp)) _⟩
  simp [results, Tryd.results16, go_sem, c6, c7]
end Go.Proofs.YtknaaaphdjdaoaaDoor
