/-
  Decode of two bytes that are no store, whole.
-/
import Derived.Test.YtealopafgipimaaDoorDe
import Derived.Tactics2
import Derived.Defers
namespace Go.Proofs.YtealopafgipimaaDoor
open Go.RowKit Mem
set_option linter.unusedVariables false
set_option linter.unusedSimpArgs false

theorem blk_at3 (w : World) (a b d : Obj) (c : Array Value) (t : TypeId) : Blk ((((w.alloc a).alloc b).alloc (Obj.cells c t)).alloc d) (w.heap.size + 1 + 1) c t := by
  have h := (Blk.new ((w.alloc a).alloc b) c t).alloc d
  have e : ((w.alloc a).alloc b).heap.size = w.heap.size + 1 + 1 := by simp
  rwa [e] at h
theorem assert_stop (w : World) : (Instr.typeAssert (.iface 68 (.agg #[])) 20 68 true).run Tryd.prog w = .ok (.tuple #[.agg #[], .bool true]) w := by kernel_rfl
set_option maxRecDepth 100000 in
set_option maxHeartbeats 1600000 in
theorem catch_bad (rb s er r : Nat) (sl : Value) (at_ : Int) (w : World) (hs : Blk w s #[.slice none 0 0, .slice none 0 0] 36) (he : Blk w er #[.nilIface] 42) (hrb : Blk w rb #[.pointer (some ⟨r, 0, none⟩)] 64) (hr : Blk w r #[sl, .int .i64 at_] 66) :
    CallsD Tryd.prog 25 #[.pointer (some ⟨rb, 0, none⟩), .pointer (some ⟨s, 0, none⟩), .pointer (some ⟨er, 0, none⟩)] (.panicking [{ v := .iface 68 (.agg #[]), recovered := false }]) w fun ev u' w' =>
      ev = .returned (.tuple #[]) ∧ u' = .panicking [{ v := .iface 68 (.agg #[]), recovered := true }] ∧ Blk w' (w.heap.size + 1) #[.int .i64 at_, .int .i64 12] 48 ∧ Blk w' er #[.iface 70 (.pointer (some ⟨w.heap.size + 1, 0, none⟩))] 42 ∧ Blk w' s #[.slice none 0 0, .slice none 0 0] 36 ∧ Mod (fun k => k = s ∨ k = er) w w' := by
  have k1 := hrb.alloc (Obj.cells #[] 68)
  have k2 := hr.alloc (Obj.cells #[] 68)
  have k3 := (hs.alloc (Obj.cells #[] 68)).alloc (Obj.cells #[.int .i64 at_, .int .i64 12] 48)
  have k4 := (he.alloc (Obj.cells #[] 68)).alloc (Obj.cells #[.int .i64 at_, .int .i64 12] 48)
  have c1 : (w.alloc (Obj.cells #[] 68)).cell? ⟨rb, 0, none⟩ = some (.pointer (some ⟨r, 0, none⟩)) := k1.cell 0
  have c2 : (w.alloc (Obj.cells #[] 68)).cell? ⟨r, 1, none⟩ = some (.int .i64 at_) := k2.cell 1
  have c3 : ((w.alloc (Obj.cells #[] 68)).alloc (Obj.cells #[.int .i64 at_, .int .i64 12] 48)).cell? ⟨s, 0, none⟩ = some (.slice none 0 0) := k3.cell 0
  have c4 : ((w.alloc (Obj.cells #[] 68)).alloc (Obj.cells #[.int .i64 at_, .int .i64 12] 48)).cell? ⟨s, 1, none⟩ = some (.slice none 0 0) := k3.cell 1
  have c5 : ((w.alloc (Obj.cells #[] 68)).alloc (Obj.cells #[.int .i64 at_, .int .i64 12] 48)).cell? ⟨er, 0, none⟩ = some .nilIface := k4.cell 0
  have z3 := k3.frozen 0
  have z4 := k3.frozen 1
  have z5 := k4.frozen 0
  have hse : ¬ s = er := Blk.ne hs he (by decide)
  have hes : ¬ er = s := fun e => hse e.symm
  refine callsD_of_wpS Tryd.func25 rfl fun c₀ cs hu => ?_
  apply wpS_seq
  apply wpS_region
  simp [wpOpsS, go_sem, recoverD, hu, Tryd.ntmps25, Exit.thenS]
  generalize hC : ({ fn := c₀.fn, tmps := c₀.tmps, todo := c₀.todo, defers := c₀.defers, mode := FrameMode.panicking [{ v := Value.iface 68 (Value.agg #[]), recovered := true }], kind := c₀.kind, roundOf := c₀.roundOf } :: cs : List Frame) = C
  have e1 : (Array.replicate 22 undef : Array Value) = #[undef, undef, undef, undef, undef, undef, undef, undef, undef, undef, undef, undef, undef, undef, undef, undef, undef, undef, undef, undef, undef, undef] := rfl
  simp only [e1, List.setIfInBounds_toArray, List.set_cons_succ, List.set_cons_zero, List.append_toArray, List.cons_append, List.nil_append]
  refine wpS_of_wp ?_
  have hta := assert_stop
  go_wp2_with (fail)
  have hsl := hs.lt
  have hel := he.lt
  have k5 := blk_two w #[] #[.int .i64 at_, .int .i64 12] 68 48
  refine ⟨rfl, _, hC.symm, .tuple #[], results_none rfl _ _ _, rfl, rfl, ?_, ?_, ?_, ?_⟩
  · exact ((k5.far (p := ⟨s, 0, none⟩) (by show w.heap.size + 1 ≠ s; omega) _).far (p := ⟨s, 1, none⟩) (by show w.heap.size + 1 ≠ s; omega) _).far (p := ⟨er, 0, none⟩) (by show w.heap.size + 1 ≠ er; omega) _
  · exact ((k4.far (p := ⟨s, 0, none⟩) hes _).far (p := ⟨s, 1, none⟩) hes _).set 0 _
  · exact ((k3.set 0 _).set 1 _).far (p := ⟨er, 0, none⟩) hse _
  · exact Mod.setCell (S := fun k => k = s ∨ k = er) (Mod.setCell (S := fun k => k = s ∨ k = er) (Mod.setCell (S := fun k => k = s ∨ k = er) (((Mod.refl _ w).alloc _).alloc _) (p := ⟨s, 0, none⟩) (.inl (.inl rfl)) _) (p := ⟨s, 1, none⟩) (.inl (.inl rfl)) _) (p := ⟨er, 0, none⟩) (.inl (.inr rfl)) _
theorem blk_at1 (w : World) (b c d : Obj) (a : Array Value) (t : TypeId) : Blk ((((w.alloc (Obj.cells a t)).alloc b).alloc c).alloc d) w.heap.size a t := (((Blk.new w a t).alloc b).alloc c).alloc d
theorem blk_at2 (w : World) (a c d : Obj) (b : Array Value) (t : TypeId) : Blk ((((w.alloc a).alloc (Obj.cells b t)).alloc c).alloc d) (w.heap.size + 1) b t := by
  have h := ((Blk.new (w.alloc a) b t).alloc c).alloc d
  have e : (w.alloc a).heap.size = w.heap.size + 1 := by simp
  rwa [e] at h
theorem blk_at4 (w : World) (a b c : Obj) (d : Array Value) (t : TypeId) : Blk ((((w.alloc a).alloc b).alloc c).alloc (Obj.cells d t)) (w.heap.size + 1 + 1 + 1) d t := by
  have h := Blk.new (((w.alloc a).alloc b).alloc c) d t
  have e : (((w.alloc a).alloc b).alloc c).heap.size = w.heap.size + 1 + 1 + 1 := by simp
  rwa [e] at h
set_option maxRecDepth 100000 in
set_option maxHeartbeats 1600000 in
theorem dec_bad (g : Nat) (w : World) (hb : Blk w g #[.int .u8 83, .int .u8 0] 5) :
    Calls Tryd.prog 18 #[.slice (some ⟨g, 0, none⟩) 2 2] w fun e w' => ∃ fb, e = .returned (.tuple #[.agg #[.slice none 0 0, .slice none 0 0], .iface 70 (.pointer (some ⟨fb, 0, none⟩))]) ∧ Blk w' fb #[.int .i64 2, .int .i64 12] 48 ∧ Mod (fun _ => False) w w' := by
  have hmf : ∀ (fn : Fn) (first cap : Array Value) (w : World), (Instr.makeFunc fn first cap).run Tryd.prog w = .ok (.func fn first cap) w := fun _ _ _ _ => rfl
  have hb4 := (((hb.alloc (Obj.cells #[Value.slice none 0 0, Value.slice none 0 0] 36)).alloc (Obj.cells #[Value.nilIface] 42)).alloc (Obj.cells #[Value.slice (some ⟨g, 0, none⟩) 2 2, Value.int IntKind.i64 0] 66)).alloc (Obj.cells #[Value.pointer (some ⟨w.heap.size + 1 + 1, 0, none⟩)] 64)
  have c0 : ((((w.alloc (Obj.cells #[Value.slice none 0 0, Value.slice none 0 0] 36)).alloc (Obj.cells #[Value.nilIface] 42)).alloc (Obj.cells #[Value.slice (some ⟨g, 0, none⟩) 2 2, Value.int IntKind.i64 0] 66)).alloc (Obj.cells #[Value.pointer (some ⟨w.heap.size + 1 + 1, 0, none⟩)] 64)).cell? ⟨g, 0, none⟩ = some (.int .u8 83) := hb4.cell 0
  go_enter_defers Tryd.func18, Tryd.ntmps18
  go_wp2_with (fail)
  have hrr : Rr ((((w.alloc (Obj.cells #[Value.slice none 0 0, Value.slice none 0 0] 36)).alloc (Obj.cells #[Value.nilIface] 42)).alloc (Obj.cells #[Value.slice (some ⟨g, 0, none⟩) 2 2, Value.int IntKind.i64 1] 66)).alloc (Obj.cells #[Value.pointer (some ⟨w.heap.size + 1 + 1, 0, none⟩)] 64)) (w.heap.size + 1 + 1) g 1 :=
    ⟨blk_at3 _ _ _ _ _ _, (((hb.alloc _).alloc _).alloc _).alloc _⟩
  refine (store_bad _ g _ hrr).mono ?_
  rintro e w5 ⟨rfl, hR5, hm5⟩
  go_wp2_with (fail)
  have e1 := (blk_at1 w (Obj.cells #[Value.nilIface] 42) (Obj.cells #[Value.slice (some ⟨g, 0, none⟩) 2 2, Value.int IntKind.i64 1] 66) (Obj.cells #[Value.pointer (some ⟨w.heap.size + 1 + 1, 0, none⟩)] 64) #[Value.slice none 0 0, Value.slice none 0 0] 36).mod hm5 (by omega)
  have e2 := (blk_at2 w (Obj.cells #[Value.slice none 0 0, Value.slice none 0 0] 36) (Obj.cells #[Value.slice (some ⟨g, 0, none⟩) 2 2, Value.int IntKind.i64 1] 66) (Obj.cells #[Value.pointer (some ⟨w.heap.size + 1 + 1, 0, none⟩)] 64) #[Value.nilIface] 42).mod hm5 (by omega)
  have e4 := (blk_at4 w (Obj.cells #[Value.slice none 0 0, Value.slice none 0 0] 36) (Obj.cells #[Value.nilIface] 42) (Obj.cells #[Value.slice (some ⟨g, 0, none⟩) 2 2, Value.int IntKind.i64 1] 66) #[Value.pointer (some ⟨w.heap.size + 1 + 1, 0, none⟩)] 64).mod hm5 (by omega)
  have hcat := catch_bad _ _ _ _ _ _ w5 e1 e2 e4 hR5.1
  refine leaves_cons (f := 25) (args := #[.pointer (some ⟨w.heap.size + 1 + 1 + 1, 0, none⟩), .pointer (some ⟨w.heap.size, 0, none⟩), .pointer (some ⟨w.heap.size + 1, 0, none⟩)]) (by simp) (by simp [go_sem]) ?_
  refine hcat.mono ?_
  rintro e u' w6 ⟨rfl, rfl, hF6, hE6, hS6, hm6⟩
  have c1 : w6.cell? ⟨w.heap.size, 0, none⟩ = some (.slice none 0 0) := hS6.cell 0
  have c2 : w6.cell? ⟨w.heap.size, 1, none⟩ = some (.slice none 0 0) := hS6.cell 1
  have c3 : w6.cell? ⟨w.heap.size + 1, 0, none⟩ = some (.iface 70 (.pointer (some ⟨w5.heap.size + 1, 0, none⟩))) := hE6.cell 0
  have HM : Mod (fun _ => False) w w6 := ((((((Mod.refl _ w).alloc _).alloc _).alloc _).alloc _).trans hm5 (fun i hi => .inr (by omega))).trans hm6 (fun i hi => .inr (by rcases hi with h | h <;> omega))
  have HH := Lib.hid (And.intro hF6 HM)
  simp [Leaves, settle, results, Tryd.results18, go_sem, c1, c2, c3]
  exact ⟨HH.out.1, HH.out.2⟩
end Go.Proofs.YtealopafgipimaaDoor
