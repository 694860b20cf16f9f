/-
  Decode.
  Decode's deferred function, where nothing has gone wrong.
-/
import Derived.Test.YtknaaaphdjdaoaaDoorLe
import Derived.Tactics2
import Derived.Defers
import Derived.Recover
section
namespace Go.Proofs.YtknaaaphdjdaoaaDoor
open Go.RowKit Mem
set_option linter.unusedVariables false
set_option linter.unusedSimpArgs false

set_option maxRecDepth 100000 in
set_option maxHeartbeats 1600000 in
/-- slices.Clone. -/
theorem clone_any (w : World) (v : Value) (l : Bs) (h : Rd w v l) (hl : l.length ≤ 1048576) : Calls Tryd.prog 37 #[v] w fun e w' => ∃ v', e = .returned v' ∧ Ob w w' v' l ∧ Mod (fun _ => False) w w' := by
  by_cases hv : v = .slice none 0 0
  · subst hv
    have hl0 : l = [] := by
      rcases h with ⟨_, h⟩ | ⟨x, c, h, _⟩
      · exact h
      · cases h
    subst hl0
    have hnil := fun wx => Lib.run_eql_slice_nil (P := Tryd.prog) wx 24 5 none 0 0 0 0 Tryd.underlying24
    go_enter Tryd.func37, Tryd.ntmps37
    go_wp2_with (fail)
    go_ret
    exact ⟨_, rfl, .inl ⟨rfl, rfl⟩, Mod.refl _ _⟩
  · obtain ⟨x, c, rfl⟩ : ∃ x c, v = .slice (some x) l.length c := by
      rcases h with ⟨h, _⟩ | ⟨x, c, h, _⟩
      · exact absurd h hv
      · exact ⟨x, c, h⟩
    obtain ⟨A, c2, w2, hr, hO, hm⟩ := copy_ob w _ l h hl
    have H := Lib.hid (And.intro hO hm)
    have hnil : ∀ wx, (binOp .eql 24 (.slice (some x) l.length c) (.slice none 0 0)).run Tryd.prog wx = .ok (.bool false) wx := fun wx => by
      have := Lib.run_eql_slice_nil (P := Tryd.prog) wx 24 5 (some x) l.length c 0 0 Tryd.underlying24
      simpa using this
    clear h hO hm hv
    go_enter Tryd.func37, Tryd.ntmps37
    go_wp2_with (at_builtin; refine wpList_append_run rfl _ _ 24 24 rfl _ _ rfl rfl hr ?_)
    go_ret
    exact ⟨_, rfl, H.out.1, H.out.2⟩
theorem assert_fault (p : Int) (w : World) : (Instr.typeAssert (.iface 65 (.int .i64 p)) 20 65 true).run Tryd.prog w = .ok (.tuple #[.int .i64 p, .bool true]) w := by kernel_rfl
theorem far14 {w : World} {g s : Nat} {cs : Array Value} {t : TypeId} (h : Blk w g cs t) (hne : g ≠ s) (a0 a1 a2 a3 a4 a5 a6 a7 a8 a9 a10 a11 a12 a13 : Value) : Blk ((((((((((((((w.setCell ⟨s, 0, none⟩ a0).setCell ⟨s, 1, none⟩ a1).setCell ⟨s, 2, none⟩ a2).setCell ⟨s, 3, none⟩ a3).setCell ⟨s, 4, none⟩ a4).setCell ⟨s, 5, none⟩ a5).setCell ⟨s, 6, none⟩ a6).setCell ⟨s, 7, none⟩ a7).setCell ⟨s, 8, none⟩ a8).setCell ⟨s, 9, none⟩ a9).setCell ⟨s, 10, none⟩ a10).setCell ⟨s, 11, none⟩ a11).setCell ⟨s, 12, none⟩ a12).setCell ⟨s, 13, none⟩ a13) g cs t := Blk.setCells_far [a0, a1, a2, a3, a4, a5, a6, a7, a8, a9, a10, a11, a12, a13] hne 0 h
def zcells : Array Value := #[.int .i64 0, .int .i64 0, .int .i64 0, .int .i64 0, .int .i64 0, .int .i64 0, .int .i64 0, .int .i64 0, .bool false, .slice none 0 0, .int .i64 0, .int .i64 0, .slice none 0 0, .slice none 0 0]
set_option maxRecDepth 100000 in
set_option maxHeartbeats 1600000 in
/-- The deferred function, where reading has given up. -/
theorem catch_any (s er : Nat) (b0 b1 b2 b3 b4 b5 b6 b7 b8 b9 b10 b11 b12 b13 : Value) (p : Nat) (w : World) (hs : Blk w s #[b0, b1, b2, b3, b4, b5, b6, b7, b8, b9, b10, b11, b12, b13] 28) (he : Blk w er #[.nilIface] 37) :
    CallsD Tryd.prog 36 #[.pointer (some ⟨s, 0, none⟩), .pointer (some ⟨er, 0, none⟩)] (.panicking (stopAt p)) w fun ev u' w' =>
      ev = .returned (.tuple #[]) ∧ u' = .panicking [{ v := .iface 65 (.int .i64 (p : Int)), recovered := true }] ∧ (∃ fb, Blk w' fb #[.int .i64 (p : Int), .int .i64 12] 42 ∧ Blk w' er #[.iface 66 (.pointer (some ⟨fb, 0, none⟩))] 37) ∧ Blk w' s zcells 28 ∧ Mod (fun k => k = s ∨ k = er) w w' := by
  unfold stopAt
  have hsl := hs.lt
  have hel := he.lt
  have k3 := hs.alloc (Obj.cells #[.int .i64 (p : Int), .int .i64 12] 42)
  have k4 := he.alloc (Obj.cells #[.int .i64 (p : Int), .int .i64 12] 42)
  have k5 := Blk.new w #[.int .i64 (p : Int), .int .i64 12] 42
  have hmm := (Mod.refl (fun k => k = s ∨ k = er) w).alloc (Obj.cells #[.int .i64 (p : Int), .int .i64 12] 42)
  obtain ⟨w1, hw1⟩ : ∃ w1, w.alloc (Obj.cells #[.int .i64 (p : Int), .int .i64 12] 42) = w1 := ⟨_, rfl⟩
  rw [hw1] at k3 k4 k5 hmm
  have c0 : w1.cell? ⟨s, 0, none⟩ = some b0 := k3.cell 0
  have c1 : w1.cell? ⟨s, 1, none⟩ = some b1 := k3.cell 1
  have c2 : w1.cell? ⟨s, 2, none⟩ = some b2 := k3.cell 2
  have c3 : w1.cell? ⟨s, 3, none⟩ = some b3 := k3.cell 3
  have c4 : w1.cell? ⟨s, 4, none⟩ = some b4 := k3.cell 4
  have c5 : w1.cell? ⟨s, 5, none⟩ = some b5 := k3.cell 5
  have c6 : w1.cell? ⟨s, 6, none⟩ = some b6 := k3.cell 6
  have c7 : w1.cell? ⟨s, 7, none⟩ = some b7 := k3.cell 7
  have c8 : w1.cell? ⟨s, 8, none⟩ = some b8 := k3.cell 8
  have c9 : w1.cell? ⟨s, 9, none⟩ = some b9 := k3.cell 9
  have c10 : w1.cell? ⟨s, 10, none⟩ = some b10 := k3.cell 10
  have c11 : w1.cell? ⟨s, 11, none⟩ = some b11 := k3.cell 11
  have c12 : w1.cell? ⟨s, 12, none⟩ = some b12 := k3.cell 12
  have c13 : w1.cell? ⟨s, 13, none⟩ = some b13 := k3.cell 13
  have ce : w1.cell? ⟨er, 0, none⟩ = some .nilIface := k4.cell 0
  have zs := fun i => k3.frozen i
  have ze := k4.frozen 0
  have hse : ¬ s = er := Blk.ne hs he (by decide)
  have hes : ¬ er = s := fun e => hse e.symm
  refine callsD_of_wpS Tryd.func36 rfl fun q₀ cs hu => ?_
  apply wpS_seq
  apply wpS_region
  simp [wpOpsS, go_sem, recoverD, hu, Tryd.ntmps36, Exit.thenS]
  generalize hC : ({ fn := q₀.fn, tmps := q₀.tmps, todo := q₀.todo, defers := q₀.defers, mode := FrameMode.panicking [{ v := Value.iface 65 (.int .i64 (p : Int)), recovered := true }], kind := q₀.kind, roundOf := q₀.roundOf } :: cs : List Frame) = C
  have e1 : (Array.replicate 14 undef : Array Value) = #[undef, undef, undef, undef, undef, undef, undef, undef, undef, undef, undef, undef, undef, undef] := rfl
  simp only [e1, List.setIfInBounds_toArray, List.set_cons_succ, List.set_cons_zero, List.append_toArray, List.cons_append, List.nil_append]
  refine wpS_of_wp ?_
  have hta := assert_fault
  go_wp2_with (fail)
  have f1 := fun a0 a1 a2 a3 a4 a5 a6 a7 a8 a9 a10 a11 a12 a13 => (far14 k5 (by omega : w.heap.size ≠ s) a0 a1 a2 a3 a4 a5 a6 a7 a8 a9 a10 a11 a12 a13).far (p := ⟨er, 0, none⟩) (by show w.heap.size ≠ er; omega) (.iface 66 (.pointer (some ⟨w.heap.size, 0, none⟩)))
  have f2 := fun a0 a1 a2 a3 a4 a5 a6 a7 a8 a9 a10 a11 a12 a13 => (far14 k4 hes a0 a1 a2 a3 a4 a5 a6 a7 a8 a9 a10 a11 a12 a13).set 0 (.iface 66 (.pointer (some ⟨w.heap.size, 0, none⟩)))
  have f3 := fun a0 a1 a2 a3 a4 a5 a6 a7 a8 a9 a10 a11 a12 a13 => (set14 k3 rfl a0 a1 a2 a3 a4 a5 a6 a7 a8 a9 a10 a11 a12 a13).far (p := ⟨er, 0, none⟩) hse (.iface 66 (.pointer (some ⟨w.heap.size, 0, none⟩)))
  have f4 := fun a0 a1 a2 a3 a4 a5 a6 a7 a8 a9 a10 a11 a12 a13 => Mod.setCell (S := fun k => k = s ∨ k = er) (mod14 hmm (.inl (.inl rfl)) a0 a1 a2 a3 a4 a5 a6 a7 a8 a9 a10 a11 a12 a13) (p := ⟨er, 0, none⟩) (.inl (.inr rfl)) (.iface 66 (.pointer (some ⟨w.heap.size, 0, none⟩)))
  refine ⟨rfl, _, hC.symm, .tuple #[], results_none rfl _ _ _, rfl, rfl, ⟨w.heap.size, f1 _ _ _ _ _ _ _ _ _ _ _ _ _ _, f2 _ _ _ _ _ _ _ _ _ _ _ _ _ _⟩, f3 _ _ _ _ _ _ _ _ _ _ _ _ _ _, f4 _ _ _ _ _ _ _ _ _ _ _ _ _ _⟩
end Go.Proofs.YtknaaaphdjdaoaaDoor
end
section
namespace Go.Proofs.YtknaaaphdjdaoaaDoor
open Go.RowKit Mem
set_option linter.unusedVariables false
set_option linter.unusedSimpArgs false

set_option maxRecDepth 100000 in
set_option maxHeartbeats 1600000 in
theorem catch_none (a b : Value) (w : World) :
    CallsD Tryd.prog 36 #[a, b] .returning w fun ev u' w' => ev = .returned (.tuple #[]) ∧ u' = .returning ∧ w' = w := by
  refine callsD_of_wpS Tryd.func36 rfl fun q₀ cs hu => ?_
  apply wpS_seq
  apply wpS_region
  simp [wpOpsS, go_sem, recoverD, hu, Tryd.ntmps36, Exit.thenS]
  generalize hC : (q₀ :: cs : List Frame) = C
  have e1 : (Array.replicate 14 undef : Array Value) = #[undef, undef, undef, undef, undef, undef, undef, undef, undef, undef, undef, undef, undef, undef] := rfl
  simp only [e1, List.setIfInBounds_toArray, List.set_cons_succ, List.set_cons_zero, List.append_toArray, List.cons_append, List.nil_append]
  refine wpS_of_wp ?_
  go_wp2_with (fail)
  refine ⟨rfl, .returning, ?_, .tuple #[], results_none rfl _ _ _, rfl, rfl, rfl⟩
  rw [← hC, ← hu]
end Go.Proofs.YtknaaaphdjdaoaaDoor
end
