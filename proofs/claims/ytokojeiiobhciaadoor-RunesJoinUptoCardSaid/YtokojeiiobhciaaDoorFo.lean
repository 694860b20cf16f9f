/-
  Space, small; Fold.
-/
import Derived.Test.YtokojeiiobhciaaDoorRp
namespace Go.Proofs.YtokojeiiobhciaaDoor
open Go.RowKit Mem
set_option linter.unusedVariables false
set_option linter.unusedSimpArgs false

/-- The document's spaces. -/
def spaceI (r : Int) : Bool := r == 9 || r == 10 || r == 12 || r == 13 || r == 32 || r == 160 || r == 5760 || r == 8239 || r == 8287 || r == 12288 || (decide (8192 ≤ r) && decide (r ≤ 8202))
def smallI (r : Int) : Int :=
  if 65 ≤ r ∧ r ≤ 90 ∨ (192 ≤ r ∧ r ≤ 222 ∧ r ≠ 215) ∨ 913 ≤ r ∧ r ≤ 937 ∨ 1040 ≤ r ∧ r ≤ 1071 then r + 32 else if 1024 ≤ r ∧ r ≤ 1039 then r + 80 else r
set_option maxRecDepth 100000 in
set_option maxHeartbeats 1600000 in
theorem space_any (r : Int) (hr : -2147483648 ≤ r ∧ r ≤ 2147483647) (w : World) :
    Calls Tryd.prog 12 #[.int .i32 r] w fun e w' => e = .returned (.bool (spaceI r)) ∧ ∃ q, w' = w.drewN q := by
  go_enter Tryd.func12, Tryd.ntmps12
  go_wp2_with (fail)
  all_goals
    go_ret
    refine ⟨?_, 0, rfl⟩
    first | (simp_all [spaceI]; done) | (simp_all [spaceI]; omega)
set_option maxRecDepth 100000 in
set_option maxHeartbeats 1600000 in
theorem small_any (r : Int) (hr : -2147483648 ≤ r ∧ r ≤ 2147483647) (w : World) :
    Calls Tryd.prog 23 #[.int .i32 r] w fun e w' => e = .returned (.int .i32 (smallI r)) ∧ ∃ q, w' = w.drewN q := by
  go_enter Tryd.func23, Tryd.ntmps23
  go_wp2_with (fail)
  all_goals
    go_ret
    refine ⟨?_, 0, rfl⟩
    congr 2
    unfold smallI
    simp at *
    first | done | (repeat' split) <;> omega
theorem tabs_mod {S : Nat → Prop} {g1 g2 : Nat} {w w' : World} (h : Lib.Utf8Tabs g1 g2 w) (hm : Mod S w w') (h1 : ¬ S g1) (h2 : ¬ S g2) : Lib.Utf8Tabs g1 g2 w' := by
  refine ⟨fun c hc => ?_, fun i hi => ?_⟩
  · have := h.1 c hc
    exact (World.cell?_of_block (w := w) (hm.block _ (World.block_lt_of_cell? w _ this) h1)).trans this
  · obtain ⟨a, b⟩ := h.2 i hi
    exact ⟨(World.cell?_of_block (w := w) (hm.block _ (World.block_lt_of_cell? w _ a) h2)).trans a, (World.cell?_of_block (w := w) (hm.block _ (World.block_lt_of_cell? w _ b) h2)).trans b⟩
theorem row_cells {w : World} {base A n : Nat} {xs : List ByteArray} (h : w.ownsRow base 9 1 (.slice (some ⟨A, 0, none⟩) n n) n (xs.map Value.string)) : A < w.heap.size ∧ ∀ (j : Nat) x, xs[j]? = some x → w.cell? ⟨A, 0 + j, none⟩ = some (.string x) := by
  rcases own_cases h with ⟨hv, _⟩ | ⟨g, cap, cur, hv, hg, hB, hn, hc, hs, hx⟩
  · simp at hv
  · injection hv with e1 e2 e3
    simp at e1
    subst e1
    refine ⟨hB.lt, fun j x hj => ?_⟩
    rw [hB.cell, Nat.zero_add]
    have : (xs.map Value.string)[j]? = some (.string x) := by simp [hj]
    rw [← hx] at this
    rw [List.getElem?_take] at this
    split at this
    · simpa using this
    · cases this
set_option maxRecDepth 100000 in
set_option maxHeartbeats 1600000 in
theorem fold_any (s : ByteArray) (w : World) (hs : s.size ≤ 4294967296) (hT : Lib.Utf8Tabs 1 2 w)
    (hn : (Lib.goFieldsP (fun x => spaceI (x : Int)) s).length ≤ 140737488355328)
    (hj : (Lib.join ((Lib.goFieldsP (fun x => spaceI (x : Int)) s).map (·.data.toList)) [32]).length ≤ 35184372088831)
    (hm : (Lib.mapD smallI (Lib.join ((Lib.goFieldsP (fun x => spaceI (x : Int)) s).map (·.data.toList)) [32])).length ≤ 1000000000000) :
    Calls Tryd.prog 15 #[.string s] w fun e w' => e = .returned (.string (sv (rpl (Lib.mapD smallI (Lib.join ((Lib.goFieldsP (fun x => spaceI (x : Int)) s).map (·.data.toList)) [32]))))) ∧ Mod (fun _ => False) w w' := by
  have h1 := Tryd.strings_FieldsFunc_runes 12 #[] (fun args w => enters_of Tryd.func12 (by kernel_rfl) rfl args w) (fun x => spaceI (x : Int)) s w hs (fun W x hx _ => space_any x (by omega) W)
  go_enter Tryd.func15, Tryd.ntmps15
  go_wp2_with (fail)
  refine h1.mono ?_
  rintro e w2 ⟨A, rfl, hA, hown, hb2⟩
  obtain ⟨hAl, hcells⟩ := row_cells hown
  have M2 : Mod (fun _ => False) w w2 := Mod.of_below hb2
  have hT2 := tabs_mod hT M2 (fun h => h) (fun h => h)
  have h2 := Tryd.strings_Join A 0 _ (Lib.goFieldsP (fun x => spaceI (x : Int)) s) ⟨#[32]⟩ w2 hcells hAl hn (Nat.le_refl _) (by exact Nat.le_trans hj (by omega))
  clear hown h1 hcells
  go_wp2_with (fail)
  refine h2.mono ?_
  rintro e w3 ⟨rfl, hb3⟩
  have M3 : Mod (fun _ => False) w w3 := M2.trans (Mod.of_below (S := fun _ => False) hb3) (fun i hi => hi.elim)
  have hT3 := tabs_mod hT M3 (fun h => h) (fun h => h)
  obtain ⟨J, hJ⟩ : ∃ J, Lib.join ((Lib.goFieldsP (fun x => spaceI (x : Int)) s).map (·.data.toList)) [32] = J := ⟨_, rfl⟩
  rw [hJ] at hj hm
  have h3 := Tryd.strings_Map_runes 23 #[] (fun args w => enters_of Tryd.func23 (by kernel_rfl) rfl args w) smallI ⟨J.toArray⟩ w3 (by show J.toArray.size < _; simp; omega) (fun W x hx _ => small_any x (by omega) W) (fun x hx => by unfold smallI; split <;> (try split) <;> omega) hT3
  clear h2
  go_wp2_with (fail)
  refine h3.mono ?_
  rintro e w4 ⟨rfl, hb4⟩
  have M4 : Mod (fun _ => False) w w4 := M3.trans (Mod.of_below (S := fun _ => False) hb4) (fun i hi => hi.elim)
  obtain ⟨D, hD⟩ : ∃ D, Lib.mapD smallI J = D := ⟨_, rfl⟩
  have hD2 : Lib.mapD smallI (⟨J.toArray⟩ : ByteArray).data.toList = D := hD
  rw [hD] at hm
  rw [hD2]
  clear h3 hT2 hT3 hb2 hb3 hb4
  go_wp2_with (fail)
  have ho : Four (w4.alloc (Obj.cells #[Value.string ⟨#[195, 159]⟩, Value.string ⟨#[115, 115]⟩, Value.string ⟨#[225, 186, 158]⟩, Value.string ⟨#[115, 115]⟩] 9)) w4.heap.size := ⟨_, Blk.new w4 _ _, rfl, rfl, rfl, rfl⟩
  have h5 := newrep_any _ _ ho
  have M5 := M4.alloc (Obj.cells #[Value.string ⟨#[195, 159]⟩, Value.string ⟨#[115, 115]⟩, Value.string ⟨#[225, 186, 158]⟩, Value.string ⟨#[115, 115]⟩] 9)
  refine h5.mono ?_
  rintro e w5 ⟨b, o', c, rfl, hc4, hB, hF, ho', hbw, hm5⟩
  have M6 := M5.trans hm5 (fun i hi => hi.elim)
  have hbn : w.heap.size ≤ b := Nat.le_trans M5.size hbw
  have h6 := rr_any b o' c D w5 hm hc4 hB hF
  clear h5 ho hB hF
  go_wp2_with (fail)
  refine h6.mono ?_
  rintro e w6 ⟨rfl, hm6⟩
  go_wp2_with (fail)
  go_ret
  refine ⟨?_, M6.trans hm6 (fun i hi => .inr (by rw [hi]; exact hbn))⟩
  rw [hJ, hD]
  rfl
/-- What Fold makes of a text. -/
def foldB (s : ByteArray) : Bs := rpl (Lib.mapD smallI (Lib.join ((Lib.goFieldsP (fun x => spaceI (x : Int)) s).map (·.data.toList)) [32]))
def labelS : ByteArray := sv [32, 65, 9, 10, 66, 32]
theorem fold_label : Lib.join ((Lib.goFieldsP (fun x => spaceI (x : Int)) labelS).map (·.data.toList)) [32] = [65, 32, 66] := by decide +kernel
theorem fold_labelB : foldB labelS = [97, 32, 98] := by decide +kernel
end Go.Proofs.YtokojeiiobhciaaDoor
