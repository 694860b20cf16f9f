/-
  Encode, of more letters.
-/
import Derived.Test.YtknaaaphdjdaoaaDoorEc
namespace Go.Proofs.YtknaaaphdjdaoaaDoor
open Go.RowKit Mem
set_option linter.unusedVariables false
set_option linter.unusedSimpArgs false

set_option maxRecDepth 100000 in
set_option maxHeartbeats 3200000 in
/-- Encode of an LAsk. -/
theorem enc_1 (fr tt tm ix lt cm rd si st : Int) (ok : Bool) (e1 n1 d1 : Option Addr) (e2 e3 n2 n3 d2 d3 : Nat) (w : World) (b1 : 0 ≤ fr ∧ fr ≤ 1000000) (b2 : 0 ≤ tt ∧ tt ≤ 1000000) (b3 : 0 ≤ tm ∧ tm ≤ 1000000) (b4 : 0 ≤ ix ∧ ix ≤ 1000000) (b5 : 0 ≤ lt ∧ lt ≤ 1000000) (hr : ∀ w', Mod (fun _ => False) w w' → Calls Tryd.prog 12 #[.agg #[.int .i64 1, .int .i64 fr, .int .i64 tt, .int .i64 tm, .int .i64 ix, .int .i64 lt, .int .i64 cm, .int .i64 rd, .bool ok, .slice e1 e2 e3, .int .i64 si, .int .i64 st, .slice n1 n2 n3, .slice d1 d2 d3]] w' fun en w2 => en = .returned (.bool true) ∧ Mod (fun _ => False) w' w2) :
    Calls Tryd.prog 11 #[.agg #[.int .i64 1, .int .i64 fr, .int .i64 tt, .int .i64 tm, .int .i64 ix, .int .i64 lt, .int .i64 cm, .int .i64 rd, .bool ok, .slice e1 e2 e3, .int .i64 si, .int .i64 st, .slice n1 n2 n3, .slice d1 d2 d3]] w fun e w' => ∃ v, e = .returned (.tuple #[v, .int .i64 0]) ∧ Ob w w' v (pnz [1, fr, tt, tm] ++ pnz [ix, lt]) ∧ Mod (fun _ => False) w w' := by
  have hr1 := hr _ ((Mod.refl _ w).alloc (Obj.cells #[.int .i64 1, .int .i64 fr, .int .i64 tt, .int .i64 tm, .int .i64 ix, .int .i64 lt, .int .i64 cm, .int .i64 rd, .bool ok, .slice e1 e2 e3, .int .i64 si, .int .i64 st, .slice n1 n2 n3, .slice d1 d2 d3] 28))
  have hB := Blk.new w #[.int .i64 1, .int .i64 fr, .int .i64 tt, .int .i64 tm, .int .i64 ix, .int .i64 lt, .int .i64 cm, .int .i64 rd, .bool ok, .slice e1 e2 e3, .int .i64 si, .int .i64 st, .slice n1 n2 n3, .slice d1 d2 d3] 28
  clear hr
  go_enter Tryd.func11, Tryd.ntmps11
  go_wp2_with (fail)
  refine hr1.mono ?_
  rintro e w2 ⟨rfl, hm⟩
  have HB := Lib.hid (hB.mod hm (fun h => h))
  have HM := Lib.hid (md_al hm)
  have c0 : w2.cell? ⟨w.heap.size, 0, none⟩ = some (.int .i64 1) := HB.out.cell 0
  have c1 : w2.cell? ⟨w.heap.size, 1, none⟩ = some (.int .i64 fr) := HB.out.cell 1
  have c2 : w2.cell? ⟨w.heap.size, 2, none⟩ = some (.int .i64 tt) := HB.out.cell 2
  have c3 : w2.cell? ⟨w.heap.size, 3, none⟩ = some (.int .i64 tm) := HB.out.cell 3
  clear hm hr1 hB
  go_wp2_with (fail)
  refine (put_any w (.slice none 0 0) [] [1, fr, tt, tm] _ 4 rfl (fun j z hj => by
    rcases j with _ | _ | _ | _ | j <;> simp at hj ⊢ <;> exact hj) (by
    intro z hz
    simp only [List.mem_cons, List.not_mem_nil, or_false] at hz
    rcases hz with rfl | rfl | rfl | rfl <;> omega) (by simp) w2 (.inl ⟨rfl, rfl⟩) HM.out).mono ?_
  rintro e w3 ⟨v3, rfl, hO3, hm3, hx3⟩
  rw [List.nil_append] at hO3
  have HB3 := Lib.hid (HB.out.mod hx3.1 (fun h => by simp [Value.ownBlock] at h))
  have HO3 := Lib.hid (And.intro hO3 hm3)
  have hl3 : (pnz [1, fr, tt, tm]).length ≤ 44 := pnz_len _
  have HL3 := Lib.hid hl3
  obtain ⟨a3, q3, rfl⟩ := hO3.val
  clear c0 c1 c2 c3 hO3 hm3 hx3 HB HM hl3
  have c0 : w3.cell? ⟨w.heap.size, 0, none⟩ = some (.int .i64 1) := HB3.out.cell 0
  have c4 : w3.cell? ⟨w.heap.size, 4, none⟩ = some (.int .i64 ix) := HB3.out.cell 4
  have c5 : w3.cell? ⟨w.heap.size, 5, none⟩ = some (.int .i64 lt) := HB3.out.cell 5
  go_wp2_with (fail)
  refine (put_any w _ _ [ix, lt] _ 2 rfl (fun j z hj => by
    rcases j with _ | _ | j <;> simp at hj ⊢ <;> exact hj) (by
    intro z hz
    simp only [List.mem_cons, List.not_mem_nil, or_false] at hz
    rcases hz with rfl | rfl <;> (try unfold bitN) <;> (try split) <;> omega) (by have := HL3.out; simp; omega) _ HO3.out.1 HO3.out.2).mono ?_
  rintro e w4 ⟨v4, rfl, hO4, hm4, _⟩
  have HF := Lib.hid (And.intro hO4 hm4)
  clear hO4 hm4 HO3
  go_wp2_with (fail)
  go_ret2
  exact ⟨_, rfl, HF.out.1, HF.out.2⟩
end Go.Proofs.YtknaaaphdjdaoaaDoor
