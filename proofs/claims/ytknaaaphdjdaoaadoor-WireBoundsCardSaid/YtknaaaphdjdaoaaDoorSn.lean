/-
  The document's Same, of letters without entries and snapshots.
-/
import Derived.Test.YtknaaaphdjdaoaaDoorRs
namespace Go.Proofs.YtknaaaphdjdaoaaDoor
open Go.RowKit Mem
set_option linter.unusedVariables false
set_option linter.unusedSimpArgs false

set_option maxRecDepth 100000 in
set_option maxHeartbeats 1600000 in
theorem samee_nil (e1 : Option Addr) (e3 : Nat) (w : World) : Calls Tryd.prog 39 #[.slice e1 0 e3, .slice none 0 0] w fun e w' => e = .returned (.bool true) ∧ w' = w := by
  go_enter Tryd.func39, Tryd.ntmps39
  go_wp2_with (fail)
  go_loopw [5] (fun v5 wr => v5 = .int .i64 0 ∧ wr = w) (fun _ _ => 0)
  case atStart => exact ⟨rfl, rfl⟩
  case round =>
    obtain ⟨rfl, rfl⟩ := hrel
    go_wp2_with (fail)
    go_ret
    exact ⟨rfl, rfl⟩
set_option maxRecDepth 100000 in
set_option maxHeartbeats 1600000 in
theorem samen_nil (e1 : Option Addr) (e3 : Nat) (w : World) : Calls Tryd.prog 52 #[.slice e1 0 e3, .slice none 0 0] w fun e w' => e = .returned (.bool true) ∧ w' = w := by
  go_enter Tryd.func52, Tryd.ntmps52
  go_wp2_with (fail)
  go_loopw [5] (fun v5 wr => v5 = .int .i64 0 ∧ wr = w) (fun _ _ => 0)
  case atStart => exact ⟨rfl, rfl⟩
  case round =>
    obtain ⟨rfl, rfl⟩ := hrel
    go_wp2_with (fail)
    go_ret
    exact ⟨rfl, rfl⟩
set_option maxRecDepth 100000 in
set_option maxHeartbeats 1600000 in
theorem sames_nil (n1 d1 : Option Addr) (n3 d3 : Nat) (w : World) (hd : RdC w (.slice d1 0 d3) []) : Calls Tryd.prog 40 #[.agg #[.int .i64 0, .int .i64 0, .slice n1 0 n3, .slice d1 0 d3], .agg #[.int .i64 0, .int .i64 0, .slice none 0 0, .slice none 0 0]] w fun e w' => e = .returned (.bool true) ∧ Mod (fun _ => False) w w' := by
  have hmm := (((Mod.refl (fun _ => False) w).alloc (Obj.cells #[.int .i64 0, .int .i64 0, .slice n1 0 n3, .slice d1 0 d3] 26)).alloc (Obj.cells #[.int .i64 0, .int .i64 0, .slice none 0 0, .slice none 0 0] 26))
  have HM := Lib.hid hmm
  have hd1 := (hd.mod hmm).1.text
  clear hmm hd
  have hn := nil_text
  have tn : (sv []).toList = [] := sv_toList _
  go_enter Tryd.func40, Tryd.ntmps40
  go_wp2_with (fail)
  refine (samen_nil _ _ _).mono ?_
  rintro e w2 ⟨rfl, rfl⟩
  go_wp2_with (fail)
  go_ret
  exact ⟨rfl, HM.out⟩
set_option maxRecDepth 100000 in
set_option maxHeartbeats 3200000 in
theorem same_nil (kd fr tt tm ix lt cm rd : Int) (ok : Bool) (e1 n1 d1 : Option Addr) (e3 n3 d3 : Nat) (w : World) (hd : RdC w (.slice d1 0 d3) []) : Calls Tryd.prog 15 #[.agg #[.int .i64 kd, .int .i64 fr, .int .i64 tt, .int .i64 tm, .int .i64 ix, .int .i64 lt, .int .i64 cm, .int .i64 rd, .bool ok, .slice e1 0 e3, .int .i64 0, .int .i64 0, .slice n1 0 n3, .slice d1 0 d3], .agg #[.int .i64 kd, .int .i64 fr, .int .i64 tt, .int .i64 tm, .int .i64 ix, .int .i64 lt, .int .i64 cm, .int .i64 rd, .bool ok, .slice none 0 0, .int .i64 0, .int .i64 0, .slice none 0 0, .slice none 0 0]] w fun e w' => e = .returned (.bool true) ∧ Mod (fun _ => False) w w' := by
  have hm := ((Mod.refl (fun _ => False) w).alloc (Obj.cells #[.int .i64 kd, .int .i64 fr, .int .i64 tt, .int .i64 tm, .int .i64 ix, .int .i64 lt, .int .i64 cm, .int .i64 rd, .bool ok, .slice e1 0 e3, .int .i64 0, .int .i64 0, .slice n1 0 n3, .slice d1 0 d3] 28)).alloc (Obj.cells #[.int .i64 kd, .int .i64 fr, .int .i64 tt, .int .i64 tm, .int .i64 ix, .int .i64 lt, .int .i64 cm, .int .i64 rd, .bool ok, .slice none 0 0, .int .i64 0, .int .i64 0, .slice none 0 0, .slice none 0 0] 28)
  have hb1 := (Blk.new w #[.int .i64 kd, .int .i64 fr, .int .i64 tt, .int .i64 tm, .int .i64 ix, .int .i64 lt, .int .i64 cm, .int .i64 rd, .bool ok, .slice e1 0 e3, .int .i64 0, .int .i64 0, .slice n1 0 n3, .slice d1 0 d3] 28).alloc (Obj.cells #[.int .i64 kd, .int .i64 fr, .int .i64 tt, .int .i64 tm, .int .i64 ix, .int .i64 lt, .int .i64 cm, .int .i64 rd, .bool ok, .slice none 0 0, .int .i64 0, .int .i64 0, .slice none 0 0, .slice none 0 0] 28)
  have hb2 := Blk.new (w.alloc (Obj.cells #[.int .i64 kd, .int .i64 fr, .int .i64 tt, .int .i64 tm, .int .i64 ix, .int .i64 lt, .int .i64 cm, .int .i64 rd, .bool ok, .slice e1 0 e3, .int .i64 0, .int .i64 0, .slice n1 0 n3, .slice d1 0 d3] 28)) #[.int .i64 kd, .int .i64 fr, .int .i64 tt, .int .i64 tm, .int .i64 ix, .int .i64 lt, .int .i64 cm, .int .i64 rd, .bool ok, .slice none 0 0, .int .i64 0, .int .i64 0, .slice none 0 0, .slice none 0 0] 28
  have hsz : (w.alloc (Obj.cells #[.int .i64 kd, .int .i64 fr, .int .i64 tt, .int .i64 tm, .int .i64 ix, .int .i64 lt, .int .i64 cm, .int .i64 rd, .bool ok, .slice e1 0 e3, .int .i64 0, .int .i64 0, .slice n1 0 n3, .slice d1 0 d3] 28)).heap.size = w.heap.size + 1 := by simp
  rw [hsz] at hb2
  clear hsz
  have HM0 := Lib.hid hm
  go_enter Tryd.func15, Tryd.ntmps15
  go_wp2_with (fail)
  refine (samee_nil _ _ _).mono ?_
  rintro e w2 ⟨rfl, rfl⟩
  go_wp2_with (fail)
  refine (sames_nil _ _ _ _ _ (hd.mod HM0.out)).mono ?_
  rintro e w2 ⟨rfl, hm2⟩
  have hB1 := hb1.mod hm2 (fun h => h)
  have hB2 := hb2.mod hm2 (fun h => h)
  have HM := Lib.hid (md_then hm hm2)
  have c0 : w2.cell? ⟨w.heap.size, 0, none⟩ = some (.int .i64 kd) := hB1.cell 0
  have gg0 : w2.cell? ⟨w.heap.size + 1, 0, none⟩ = some (.int .i64 kd) := hB2.cell 0
  have c1 : w2.cell? ⟨w.heap.size, 1, none⟩ = some (.int .i64 fr) := hB1.cell 1
  have gg1 : w2.cell? ⟨w.heap.size + 1, 1, none⟩ = some (.int .i64 fr) := hB2.cell 1
  have c2 : w2.cell? ⟨w.heap.size, 2, none⟩ = some (.int .i64 tt) := hB1.cell 2
  have gg2 : w2.cell? ⟨w.heap.size + 1, 2, none⟩ = some (.int .i64 tt) := hB2.cell 2
  have c3 : w2.cell? ⟨w.heap.size, 3, none⟩ = some (.int .i64 tm) := hB1.cell 3
  have gg3 : w2.cell? ⟨w.heap.size + 1, 3, none⟩ = some (.int .i64 tm) := hB2.cell 3
  have c4 : w2.cell? ⟨w.heap.size, 4, none⟩ = some (.int .i64 ix) := hB1.cell 4
  have gg4 : w2.cell? ⟨w.heap.size + 1, 4, none⟩ = some (.int .i64 ix) := hB2.cell 4
  have c5 : w2.cell? ⟨w.heap.size, 5, none⟩ = some (.int .i64 lt) := hB1.cell 5
  have gg5 : w2.cell? ⟨w.heap.size + 1, 5, none⟩ = some (.int .i64 lt) := hB2.cell 5
  have c6 : w2.cell? ⟨w.heap.size, 6, none⟩ = some (.int .i64 cm) := hB1.cell 6
  have gg6 : w2.cell? ⟨w.heap.size + 1, 6, none⟩ = some (.int .i64 cm) := hB2.cell 6
  have c7 : w2.cell? ⟨w.heap.size, 7, none⟩ = some (.int .i64 rd) := hB1.cell 7
  have gg7 : w2.cell? ⟨w.heap.size + 1, 7, none⟩ = some (.int .i64 rd) := hB2.cell 7
  have c8 : w2.cell? ⟨w.heap.size, 8, none⟩ = some (.bool ok) := hB1.cell 8
  have gg8 : w2.cell? ⟨w.heap.size + 1, 8, none⟩ = some (.bool ok) := hB2.cell 8
  have c9 : w2.cell? ⟨w.heap.size, 9, none⟩ = some (.slice e1 0 e3) := hB1.cell 9
  have gg9 : w2.cell? ⟨w.heap.size + 1, 9, none⟩ = some (.slice none 0 0) := hB2.cell 9
  have c10 : w2.cell? ⟨w.heap.size, 10, none⟩ = some (.int .i64 0) := hB1.cell 10
  have gg10 : w2.cell? ⟨w.heap.size + 1, 10, none⟩ = some (.int .i64 0) := hB2.cell 10
  have c11 : w2.cell? ⟨w.heap.size, 11, none⟩ = some (.int .i64 0) := hB1.cell 11
  have gg11 : w2.cell? ⟨w.heap.size + 1, 11, none⟩ = some (.int .i64 0) := hB2.cell 11
  have c12 : w2.cell? ⟨w.heap.size, 12, none⟩ = some (.slice n1 0 n3) := hB1.cell 12
  have gg12 : w2.cell? ⟨w.heap.size + 1, 12, none⟩ = some (.slice none 0 0) := hB2.cell 12
  have c13 : w2.cell? ⟨w.heap.size, 13, none⟩ = some (.slice d1 0 d3) := hB1.cell 13
  have gg13 : w2.cell? ⟨w.heap.size + 1, 13, none⟩ = some (.slice none 0 0) := hB2.cell 13
  clear hm hm2 hb1 hb2 hB1 hB2
  go_wp2_with (fail)
  go_ret
  exact ⟨rfl, HM.out⟩
end Go.Proofs.YtknaaaphdjdaoaaDoor
