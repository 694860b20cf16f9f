/-
  Put, First: the document's.
-/
import Derived.Test.YtokojeiiobhciaaGreatDoorSh
import Derived.Test.YtokojeiiobhciaaGreatDoorPf
namespace Go.Proofs.YtokojeiiobhciaaGreatDoor
open Go.RowKit Mem
set_option linter.unusedVariables false
set_option linter.unusedSimpArgs false

theorem enc_bts (r : Nat) : bts (enc r) = Lib.runeCells (r : Int) := Lib.byteCells_encodeRune (r : Int)
theorem conv_cells (w : World) (C : Array Value) (l : Bs) (n : Nat) (hC : bts l = C.toList) (hn : C.size = n) :
    (convert 22 9 (.slice (some ⟨w.heap.size, 0, none⟩) n n)).run Tryz.prog (w.alloc (Obj.cells C 5)) = .ok (.string (sv l)) (w.alloc (Obj.cells C 5)) := by
  have hl : l.length = n := by
    have := congrArg List.length hC
    have h2 : C.toList.length = C.size := by simp
    rw [bts_len] at this
    omega
  have h := conv_laid (w := w) l n C (0, 0) (fun j u hj => by rw [hC] at hj; rw [← Array.getElem?_toList]; exact hj) (Mod.refl _ _)
  rw [hl] at h
  exact h
set_option maxRecDepth 100000 in
set_option maxHeartbeats 3200000 in
theorem put_any (r : Nat) (hv : vr r) (w : World) :
    Calls Tryz.prog 22 #[.int .i64 (r : Int)] w fun e w' => e = .returned (.string (sv (enc r))) ∧ Mod (fun _ => False) w w' := by
  unfold vr at hv
  go_enter Tryz.func22, Tryz.ntmps22
  by_cases h1 : (r : Int) < 128
  · have hcv := conv_cells w #[.int .u8 (r : Int)] (enc r) 1 (by rw [enc_bts, Lib.runeCells, Lib.encodeRuneZ_one (by omega) (by omega)]; rfl) rfl
    go_wp2_with (fail)
    go_ret
    exact ⟨rfl, (Mod.refl _ w).alloc _⟩
  by_cases h2 : (r : Int) < 2048
  · have hcv := conv_cells w #[.int .u8 (192 + (r : Int) / 64), .int .u8 (128 + (r : Int) % 64)] (enc r) 2 (by rw [enc_bts, Lib.runeCells, Lib.encodeRuneZ_two (by omega) (by omega)]; rfl) rfl
    go_wp2_with (fail)
    go_ret
    exact ⟨rfl, (Mod.refl _ w).alloc _⟩
  by_cases h3 : (r : Int) < 65536
  · have hcv := conv_cells w #[.int .u8 (224 + (r : Int) / 4096), .int .u8 (128 + (r : Int) / 64 % 64), .int .u8 (128 + (r : Int) % 64)] (enc r) 3 (by rw [enc_bts, Lib.runeCells, Lib.encodeRuneZ_three (by omega)]; rfl) rfl
    go_wp2_with (fail)
    go_ret
    exact ⟨rfl, (Mod.refl _ w).alloc _⟩
  · have hcv := conv_cells w #[.int .u8 (240 + (r : Int) / 262144), .int .u8 (128 + (r : Int) / 4096 % 64), .int .u8 (128 + (r : Int) / 64 % 64), .int .u8 (128 + (r : Int) % 64)] (enc r) 4 (by rw [enc_bts, Lib.runeCells, Lib.encodeRuneZ_four (by omega) (by omega)]; rfl) rfl
    go_wp2_with (fail)
    go_ret
    exact ⟨rfl, (Mod.refl _ w).alloc _⟩
end Go.Proofs.YtokojeiiobhciaaGreatDoor
