/-
  The reader: letters that are none.
-/
import Derived.Test.YtknaaaphdjdaoaaDoorLe
namespace Go.Proofs.YtknaaaphdjdaoaaDoor
open Go.RowKit Mem
set_option linter.unusedVariables false
set_option linter.unusedSimpArgs false

set_option maxRecDepth 100000 in
set_option maxHeartbeats 3200000 in
theorem letter_e1 (B : Nat) (r : Nat) (bv : Value) (l : Bs) (p : Nat) (w : World) (h : Rr B w r bv l 0)  (hn1 : nb l 0 5 = .error p) :
    Calls Tryd.prog 38 #[.pointer (some ⟨r, 0, none⟩)] w (Reads (IsL w) B r bv l w (letterR l)) := by
  have hO : letterR l = .error p := by unfold letterR; simp only [hn1, thn_ok, thn_err]
  rw [hO]
  have hwm : Mod (· = r) w (w.alloc (Obj.cells #[Value.int IntKind.i64 0, Value.int IntKind.i64 0, Value.int IntKind.i64 0, Value.int IntKind.i64 0, Value.int IntKind.i64 0, Value.int IntKind.i64 0, Value.int IntKind.i64 0, Value.int IntKind.i64 0, Value.bool false, Value.slice none 0 0, Value.int IntKind.i64 0, Value.int IntKind.i64 0, Value.slice none 0 0, Value.slice none 0 0] 28)) := (Mod.refl _ w).alloc _
  have hr0 := h.of_alloc (Obj.cells #[Value.int IntKind.i64 0, Value.int IntKind.i64 0, Value.int IntKind.i64 0, Value.int IntKind.i64 0, Value.int IntKind.i64 0, Value.int IntKind.i64 0, Value.int IntKind.i64 0, Value.int IntKind.i64 0, Value.bool false, Value.slice none 0 0, Value.int IntKind.i64 0, Value.int IntKind.i64 0, Value.slice none 0 0, Value.slice none 0 0] 28)
  obtain ⟨w0, hw0⟩ : ∃ w0, w.alloc (Obj.cells #[Value.int IntKind.i64 0, Value.int IntKind.i64 0, Value.int IntKind.i64 0, Value.int IntKind.i64 0, Value.int IntKind.i64 0, Value.int IntKind.i64 0, Value.int IntKind.i64 0, Value.int IntKind.i64 0, Value.bool false, Value.slice none 0 0, Value.int IntKind.i64 0, Value.int IntKind.i64 0, Value.slice none 0 0, Value.slice none 0 0] 28) = w0 := ⟨_, rfl⟩
  rw [hw0] at hwm hr0
  have HM0 := Lib.hid hwm
  have HR0 := Lib.hid hr0
  clear h hO hwm hr0
  go_enter Tryd.func38, Tryd.ntmps38
  go_wp2_with (fail)
  have hx := number_any B r bv l 0 5 (by omega) w0 HR0.out
  rw [hn1] at hx
  refine hx.mono ?_
  rintro e w1 ⟨rfl, hm⟩
  have HM1 := Lib.hid (md_r HM0.out hm)
  clear hx hm HM0 HR0 hn1
  go_wp2_with (fail)
  exact ⟨rfl, rfl, HM1.out⟩
set_option maxRecDepth 100000 in
set_option maxHeartbeats 3200000 in
theorem letter_e2 (B : Nat) (r : Nat) (bv : Value) (l : Bs) (kd k1 p : Nat) (w : World) (h : Rr B w r bv l 0) (hn1 : nb l 0 5 = .ok (kd, k1)) (hn2 : nb l k1 5 = .error p) :
    Calls Tryd.prog 38 #[.pointer (some ⟨r, 0, none⟩)] w (Reads (IsL w) B r bv l w (letterR l)) := by
  have hO : letterR l = .error p := by unfold letterR; simp only [hn1, hn2, thn_ok, thn_err]
  rw [hO]
  have hwm : Mod (· = r) w (w.alloc (Obj.cells #[Value.int IntKind.i64 0, Value.int IntKind.i64 0, Value.int IntKind.i64 0, Value.int IntKind.i64 0, Value.int IntKind.i64 0, Value.int IntKind.i64 0, Value.int IntKind.i64 0, Value.int IntKind.i64 0, Value.bool false, Value.slice none 0 0, Value.int IntKind.i64 0, Value.int IntKind.i64 0, Value.slice none 0 0, Value.slice none 0 0] 28)) := (Mod.refl _ w).alloc _
  have hr0 := h.of_alloc (Obj.cells #[Value.int IntKind.i64 0, Value.int IntKind.i64 0, Value.int IntKind.i64 0, Value.int IntKind.i64 0, Value.int IntKind.i64 0, Value.int IntKind.i64 0, Value.int IntKind.i64 0, Value.int IntKind.i64 0, Value.bool false, Value.slice none 0 0, Value.int IntKind.i64 0, Value.int IntKind.i64 0, Value.slice none 0 0, Value.slice none 0 0] 28)
  obtain ⟨w0, hw0⟩ : ∃ w0, w.alloc (Obj.cells #[Value.int IntKind.i64 0, Value.int IntKind.i64 0, Value.int IntKind.i64 0, Value.int IntKind.i64 0, Value.int IntKind.i64 0, Value.int IntKind.i64 0, Value.int IntKind.i64 0, Value.int IntKind.i64 0, Value.bool false, Value.slice none 0 0, Value.int IntKind.i64 0, Value.int IntKind.i64 0, Value.slice none 0 0, Value.slice none 0 0] 28) = w0 := ⟨_, rfl⟩
  rw [hw0] at hwm hr0
  have HM0 := Lib.hid hwm
  have HR0 := Lib.hid hr0
  clear h hO hwm hr0
  go_enter Tryd.func38, Tryd.ntmps38
  go_wp2_with (fail)
  have hx := number_any B r bv l 0 5 (by omega) w0 HR0.out
  rw [hn1] at hx
  refine hx.mono ?_
  rintro e w1 ⟨rfl, hr, hm⟩
  have HM1 := Lib.hid (md_r HM0.out hm)
  have HR1 := Lib.hid hr
  clear hx hm hr HM0 HR0
  go_wp2_with (fail)
  have hx := number_any B r bv l k1 5 (by omega) w1 HR1.out
  rw [hn2] at hx
  refine hx.mono ?_
  rintro e w2 ⟨rfl, hm⟩
  have HM2 := Lib.hid (md_r HM1.out hm)
  clear hx hm HM1 HR1 hn1 hn2
  go_wp2_with (fail)
  exact ⟨rfl, rfl, HM2.out⟩
set_option maxRecDepth 100000 in
set_option maxHeartbeats 3200000 in
theorem letter_e3 (B : Nat) (r : Nat) (bv : Value) (l : Bs) (kd fr k1 k2 p : Nat) (w : World) (h : Rr B w r bv l 0) (hn1 : nb l 0 5 = .ok (kd, k1)) (hn2 : nb l k1 5 = .ok (fr, k2)) (hn3 : nb l k2 5 = .error p) :
    Calls Tryd.prog 38 #[.pointer (some ⟨r, 0, none⟩)] w (Reads (IsL w) B r bv l w (letterR l)) := by
  have hO : letterR l = .error p := by unfold letterR; simp only [hn1, hn2, hn3, thn_ok, thn_err]
  rw [hO]
  have hwm : Mod (· = r) w (w.alloc (Obj.cells #[Value.int IntKind.i64 0, Value.int IntKind.i64 0, Value.int IntKind.i64 0, Value.int IntKind.i64 0, Value.int IntKind.i64 0, Value.int IntKind.i64 0, Value.int IntKind.i64 0, Value.int IntKind.i64 0, Value.bool false, Value.slice none 0 0, Value.int IntKind.i64 0, Value.int IntKind.i64 0, Value.slice none 0 0, Value.slice none 0 0] 28)) := (Mod.refl _ w).alloc _
  have hr0 := h.of_alloc (Obj.cells #[Value.int IntKind.i64 0, Value.int IntKind.i64 0, Value.int IntKind.i64 0, Value.int IntKind.i64 0, Value.int IntKind.i64 0, Value.int IntKind.i64 0, Value.int IntKind.i64 0, Value.int IntKind.i64 0, Value.bool false, Value.slice none 0 0, Value.int IntKind.i64 0, Value.int IntKind.i64 0, Value.slice none 0 0, Value.slice none 0 0] 28)
  obtain ⟨w0, hw0⟩ : ∃ w0, w.alloc (Obj.cells #[Value.int IntKind.i64 0, Value.int IntKind.i64 0, Value.int IntKind.i64 0, Value.int IntKind.i64 0, Value.int IntKind.i64 0, Value.int IntKind.i64 0, Value.int IntKind.i64 0, Value.int IntKind.i64 0, Value.bool false, Value.slice none 0 0, Value.int IntKind.i64 0, Value.int IntKind.i64 0, Value.slice none 0 0, Value.slice none 0 0] 28) = w0 := ⟨_, rfl⟩
  rw [hw0] at hwm hr0
  have HM0 := Lib.hid hwm
  have HR0 := Lib.hid hr0
  clear h hO hwm hr0
  go_enter Tryd.func38, Tryd.ntmps38
  go_wp2_with (fail)
  have hx := number_any B r bv l 0 5 (by omega) w0 HR0.out
  rw [hn1] at hx
  refine hx.mono ?_
  rintro e w1 ⟨rfl, hr, hm⟩
  have HM1 := Lib.hid (md_r HM0.out hm)
  have HR1 := Lib.hid hr
  clear hx hm hr HM0 HR0
  go_wp2_with (fail)
  have hx := number_any B r bv l k1 5 (by omega) w1 HR1.out
  rw [hn2] at hx
  refine hx.mono ?_
  rintro e w2 ⟨rfl, hr, hm⟩
  have HM2 := Lib.hid (md_r HM1.out hm)
  have HR2 := Lib.hid hr
  clear hx hm hr HM1 HR1
  go_wp2_with (fail)
  have hx := number_any B r bv l k2 5 (by omega) w2 HR2.out
  rw [hn3] at hx
  refine hx.mono ?_
  rintro e w3 ⟨rfl, hm⟩
  have HM3 := Lib.hid (md_r HM2.out hm)
  clear hx hm HM2 HR2 hn1 hn2 hn3
  go_wp2_with (fail)
  exact ⟨rfl, rfl, HM3.out⟩
set_option maxRecDepth 100000 in
set_option maxHeartbeats 3200000 in
theorem letter_e4 (B : Nat) (r : Nat) (bv : Value) (l : Bs) (kd fr tt k1 k2 k3 p : Nat) (w : World) (h : Rr B w r bv l 0) (hn1 : nb l 0 5 = .ok (kd, k1)) (hn2 : nb l k1 5 = .ok (fr, k2)) (hn3 : nb l k2 5 = .ok (tt, k3)) (hn4 : nb l k3 999999 = .error p) :
    Calls Tryd.prog 38 #[.pointer (some ⟨r, 0, none⟩)] w (Reads (IsL w) B r bv l w (letterR l)) := by
  have hO : letterR l = .error p := by unfold letterR; simp only [hn1, hn2, hn3, hn4, thn_ok, thn_err]
  rw [hO]
  have hwm : Mod (· = r) w (w.alloc (Obj.cells #[Value.int IntKind.i64 0, Value.int IntKind.i64 0, Value.int IntKind.i64 0, Value.int IntKind.i64 0, Value.int IntKind.i64 0, Value.int IntKind.i64 0, Value.int IntKind.i64 0, Value.int IntKind.i64 0, Value.bool false, Value.slice none 0 0, Value.int IntKind.i64 0, Value.int IntKind.i64 0, Value.slice none 0 0, Value.slice none 0 0] 28)) := (Mod.refl _ w).alloc _
  have hr0 := h.of_alloc (Obj.cells #[Value.int IntKind.i64 0, Value.int IntKind.i64 0, Value.int IntKind.i64 0, Value.int IntKind.i64 0, Value.int IntKind.i64 0, Value.int IntKind.i64 0, Value.int IntKind.i64 0, Value.int IntKind.i64 0, Value.bool false, Value.slice none 0 0, Value.int IntKind.i64 0, Value.int IntKind.i64 0, Value.slice none 0 0, Value.slice none 0 0] 28)
  obtain ⟨w0, hw0⟩ : ∃ w0, w.alloc (Obj.cells #[Value.int IntKind.i64 0, Value.int IntKind.i64 0, Value.int IntKind.i64 0, Value.int IntKind.i64 0, Value.int IntKind.i64 0, Value.int IntKind.i64 0, Value.int IntKind.i64 0, Value.int IntKind.i64 0, Value.bool false, Value.slice none 0 0, Value.int IntKind.i64 0, Value.int IntKind.i64 0, Value.slice none 0 0, Value.slice none 0 0] 28) = w0 := ⟨_, rfl⟩
  rw [hw0] at hwm hr0
  have HM0 := Lib.hid hwm
  have HR0 := Lib.hid hr0
  clear h hO hwm hr0
  go_enter Tryd.func38, Tryd.ntmps38
  go_wp2_with (fail)
  have hx := number_any B r bv l 0 5 (by omega) w0 HR0.out
  rw [hn1] at hx
  refine hx.mono ?_
  rintro e w1 ⟨rfl, hr, hm⟩
  have HM1 := Lib.hid (md_r HM0.out hm)
  have HR1 := Lib.hid hr
  clear hx hm hr HM0 HR0
  go_wp2_with (fail)
  have hx := number_any B r bv l k1 5 (by omega) w1 HR1.out
  rw [hn2] at hx
  refine hx.mono ?_
  rintro e w2 ⟨rfl, hr, hm⟩
  have HM2 := Lib.hid (md_r HM1.out hm)
  have HR2 := Lib.hid hr
  clear hx hm hr HM1 HR1
  go_wp2_with (fail)
  have hx := number_any B r bv l k2 5 (by omega) w2 HR2.out
  rw [hn3] at hx
  refine hx.mono ?_
  rintro e w3 ⟨rfl, hr, hm⟩
  have HM3 := Lib.hid (md_r HM2.out hm)
  have HR3 := Lib.hid hr
  clear hx hm hr HM2 HR2
  go_wp2_with (fail)
  have hx := number_any B r bv l k3 999999 (by omega) w3 HR3.out
  rw [hn4] at hx
  refine hx.mono ?_
  rintro e w4 ⟨rfl, hm⟩
  have HM4 := Lib.hid (md_r HM3.out hm)
  clear hx hm HM3 HR3 hn1 hn2 hn3 hn4
  go_wp2_with (fail)
  exact ⟨rfl, rfl, HM4.out⟩
set_option maxRecDepth 100000 in
set_option maxHeartbeats 3200000 in
theorem letter_e5 (B : Nat) (r : Nat) (bv : Value) (l : Bs) (fr tt tm k1 k2 k3 k4 : Nat) (w : World) (h : Rr B w r bv l 0) (hn1 : nb l 0 5 = .ok (0, k1)) (hn2 : nb l k1 5 = .ok (fr, k2)) (hn3 : nb l k2 5 = .ok (tt, k3)) (hn4 : nb l k3 999999 = .ok (tm, k4)) :
    Calls Tryd.prog 38 #[.pointer (some ⟨r, 0, none⟩)] w (Reads (IsL w) B r bv l w (letterR l)) := by
  have hO : letterR l = .error 0 := by unfold letterR; simp only [hn1, hn2, hn3, hn4, thn_ok]; unfold restR; rw [if_pos rfl]
  rw [hO]
  have hwm : Mod (· = r) w (w.alloc (Obj.cells #[Value.int IntKind.i64 0, Value.int IntKind.i64 0, Value.int IntKind.i64 0, Value.int IntKind.i64 0, Value.int IntKind.i64 0, Value.int IntKind.i64 0, Value.int IntKind.i64 0, Value.int IntKind.i64 0, Value.bool false, Value.slice none 0 0, Value.int IntKind.i64 0, Value.int IntKind.i64 0, Value.slice none 0 0, Value.slice none 0 0] 28)) := (Mod.refl _ w).alloc _
  have hr0 := h.of_alloc (Obj.cells #[Value.int IntKind.i64 0, Value.int IntKind.i64 0, Value.int IntKind.i64 0, Value.int IntKind.i64 0, Value.int IntKind.i64 0, Value.int IntKind.i64 0, Value.int IntKind.i64 0, Value.int IntKind.i64 0, Value.bool false, Value.slice none 0 0, Value.int IntKind.i64 0, Value.int IntKind.i64 0, Value.slice none 0 0, Value.slice none 0 0] 28)
  obtain ⟨w0, hw0⟩ : ∃ w0, w.alloc (Obj.cells #[Value.int IntKind.i64 0, Value.int IntKind.i64 0, Value.int IntKind.i64 0, Value.int IntKind.i64 0, Value.int IntKind.i64 0, Value.int IntKind.i64 0, Value.int IntKind.i64 0, Value.int IntKind.i64 0, Value.bool false, Value.slice none 0 0, Value.int IntKind.i64 0, Value.int IntKind.i64 0, Value.slice none 0 0, Value.slice none 0 0] 28) = w0 := ⟨_, rfl⟩
  rw [hw0] at hwm hr0
  have HM0 := Lib.hid hwm
  have HR0 := Lib.hid hr0
  clear h hO hwm hr0
  go_enter Tryd.func38, Tryd.ntmps38
  go_wp2_with (fail)
  have hx := number_any B r bv l 0 5 (by omega) w0 HR0.out
  rw [hn1] at hx
  refine hx.mono ?_
  rintro e w1 ⟨rfl, hr, hm⟩
  have HM1 := Lib.hid (md_r HM0.out hm)
  have HR1 := Lib.hid hr
  clear hx hm hr HM0 HR0
  go_wp2_with (fail)
  have hx := number_any B r bv l k1 5 (by omega) w1 HR1.out
  rw [hn2] at hx
  refine hx.mono ?_
  rintro e w2 ⟨rfl, hr, hm⟩
  have HM2 := Lib.hid (md_r HM1.out hm)
  have HR2 := Lib.hid hr
  clear hx hm hr HM1 HR1
  go_wp2_with (fail)
  have hx := number_any B r bv l k2 5 (by omega) w2 HR2.out
  rw [hn3] at hx
  refine hx.mono ?_
  rintro e w3 ⟨rfl, hr, hm⟩
  have HM3 := Lib.hid (md_r HM2.out hm)
  have HR3 := Lib.hid hr
  clear hx hm hr HM2 HR2
  go_wp2_with (fail)
  have hx := number_any B r bv l k3 999999 (by omega) w3 HR3.out
  rw [hn4] at hx
  refine hx.mono ?_
  rintro e w4 ⟨rfl, hr, hm⟩
  have HM4 := Lib.hid (md_r HM3.out hm)
  have HR4 := Lib.hid hr
  clear hx hm hr HM3 HR3
  go_wp2_with (fail)
  exact ⟨rfl, rfl, HM4.out.alloc _⟩
end Go.Proofs.YtknaaaphdjdaoaaDoor
