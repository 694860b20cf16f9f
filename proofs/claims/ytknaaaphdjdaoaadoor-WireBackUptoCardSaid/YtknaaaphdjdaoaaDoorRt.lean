/-
  Right.
-/
import Derived.Test.YtknaaaphdjdaoaaDoorRs
namespace Go.Proofs.YtknaaaphdjdaoaaDoor
open Go.RowKit Mem
set_option linter.unusedVariables false
set_option linter.unusedSimpArgs false

set_option maxRecDepth 100000 in
set_option maxHeartbeats 3200000 in
theorem right_1 (fr tt tm ix lt cm rd : Int) (ok : Bool) (es : List En) (si st : Int) (sn : List Int) (sd : Bs) (ev nv dv : Value) (w : World) (a1 : bw fr 1 5 = true) (a2 : bw tt 1 5 = true) (a3 : (fr == tt) = false) (a4 : bw tm 1 999999 = true) (h : LV w ev nv dv ⟨1, fr, tt, tm, ix, lt, cm, rd, ok, es, si, st, sn, sd⟩) :
    Calls Tryd.prog 12 #[lval ⟨1, fr, tt, tm, ix, lt, cm, rd, ok, es, si, st, sn, sd⟩ ev nv dv] w fun en w' => en = .returned (.bool (rightB ⟨1, fr, tt, tm, ix, lt, cm, rd, ok, es, si, st, sn, sd⟩)) ∧ Mod (fun _ => False) w w' := by
  unfold lval
  have H := Lib.hid h
  obtain ⟨e1, e2, rfl⟩ := h.1.val
  obtain ⟨n1, n2, rfl⟩ := h.2.1.val
  obtain ⟨h1, A, c, rfl, hdc, hdm⟩ := h.2.2
  simp only at *
  clear h h1 hdc hdm
  have hh : head0 ⟨1, fr, tt, tm, ix, lt, cm, rd, ok, es, si, st, sn, sd⟩ = true := by unfold head0; simp [a1, a2, a3, a4]
  have HH := Lib.hid hh
  clear hh
  go_enter Tryd.func12, Tryd.ntmps12
  go_wp2_with (fail)
  refine (between_any _ _ _ _).mono ?_
  rintro e w2 ⟨rfl, rfl⟩
  go_wp2_with (fail)
  refine (between_any _ _ _ _).mono ?_
  rintro e w2 ⟨rfl, rfl⟩
  go_wp2_with (fail)
  refine (between_any _ _ _ _).mono ?_
  rintro e w2 ⟨rfl, rfl⟩
  go_upto_region 5 with (fail)
  go_cut [6] (fun v6 wx => v6 = .bool (fine0 ⟨1, fr, tt, tm, ix, lt, cm, rd, ok, es, si, st, sn, sd⟩) ∧ wx = (w.alloc (Obj.cells #[Value.int IntKind.i64 1, Value.int IntKind.i64 fr, Value.int IntKind.i64 tt, Value.int IntKind.i64 tm, Value.int IntKind.i64 ix, Value.int IntKind.i64 lt, Value.int IntKind.i64 cm, Value.int IntKind.i64 rd, Value.bool ok, Value.slice e1 es.length e2, Value.int IntKind.i64 si, Value.int IntKind.i64 st, Value.slice n1 sn.length n2, Value.slice A sd.length c] 28)).alloc (Obj.cells #[Value.int IntKind.i64 1, Value.int IntKind.i64 0, Value.int IntKind.i64 0, Value.int IntKind.i64 0, Value.int IntKind.i64 0, Value.int IntKind.i64 0, Value.int IntKind.i64 0, Value.int IntKind.i64 0, Value.bool false, Value.slice none 0 0, Value.int IntKind.i64 0, Value.int IntKind.i64 0, Value.slice none 0 0, Value.slice none 0 0] 28))
  case first =>
    go_wp2_with (fail)
    refine (between_any _ _ _ _).mono ?_
    rintro e w2 ⟨rfl, rfl⟩
    by_cases b1 : bw ix 0 999999 = true
    rotate_left
    · go_wp2_with (fail)
      go_meet
      case rel => exact ⟨by simp only [Bool.not_eq_true] at b1; simp [fine0, b1], rfl⟩
    go_wp2_with (fail)
    refine (between_any _ _ _ _).mono ?_
    rintro e w2 ⟨rfl, rfl⟩
    by_cases b2 : bw rd 0 1073741824 = true
    rotate_left
    · go_wp2_with (fail)
      go_meet
      case rel => exact ⟨by simp only [Bool.not_eq_true] at b2; simp [fine0, b2], rfl⟩
    go_wp2_with (fail)
    refine (between_any _ _ _ _).mono ?_
    rintro e w2 ⟨rfl, rfl⟩
    by_cases b3 : bw lt 0 tm = true
    rotate_left
    · go_wp2_with (fail)
      go_meet
      case rel => exact ⟨by simp only [Bool.not_eq_true] at b3; simp [fine0, b3], rfl⟩
    go_wp2_with (fail)
    refine (between_any _ _ _ _).mono ?_
    rintro e w2 ⟨rfl, rfl⟩
    go_wp2_with (fail)
    go_meet
    case rel => exact ⟨by simp [fine0, b1, b2, b3], rfl⟩
  case rest =>
    obtain ⟨rfl, rfl⟩ := hcut
    obtain ⟨F, hF⟩ : ∃ F, fine0 ⟨1, fr, tt, tm, ix, lt, cm, rd, ok, es, si, st, sn, sd⟩ = F := ⟨_, rfl⟩
    have HR : Hid (∀ b : Bool, (F && kindR ⟨1, fr, tt, tm, ix, lt, cm, rd, ok, es, si, st, sn, sd⟩) = b → rightB ⟨1, fr, tt, tm, ix, lt, cm, rd, ok, es, si, st, sn, sd⟩ = b) := Lib.hid (fun b h => by rw [← h]; unfold rightB; rw [HH.out, hF]; rfl)
    rw [hF]
    have HF := Lib.hid hF
    clear hF HH a1 a2 a3 a4
    go_wp2_with (fail)
    go_region
    all_goals go_wp2_with (fail)
    all_goals try (have he0 : es = [] := by assumption; subst he0)
    all_goals try (have he0 : sn = [] := by assumption; subst he0)
    all_goals first
      | (exfalso
         omega)
      | (exfalso
         have := List.length_pos_iff.2 (by assumption : ¬ sn = [])
         omega)
      | (exfalso
         have := List.length_pos_iff.2 (by assumption : ¬ es = [])
         omega)
      | (go_ret
         refine ⟨?_, ?_⟩
         · rw [HR.out false (by simp_all [kindR, snap0] <;> (intros; first | (simp_all; done) | omega))]
           rfl
         · have := Mod.refl (fun _ => False) w
           repeat (first | assumption | apply Mod.alloc | apply Mod.drew | (refine Mod.setCell ?_ (.inr ?_) _; rotate_left; (simp; try omega))))
      | (refine (same_any _ _ _ _ _ _ _ _ _ _ _ _ _ _ _ _ _ _ _ _ _ _ _ _ _ _ _).mono ?_
         rintro e w5 ⟨rfl, hm5⟩
         have hm6 : Mod (fun _ => False) w w5 := by
           refine md_then ?_ hm5
           have := Mod.refl (fun _ => False) w
           repeat (first | assumption | apply Mod.alloc | apply Mod.drew | (refine Mod.setCell ?_ (.inr ?_) _; rotate_left; (simp; try omega)))
         have HM6 := Lib.hid hm6
         clear hm5 hm6
         go_wp2_with (fail)
         go_ret
         refine ⟨?_, HM6.out⟩
         exact congrArg (fun b => Ending.returned (Value.bool b)) (HR.out _ (by rcases sd with _ | ⟨_, _⟩ <;> first | (exfalso; simp only [List.length_cons] at *; omega) | (simp_all [kindR, snap0, sameB]; done) | (simp_all [kindR, snap0, sameB]; rfl))).symm)
set_option maxRecDepth 100000 in
set_option maxHeartbeats 3200000 in
theorem right_2 (fr tt tm ix lt cm rd : Int) (ok : Bool) (es : List En) (si st : Int) (sn : List Int) (sd : Bs) (ev nv dv : Value) (w : World) (a1 : bw fr 1 5 = true) (a2 : bw tt 1 5 = true) (a3 : (fr == tt) = false) (a4 : bw tm 1 999999 = true) (h : LV w ev nv dv ⟨2, fr, tt, tm, ix, lt, cm, rd, ok, es, si, st, sn, sd⟩) :
    Calls Tryd.prog 12 #[lval ⟨2, fr, tt, tm, ix, lt, cm, rd, ok, es, si, st, sn, sd⟩ ev nv dv] w fun en w' => en = .returned (.bool (rightB ⟨2, fr, tt, tm, ix, lt, cm, rd, ok, es, si, st, sn, sd⟩)) ∧ Mod (fun _ => False) w w' := by
  unfold lval
  have H := Lib.hid h
  obtain ⟨e1, e2, rfl⟩ := h.1.val
  obtain ⟨n1, n2, rfl⟩ := h.2.1.val
  obtain ⟨h1, A, c, rfl, hdc, hdm⟩ := h.2.2
  simp only at *
  clear h h1 hdc hdm
  have hh : head0 ⟨2, fr, tt, tm, ix, lt, cm, rd, ok, es, si, st, sn, sd⟩ = true := by unfold head0; simp [a1, a2, a3, a4]
  have HH := Lib.hid hh
  clear hh
  go_enter Tryd.func12, Tryd.ntmps12
  go_wp2_with (fail)
  refine (between_any _ _ _ _).mono ?_
  rintro e w2 ⟨rfl, rfl⟩
  go_wp2_with (fail)
  refine (between_any _ _ _ _).mono ?_
  rintro e w2 ⟨rfl, rfl⟩
  go_wp2_with (fail)
  refine (between_any _ _ _ _).mono ?_
  rintro e w2 ⟨rfl, rfl⟩
  go_upto_region 5 with (fail)
  go_cut [6] (fun v6 wx => v6 = .bool (fine0 ⟨2, fr, tt, tm, ix, lt, cm, rd, ok, es, si, st, sn, sd⟩) ∧ wx = (w.alloc (Obj.cells #[Value.int IntKind.i64 2, Value.int IntKind.i64 fr, Value.int IntKind.i64 tt, Value.int IntKind.i64 tm, Value.int IntKind.i64 ix, Value.int IntKind.i64 lt, Value.int IntKind.i64 cm, Value.int IntKind.i64 rd, Value.bool ok, Value.slice e1 es.length e2, Value.int IntKind.i64 si, Value.int IntKind.i64 st, Value.slice n1 sn.length n2, Value.slice A sd.length c] 28)).alloc (Obj.cells #[Value.int IntKind.i64 2, Value.int IntKind.i64 0, Value.int IntKind.i64 0, Value.int IntKind.i64 0, Value.int IntKind.i64 0, Value.int IntKind.i64 0, Value.int IntKind.i64 0, Value.int IntKind.i64 0, Value.bool false, Value.slice none 0 0, Value.int IntKind.i64 0, Value.int IntKind.i64 0, Value.slice none 0 0, Value.slice none 0 0] 28))
  case first =>
    go_wp2_with (fail)
    refine (between_any _ _ _ _).mono ?_
    rintro e w2 ⟨rfl, rfl⟩
    by_cases b1 : bw ix 0 999999 = true
    rotate_left
    · go_wp2_with (fail)
      go_meet
      case rel => exact ⟨by simp only [Bool.not_eq_true] at b1; simp [fine0, b1], rfl⟩
    go_wp2_with (fail)
    refine (between_any _ _ _ _).mono ?_
    rintro e w2 ⟨rfl, rfl⟩
    by_cases b2 : bw rd 0 1073741824 = true
    rotate_left
    · go_wp2_with (fail)
      go_meet
      case rel => exact ⟨by simp only [Bool.not_eq_true] at b2; simp [fine0, b2], rfl⟩
    go_wp2_with (fail)
    refine (between_any _ _ _ _).mono ?_
    rintro e w2 ⟨rfl, rfl⟩
    by_cases b3 : bw lt 0 tm = true
    rotate_left
    · go_wp2_with (fail)
      go_meet
      case rel => exact ⟨by simp only [Bool.not_eq_true] at b3; simp [fine0, b3], rfl⟩
    go_wp2_with (fail)
    refine (between_any _ _ _ _).mono ?_
    rintro e w2 ⟨rfl, rfl⟩
    go_wp2_with (fail)
    go_meet
    case rel => exact ⟨by simp [fine0, b1, b2, b3], rfl⟩
  case rest =>
    obtain ⟨rfl, rfl⟩ := hcut
    obtain ⟨F, hF⟩ : ∃ F, fine0 ⟨2, fr, tt, tm, ix, lt, cm, rd, ok, es, si, st, sn, sd⟩ = F := ⟨_, rfl⟩
    have HR : Hid (∀ b : Bool, (F && kindR ⟨2, fr, tt, tm, ix, lt, cm, rd, ok, es, si, st, sn, sd⟩) = b → rightB ⟨2, fr, tt, tm, ix, lt, cm, rd, ok, es, si, st, sn, sd⟩ = b) := Lib.hid (fun b h => by rw [← h]; unfold rightB; rw [HH.out, hF]; rfl)
    rw [hF]
    have HF := Lib.hid hF
    clear hF HH a1 a2 a3 a4
    go_wp2_with (fail)
    all_goals try (have he0 : es = [] := by assumption; subst he0)
    all_goals try (have he0 : sn = [] := by assumption; subst he0)
    all_goals first
      | (exfalso
         omega)
      | (exfalso
         have := List.length_pos_iff.2 (by assumption : ¬ sn = [])
         omega)
      | (exfalso
         have := List.length_pos_iff.2 (by assumption : ¬ es = [])
         omega)
      | (go_ret
         refine ⟨?_, ?_⟩
         · rw [HR.out false (by simp_all [kindR, snap0] <;> (intros; first | (simp_all; done) | omega))]
           rfl
         · have := Mod.refl (fun _ => False) w
           repeat (first | assumption | apply Mod.alloc | apply Mod.drew | (refine Mod.setCell ?_ (.inr ?_) _; rotate_left; (simp; try omega))))
      | (refine (same_any _ _ _ _ _ _ _ _ _ _ _ _ _ _ _ _ _ _ _ _ _ _ _ _ _ _ _).mono ?_
         rintro e w5 ⟨rfl, hm5⟩
         have hm6 : Mod (fun _ => False) w w5 := by
           refine md_then ?_ hm5
           have := Mod.refl (fun _ => False) w
           repeat (first | assumption | apply Mod.alloc | apply Mod.drew | (refine Mod.setCell ?_ (.inr ?_) _; rotate_left; (simp; try omega)))
         have HM6 := Lib.hid hm6
         clear hm5 hm6
         go_wp2_with (fail)
         go_ret
         refine ⟨?_, HM6.out⟩
         exact congrArg (fun b => Ending.returned (Value.bool b)) (HR.out _ (by rcases sd with _ | ⟨_, _⟩ <;> first | (exfalso; simp only [List.length_cons] at *; omega) | (simp_all [kindR, snap0, sameB]; done) | (simp_all [kindR, snap0, sameB]; rfl))).symm)
set_option maxRecDepth 100000 in
set_option maxHeartbeats 3200000 in
theorem right_4 (fr tt tm ix lt cm rd : Int) (ok : Bool) (es : List En) (si st : Int) (sn : List Int) (sd : Bs) (ev nv dv : Value) (w : World) (a1 : bw fr 1 5 = true) (a2 : bw tt 1 5 = true) (a3 : (fr == tt) = false) (a4 : bw tm 1 999999 = true) (h : LV w ev nv dv ⟨4, fr, tt, tm, ix, lt, cm, rd, ok, es, si, st, sn, sd⟩) :
    Calls Tryd.prog 12 #[lval ⟨4, fr, tt, tm, ix, lt, cm, rd, ok, es, si, st, sn, sd⟩ ev nv dv] w fun en w' => en = .returned (.bool (rightB ⟨4, fr, tt, tm, ix, lt, cm, rd, ok, es, si, st, sn, sd⟩)) ∧ Mod (fun _ => False) w w' := by
  unfold lval
  have H := Lib.hid h
  obtain ⟨e1, e2, rfl⟩ := h.1.val
  obtain ⟨n1, n2, rfl⟩ := h.2.1.val
  obtain ⟨h1, A, c, rfl, hdc, hdm⟩ := h.2.2
  simp only at *
  clear h h1 hdc hdm
  have hh : head0 ⟨4, fr, tt, tm, ix, lt, cm, rd, ok, es, si, st, sn, sd⟩ = true := by unfold head0; simp [a1, a2, a3, a4]
  have HH := Lib.hid hh
  clear hh
  go_enter Tryd.func12, Tryd.ntmps12
  go_wp2_with (fail)
  refine (between_any _ _ _ _).mono ?_
  rintro e w2 ⟨rfl, rfl⟩
  go_wp2_with (fail)
  refine (between_any _ _ _ _).mono ?_
  rintro e w2 ⟨rfl, rfl⟩
  go_wp2_with (fail)
  refine (between_any _ _ _ _).mono ?_
  rintro e w2 ⟨rfl, rfl⟩
  go_upto_region 5 with (fail)
  go_cut [6] (fun v6 wx => v6 = .bool (fine0 ⟨4, fr, tt, tm, ix, lt, cm, rd, ok, es, si, st, sn, sd⟩) ∧ wx = (w.alloc (Obj.cells #[Value.int IntKind.i64 4, Value.int IntKind.i64 fr, Value.int IntKind.i64 tt, Value.int IntKind.i64 tm, Value.int IntKind.i64 ix, Value.int IntKind.i64 lt, Value.int IntKind.i64 cm, Value.int IntKind.i64 rd, Value.bool ok, Value.slice e1 es.length e2, Value.int IntKind.i64 si, Value.int IntKind.i64 st, Value.slice n1 sn.length n2, Value.slice A sd.length c] 28)).alloc (Obj.cells #[Value.int IntKind.i64 4, Value.int IntKind.i64 0, Value.int IntKind.i64 0, Value.int IntKind.i64 0, Value.int IntKind.i64 0, Value.int IntKind.i64 0, Value.int IntKind.i64 0, Value.int IntKind.i64 0, Value.bool false, Value.slice none 0 0, Value.int IntKind.i64 0, Value.int IntKind.i64 0, Value.slice none 0 0, Value.slice none 0 0] 28))
  case first =>
    go_wp2_with (fail)
    refine (between_any _ _ _ _).mono ?_
    rintro e w2 ⟨rfl, rfl⟩
    by_cases b1 : bw ix 0 999999 = true
    rotate_left
    · go_wp2_with (fail)
      go_meet
      case rel => exact ⟨by simp only [Bool.not_eq_true] at b1; simp [fine0, b1], rfl⟩
    go_wp2_with (fail)
    refine (between_any _ _ _ _).mono ?_
    rintro e w2 ⟨rfl, rfl⟩
    by_cases b2 : bw rd 0 1073741824 = true
    rotate_left
    · go_wp2_with (fail)
      go_meet
      case rel => exact ⟨by simp only [Bool.not_eq_true] at b2; simp [fine0, b2], rfl⟩
    go_wp2_with (fail)
    refine (between_any _ _ _ _).mono ?_
    rintro e w2 ⟨rfl, rfl⟩
    by_cases b3 : bw lt 0 tm = true
    rotate_left
    · go_wp2_with (fail)
      go_meet
      case rel => exact ⟨by simp only [Bool.not_eq_true] at b3; simp [fine0, b3], rfl⟩
    go_wp2_with (fail)
    refine (between_any _ _ _ _).mono ?_
    rintro e w2 ⟨rfl, rfl⟩
    go_wp2_with (fail)
    go_meet
    case rel => exact ⟨by simp [fine0, b1, b2, b3], rfl⟩
  case rest =>
    obtain ⟨rfl, rfl⟩ := hcut
    obtain ⟨F, hF⟩ : ∃ F, fine0 ⟨4, fr, tt, tm, ix, lt, cm, rd, ok, es, si, st, sn, sd⟩ = F := ⟨_, rfl⟩
    have HR : Hid (∀ b : Bool, (F && kindR ⟨4, fr, tt, tm, ix, lt, cm, rd, ok, es, si, st, sn, sd⟩) = b → rightB ⟨4, fr, tt, tm, ix, lt, cm, rd, ok, es, si, st, sn, sd⟩ = b) := Lib.hid (fun b h => by rw [← h]; unfold rightB; rw [HH.out, hF]; rfl)
    rw [hF]
    have HF := Lib.hid hF
    clear hF HH a1 a2 a3 a4
    go_wp2_with (fail)
    go_region
    all_goals go_wp2_with (fail)
    all_goals try (have he0 : es = [] := by assumption; subst he0)
    all_goals try (have he0 : sn = [] := by assumption; subst he0)
    all_goals first
      | (exfalso
         omega)
      | (exfalso
         have := List.length_pos_iff.2 (by assumption : ¬ sn = [])
         omega)
      | (exfalso
         have := List.length_pos_iff.2 (by assumption : ¬ es = [])
         omega)
      | (go_ret
         refine ⟨?_, ?_⟩
         · rw [HR.out false (by simp_all [kindR, snap0] <;> (intros; first | (simp_all; done) | omega))]
           rfl
         · have := Mod.refl (fun _ => False) w
           repeat (first | assumption | apply Mod.alloc | apply Mod.drew | (refine Mod.setCell ?_ (.inr ?_) _; rotate_left; (simp; try omega))))
      | (refine (same_any _ _ _ _ _ _ _ _ _ _ _ _ _ _ _ _ _ _ _ _ _ _ _ _ _ _ _).mono ?_
         rintro e w5 ⟨rfl, hm5⟩
         have hm6 : Mod (fun _ => False) w w5 := by
           refine md_then ?_ hm5
           have := Mod.refl (fun _ => False) w
           repeat (first | assumption | apply Mod.alloc | apply Mod.drew | (refine Mod.setCell ?_ (.inr ?_) _; rotate_left; (simp; try omega)))
         have HM6 := Lib.hid hm6
         clear hm5 hm6
         go_wp2_with (fail)
         go_ret
         refine ⟨?_, HM6.out⟩
         exact congrArg (fun b => Ending.returned (Value.bool b)) (HR.out _ (by rcases sd with _ | ⟨_, _⟩ <;> first | (exfalso; simp only [List.length_cons] at *; omega) | (simp_all [kindR, snap0, sameB]; done) | (simp_all [kindR, snap0, sameB]; rfl))).symm)
set_option maxRecDepth 100000 in
set_option maxHeartbeats 3200000 in
theorem right_x (kd : Int) (fr tt tm ix lt cm rd : Int) (ok : Bool) (es : List En) (si st : Int) (sn : List Int) (sd : Bs) (ev nv dv : Value) (w : World) (a1 : bw fr 1 5 = true) (a2 : bw tt 1 5 = true) (a3 : (fr == tt) = false) (a4 : bw tm 1 999999 = true) (k1 : ¬ kd = 1) (k2 : ¬ kd = 2) (k3 : ¬ kd = 3) (k4 : ¬ kd = 4) (k5 : ¬ kd = 5) (h : LV w ev nv dv ⟨kd, fr, tt, tm, ix, lt, cm, rd, ok, es, si, st, sn, sd⟩) :
    Calls Tryd.prog 12 #[lval ⟨kd, fr, tt, tm, ix, lt, cm, rd, ok, es, si, st, sn, sd⟩ ev nv dv] w fun en w' => en = .returned (.bool (rightB ⟨kd, fr, tt, tm, ix, lt, cm, rd, ok, es, si, st, sn, sd⟩)) ∧ Mod (fun _ => False) w w' := by
  unfold lval
  have H := Lib.hid h
  obtain ⟨e1, e2, rfl⟩ := h.1.val
  obtain ⟨n1, n2, rfl⟩ := h.2.1.val
  obtain ⟨h1, A, c, rfl, hdc, hdm⟩ := h.2.2
  simp only at *
  clear h h1 hdc hdm
  have hh : head0 ⟨kd, fr, tt, tm, ix, lt, cm, rd, ok, es, si, st, sn, sd⟩ = true := by unfold head0; simp [a1, a2, a3, a4]
  have HH := Lib.hid hh
  clear hh
  go_enter Tryd.func12, Tryd.ntmps12
  go_wp2_with (fail)
  refine (between_any _ _ _ _).mono ?_
  rintro e w2 ⟨rfl, rfl⟩
  go_wp2_with (fail)
  refine (between_any _ _ _ _).mono ?_
  rintro e w2 ⟨rfl, rfl⟩
  go_wp2_with (fail)
  refine (between_any _ _ _ _).mono ?_
  rintro e w2 ⟨rfl, rfl⟩
  go_upto_region 5 with (fail)
  go_cut [6] (fun v6 wx => v6 = .bool (fine0 ⟨kd, fr, tt, tm, ix, lt, cm, rd, ok, es, si, st, sn, sd⟩) ∧ wx = (w.alloc (Obj.cells #[Value.int IntKind.i64 kd, Value.int IntKind.i64 fr, Value.int IntKind.i64 tt, Value.int IntKind.i64 tm, Value.int IntKind.i64 ix, Value.int IntKind.i64 lt, Value.int IntKind.i64 cm, Value.int IntKind.i64 rd, Value.bool ok, Value.slice e1 es.length e2, Value.int IntKind.i64 si, Value.int IntKind.i64 st, Value.slice n1 sn.length n2, Value.slice A sd.length c] 28)).alloc (Obj.cells #[Value.int IntKind.i64 kd, Value.int IntKind.i64 0, Value.int IntKind.i64 0, Value.int IntKind.i64 0, Value.int IntKind.i64 0, Value.int IntKind.i64 0, Value.int IntKind.i64 0, Value.int IntKind.i64 0, Value.bool false, Value.slice none 0 0, Value.int IntKind.i64 0, Value.int IntKind.i64 0, Value.slice none 0 0, Value.slice none 0 0] 28))
  case first =>
    go_wp2_with (fail)
    refine (between_any _ _ _ _).mono ?_
    rintro e w2 ⟨rfl, rfl⟩
    by_cases b1 : bw ix 0 999999 = true
    rotate_left
    · go_wp2_with (fail)
      go_meet
      case rel => exact ⟨by simp only [Bool.not_eq_true] at b1; simp [fine0, b1], rfl⟩
    go_wp2_with (fail)
    refine (between_any _ _ _ _).mono ?_
    rintro e w2 ⟨rfl, rfl⟩
    by_cases b2 : bw rd 0 1073741824 = true
    rotate_left
    · go_wp2_with (fail)
      go_meet
      case rel => exact ⟨by simp only [Bool.not_eq_true] at b2; simp [fine0, b2], rfl⟩
    go_wp2_with (fail)
    refine (between_any _ _ _ _).mono ?_
    rintro e w2 ⟨rfl, rfl⟩
    by_cases b3 : bw lt 0 tm = true
    rotate_left
    · go_wp2_with (fail)
      go_meet
      case rel => exact ⟨by simp only [Bool.not_eq_true] at b3; simp [fine0, b3], rfl⟩
    go_wp2_with (fail)
    refine (between_any _ _ _ _).mono ?_
    rintro e w2 ⟨rfl, rfl⟩
    go_wp2_with (fail)
    go_meet
    case rel => exact ⟨by simp [fine0, b1, b2, b3], rfl⟩
  case rest =>
    obtain ⟨rfl, rfl⟩ := hcut
    obtain ⟨F, hF⟩ : ∃ F, fine0 ⟨kd, fr, tt, tm, ix, lt, cm, rd, ok, es, si, st, sn, sd⟩ = F := ⟨_, rfl⟩
    have HR : Hid (∀ b : Bool, (F && kindR ⟨kd, fr, tt, tm, ix, lt, cm, rd, ok, es, si, st, sn, sd⟩) = b → rightB ⟨kd, fr, tt, tm, ix, lt, cm, rd, ok, es, si, st, sn, sd⟩ = b) := Lib.hid (fun b h => by rw [← h]; unfold rightB; rw [HH.out, hF]; rfl)
    rw [hF]
    have HF := Lib.hid hF
    clear hF HH a1 a2 a3 a4
    have k1' : (kd == 1) = false := by simpa using k1
    have k2' : (kd == 2) = false := by simpa using k2
    have k3' : (kd == 3) = false := by simpa using k3
    have k4' : (kd == 4) = false := by simpa using k4
    have k5' : (kd == 5) = false := by simpa using k5
    have hz := HR.out false (by unfold kindR; simp only [if_neg k1, if_neg k2, if_neg k3, if_neg k4, if_neg k5, Bool.and_false])
    have HZ := Lib.hid hz
    clear hz HR
    go_wp2_with (fail)
    go_ret
    refine ⟨?_, ((Mod.refl _ w).alloc _).alloc _⟩
    rw [HZ.out]
    rfl
set_option maxRecDepth 100000 in
set_option maxHeartbeats 3200000 in
theorem right_bad (kd : Int) (fr tt tm ix lt cm rd : Int) (ok : Bool) (es : List En) (si st : Int) (sn : List Int) (sd : Bs) (ev nv dv : Value) (w : World) (a : ¬ (bw fr 1 5 = true ∧ bw tt 1 5 = true ∧ (fr == tt) = false ∧ bw tm 1 999999 = true)) (h : LV w ev nv dv ⟨kd, fr, tt, tm, ix, lt, cm, rd, ok, es, si, st, sn, sd⟩) :
    Calls Tryd.prog 12 #[lval ⟨kd, fr, tt, tm, ix, lt, cm, rd, ok, es, si, st, sn, sd⟩ ev nv dv] w fun en w' => en = .returned (.bool (rightB ⟨kd, fr, tt, tm, ix, lt, cm, rd, ok, es, si, st, sn, sd⟩)) ∧ Mod (fun _ => False) w w' := by
  unfold lval
  have H := Lib.hid h
  obtain ⟨e1, e2, rfl⟩ := h.1.val
  obtain ⟨n1, n2, rfl⟩ := h.2.1.val
  obtain ⟨h1, A, c, rfl, hdc, hdm⟩ := h.2.2
  simp only at *
  clear h h1 hdc hdm
  have hz : rightB ⟨kd, fr, tt, tm, ix, lt, cm, rd, ok, es, si, st, sn, sd⟩ = false := by
    have : head0 ⟨kd, fr, tt, tm, ix, lt, cm, rd, ok, es, si, st, sn, sd⟩ = false := by
      unfold head0
      cases x1 : bw fr 1 5 <;> cases x2 : bw tt 1 5 <;> cases x3 : (fr == tt) <;> cases x4 : bw tm 1 999999 <;> simp_all
    unfold rightB
    rw [this]
    rfl
  have HZ := Lib.hid hz
  clear hz
  go_enter Tryd.func12, Tryd.ntmps12
  go_wp2_with (fail)
  refine (between_any _ _ _ _).mono ?_
  rintro e w2 ⟨rfl, rfl⟩
  by_cases a1 : bw fr 1 5 = true
  rotate_left
  · go_wp2_with (fail)
    go_ret
    exact ⟨by rw [HZ.out]; rfl, (Mod.refl _ w).alloc _⟩
  go_wp2_with (fail)
  refine (between_any _ _ _ _).mono ?_
  rintro e w2 ⟨rfl, rfl⟩
  by_cases a2 : bw tt 1 5 = true
  rotate_left
  · go_wp2_with (fail)
    go_ret
    exact ⟨by rw [HZ.out]; rfl, (Mod.refl _ w).alloc _⟩
  by_cases a3 : fr = tt
  · have a3' : (fr == tt) = true := by simp [a3]
    go_wp2_with (fail)
    go_ret
    exact ⟨by rw [HZ.out]; rfl, (Mod.refl _ w).alloc _⟩
  have a3' : (fr == tt) = false := by simpa using a3
  have a4 : bw tm 1 999999 = false := by
    cases x : bw tm 1 999999 with
    | false => rfl
    | true => exact absurd ⟨a1, a2, a3', x⟩ a
  clear a
  go_wp2_with (fail)
  refine (between_any _ _ _ _).mono ?_
  rintro e w2 ⟨rfl, rfl⟩
  go_wp2_with (fail)
  go_ret
  exact ⟨by rw [HZ.out]; rfl, (Mod.refl _ w).alloc _⟩
end Go.Proofs.YtknaaaphdjdaoaaDoor
