/-
  Right, of an LInstall.
-/
import Derived.Test.YtknaaaphdjdaoaaDoorRs
namespace Go.Proofs.YtknaaaphdjdaoaaDoor
open Go.RowKit Mem
set_option linter.unusedVariables false
set_option linter.unusedSimpArgs false

set_option maxRecDepth 100000 in
set_option maxHeartbeats 3200000 in
theorem right_5 (fr tt tm ix lt cm rd : Int) (ok : Bool) (es : List En) (si st : Int) (sn : List Int) (sd : Bs) (ev nv dv : Value) (w : World) (a1 : bw fr 1 5 = true) (a2 : bw tt 1 5 = true) (a3 : (fr == tt) = false) (a4 : bw tm 1 999999 = true) (h : LV w ev nv dv ⟨5, fr, tt, tm, ix, lt, cm, rd, ok, es, si, st, sn, sd⟩) :
    Calls Tryd.prog 12 #[lval ⟨5, fr, tt, tm, ix, lt, cm, rd, ok, es, si, st, sn, sd⟩ ev nv dv] w fun en w' => en = .returned (.bool (rightB ⟨5, fr, tt, tm, ix, lt, cm, rd, ok, es, si, st, sn, sd⟩)) ∧ Mod (fun _ => False) w w' := by
  unfold lval
  have H := Lib.hid h
  obtain ⟨e1, e2, rfl⟩ := h.1.val
  obtain ⟨n1, n2, rfl⟩ := h.2.1.val
  obtain ⟨h1, A, c, rfl, hdc, hdm⟩ := h.2.2
  simp only at *
  clear h h1 hdc hdm
  have hh : head0 ⟨5, fr, tt, tm, ix, lt, cm, rd, ok, es, si, st, sn, sd⟩ = true := by unfold head0; simp [a1, a2, a3, a4]
  have HH := Lib.hid hh
  clear hh
  go_enter Tryd.func12, Tryd.ntmps12
  go_wp2_with (fail)
  refine (between_any _ _ _ _).mono ?_
  rintro e w2 ⟨rfl, rfl⟩
  go_wp2_with (fail)
  refine (between_any _ _ _ _).mono ?_
  rintro e w2 ⟨rfl, rfl⟩
  go_wp2_with (fail)
  refine (between_any _ _ _ _).mono ?_
  rintro e w2 ⟨rfl, rfl⟩
  go_upto_region 5 with (fail)
  go_cut [6] (fun v6 wx => v6 = .bool (fine0 ⟨5, fr, tt, tm, ix, lt, cm, rd, ok, es, si, st, sn, sd⟩) ∧ wx = (w.alloc (Obj.cells #[Value.int IntKind.i64 5, Value.int IntKind.i64 fr, Value.int IntKind.i64 tt, Value.int IntKind.i64 tm, Value.int IntKind.i64 ix, Value.int IntKind.i64 lt, Value.int IntKind.i64 cm, Value.int IntKind.i64 rd, Value.bool ok, Value.slice e1 es.length e2, Value.int IntKind.i64 si, Value.int IntKind.i64 st, Value.slice n1 sn.length n2, Value.slice A sd.length c] 28)).alloc (Obj.cells #[Value.int IntKind.i64 5, Value.int IntKind.i64 0, Value.int IntKind.i64 0, Value.int IntKind.i64 0, Value.int IntKind.i64 0, Value.int IntKind.i64 0, Value.int IntKind.i64 0, Value.int IntKind.i64 0, Value.bool false, Value.slice none 0 0, Value.int IntKind.i64 0, Value.int IntKind.i64 0, Value.slice none 0 0, Value.slice none 0 0] 28))
  case first =>
    go_wp2_with (fail)
    refine (between_any _ _ _ _).mono ?_
    rintro e w2 ⟨rfl, rfl⟩
    by_cases b1 : bw ix 0 999999 = true
    rotate_left
    · go_wp2_with (fail)
      go_meet
      case rel => exact ⟨by simp only [Bool.not_eq_true] at b1; simp [fine0, b1], rfl⟩
    go_wp2_with (fail)
    refine (between_any _ _ _ _).mono ?_
    rintro e w2 ⟨rfl, rfl⟩
    by_cases b2 : bw rd 0 1073741824 = true
    rotate_left
    · go_wp2_with (fail)
      go_meet
      case rel => exact ⟨by simp only [Bool.not_eq_true] at b2; simp [fine0, b2], rfl⟩
    go_wp2_with (fail)
    refine (between_any _ _ _ _).mono ?_
    rintro e w2 ⟨rfl, rfl⟩
    by_cases b3 : bw lt 0 tm = true
    rotate_left
    · go_wp2_with (fail)
      go_meet
      case rel => exact ⟨by simp only [Bool.not_eq_true] at b3; simp [fine0, b3], rfl⟩
    go_wp2_with (fail)
    refine (between_any _ _ _ _).mono ?_
    rintro e w2 ⟨rfl, rfl⟩
    go_wp2_with (fail)
    go_meet
    case rel => exact ⟨by simp [fine0, b1, b2, b3], rfl⟩
  case rest =>
    obtain ⟨rfl, rfl⟩ := hcut
    obtain ⟨F, hF⟩ : ∃ F, fine0 ⟨5, fr, tt, tm, ix, lt, cm, rd, ok, es, si, st, sn, sd⟩ = F := ⟨_, rfl⟩
    have HR : Hid (∀ b : Bool, (F && kindR ⟨5, fr, tt, tm, ix, lt, cm, rd, ok, es, si, st, sn, sd⟩) = b → rightB ⟨5, fr, tt, tm, ix, lt, cm, rd, ok, es, si, st, sn, sd⟩ = b) := Lib.hid (fun b h => by rw [← h]; unfold rightB; rw [HH.out, hF]; rfl)
    rw [hF]
    have HF := Lib.hid hF
    clear hF HH a1 a2 a3 a4
    cases F with
    | false =>
      go_wp2_with (fail)
      all_goals try (have he0 : es = [] := by assumption; subst he0)
      all_goals try (have he0 : sn = [] := by assumption; subst he0)
      all_goals first
        | (exfalso
           omega)
        | (exfalso
           have := List.length_pos_iff.2 (by assumption : ¬ sn = [])
           omega)
        | (exfalso
           have := List.length_pos_iff.2 (by assumption : ¬ es = [])
           omega)
        | (go_ret
           refine ⟨?_, ?_⟩
           · have hh := HR.out false (by simp_all [kindR, snap0] <;> (intros; first | (simp_all; done) | omega))
             first
               | rw [hh]
               | (have he0 : es = [] := by assumption
                  rw [he0] at hh
                  rw [hh])
             rfl
           · have := Mod.refl (fun _ => False) w
             repeat (first | assumption | apply Mod.alloc | apply Mod.drew | (refine Mod.setCell ?_ (.inr ?_) _; rotate_left; (simp; try omega))))
        | (refine (same_any _ _ _ _ _ _ _ _ _ _ _ _ _ _ _ _ _ _ _ _ _ _ _ _ _ _ _).mono ?_
           rintro e w5 ⟨rfl, hm5⟩
           have hm6 : Mod (fun _ => False) w w5 := by
             refine md_then ?_ hm5
             have := Mod.refl (fun _ => False) w
             repeat (first | assumption | apply Mod.alloc | apply Mod.drew | (refine Mod.setCell ?_ (.inr ?_) _; rotate_left; (simp; try omega)))
           have HM6 := Lib.hid hm6
           clear hm5 hm6
           go_wp2_with (fail)
           go_ret
           refine ⟨?_, HM6.out⟩
           exact congrArg (fun b => Ending.returned (Value.bool b)) (HR.out _ (by rcases sd with _ | ⟨_, _⟩ <;> first | (exfalso; simp only [List.length_cons] at *; omega) | (simp_all [kindR, snap0, sameB]; done) | (simp_all [kindR, snap0, sameB]; rfl))).symm)
    | true =>
      go_wp2_with (fail)
      refine (between_any _ _ _ _).mono ?_
      rintro e w2 ⟨rfl, rfl⟩
      by_cases b1 : bw si 1 999998 = true
      rotate_left
      · go_wp2_with (fail)
        all_goals try (have he0 : es = [] := by assumption; subst he0)
        all_goals try (have he0 : sn = [] := by assumption; subst he0)
        all_goals first
          | (exfalso
             omega)
          | (exfalso
             have := List.length_pos_iff.2 (by assumption : ¬ sn = [])
             omega)
          | (exfalso
             have := List.length_pos_iff.2 (by assumption : ¬ es = [])
             omega)
          | (go_ret
             refine ⟨?_, ?_⟩
             · have hh := HR.out false (by simp_all [kindR, snap0] <;> (intros; first | (simp_all; done) | omega))
               first
                 | rw [hh]
                 | (have he0 : es = [] := by assumption
                    rw [he0] at hh
                    rw [hh])
               rfl
             · have := Mod.refl (fun _ => False) w
               repeat (first | assumption | apply Mod.alloc | apply Mod.drew | (refine Mod.setCell ?_ (.inr ?_) _; rotate_left; (simp; try omega))))
          | (refine (same_any _ _ _ _ _ _ _ _ _ _ _ _ _ _ _ _ _ _ _ _ _ _ _ _ _ _ _).mono ?_
             rintro e w5 ⟨rfl, hm5⟩
             have hm6 : Mod (fun _ => False) w w5 := by
               refine md_then ?_ hm5
               have := Mod.refl (fun _ => False) w
               repeat (first | assumption | apply Mod.alloc | apply Mod.drew | (refine Mod.setCell ?_ (.inr ?_) _; rotate_left; (simp; try omega)))
             have HM6 := Lib.hid hm6
             clear hm5 hm6
             go_wp2_with (fail)
             go_ret
             refine ⟨?_, HM6.out⟩
             exact congrArg (fun b => Ending.returned (Value.bool b)) (HR.out _ (by rcases sd with _ | ⟨_, _⟩ <;> first | (exfalso; simp only [List.length_cons] at *; omega) | (simp_all [kindR, snap0, sameB]; done) | (simp_all [kindR, snap0, sameB]; rfl))).symm)
      go_wp2_with (fail)
      refine (between_any _ _ _ _).mono ?_
      rintro e w2 ⟨rfl, rfl⟩
      by_cases b2 : bw st 0 tm = true
      rotate_left
      · go_wp2_with (fail)
        all_goals try (have he0 : es = [] := by assumption; subst he0)
        all_goals try (have he0 : sn = [] := by assumption; subst he0)
        all_goals first
          | (exfalso
             omega)
          | (exfalso
             have := List.length_pos_iff.2 (by assumption : ¬ sn = [])
             omega)
          | (exfalso
             have := List.length_pos_iff.2 (by assumption : ¬ es = [])
             omega)
          | (go_ret
             refine ⟨?_, ?_⟩
             · have hh := HR.out false (by simp_all [kindR, snap0] <;> (intros; first | (simp_all; done) | omega))
               first
                 | rw [hh]
                 | (have he0 : es = [] := by assumption
                    rw [he0] at hh
                    rw [hh])
               rfl
             · have := Mod.refl (fun _ => False) w
               repeat (first | assumption | apply Mod.alloc | apply Mod.drew | (refine Mod.setCell ?_ (.inr ?_) _; rotate_left; (simp; try omega))))
          | (refine (same_any _ _ _ _ _ _ _ _ _ _ _ _ _ _ _ _ _ _ _ _ _ _ _ _ _ _ _).mono ?_
             rintro e w5 ⟨rfl, hm5⟩
             have hm6 : Mod (fun _ => False) w w5 := by
               refine md_then ?_ hm5
               have := Mod.refl (fun _ => False) w
               repeat (first | assumption | apply Mod.alloc | apply Mod.drew | (refine Mod.setCell ?_ (.inr ?_) _; rotate_left; (simp; try omega)))
             have HM6 := Lib.hid hm6
             clear hm5 hm6
             go_wp2_with (fail)
             go_ret
             refine ⟨?_, HM6.out⟩
             exact congrArg (fun b => Ending.returned (Value.bool b)) (HR.out _ (by rcases sd with _ | ⟨_, _⟩ <;> first | (exfalso; simp only [List.length_cons] at *; omega) | (simp_all [kindR, snap0, sameB]; done) | (simp_all [kindR, snap0, sameB]; rfl))).symm)
      go_wp2_with (fail)
      refine (group_any _ sn _ ?_).mono ?_
      · refine H.out.2.1.mod ?_
        have := Mod.refl (fun _ => False) w
        repeat (first | assumption | apply Mod.alloc | apply Mod.drew | (refine Mod.setCell ?_ (.inr ?_) _; rotate_left; (simp; try omega)))
      rintro e w2 ⟨rfl, rfl⟩
      by_cases b3 : groupB sn = true
      rotate_left
      · go_wp2_with (fail)
        all_goals try (have he0 : es = [] := by assumption; subst he0)
        all_goals try (have he0 : sn = [] := by assumption; subst he0)
        all_goals first
          | (exfalso
             omega)
          | (exfalso
             have := List.length_pos_iff.2 (by assumption : ¬ sn = [])
             omega)
          | (exfalso
             have := List.length_pos_iff.2 (by assumption : ¬ es = [])
             omega)
          | (go_ret
             refine ⟨?_, ?_⟩
             · have hh := HR.out false (by simp_all [kindR, snap0] <;> (intros; first | (simp_all; done) | omega))
               first
                 | rw [hh]
                 | (have he0 : es = [] := by assumption
                    rw [he0] at hh
                    rw [hh])
               rfl
             · have := Mod.refl (fun _ => False) w
               repeat (first | assumption | apply Mod.alloc | apply Mod.drew | (refine Mod.setCell ?_ (.inr ?_) _; rotate_left; (simp; try omega))))
          | (refine (same_any _ _ _ _ _ _ _ _ _ _ _ _ _ _ _ _ _ _ _ _ _ _ _ _ _ _ _).mono ?_
             rintro e w5 ⟨rfl, hm5⟩
             have hm6 : Mod (fun _ => False) w w5 := by
               refine md_then ?_ hm5
               have := Mod.refl (fun _ => False) w
               repeat (first | assumption | apply Mod.alloc | apply Mod.drew | (refine Mod.setCell ?_ (.inr ?_) _; rotate_left; (simp; try omega)))
             have HM6 := Lib.hid hm6
             clear hm5 hm6
             go_wp2_with (fail)
             go_ret
             refine ⟨?_, HM6.out⟩
             exact congrArg (fun b => Ending.returned (Value.bool b)) (HR.out _ (by rcases sd with _ | ⟨_, _⟩ <;> first | (exfalso; simp only [List.length_cons] at *; omega) | (simp_all [kindR, snap0, sameB]; done) | (simp_all [kindR, snap0, sameB]; rfl))).symm)
      by_cases b4 : sd.length ≤ 300000
      · have b4' : (sd.length : Int) ≤ 300000 := by omega
        go_wp2_with (fail)
        all_goals try (have he0 : es = [] := by assumption; subst he0)
        all_goals try (have he0 : sn = [] := by assumption; subst he0)
        all_goals first
          | (exfalso
             omega)
          | (exfalso
             have := List.length_pos_iff.2 (by assumption : ¬ sn = [])
             omega)
          | (exfalso
             have := List.length_pos_iff.2 (by assumption : ¬ es = [])
             omega)
          | (go_ret
             refine ⟨?_, ?_⟩
             · have hh := HR.out false (by simp_all [kindR, snap0] <;> (intros; first | (simp_all; done) | omega))
               first
                 | rw [hh]
                 | (have he0 : es = [] := by assumption
                    rw [he0] at hh
                    rw [hh])
               rfl
             · have := Mod.refl (fun _ => False) w
               repeat (first | assumption | apply Mod.alloc | apply Mod.drew | (refine Mod.setCell ?_ (.inr ?_) _; rotate_left; (simp; try omega))))
          | (refine (same_any _ _ _ _ _ _ _ _ _ _ _ _ _ _ _ _ _ _ _ _ _ _ _ _ _ _ _).mono ?_
             rintro e w5 ⟨rfl, hm5⟩
             have hm6 : Mod (fun _ => False) w w5 := by
               refine md_then ?_ hm5
               have := Mod.refl (fun _ => False) w
               repeat (first | assumption | apply Mod.alloc | apply Mod.drew | (refine Mod.setCell ?_ (.inr ?_) _; rotate_left; (simp; try omega)))
             have HM6 := Lib.hid hm6
             clear hm5 hm6
             go_wp2_with (fail)
             go_ret
             refine ⟨?_, HM6.out⟩
             exact congrArg (fun b => Ending.returned (Value.bool b)) (HR.out _ (by rcases sd with _ | ⟨_, _⟩ <;> first | (exfalso; simp only [List.length_cons] at *; omega) | (simp_all [kindR, snap0, sameB]; done) | (simp_all [kindR, snap0, sameB]; rfl))).symm)
      · have b4' : ¬ (sd.length : Int) ≤ 300000 := by omega
        go_wp2_with (fail)
        all_goals try (have he0 : es = [] := by assumption; subst he0)
        all_goals try (have he0 : sn = [] := by assumption; subst he0)
        all_goals first
          | (exfalso
             omega)
          | (exfalso
             have := List.length_pos_iff.2 (by assumption : ¬ sn = [])
             omega)
          | (exfalso
             have := List.length_pos_iff.2 (by assumption : ¬ es = [])
             omega)
          | (go_ret
             refine ⟨?_, ?_⟩
             · have hh := HR.out false (by simp_all [kindR, snap0] <;> (intros; first | (simp_all; done) | omega))
               first
                 | rw [hh]
                 | (have he0 : es = [] := by assumption
                    rw [he0] at hh
                    rw [hh])
               rfl
             · have := Mod.refl (fun _ => False) w
               repeat (first | assumption | apply Mod.alloc | apply Mod.drew | (refine Mod.setCell ?_ (.inr ?_) _; rotate_left; (simp; try omega))))
          | (refine (same_any _ _ _ _ _ _ _ _ _ _ _ _ _ _ _ _ _ _ _ _ _ _ _ _ _ _ _).mono ?_
             rintro e w5 ⟨rfl, hm5⟩
             have hm6 : Mod (fun _ => False) w w5 := by
               refine md_then ?_ hm5
               have := Mod.refl (fun _ => False) w
               repeat (first | assumption | apply Mod.alloc | apply Mod.drew | (refine Mod.setCell ?_ (.inr ?_) _; rotate_left; (simp; try omega)))
             have HM6 := Lib.hid hm6
             clear hm5 hm6
             go_wp2_with (fail)
             go_ret
             refine ⟨?_, HM6.out⟩
             exact congrArg (fun b => Ending.returned (Value.bool b)) (HR.out _ (by rcases sd with _ | ⟨_, _⟩ <;> first | (exfalso; simp only [List.length_cons] at *; omega) | (simp_all [kindR, snap0, sameB]; done) | (simp_all [kindR, snap0, sameB]; rfl))).symm)
end Go.Proofs.YtknaaaphdjdaoaaDoor
