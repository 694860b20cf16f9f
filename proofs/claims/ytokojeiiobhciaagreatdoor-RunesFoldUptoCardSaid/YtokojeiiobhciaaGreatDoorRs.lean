/-
  small: the document's.
-/
import Derived.Test.YtokojeiiobhciaaGreatDoorRc
import Derived.Test.YtokojeiiobhciaaGreatDoorKn
namespace Go.Proofs.YtokojeiiobhciaaGreatDoor
open Go.RowKit Mem
set_option linter.unusedVariables false
set_option linter.unusedSimpArgs false

theorem sm_of (r k : Nat) (h : (smN r = k ∧ k ≠ 223 ∧ k ≠ 7838)) : sm r = enc k := by
  unfold sm sz2
  rw [h.1, if_neg (by omega)]
theorem sm_ss (r : Nat) (h : r = 223 ∨ r = 7838) : sm r = [115, 115] := by
  rcases h with rfl | rfl <;> decide +kernel
theorem rin_t (r lo hi : Int) (h : lo ≤ r ∧ r ≤ hi) (w : World) :
    Calls Tryz.prog 30 #[.int .i64 r, .int .i64 lo, .int .i64 hi] w fun e w' => e = .returned (.bool true) ∧ ∃ q, w' = w.drewN q := by
  refine (rin_any r lo hi w).mono fun e w' ⟨he, hq⟩ => ⟨?_, hq⟩
  rw [he, decide_eq_true h.1, decide_eq_true h.2]; rfl
theorem rin_f (r lo hi : Int) (h : ¬ (lo ≤ r ∧ r ≤ hi)) (w : World) :
    Calls Tryz.prog 30 #[.int .i64 r, .int .i64 lo, .int .i64 hi] w fun e w' => e = .returned (.bool false) ∧ ∃ q, w' = w.drewN q := by
  refine (rin_any r lo hi w).mono fun e w' ⟨he, hq⟩ => ⟨?_, hq⟩
  rw [he]
  by_cases h1 : lo ≤ r
  · rw [decide_eq_true h1, decide_eq_false (by omega)]; rfl
  · rw [decide_eq_false h1]; rfl
set_option maxRecDepth 100000 in
set_option maxHeartbeats 3200000 in
theorem rsmall_any (r : Nat) (hv : vr r) (w : World) :
    Calls Tryz.prog 29 #[.int .i64 (r : Int)] w fun e w' => e = .returned (.string (sv (sm r))) ∧ Mod (fun _ => False) w w' := by
  have hval := smN_val r
  have hvr := smN_vr r hv
  by_cases hss : r = 223 ∨ r = 7838
  · rw [sm_ss r hss]
    rcases hss with rfl | rfl
    all_goals
      go_enter Tryz.func29, Tryz.ntmps29
      go_wp2_with (fail)
      go_ret
      exact ⟨rfl, Mod.refl _ _⟩
  · have e1 : ((r : Int) == 223) = false := by simp; omega
    have e2 : ((r : Int) == 7838) = false := by simp; omega
    have q1 : ∀ k : Nat, smN r = k → k ≠ 223 → k ≠ 7838 → ∀ (z : Int), z = (k : Int) → ∀ w, Calls Tryz.prog 22 #[.int .i64 z] w fun e w' => e = .returned (.string (sv (sm r))) ∧ Mod (fun _ => False) w w' := fun k h1 h2 h3 z hz w => by
      rw [hz, sm_of r k ⟨h1, h2, h3⟩]; exact put_any k (by rw [← h1]; exact hvr) w
    by_cases hA : 65 ≤ r ∧ r ≤ 90
    · have g1 := q1 (r + 32) (by rw [hval, if_pos (by omega)]) (by omega) (by omega) ((r : Int) + 32) (by omega)
      clear q1 hval
      go_enter Tryz.func29, Tryz.ntmps29
      go_wp2_with (fail)
      refine (rin_t r _ _ (by omega) _).mono ?_
      rintro e w' ⟨rfl, q, rfl⟩
      go_wp2_with (fail)
      refine (g1 _).mono ?_
      rintro e w' ⟨rfl, hm⟩
      have HM := Lib.hid ((Mod.refl (fun _ => False) w).drewN _ |>.trans hm (fun _ h => h.elim))
      clear hm
      go_wp2_with (fail)
      go_ret
      exact ⟨rfl, HM.out⟩
    by_cases hB : 192 ≤ r ∧ r ≤ 222 ∧ r ≠ 215
    · have g1 := q1 (r + 32) (by rw [hval, if_pos (by omega)]) (by omega) (by omega) ((r : Int) + 32) (by omega)
      have hn : ((r : Int) != 215) = true := by simp; omega
      have hn2 : ¬ (r : Int) = 215 := by omega
      clear q1 hval
      go_enter Tryz.func29, Tryz.ntmps29
      go_wp2_with (fail)
      refine (rin_f r _ _ (by omega) _).mono ?_
      rintro e w' ⟨rfl, q, rfl⟩
      go_wp2_with (fail)
      refine (rin_t r _ _ (by omega) _).mono ?_
      rintro e w' ⟨rfl, q, rfl⟩
      go_wp2_with (fail)
      refine (g1 _).mono ?_
      rintro e w' ⟨rfl, hm⟩
      have HM := Lib.hid ((Mod.refl (fun _ => False) w).drewN _ |>.trans hm (fun _ h => h.elim))
      clear hm
      go_wp2_with (fail)
      go_ret
      exact ⟨rfl, HM.out⟩
    by_cases hC : 913 ≤ r ∧ r ≤ 937
    · have g1 := q1 (r + 32) (by rw [hval, if_pos (by omega)]) (by omega) (by omega) ((r : Int) + 32) (by omega)
      clear q1 hval
      go_enter Tryz.func29, Tryz.ntmps29
      go_wp2_with (fail)
      refine (rin_f r _ _ (by omega) _).mono ?_
      rintro e w' ⟨rfl, q, rfl⟩
      go_wp2_with (fail)
      refine (rin_f r _ _ (by omega) _).mono ?_
      rintro e w' ⟨rfl, q, rfl⟩
      go_wp2_with (fail)
      refine (rin_t r _ _ (by omega) _).mono ?_
      rintro e w' ⟨rfl, q, rfl⟩
      go_wp2_with (fail)
      refine (g1 _).mono ?_
      rintro e w' ⟨rfl, hm⟩
      have HM := Lib.hid ((Mod.refl (fun _ => False) w).drewN _ |>.trans hm (fun _ h => h.elim))
      clear hm
      go_wp2_with (fail)
      go_ret
      exact ⟨rfl, HM.out⟩
    by_cases hD : 1040 ≤ r ∧ r ≤ 1071
    · have g1 := q1 (r + 32) (by rw [hval, if_pos (by omega)]) (by omega) (by omega) ((r : Int) + 32) (by omega)
      clear q1 hval
      go_enter Tryz.func29, Tryz.ntmps29
      go_wp2_with (fail)
      refine (rin_f r _ _ (by omega) _).mono ?_
      rintro e w' ⟨rfl, q, rfl⟩
      go_wp2_with (fail)
      refine (rin_f r _ _ (by omega) _).mono ?_
      rintro e w' ⟨rfl, q, rfl⟩
      go_wp2_with (fail)
      refine (rin_f r _ _ (by omega) _).mono ?_
      rintro e w' ⟨rfl, q, rfl⟩
      go_wp2_with (fail)
      refine (rin_t r _ _ (by omega) _).mono ?_
      rintro e w' ⟨rfl, q, rfl⟩
      go_wp2_with (fail)
      refine (g1 _).mono ?_
      rintro e w' ⟨rfl, hm⟩
      have HM := Lib.hid ((Mod.refl (fun _ => False) w).drewN _ |>.trans hm (fun _ h => h.elim))
      clear hm
      go_wp2_with (fail)
      go_ret
      exact ⟨rfl, HM.out⟩
    by_cases hE : 1024 ≤ r ∧ r ≤ 1039
    · have g1 := q1 (r + 80) (by rw [hval, if_neg (by omega), if_pos (by omega)]) (by omega) (by omega) ((r : Int) + 80) (by omega)
      clear q1 hval
      go_enter Tryz.func29, Tryz.ntmps29
      go_wp2_with (fail)
      refine (rin_f r _ _ (by omega) _).mono ?_
      rintro e w' ⟨rfl, q, rfl⟩
      go_wp2_with (fail)
      refine (rin_f r _ _ (by omega) _).mono ?_
      rintro e w' ⟨rfl, q, rfl⟩
      go_wp2_with (fail)
      refine (rin_f r _ _ (by omega) _).mono ?_
      rintro e w' ⟨rfl, q, rfl⟩
      go_wp2_with (fail)
      refine (rin_f r _ _ (by omega) _).mono ?_
      rintro e w' ⟨rfl, q, rfl⟩
      go_wp2_with (fail)
      refine (rin_t r _ _ (by omega) _).mono ?_
      rintro e w' ⟨rfl, q, rfl⟩
      go_wp2_with (fail)
      refine (g1 _).mono ?_
      rintro e w' ⟨rfl, hm⟩
      have HM := Lib.hid ((Mod.refl (fun _ => False) w).drewN _ |>.trans hm (fun _ h => h.elim))
      clear hm
      go_wp2_with (fail)
      go_ret
      exact ⟨rfl, HM.out⟩
    by_cases hF : r = 215
    · have g1 := q1 r (by rw [hval, if_neg (by omega), if_neg (by omega)]) (by omega) (by omega) (r : Int) rfl
      subst hF
      clear q1 hval
      go_enter Tryz.func29, Tryz.ntmps29
      go_wp2_with (fail)
      refine (rin_f 215 _ _ (by omega) _).mono ?_
      rintro e w' ⟨rfl, q, rfl⟩
      go_wp2_with (fail)
      refine (rin_t 215 _ _ (by omega) _).mono ?_
      rintro e w' ⟨rfl, q, rfl⟩
      go_wp2_with (fail)
      refine (rin_f 215 _ _ (by omega) _).mono ?_
      rintro e w' ⟨rfl, q, rfl⟩
      go_wp2_with (fail)
      refine (rin_f 215 _ _ (by omega) _).mono ?_
      rintro e w' ⟨rfl, q, rfl⟩
      go_wp2_with (fail)
      refine (rin_f 215 _ _ (by omega) _).mono ?_
      rintro e w' ⟨rfl, q, rfl⟩
      go_wp2_with (fail)
      refine (g1 _).mono ?_
      rintro e w' ⟨rfl, hm⟩
      have HM := Lib.hid ((Mod.refl (fun _ => False) w).drewN _ |>.trans hm (fun _ h => h.elim))
      clear hm
      go_wp2_with (fail)
      go_ret
      exact ⟨rfl, HM.out⟩
    · have g1 := q1 r (by rw [hval, if_neg (by omega), if_neg (by omega)]) (by omega) (by omega) (r : Int) rfl
      clear q1 hval
      go_enter Tryz.func29, Tryz.ntmps29
      go_wp2_with (fail)
      refine (rin_f r _ _ (by omega) _).mono ?_
      rintro e w' ⟨rfl, q, rfl⟩
      go_wp2_with (fail)
      refine (rin_f r _ _ (by omega) _).mono ?_
      rintro e w' ⟨rfl, q, rfl⟩
      go_wp2_with (fail)
      refine (rin_f r _ _ (by omega) _).mono ?_
      rintro e w' ⟨rfl, q, rfl⟩
      go_wp2_with (fail)
      refine (rin_f r _ _ (by omega) _).mono ?_
      rintro e w' ⟨rfl, q, rfl⟩
      go_wp2_with (fail)
      refine (rin_f r _ _ (by omega) _).mono ?_
      rintro e w' ⟨rfl, q, rfl⟩
      go_wp2_with (fail)
      refine (g1 _).mono ?_
      rintro e w' ⟨rfl, hm⟩
      have HM := Lib.hid ((Mod.refl (fun _ => False) w).drewN _ |>.trans hm (fun _ h => h.elim))
      clear hm
      go_wp2_with (fail)
      go_ret
      exact ⟨rfl, HM.out⟩
end Go.Proofs.YtokojeiiobhciaaGreatDoor
