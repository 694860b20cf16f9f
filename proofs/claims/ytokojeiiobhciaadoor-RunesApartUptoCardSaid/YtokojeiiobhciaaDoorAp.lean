/-
  RunesApart's walk.
-/
import Derived.Test.YtokojeiiobhciaaDoorSh
namespace Go.Proofs.YtokojeiiobhciaaDoor
open Go.RowKit Mem
set_option linter.unusedVariables false
set_option linter.unusedSimpArgs false

theorem space_small (c : Nat) (h : c < 128) : spaceI (c : Int) = (decide (c = 9) || decide (c = 10) || decide (c = 12) || decide (c = 13) || decide (c = 32)) := by
  revert c
  decide +kernel
theorem apart_any (r : Int) (h : spaceI r = true) : punI r = false := by
  unfold spaceI at h
  simp only [Bool.or_eq_true, Bool.and_eq_true, beq_iff_eq, decide_eq_true_eq] at h
  rcases h with ((((((((((h | h) | h) | h) | h) | h) | h) | h) | h) | h) | h)
  all_goals first
    | (subst h; decide +kernel)
    | (apply pun_none r (by omega)
       intro p hp
       simp only [punR, List.mem_cons, List.not_mem_nil, or_false] at hp
       rcases hp with rfl | rfl | rfl | rfl | rfl | rfl | rfl | rfl | rfl | rfl | rfl | rfl | rfl | rfl <;> omega)
set_option maxRecDepth 100000 in
set_option maxHeartbeats 3200000 in
theorem runesApart_walk (r : Int) (hr : -2147483648 ≤ r ∧ r ≤ 2147483647) (w : World) (hT : Lib.Utf8Tabs 1 2 w) :
    Calls Tryd.prog 6 #[.int .i32 r] w fun e w' => e = .returned (.bool true) ∧ Mod (fun _ => False) w w' := by
  go_enter Tryd.func6, Tryd.ntmps6
  go_wp2_with (fail)
  refine (shown_any w hT).mono ?_
  rintro e w1 ⟨rfl, hm1⟩
  have HM := Lib.hid hm1
  clear hm1
  go_wp2_with (fail)
  go_loopw [4] (fun v3 wr => ∃ c : Nat, v3 = .int .i64 (c : Int) ∧ c ≤ 128 ∧ Hid (Mod (fun _ => False) w wr)) (fun v _ => match v with | .int _ n => (128 - n).toNat | _ => 0)
  case atStart => exact ⟨0, rfl, by omega, HM⟩
  case round =>
    obtain ⟨c, rfl, hc, hm⟩ := hrel
    by_cases h128 : c = 128
    · subst h128
      have hsp := fun w => space_any r hr w
      have hpu := fun w => punct_any r hr w
      obtain ⟨S, hS⟩ : ∃ S, spaceI r = S := ⟨_, rfl⟩
      have hap := apart_any r
      obtain ⟨P, hP⟩ : ∃ P, punI r = P := ⟨_, rfl⟩
      simp only [hS] at hsp hap
      simp only [hP] at hpu hap
      clear hS hP
      go_wp2_with (fail)
      refine (hsp _).mono ?_
      rintro e w2 ⟨rfl, q, rfl⟩
      cases S with
      | false =>
        go_wp2_with (fail)
        go_ret
        exact ⟨rfl, hm.out.drewN q⟩
      | true =>
        have : P = false := hap rfl
        subst this
        go_wp2_with (fail)
        refine (hpu _).mono ?_
        rintro e w3 ⟨rfl, hm3⟩
        go_wp2_with (fail)
        go_ret
        exact ⟨rfl, (hm.out.drewN q).trans hm3 (fun _ h => h.elim)⟩
    · have hc1 : (c : Int) < 128 := by omega
      have hsp := fun w => space_any (c : Int) (by omega) w
      have hmk := fun w => mark_any c (by omega) w
      by_cases h1 : c = 9 ∨ c = 10 ∨ c = 12 ∨ c = 13 ∨ c = 32
      · have e1 : spaceI (c : Int) = true := by rw [space_small c (by omega)]; simp; omega
        have e2 : markV c = false := by unfold markV; simp; omega
        rw [e1] at hsp
        rw [e2] at hmk
        go_wp2_with (fail)
        all_goals first
          | (exfalso; omega)
          | skip
        all_goals
          refine (hsp _).mono ?_
          rintro e w2 ⟨rfl, q, rfl⟩
          go_wp2_with (fail)
          refine (hmk _).mono ?_
          rintro e w3 ⟨rfl, rfl⟩
          go_wp2_with (fail)
          refine ⟨⟨c + 1, by simp, by omega, Lib.hid (hm.out.drewN q)⟩, ?_⟩
          show (128 - ((c : Int) + 1)).toNat < (128 - (c : Int)).toNat
          omega
      · have e1 : spaceI (c : Int) = false := by rw [space_small c (by omega)]; simp; omega
        rw [e1] at hsp
        by_cases h2 : (33 ≤ c ∧ c ≤ 47) ∨ (58 ≤ c ∧ c ≤ 64) ∨ (91 ≤ c ∧ c ≤ 96) ∨ (123 ≤ c ∧ c ≤ 126)
        · have e2 : markV c = true := by unfold markV; simp; omega
          rw [e2] at hmk
          go_wp2_with (fail)
          all_goals first
            | (exfalso; omega)
            | skip
          all_goals
            refine (hsp _).mono ?_
            rintro e w2 ⟨rfl, q, rfl⟩
            go_wp2_with (fail)
            refine ⟨⟨c + 1, by simp, by omega, Lib.hid (hm.out.drewN q)⟩, ?_⟩
            show (128 - ((c : Int) + 1)).toNat < (128 - (c : Int)).toNat
            omega
        · have e2 : markV c = false := by unfold markV; simp; omega
          rw [e2] at hmk
          go_wp2_with (fail)
          all_goals
            refine (hsp _).mono ?_
            rintro e w2 ⟨rfl, q, rfl⟩
            go_wp2_with (fail)
          all_goals first
            | (refine ⟨⟨c + 1, by simp, by omega, Lib.hid (hm.out.drewN _)⟩, ?_⟩
               show (128 - ((c : Int) + 1)).toNat < (128 - (c : Int)).toNat
               omega)
            | skip
          all_goals
            refine (hsp _).mono ?_
            rintro e w3 ⟨rfl, q2, rfl⟩
            go_wp2_with (fail)
            refine (hmk _).mono ?_
            rintro e w4 ⟨rfl, rfl⟩
            go_wp2_with (fail)
            refine ⟨⟨c + 1, by simp, by omega, Lib.hid (hm.out.drewN _)⟩, ?_⟩
            show (128 - ((c : Int) + 1)).toNat < (128 - (c : Int)).toNat
            omega
end Go.Proofs.YtokojeiiobhciaaDoor
