/-
  RunesKinds' walk.
-/
import Derived.Test.YtokojeiiobhciaaGreatDoorSh
namespace Go.Proofs.YtokojeiiobhciaaGreatDoor
open Go.RowKit Mem
set_option linter.unusedVariables false
set_option linter.unusedSimpArgs false

theorem ret_bool {a b : Bool} (h : a = true ↔ b = true) : Ending.returned (.bool a) = .returned (.bool b) := by rw [Bool.eq_iff_iff.2 h]
theorem val_bool {a b : Bool} (h : a = true ↔ b = true) : Value.bool a = Value.bool b := by rw [Bool.eq_iff_iff.2 h]
def markI (c : Int) : Bool := decide (33 ≤ c ∧ c ≤ 47) || decide (58 ≤ c ∧ c ≤ 64) || decide (91 ≤ c ∧ c ≤ 96) || decide (123 ≤ c ∧ c ≤ 126)
theorem rmark_any (c : Int) (w : World) :
    Calls Tryz.prog 12 #[.int .i64 c] w fun e w' => e = .returned (.bool (markI c)) ∧ ∃ q, w' = w.drewN q := by
  go_enter Tryz.func12, Tryz.ntmps12
  go_wp2_with (fail)
  all_goals
    go_ret
    refine ⟨?_, 0, rfl⟩
    refine ret_bool ?_
    unfold markI
    simp
    try omega
theorem rin_any (r lo hi : Int) (w : World) :
    Calls Tryz.prog 30 #[.int .i64 r, .int .i64 lo, .int .i64 hi] w fun e w' => e = .returned (.bool (decide (lo ≤ r) && decide (r ≤ hi))) ∧ ∃ q, w' = w.drewN q := by
  go_enter Tryz.func30, Tryz.ntmps30
  go_wp2_with (fail)
  all_goals
    go_ret
    refine ⟨?_, 0, rfl⟩
    first | (simp_all; done) | (simp_all; omega)
theorem rin_or (r lo hi : Int) (w : World) :
    Calls Tryz.prog 30 #[.int .i64 r, .int .i64 lo, .int .i64 hi] w fun e w' => (∃ q, w' = w.drewN q) ∧ ((lo ≤ r ∧ r ≤ hi ∧ e = .returned (.bool true)) ∨ (¬ (lo ≤ r ∧ r ≤ hi) ∧ e = .returned (.bool false))) := by
  refine (rin_any r lo hi w).mono fun e w' ⟨he, hq⟩ => ⟨hq, ?_⟩
  by_cases h : lo ≤ r ∧ r ≤ hi
  · left; exact ⟨h.1, h.2, by rw [he, decide_eq_true h.1, decide_eq_true h.2]; rfl⟩
  · right
    refine ⟨h, ?_⟩
    rw [he]
    by_cases h1 : lo ≤ r
    · rw [decide_eq_true h1, decide_eq_false (by omega)]; rfl
    · rw [decide_eq_false h1]; rfl
set_option maxRecDepth 100000 in
set_option maxHeartbeats 1600000 in
theorem rspace_any (r : Int) (w : World) :
    Calls Tryz.prog 14 #[.int .i64 r] w fun e w' => e = .returned (.bool (spaceI r)) ∧ ∃ q, w' = w.drewN q := by
  go_enter Tryz.func14, Tryz.ntmps14
  go_wp2_with (fail)
  all_goals
    go_ret
    refine ⟨?_, 0, rfl⟩
    first | (simp_all [spaceI]; done) | (simp_all [spaceI]; omega)
def pb (r : Int) : Bool := (punR.take 8).any fun p => decide (p.1 ≤ r) && decide (r ≤ p.2)
def pc (r : Int) : Bool := (punR.drop 8).any fun p => decide (p.1 ≤ r) && decide (r ≤ p.2)
theorem pb_iff (r : Int) : pb r = true ↔ (161 ≤ r ∧ r ≤ 169) ∨ (171 ≤ r ∧ r ≤ 177) ∨ r = 180 ∨ (182 ≤ r ∧ r ≤ 184) ∨ r = 187 ∨ r = 191 ∨ r = 215 ∨ r = 247 := by
  simp [pb, punR]
  omega
theorem pc_iff (r : Int) : pc r = true ↔ (8208 ≤ r ∧ r ≤ 8231) ∨ (8240 ≤ r ∧ r ≤ 8286) ∨ (8352 ≤ r ∧ r ≤ 8384) ∨ (8592 ≤ r ∧ r ≤ 8703) ∨ (12289 ≤ r ∧ r ≤ 12291) ∨ (12296 ≤ r ∧ r ≤ 12305) := by
  simp [pc, punR]
theorem pbc (r : Int) : (punR.any fun p => decide (p.1 ≤ r) && decide (r ≤ p.2)) = (pb r || pc r) := by
  unfold pb pc
  rw [← List.any_append, List.take_append_drop]
set_option maxRecDepth 100000 in
set_option maxHeartbeats 3200000 in
theorem rpunct_any (r : Int) (w : World) :
    Calls Tryz.prog 16 #[.int .i64 r] w fun e w' => e = .returned (.bool (markI r || punR.any fun p => decide (p.1 ≤ r) && decide (r ≤ p.2))) ∧ ∃ q, w' = w.drewN q := by
  go_enter Tryz.func16, Tryz.ntmps16
  go_wp2_with (fail)
  refine (rmark_any r _).mono ?_
  rintro e w1 ⟨rfl, q, rfl⟩
  go_upto_region 2 with (fail)
  go_cut [4] (fun v wx => v = .bool (pb r) ∧ ∃ q, wx = w.drewN q)
  case first =>
    go_wp2_with (fail)
    iterate 8
      all_goals
        try (refine (rin_or r _ _ _).mono ?_; rintro e w1 ⟨⟨q1, rfl⟩, (⟨h1, h2, rfl⟩ | ⟨h1, rfl⟩)⟩ <;> first | (exfalso; omega) | (go_wp2_with (fail)))
    all_goals
      first
        | (have h : r = 180 := by assumption
           subst h)
        | (have h : r = 187 := by assumption
           subst h)
        | (have h : r = 191 := by assumption
           subst h)
        | (have h : r = 215 := by assumption
           subst h)
        | skip
    all_goals
      go_meet
      case rel =>
        refine ⟨val_bool ?_, _, rfl⟩
        rw [pb_iff]
        simp <;> omega
  case rest =>
    obtain ⟨rfl, q2, rfl⟩ := hcut
    go_wp2_with (fail)
    iterate 6
      all_goals
        try (refine (rin_or r _ _ _).mono ?_; rintro e w1 ⟨⟨q1, rfl⟩, (⟨h1, h2, rfl⟩ | ⟨h1, rfl⟩)⟩ <;> first | (exfalso; omega) | (go_wp2_with (fail)))
    all_goals
      go_ret
      refine ⟨ret_bool ?_, _, rfl⟩
      rw [pbc]
      simp only [Bool.or_eq_true, pc_iff]
      simp_all <;> omega
theorem pun_eq (r : Int) : (markI r || punR.any fun p => decide (p.1 ≤ r) && decide (r ≤ p.2)) = punI r := by
  rw [pbc]
  by_cases h : r < 128
  · have hb : pb r = false := by rw [Bool.eq_false_iff, ne_eq, pb_iff]; omega
    have hc : pc r = false := by rw [Bool.eq_false_iff, ne_eq, pc_iff]; omega
    rw [hb, hc]
    unfold punI
    rw [if_pos h]
    by_cases h0 : 0 ≤ r
    · rw [decide_eq_true h0]
      unfold markI markV
      rw [Bool.eq_iff_iff]
      simp
      omega
    · rw [decide_eq_false h0]
      unfold markI
      simp
      omega
  · have hm : markI r = false := by unfold markI; simp; omega
    rw [hm]
    unfold punI
    rw [if_neg h, pbc, Bool.false_or]
theorem mark_eq (c : Nat) : markI (c : Int) = markV c := by
  unfold markI markV
  rw [Bool.eq_iff_iff]
  simp
  omega
theorem pun_byte (c : Nat) (h : c < 128) : punI (c : Int) = markV c := by
  rw [pun_low _ (by omega) (by omega), Int.toNat_natCast]
theorem rpunct_eq (r : Int) (w : World) :
    Calls Tryz.prog 16 #[.int .i64 r] w fun e w' => e = .returned (.bool (punI r)) ∧ ∃ q, w' = w.drewN q := by
  rw [← pun_eq]; exact rpunct_any r w
theorem rmark_eq (c : Nat) (w : World) :
    Calls Tryz.prog 12 #[.int .i64 (c : Int)] w fun e w' => e = .returned (.bool (markV c)) ∧ ∃ q, w' = w.drewN q := by
  rw [← mark_eq]; exact rmark_any c w
set_option maxRecDepth 100000 in
set_option maxHeartbeats 3200000 in
theorem runesKinds_walk (r : Int) (hr : -2147483648 ≤ r ∧ r ≤ 2147483647) (c : Nat) (hc : c < 256) (w : World) (hT : Lib.Utf8Tabs 0 1 w) :
    Calls Tryz.prog 5 #[.int .i32 r, .int .u8 (c : Int)] w fun e w' => e = .returned (.bool true) ∧ Mod (fun _ => False) w w' := by
  have g1 := rmark_eq c
  have g2 := space_any r hr
  have g3 := rspace_any r
  have g4 := punct_any r hr
  have g5 := rpunct_eq r
  have g6 := mark_any c hc
  have g7 := fun h : c < 128 => punct_any (c : Int) (by omega)
  obtain ⟨S, hS⟩ : ∃ S, spaceI r = S := ⟨_, rfl⟩
  obtain ⟨P, hP⟩ : ∃ P, punI r = P := ⟨_, rfl⟩
  obtain ⟨M, hM⟩ : ∃ M, markV c = M := ⟨_, rfl⟩
  have g7' := fun (h : c < 128) => (pun_byte c h).trans hM
  simp only [hS] at g2 g3
  simp only [hP] at g4 g5
  simp only [hM] at g1 g6
  clear hS hP hM
  go_enter Tryz.func5, Tryz.ntmps5
  go_wp2_with (fail)
  refine (shown_any w hT).mono ?_
  rintro e w1 ⟨rfl, hm1⟩
  go_wp2_with (fail)
  refine (g1 _).mono ?_
  rintro e w2 ⟨rfl, q2, rfl⟩
  go_wp2_with (fail)
  refine (g2 _).mono ?_
  rintro e w3 ⟨rfl, q3, rfl⟩
  go_wp2_with (fail)
  refine (g3 _).mono ?_
  rintro e w4 ⟨rfl, q4, rfl⟩
  go_wp2_with (fail)
  refine (g4 _).mono ?_
  rintro e w5 ⟨rfl, hm5⟩
  go_wp2_with (fail)
  refine (g5 _).mono ?_
  rintro e w6 ⟨rfl, q6, rfl⟩
  go_wp2_with (fail)
  refine (g6 _).mono ?_
  rintro e w7 ⟨rfl, rfl⟩
  have HM : Hid (Mod (fun _ => False) w w5) := Lib.hid ((hm1.drewN _).trans hm5 (fun _ h => False.elim h))
  by_cases hc7 : (c : Int) > 127
  · go_wp2_with (fail)
    go_ret
    exact ⟨rfl, HM.out.drewN _⟩
  · have hcl : c < 128 := by omega
    have g8 := g7 hcl
    rw [g7' hcl] at g8
    clear g7 g7' hm5 hm1
    go_wp2_with (fail)
    refine (g8 _).mono ?_
    rintro e w8 ⟨rfl, hm8⟩
    go_wp2_with (fail)
    go_ret
    exact ⟨rfl, (HM.out.drewN _).trans hm8 (fun _ h => False.elim h)⟩
theorem runesKinds_int (r : Int) (hr : -2147483648 ≤ r ∧ r ≤ 2147483647) (c : Int) (hc : ∃ k : Nat, c = (k : Int) ∧ k < 256) (w : World) (hT : Lib.Utf8Tabs 0 1 w) :
    Calls Tryz.prog 5 #[.int .i32 r, .int .u8 c] w fun e w' => e = .returned (.bool true) ∧ Mod (fun _ => False) w w' := by
  obtain ⟨k, rfl, hk⟩ := hc
  exact runesKinds_walk r hr k hk w hT
end Go.Proofs.YtokojeiiobhciaaGreatDoor
