/-
  DiskArms' walk.
-/
import Derived.Test.YtoceddcppbddnaaEe
namespace Go.Proofs.Ytoceddcppbddnaa
open Go.RowKit Mem Go.Maps
set_option linter.unusedVariables false
set_option linter.unusedSimpArgs false

theorem tmod_nat (m j : Nat) : ((m : Int)).tmod (j : Int) = ((m % j : Nat) : Int) := by
  rw [Int.tmod_eq_emod_of_nonneg (by omega)]; omega
set_option maxRecDepth 100000 in
set_option maxHeartbeats 6400000 in
theorem arms_pp (deeds : Nat) (after : Nat) (k : Nat) (w : World) (hd : deeds < 9223372036854775808) (ha : after < 9223372036854775808) (hk : k < 18446744073709551616) :
    Calls Try.prog 5 #[.int .i64 (deeds : Int), .int .i64 (after : Int), .int .u64 (k : Int)] w fun e w' => e = .returned (.bool true) ∧ Mod (fun _ => False) w w' := by
  have hsh := shown_any w
  have t1 := tmod_nat deeds 60
  obtain ⟨N, hN⟩ : ∃ N, deeds % 60 = N := ⟨_, rfl⟩
  rw [hN] at t1
  have hN60 : N < 60 := by omega
  have t1' : (deeds : Int).tmod 60 = (N : Int) := t1
  have t2 := tmod_nat after 80
  obtain ⟨al, hal⟩ : ∃ a, after % 80 = a := ⟨_, rfl⟩
  rw [hal] at t2
  have ha80 : al < 80 := by omega
  have t2' : (after : Int).tmod 80 = (al : Int) := t2
  clear hal t2
  clear hN t1
  go_enter Try.func5, Try.ntmps5
  go_wp2_with (fail)
  refine hsh.mono ?_
  rintro e w1 ⟨rfl, hM1⟩
  go_wp2_with (fail)
  refine (run_new w1 1099511627776 (by decide)).mono ?_
  rintro e w2 ⟨d, X2, rfl, s2⟩
  replace s2 : Run w1 d X2 (big []) w2 := s2
  have HM := Lib.hid hM1
  clear hM1
  go_wp2_with (fail)
  refine (run_arm s2 (al : Int) k (by omega) hk).mono ?_
  rintro e w5 ⟨X5, rfl, s5, -⟩
  have A5 := Lib.hid (arm_start (al : Int) k (.inr (by omega)))
  obtain ⟨A0, hA0⟩ : ∃ A, armA (big []) (al : Int) k = A := ⟨_, rfl⟩
  rw [hA0] at s5 A5
  have S5 := Lib.hid s5
  clear s2 s5 hA0
  go_wp2
  go_loopw [9] (fun v wr => ∃ (i : Nat) (A : Ab) (X : Dk), v = .int .i64 i ∧ i ≤ N ∧ Hid (Run w1 d X A wr) ∧ Hid (ArmI (al : Int) k i A)) (fun v _ => N - (intOf v).toNat)
  case atStart => exact ⟨0, A0, X5, rfl, by omega, S5, A5⟩
  case round =>
    obtain ⟨i, A, X, rfl, hi, S, I⟩ := hrel
    by_cases hlt : i < N
    · have q1 : (i : Int) < (N : Int) := by omega
      have hfl := arm_falls I.out
      have e9 : IntKind.i64.wrap ((i : Int) + 1) = (i : Int) + 1 := by rw [IntKind.wrap_i64]; omega
      have e2 : (i : Int).tmod 2 = ((i % 2 : Nat) : Int) := tmod_nat i 2
      rcases (show i % 2 = 0 ∨ i % 2 = 1 by omega) with hp | hp
      · rw [hp] at e2
        have e2' : (i : Int).tmod 2 = 0 := e2
        have e8 : IntKind.u8.wrap (i : Int) = (i : Int) := by rw [IntKind.wrap_u8]; omega
        have hu : ((UInt8.ofNat i).toNat : Int) = (i : Int) := by simp; omega
        have HSt := arm_append (UInt8.ofNat i) I.out hp ⟨by omega, by omega⟩
        obtain ⟨R, hR⟩ : ∃ R, appendA A nf [UInt8.ofNat i] = R := ⟨_, rfl⟩
        rw [hR] at HSt
        obtain ⟨hI, hE, hoff⟩ := HSt
        replace hI := Lib.hid hI
        clear e2
        by_cases hia : i < al
        · have q2 : (i : Int) < (al : Int) := by omega
          have hok : okB (al : Int) i = true := decide_eq_true (.inr q2)
          rw [hok] at hE hoff
          replace hE : R.2 = 0 := hE
          replace hoff : R.1.off = false := hoff
          go_wp2_with (fail)
          refine (run_append (S.out.still ((Mod.refl _ wr).alloc _)) nf _ [UInt8.ofNat i] (rd_const wr _ _ _ _ rfl _ (by show _ = [Value.int .u8 ((UInt8.ofNat i).toNat : Int)]; rw [hu])) (by decide) hfl.1 hfl.2.1 (by show totA A.fs + 1 ≤ _; omega)).mono ?_
          rintro e w6 ⟨X6, rfl, s6, -⟩
          rw [hR] at s6 ⊢
          rw [hE]
          have S6 := Lib.hid s6
          go_wp2_with (fail)
          refine (run_up S6.out).mono ?_
          rintro e w7 ⟨rfl, rfl⟩
          rw [hoff]
          go_wp2
          exact ⟨⟨i + 1, R.1, X6, by go_num, by omega, S6, hI⟩, by simp [intOf]; omega⟩
        · have q2 : ¬ (i : Int) < (al : Int) := by omega
          have hok : okB (al : Int) i = false := decide_eq_false (by omega)
          rw [hok] at hE hoff
          replace hE : R.2 = 13 := hE
          replace hoff : R.1.off = true := hoff
          go_wp2_with (fail)
          refine (run_append (S.out.still ((Mod.refl _ wr).alloc _)) nf _ [UInt8.ofNat i] (rd_const wr _ _ _ _ rfl _ (by show _ = [Value.int .u8 ((UInt8.ofNat i).toNat : Int)]; rw [hu])) (by decide) hfl.1 hfl.2.1 (by show totA A.fs + 1 ≤ _; omega)).mono ?_
          rintro e w6 ⟨X6, rfl, s6, -⟩
          rw [hR] at s6 ⊢
          rw [hE]
          have S6 := Lib.hid s6
          go_wp2_with (fail)
          refine (run_up S6.out).mono ?_
          rintro e w7 ⟨rfl, rfl⟩
          rw [hoff]
          go_wp2
          exact ⟨⟨i + 1, R.1, X6, by go_num, by omega, S6, hI⟩, by simp [intOf]; omega⟩
      · rw [hp] at e2
        have e2' : (i : Int).tmod 2 = 1 := e2
        have HSt := arm_sync I.out hp
        obtain ⟨R, hR⟩ : ∃ R, syncA A nf = R := ⟨_, rfl⟩
        rw [hR] at HSt
        obtain ⟨hI, hE, hoff⟩ := HSt
        replace hI := Lib.hid hI
        clear e2
        by_cases hia : i < al
        · have q2 : (i : Int) < (al : Int) := by omega
          have hok : okB (al : Int) i = true := decide_eq_true (.inr q2)
          rw [hok] at hE hoff
          replace hE : R.2 = 0 := hE
          replace hoff : R.1.off = false := hoff
          go_wp2_with (fail)
          refine (run_sync S.out nf (by decide) hfl.1).mono ?_
          rintro e w6 ⟨X6, rfl, s6, -⟩
          rw [hR] at s6 ⊢
          rw [hE]
          have S6 := Lib.hid s6
          go_wp2_with (fail)
          refine (run_up S6.out).mono ?_
          rintro e w7 ⟨rfl, rfl⟩
          rw [hoff]
          go_wp2
          exact ⟨⟨i + 1, R.1, X6, by go_num, by omega, S6, hI⟩, by simp [intOf]; omega⟩
        · have q2 : ¬ (i : Int) < (al : Int) := by omega
          have hok : okB (al : Int) i = false := decide_eq_false (by omega)
          rw [hok] at hE hoff
          replace hE : R.2 = 13 := hE
          replace hoff : R.1.off = true := hoff
          go_wp2_with (fail)
          refine (run_sync S.out nf (by decide) hfl.1).mono ?_
          rintro e w6 ⟨X6, rfl, s6, -⟩
          rw [hR] at s6 ⊢
          rw [hE]
          have S6 := Lib.hid s6
          go_wp2_with (fail)
          refine (run_up S6.out).mono ?_
          rintro e w7 ⟨rfl, rfl⟩
          rw [hoff]
          go_wp2
          exact ⟨⟨i + 1, R.1, X6, by go_num, by omega, S6, hI⟩, by simp [intOf]; omega⟩
    · have q1 : ¬ (i : Int) < (N : Int) := by omega
      obtain rfl : i = N := by omega
      have hend := arm_end I.out (min i al) (.inr ⟨by omega, by omega⟩)
      go_wp2_with (fail)
      refine (run_start S.out).mono ?_
      rintro e w6 ⟨X6, rfl, s6, -⟩
      go_wp2_with (fail)
      refine (run_read s6 nf (by decide)).mono ?_
      rintro e w7 ⟨vb, rfl, rb, hm7⟩
      obtain ⟨bb, hbb⟩ : ∃ b, (readA (startA A) nf).1 = b := ⟨_, rfl⟩
      rw [hbb] at hend rb
      have S7 := Lib.hid (s6.still hm7)
      obtain ⟨ab, cb, hvb, _, _⟩ := (rdc_own rb).2
      subst hvb
      obtain ⟨L, hL⟩ : ∃ L, bb.length = L := ⟨_, rfl⟩
      rw [hL] at hend ⊢
      obtain ⟨dn, hdn⟩ : ∃ x, (min i al) = x := ⟨_, rfl⟩
      rw [hdn] at hend
      have g1 : (dn : Int).tdiv 2 = ((dn / 2 : Nat) : Int) := by rw [Int.tdiv_eq_ediv_of_nonneg (by omega)]; omega
      have g2 : ((dn : Int) + 1).tdiv 2 = (((dn + 1) / 2 : Nat) : Int) := by rw [Int.tdiv_eq_ediv_of_nonneg (by omega)]; omega
      have g3 : IntKind.i64.wrap ((dn : Int) + 1) = (dn : Int) + 1 := by rw [IntKind.wrap_i64]; omega
      have g4 : IntKind.i64.wrap ((((dn + 1) / 2 : Nat) : Int) + 1) = (((dn + 1) / 2 : Nat) : Int) + 1 := by rw [IntKind.wrap_i64]; omega
      have g5 : ((dn / 2 : Nat) : Int) ≤ (L : Int) := by omega
      have g6 : (L : Int) ≤ (((dn + 1) / 2 : Nat) : Int) + 1 := by omega
      have g7 : min (i : Int) (al : Int) = (dn : Int) := by omega
      clear s6 hm7 rb hend hL hbb
      go_wp2
      go_ret
      exact ⟨ret_bool (decide_eq_true (by omega)), HM.out.trans S7.out.mod (fun _ h => h.elim)⟩
set_option maxRecDepth 100000 in
set_option maxHeartbeats 6400000 in
theorem arms_pm (deeds : Nat)  (k : Nat) (w : World) (hd : deeds < 9223372036854775808)  (hk : k < 18446744073709551616) :
    Calls Try.prog 5 #[.int .i64 (deeds : Int), .int .i64 (-1), .int .u64 (k : Int)] w fun e w' => e = .returned (.bool true) ∧ Mod (fun _ => False) w w' := by
  have hsh := shown_any w
  have t1 := tmod_nat deeds 60
  obtain ⟨N, hN⟩ : ∃ N, deeds % 60 = N := ⟨_, rfl⟩
  rw [hN] at t1
  have hN60 : N < 60 := by omega
  have t1' : (deeds : Int).tmod 60 = (N : Int) := t1
  clear hN t1
  go_enter Try.func5, Try.ntmps5
  go_wp2_with (fail)
  refine hsh.mono ?_
  rintro e w1 ⟨rfl, hM1⟩
  go_wp2_with (fail)
  refine (run_new w1 1099511627776 (by decide)).mono ?_
  rintro e w2 ⟨d, X2, rfl, s2⟩
  replace s2 : Run w1 d X2 (big []) w2 := s2
  have HM := Lib.hid hM1
  clear hM1
  go_wp2_with (fail)
  refine (run_arm s2 (-1) k (by omega) hk).mono ?_
  rintro e w5 ⟨X5, rfl, s5, -⟩
  have A5 := Lib.hid (arm_start (-1) k (.inl rfl))
  obtain ⟨A0, hA0⟩ : ∃ A, armA (big []) (-1) k = A := ⟨_, rfl⟩
  rw [hA0] at s5 A5
  have S5 := Lib.hid s5
  clear s2 s5 hA0
  go_wp2
  go_loopw [9] (fun v wr => ∃ (i : Nat) (A : Ab) (X : Dk), v = .int .i64 i ∧ i ≤ N ∧ Hid (Run w1 d X A wr) ∧ Hid (ArmI (-1) k i A)) (fun v _ => N - (intOf v).toNat)
  case atStart => exact ⟨0, A0, X5, rfl, by omega, S5, A5⟩
  case round =>
    obtain ⟨i, A, X, rfl, hi, S, I⟩ := hrel
    by_cases hlt : i < N
    · have q1 : (i : Int) < (N : Int) := by omega
      have hfl := arm_falls I.out
      have e9 : IntKind.i64.wrap ((i : Int) + 1) = (i : Int) + 1 := by rw [IntKind.wrap_i64]; omega
      have e2 : (i : Int).tmod 2 = ((i % 2 : Nat) : Int) := tmod_nat i 2
      rcases (show i % 2 = 0 ∨ i % 2 = 1 by omega) with hp | hp
      · rw [hp] at e2
        have e2' : (i : Int).tmod 2 = 0 := e2
        have e8 : IntKind.u8.wrap (i : Int) = (i : Int) := by rw [IntKind.wrap_u8]; omega
        have hu : ((UInt8.ofNat i).toNat : Int) = (i : Int) := by simp; omega
        have HSt := arm_append (UInt8.ofNat i) I.out hp ⟨by omega, by omega⟩
        obtain ⟨R, hR⟩ : ∃ R, appendA A nf [UInt8.ofNat i] = R := ⟨_, rfl⟩
        rw [hR] at HSt
        obtain ⟨hI, hE, hoff⟩ := HSt
        replace hI := Lib.hid hI
        clear e2
        have hok : okB (-1) i = true := decide_eq_true (.inl (by decide))
        rw [hok] at hE hoff
        replace hE : R.2 = 0 := hE
        replace hoff : R.1.off = false := hoff
        go_wp2_with (fail)
        refine (run_append (S.out.still ((Mod.refl _ wr).alloc _)) nf _ [UInt8.ofNat i] (rd_const wr _ _ _ _ rfl _ (by show _ = [Value.int .u8 ((UInt8.ofNat i).toNat : Int)]; rw [hu])) (by decide) hfl.1 hfl.2.1 (by show totA A.fs + 1 ≤ _; omega)).mono ?_
        rintro e w6 ⟨X6, rfl, s6, -⟩
        rw [hR] at s6 ⊢
        rw [hE]
        have S6 := Lib.hid s6
        go_wp2_with (fail)
        refine (run_up S6.out).mono ?_
        rintro e w7 ⟨rfl, rfl⟩
        rw [hoff]
        go_wp2
        exact ⟨⟨i + 1, R.1, X6, by go_num, by omega, S6, hI⟩, by simp [intOf]; omega⟩
      · rw [hp] at e2
        have e2' : (i : Int).tmod 2 = 1 := e2
        have HSt := arm_sync I.out hp
        obtain ⟨R, hR⟩ : ∃ R, syncA A nf = R := ⟨_, rfl⟩
        rw [hR] at HSt
        obtain ⟨hI, hE, hoff⟩ := HSt
        replace hI := Lib.hid hI
        clear e2
        have hok : okB (-1) i = true := decide_eq_true (.inl (by decide))
        rw [hok] at hE hoff
        replace hE : R.2 = 0 := hE
        replace hoff : R.1.off = false := hoff
        go_wp2_with (fail)
        refine (run_sync S.out nf (by decide) hfl.1).mono ?_
        rintro e w6 ⟨X6, rfl, s6, -⟩
        rw [hR] at s6 ⊢
        rw [hE]
        have S6 := Lib.hid s6
        go_wp2_with (fail)
        refine (run_up S6.out).mono ?_
        rintro e w7 ⟨rfl, rfl⟩
        rw [hoff]
        go_wp2
        exact ⟨⟨i + 1, R.1, X6, by go_num, by omega, S6, hI⟩, by simp [intOf]; omega⟩
    · have q1 : ¬ (i : Int) < (N : Int) := by omega
      obtain rfl : i = N := by omega
      have hend := arm_end I.out i (.inl ⟨by decide, rfl⟩)
      go_wp2_with (fail)
      refine (run_start S.out).mono ?_
      rintro e w6 ⟨X6, rfl, s6, -⟩
      go_wp2_with (fail)
      refine (run_read s6 nf (by decide)).mono ?_
      rintro e w7 ⟨vb, rfl, rb, hm7⟩
      obtain ⟨bb, hbb⟩ : ∃ b, (readA (startA A) nf).1 = b := ⟨_, rfl⟩
      rw [hbb] at hend rb
      have S7 := Lib.hid (s6.still hm7)
      obtain ⟨ab, cb, hvb, _, _⟩ := (rdc_own rb).2
      subst hvb
      obtain ⟨L, hL⟩ : ∃ L, bb.length = L := ⟨_, rfl⟩
      rw [hL] at hend ⊢
      obtain ⟨dn, hdn⟩ : ∃ x, i = x := ⟨_, rfl⟩
      rw [hdn] at hend
      have g1 : (dn : Int).tdiv 2 = ((dn / 2 : Nat) : Int) := by rw [Int.tdiv_eq_ediv_of_nonneg (by omega)]; omega
      have g2 : ((dn : Int) + 1).tdiv 2 = (((dn + 1) / 2 : Nat) : Int) := by rw [Int.tdiv_eq_ediv_of_nonneg (by omega)]; omega
      have g3 : IntKind.i64.wrap ((dn : Int) + 1) = (dn : Int) + 1 := by rw [IntKind.wrap_i64]; omega
      have g4 : IntKind.i64.wrap ((((dn + 1) / 2 : Nat) : Int) + 1) = (((dn + 1) / 2 : Nat) : Int) + 1 := by rw [IntKind.wrap_i64]; omega
      have g5 : ((dn / 2 : Nat) : Int) ≤ (L : Int) := by omega
      have g6 : (L : Int) ≤ (((dn + 1) / 2 : Nat) : Int) + 1 := by omega
      clear s6 hm7 rb hend hL hbb
      go_wp2
      go_ret
      exact ⟨ret_bool (decide_eq_true (by omega)), HM.out.trans S7.out.mod (fun _ h => h.elim)⟩
set_option maxRecDepth 100000 in
set_option maxHeartbeats 6400000 in
theorem arms_pn (deeds : Nat) (after : Int) (k : Nat) (w : World) (hd : deeds < 9223372036854775808) (ha : after < -1 ∧ -9223372036854775808 ≤ after) (hk : k < 18446744073709551616) :
    Calls Try.prog 5 #[.int .i64 (deeds : Int), .int .i64 after, .int .u64 (k : Int)] w fun e w' => e = .returned (.bool true) ∧ Mod (fun _ => False) w w' := by
  have hsh := shown_any w
  have t1 := tmod_nat deeds 60
  obtain ⟨N, hN⟩ : ∃ N, deeds % 60 = N := ⟨_, rfl⟩
  rw [hN] at t1
  have hN60 : N < 60 := by omega
  have t1' : (deeds : Int).tmod 60 = (N : Int) := t1
  obtain ⟨m2, hm2⟩ : ∃ m : Nat, (m : Int) = -after - 1 := ⟨(-after - 1).toNat, by omega⟩
  have q5 : IntKind.i64.wrap (IntKind.i64.wrap (-after) - 1) = (m2 : Int) := by
    by_cases h : after = -9223372036854775808
    · subst h
      have : m2 = 9223372036854775807 := by omega
      rw [this]; rfl
    · have h1 : IntKind.i64.wrap (-after) = -after := by rw [IntKind.wrap_i64]; omega
      rw [h1, IntKind.wrap_i64]; omega
  have q7 : wrap64 (wrap64 (-after) - 1) = (m2 : Int) := by unfold wrap64; rw [IntKind.wrap_i64, IntKind.wrap_i64] at q5; exact q5
  have q6 : after < -1 := ha.1
  have t2 := tmod_nat m2 80
  obtain ⟨al, hal⟩ : ∃ a, m2 % 80 = a := ⟨_, rfl⟩
  rw [hal] at t2
  have ha80 : al < 80 := by omega
  have t2' : (m2 : Int).tmod 80 = (al : Int) := t2
  clear hal t2
  clear hN t1 hm2 ha
  go_enter Try.func5, Try.ntmps5
  go_wp2_with (fail)
  refine hsh.mono ?_
  rintro e w1 ⟨rfl, hM1⟩
  go_wp2_with (fail)
  refine (run_new w1 1099511627776 (by decide)).mono ?_
  rintro e w2 ⟨d, X2, rfl, s2⟩
  replace s2 : Run w1 d X2 (big []) w2 := s2
  have HM := Lib.hid hM1
  clear hM1
  go_wp2_with (fail)
  refine (run_arm s2 (al : Int) k (by omega) hk).mono ?_
  rintro e w5 ⟨X5, rfl, s5, -⟩
  have A5 := Lib.hid (arm_start (al : Int) k (.inr (by omega)))
  obtain ⟨A0, hA0⟩ : ∃ A, armA (big []) (al : Int) k = A := ⟨_, rfl⟩
  rw [hA0] at s5 A5
  have S5 := Lib.hid s5
  clear s2 s5 hA0
  go_wp2
  go_loopw [9] (fun v wr => ∃ (i : Nat) (A : Ab) (X : Dk), v = .int .i64 i ∧ i ≤ N ∧ Hid (Run w1 d X A wr) ∧ Hid (ArmI (al : Int) k i A)) (fun v _ => N - (intOf v).toNat)
  case atStart => exact ⟨0, A0, X5, rfl, by omega, S5, A5⟩
  case round =>
    obtain ⟨i, A, X, rfl, hi, S, I⟩ := hrel
    by_cases hlt : i < N
    · have q1 : (i : Int) < (N : Int) := by omega
      have hfl := arm_falls I.out
      have e9 : IntKind.i64.wrap ((i : Int) + 1) = (i : Int) + 1 := by rw [IntKind.wrap_i64]; omega
      have e2 : (i : Int).tmod 2 = ((i % 2 : Nat) : Int) := tmod_nat i 2
      rcases (show i % 2 = 0 ∨ i % 2 = 1 by omega) with hp | hp
      · rw [hp] at e2
        have e2' : (i : Int).tmod 2 = 0 := e2
        have e8 : IntKind.u8.wrap (i : Int) = (i : Int) := by rw [IntKind.wrap_u8]; omega
        have hu : ((UInt8.ofNat i).toNat : Int) = (i : Int) := by simp; omega
        have HSt := arm_append (UInt8.ofNat i) I.out hp ⟨by omega, by omega⟩
        obtain ⟨R, hR⟩ : ∃ R, appendA A nf [UInt8.ofNat i] = R := ⟨_, rfl⟩
        rw [hR] at HSt
        obtain ⟨hI, hE, hoff⟩ := HSt
        replace hI := Lib.hid hI
        clear e2
        by_cases hia : i < al
        · have q2 : (i : Int) < (al : Int) := by omega
          have hok : okB (al : Int) i = true := decide_eq_true (.inr q2)
          rw [hok] at hE hoff
          replace hE : R.2 = 0 := hE
          replace hoff : R.1.off = false := hoff
          go_wp2_with (fail)
          refine (run_append (S.out.still ((Mod.refl _ wr).alloc _)) nf _ [UInt8.ofNat i] (rd_const wr _ _ _ _ rfl _ (by show _ = [Value.int .u8 ((UInt8.ofNat i).toNat : Int)]; rw [hu])) (by decide) hfl.1 hfl.2.1 (by show totA A.fs + 1 ≤ _; omega)).mono ?_
          rintro e w6 ⟨X6, rfl, s6, -⟩
          rw [hR] at s6 ⊢
          rw [hE]
          have S6 := Lib.hid s6
          go_wp2_with (fail)
          refine (run_up S6.out).mono ?_
          rintro e w7 ⟨rfl, rfl⟩
          rw [hoff]
          go_wp2
          exact ⟨⟨i + 1, R.1, X6, by go_num, by omega, S6, hI⟩, by simp [intOf]; omega⟩
        · have q2 : ¬ (i : Int) < (al : Int) := by omega
          have hok : okB (al : Int) i = false := decide_eq_false (by omega)
          rw [hok] at hE hoff
          replace hE : R.2 = 13 := hE
          replace hoff : R.1.off = true := hoff
          go_wp2_with (fail)
          refine (run_append (S.out.still ((Mod.refl _ wr).alloc _)) nf _ [UInt8.ofNat i] (rd_const wr _ _ _ _ rfl _ (by show _ = [Value.int .u8 ((UInt8.ofNat i).toNat : Int)]; rw [hu])) (by decide) hfl.1 hfl.2.1 (by show totA A.fs + 1 ≤ _; omega)).mono ?_
          rintro e w6 ⟨X6, rfl, s6, -⟩
          rw [hR] at s6 ⊢
          rw [hE]
          have S6 := Lib.hid s6
          go_wp2_with (fail)
          refine (run_up S6.out).mono ?_
          rintro e w7 ⟨rfl, rfl⟩
          rw [hoff]
          go_wp2
          exact ⟨⟨i + 1, R.1, X6, by go_num, by omega, S6, hI⟩, by simp [intOf]; omega⟩
      · rw [hp] at e2
        have e2' : (i : Int).tmod 2 = 1 := e2
        have HSt := arm_sync I.out hp
        obtain ⟨R, hR⟩ : ∃ R, syncA A nf = R := ⟨_, rfl⟩
        rw [hR] at HSt
        obtain ⟨hI, hE, hoff⟩ := HSt
        replace hI := Lib.hid hI
        clear e2
        by_cases hia : i < al
        · have q2 : (i : Int) < (al : Int) := by omega
          have hok : okB (al : Int) i = true := decide_eq_true (.inr q2)
          rw [hok] at hE hoff
          replace hE : R.2 = 0 := hE
          replace hoff : R.1.off = false := hoff
          go_wp2_with (fail)
          refine (run_sync S.out nf (by decide) hfl.1).mono ?_
          rintro e w6 ⟨X6, rfl, s6, -⟩
          rw [hR] at s6 ⊢
          rw [hE]
          have S6 := Lib.hid s6
          go_wp2_with (fail)
          refine (run_up S6.out).mono ?_
          rintro e w7 ⟨rfl, rfl⟩
          rw [hoff]
          go_wp2
          exact ⟨⟨i + 1, R.1, X6, by go_num, by omega, S6, hI⟩, by simp [intOf]; omega⟩
        · have q2 : ¬ (i : Int) < (al : Int) := by omega
          have hok : okB (al : Int) i = false := decide_eq_false (by omega)
          rw [hok] at hE hoff
          replace hE : R.2 = 13 := hE
          replace hoff : R.1.off = true := hoff
          go_wp2_with (fail)
          refine (run_sync S.out nf (by decide) hfl.1).mono ?_
          rintro e w6 ⟨X6, rfl, s6, -⟩
          rw [hR] at s6 ⊢
          rw [hE]
          have S6 := Lib.hid s6
          go_wp2_with (fail)
          refine (run_up S6.out).mono ?_
          rintro e w7 ⟨rfl, rfl⟩
          rw [hoff]
          go_wp2
          exact ⟨⟨i + 1, R.1, X6, by go_num, by omega, S6, hI⟩, by simp [intOf]; omega⟩
    · have q1 : ¬ (i : Int) < (N : Int) := by omega
      obtain rfl : i = N := by omega
      have hend := arm_end I.out (min i al) (.inr ⟨by omega, by omega⟩)
      go_wp2_with (fail)
      refine (run_start S.out).mono ?_
      rintro e w6 ⟨X6, rfl, s6, -⟩
      go_wp2_with (fail)
      refine (run_read s6 nf (by decide)).mono ?_
      rintro e w7 ⟨vb, rfl, rb, hm7⟩
      obtain ⟨bb, hbb⟩ : ∃ b, (readA (startA A) nf).1 = b := ⟨_, rfl⟩
      rw [hbb] at hend rb
      have S7 := Lib.hid (s6.still hm7)
      obtain ⟨ab, cb, hvb, _, _⟩ := (rdc_own rb).2
      subst hvb
      obtain ⟨L, hL⟩ : ∃ L, bb.length = L := ⟨_, rfl⟩
      rw [hL] at hend ⊢
      obtain ⟨dn, hdn⟩ : ∃ x, (min i al) = x := ⟨_, rfl⟩
      rw [hdn] at hend
      have g1 : (dn : Int).tdiv 2 = ((dn / 2 : Nat) : Int) := by rw [Int.tdiv_eq_ediv_of_nonneg (by omega)]; omega
      have g2 : ((dn : Int) + 1).tdiv 2 = (((dn + 1) / 2 : Nat) : Int) := by rw [Int.tdiv_eq_ediv_of_nonneg (by omega)]; omega
      have g3 : IntKind.i64.wrap ((dn : Int) + 1) = (dn : Int) + 1 := by rw [IntKind.wrap_i64]; omega
      have g4 : IntKind.i64.wrap ((((dn + 1) / 2 : Nat) : Int) + 1) = (((dn + 1) / 2 : Nat) : Int) + 1 := by rw [IntKind.wrap_i64]; omega
      have g5 : ((dn / 2 : Nat) : Int) ≤ (L : Int) := by omega
      have g6 : (L : Int) ≤ (((dn + 1) / 2 : Nat) : Int) + 1 := by omega
      have g7 : min (i : Int) (al : Int) = (dn : Int) := by omega
      clear s6 hm7 rb hend hL hbb
      go_wp2
      go_ret
      exact ⟨ret_bool (decide_eq_true (by omega)), HM.out.trans S7.out.mod (fun _ h => h.elim)⟩
set_option maxRecDepth 100000 in
set_option maxHeartbeats 6400000 in
theorem arms_np (deeds : Int) (after : Nat) (k : Nat) (w : World) (hd : deeds < 0 ∧ -9223372036854775808 ≤ deeds) (ha : after < 9223372036854775808) (hk : k < 18446744073709551616) :
    Calls Try.prog 5 #[.int .i64 deeds, .int .i64 (after : Int), .int .u64 (k : Int)] w fun e w' => e = .returned (.bool true) ∧ Mod (fun _ => False) w w' := by
  have hsh := shown_any w
  obtain ⟨m1, hm1⟩ : ∃ m : Nat, (m : Int) = -(deeds + 1) := ⟨(-(deeds + 1)).toNat, by omega⟩
  have q3 : IntKind.i64.wrap (deeds + 1) = deeds + 1 := by rw [IntKind.wrap_i64]; omega
  have q4 : IntKind.i64.wrap (-(deeds + 1)) = (m1 : Int) := by rw [IntKind.wrap_i64]; omega
  have q0 : deeds < 0 := hd.1
  have t1 := tmod_nat m1 60
  obtain ⟨N, hN⟩ : ∃ N, m1 % 60 = N := ⟨_, rfl⟩
  rw [hN] at t1
  have hN60 : N < 60 := by omega
  have t1' : (m1 : Int).tmod 60 = (N : Int) := t1
  have t2 := tmod_nat after 80
  obtain ⟨al, hal⟩ : ∃ a, after % 80 = a := ⟨_, rfl⟩
  rw [hal] at t2
  have ha80 : al < 80 := by omega
  have t2' : (after : Int).tmod 80 = (al : Int) := t2
  clear hal t2
  clear hN t1 hm1 hd
  go_enter Try.func5, Try.ntmps5
  go_wp2_with (fail)
  refine hsh.mono ?_
  rintro e w1 ⟨rfl, hM1⟩
  go_wp2_with (fail)
  refine (run_new w1 1099511627776 (by decide)).mono ?_
  rintro e w2 ⟨d, X2, rfl, s2⟩
  replace s2 : Run w1 d X2 (big []) w2 := s2
  have HM := Lib.hid hM1
  clear hM1
  go_wp2_with (fail)
  refine (run_arm s2 (al : Int) k (by omega) hk).mono ?_
  rintro e w5 ⟨X5, rfl, s5, -⟩
  have A5 := Lib.hid (arm_start (al : Int) k (.inr (by omega)))
  obtain ⟨A0, hA0⟩ : ∃ A, armA (big []) (al : Int) k = A := ⟨_, rfl⟩
  rw [hA0] at s5 A5
  have S5 := Lib.hid s5
  clear s2 s5 hA0
  go_wp2
  go_loopw [9] (fun v wr => ∃ (i : Nat) (A : Ab) (X : Dk), v = .int .i64 i ∧ i ≤ N ∧ Hid (Run w1 d X A wr) ∧ Hid (ArmI (al : Int) k i A)) (fun v _ => N - (intOf v).toNat)
  case atStart => exact ⟨0, A0, X5, rfl, by omega, S5, A5⟩
  case round =>
    obtain ⟨i, A, X, rfl, hi, S, I⟩ := hrel
    by_cases hlt : i < N
    · have q1 : (i : Int) < (N : Int) := by omega
      have hfl := arm_falls I.out
      have e9 : IntKind.i64.wrap ((i : Int) + 1) = (i : Int) + 1 := by rw [IntKind.wrap_i64]; omega
      have e2 : (i : Int).tmod 2 = ((i % 2 : Nat) : Int) := tmod_nat i 2
      rcases (show i % 2 = 0 ∨ i % 2 = 1 by omega) with hp | hp
      · rw [hp] at e2
        have e2' : (i : Int).tmod 2 = 0 := e2
        have e8 : IntKind.u8.wrap (i : Int) = (i : Int) := by rw [IntKind.wrap_u8]; omega
        have hu : ((UInt8.ofNat i).toNat : Int) = (i : Int) := by simp; omega
        have HSt := arm_append (UInt8.ofNat i) I.out hp ⟨by omega, by omega⟩
        obtain ⟨R, hR⟩ : ∃ R, appendA A nf [UInt8.ofNat i] = R := ⟨_, rfl⟩
        rw [hR] at HSt
        obtain ⟨hI, hE, hoff⟩ := HSt
        replace hI := Lib.hid hI
        clear e2
        by_cases hia : i < al
        · have q2 : (i : Int) < (al : Int) := by omega
          have hok : okB (al : Int) i = true := decide_eq_true (.inr q2)
          rw [hok] at hE hoff
          replace hE : R.2 = 0 := hE
          replace hoff : R.1.off = false := hoff
          go_wp2_with (fail)
          refine (run_append (S.out.still ((Mod.refl _ wr).alloc _)) nf _ [UInt8.ofNat i] (rd_const wr _ _ _ _ rfl _ (by show _ = [Value.int .u8 ((UInt8.ofNat i).toNat : Int)]; rw [hu])) (by decide) hfl.1 hfl.2.1 (by show totA A.fs + 1 ≤ _; omega)).mono ?_
          rintro e w6 ⟨X6, rfl, s6, -⟩
          rw [hR] at s6 ⊢
          rw [hE]
          have S6 := Lib.hid s6
          go_wp2_with (fail)
          refine (run_up S6.out).mono ?_
          rintro e w7 ⟨rfl, rfl⟩
          rw [hoff]
          go_wp2
          exact ⟨⟨i + 1, R.1, X6, by go_num, by omega, S6, hI⟩, by simp [intOf]; omega⟩
        · have q2 : ¬ (i : Int) < (al : Int) := by omega
          have hok : okB (al : Int) i = false := decide_eq_false (by omega)
          rw [hok] at hE hoff
          replace hE : R.2 = 13 := hE
          replace hoff : R.1.off = true := hoff
          go_wp2_with (fail)
          refine (run_append (S.out.still ((Mod.refl _ wr).alloc _)) nf _ [UInt8.ofNat i] (rd_const wr _ _ _ _ rfl _ (by show _ = [Value.int .u8 ((UInt8.ofNat i).toNat : Int)]; rw [hu])) (by decide) hfl.1 hfl.2.1 (by show totA A.fs + 1 ≤ _; omega)).mono ?_
          rintro e w6 ⟨X6, rfl, s6, -⟩
          rw [hR] at s6 ⊢
          rw [hE]
          have S6 := Lib.hid s6
          go_wp2_with (fail)
          refine (run_up S6.out).mono ?_
          rintro e w7 ⟨rfl, rfl⟩
          rw [hoff]
          go_wp2
          exact ⟨⟨i + 1, R.1, X6, by go_num, by omega, S6, hI⟩, by simp [intOf]; omega⟩
      · rw [hp] at e2
        have e2' : (i : Int).tmod 2 = 1 := e2
        have HSt := arm_sync I.out hp
        obtain ⟨R, hR⟩ : ∃ R, syncA A nf = R := ⟨_, rfl⟩
        rw [hR] at HSt
        obtain ⟨hI, hE, hoff⟩ := HSt
        replace hI := Lib.hid hI
        clear e2
        by_cases hia : i < al
        · have q2 : (i : Int) < (al : Int) := by omega
          have hok : okB (al : Int) i = true := decide_eq_true (.inr q2)
          rw [hok] at hE hoff
          replace hE : R.2 = 0 := hE
          replace hoff : R.1.off = false := hoff
          go_wp2_with (fail)
          refine (run_sync S.out nf (by decide) hfl.1).mono ?_
          rintro e w6 ⟨X6, rfl, s6, -⟩
          rw [hR] at s6 ⊢
          rw [hE]
          have S6 := Lib.hid s6
          go_wp2_with (fail)
          refine (run_up S6.out).mono ?_
          rintro e w7 ⟨rfl, rfl⟩
          rw [hoff]
          go_wp2
          exact ⟨⟨i + 1, R.1, X6, by go_num, by omega, S6, hI⟩, by simp [intOf]; omega⟩
        · have q2 : ¬ (i : Int) < (al : Int) := by omega
          have hok : okB (al : Int) i = false := decide_eq_false (by omega)
          rw [hok] at hE hoff
          replace hE : R.2 = 13 := hE
          replace hoff : R.1.off = true := hoff
          go_wp2_with (fail)
          refine (run_sync S.out nf (by decide) hfl.1).mono ?_
          rintro e w6 ⟨X6, rfl, s6, -⟩
          rw [hR] at s6 ⊢
          rw [hE]
          have S6 := Lib.hid s6
          go_wp2_with (fail)
          refine (run_up S6.out).mono ?_
          rintro e w7 ⟨rfl, rfl⟩
          rw [hoff]
          go_wp2
          exact ⟨⟨i + 1, R.1, X6, by go_num, by omega, S6, hI⟩, by simp [intOf]; omega⟩
    · have q1 : ¬ (i : Int) < (N : Int) := by omega
      obtain rfl : i = N := by omega
      have hend := arm_end I.out (min i al) (.inr ⟨by omega, by omega⟩)
      go_wp2_with (fail)
      refine (run_start S.out).mono ?_
      rintro e w6 ⟨X6, rfl, s6, -⟩
      go_wp2_with (fail)
      refine (run_read s6 nf (by decide)).mono ?_
      rintro e w7 ⟨vb, rfl, rb, hm7⟩
      obtain ⟨bb, hbb⟩ : ∃ b, (readA (startA A) nf).1 = b := ⟨_, rfl⟩
      rw [hbb] at hend rb
      have S7 := Lib.hid (s6.still hm7)
      obtain ⟨ab, cb, hvb, _, _⟩ := (rdc_own rb).2
      subst hvb
      obtain ⟨L, hL⟩ : ∃ L, bb.length = L := ⟨_, rfl⟩
      rw [hL] at hend ⊢
      obtain ⟨dn, hdn⟩ : ∃ x, (min i al) = x := ⟨_, rfl⟩
      rw [hdn] at hend
      have g1 : (dn : Int).tdiv 2 = ((dn / 2 : Nat) : Int) := by rw [Int.tdiv_eq_ediv_of_nonneg (by omega)]; omega
      have g2 : ((dn : Int) + 1).tdiv 2 = (((dn + 1) / 2 : Nat) : Int) := by rw [Int.tdiv_eq_ediv_of_nonneg (by omega)]; omega
      have g3 : IntKind.i64.wrap ((dn : Int) + 1) = (dn : Int) + 1 := by rw [IntKind.wrap_i64]; omega
      have g4 : IntKind.i64.wrap ((((dn + 1) / 2 : Nat) : Int) + 1) = (((dn + 1) / 2 : Nat) : Int) + 1 := by rw [IntKind.wrap_i64]; omega
      have g5 : ((dn / 2 : Nat) : Int) ≤ (L : Int) := by omega
      have g6 : (L : Int) ≤ (((dn + 1) / 2 : Nat) : Int) + 1 := by omega
      have g7 : min (i : Int) (al : Int) = (dn : Int) := by omega
      clear s6 hm7 rb hend hL hbb
      go_wp2
      go_ret
      exact ⟨ret_bool (decide_eq_true (by omega)), HM.out.trans S7.out.mod (fun _ h => h.elim)⟩
set_option maxRecDepth 100000 in
set_option maxHeartbeats 6400000 in
theorem arms_nm (deeds : Int)  (k : Nat) (w : World) (hd : deeds < 0 ∧ -9223372036854775808 ≤ deeds)  (hk : k < 18446744073709551616) :
    Calls Try.prog 5 #[.int .i64 deeds, .int .i64 (-1), .int .u64 (k : Int)] w fun e w' => e = .returned (.bool true) ∧ Mod (fun _ => False) w w' := by
  have hsh := shown_any w
  obtain ⟨m1, hm1⟩ : ∃ m : Nat, (m : Int) = -(deeds + 1) := ⟨(-(deeds + 1)).toNat, by omega⟩
  have q3 : IntKind.i64.wrap (deeds + 1) = deeds + 1 := by rw [IntKind.wrap_i64]; omega
  have q4 : IntKind.i64.wrap (-(deeds + 1)) = (m1 : Int) := by rw [IntKind.wrap_i64]; omega
  have q0 : deeds < 0 := hd.1
  have t1 := tmod_nat m1 60
  obtain ⟨N, hN⟩ : ∃ N, m1 % 60 = N := ⟨_, rfl⟩
  rw [hN] at t1
  have hN60 : N < 60 := by omega
  have t1' : (m1 : Int).tmod 60 = (N : Int) := t1
  clear hN t1 hm1 hd
  go_enter Try.func5, Try.ntmps5
  go_wp2_with (fail)
  refine hsh.mono ?_
  rintro e w1 ⟨rfl, hM1⟩
  go_wp2_with (fail)
  refine (run_new w1 1099511627776 (by decide)).mono ?_
  rintro e w2 ⟨d, X2, rfl, s2⟩
  replace s2 : Run w1 d X2 (big []) w2 := s2
  have HM := Lib.hid hM1
  clear hM1
  go_wp2_with (fail)
  refine (run_arm s2 (-1) k (by omega) hk).mono ?_
  rintro e w5 ⟨X5, rfl, s5, -⟩
  have A5 := Lib.hid (arm_start (-1) k (.inl rfl))
  obtain ⟨A0, hA0⟩ : ∃ A, armA (big []) (-1) k = A := ⟨_, rfl⟩
  rw [hA0] at s5 A5
  have S5 := Lib.hid s5
  clear s2 s5 hA0
  go_wp2
  go_loopw [9] (fun v wr => ∃ (i : Nat) (A : Ab) (X : Dk), v = .int .i64 i ∧ i ≤ N ∧ Hid (Run w1 d X A wr) ∧ Hid (ArmI (-1) k i A)) (fun v _ => N - (intOf v).toNat)
  case atStart => exact ⟨0, A0, X5, rfl, by omega, S5, A5⟩
  case round =>
    obtain ⟨i, A, X, rfl, hi, S, I⟩ := hrel
    by_cases hlt : i < N
    · have q1 : (i : Int) < (N : Int) := by omega
      have hfl := arm_falls I.out
      have e9 : IntKind.i64.wrap ((i : Int) + 1) = (i : Int) + 1 := by rw [IntKind.wrap_i64]; omega
      have e2 : (i : Int).tmod 2 = ((i % 2 : Nat) : Int) := tmod_nat i 2
      rcases (show i % 2 = 0 ∨ i % 2 = 1 by omega) with hp | hp
      · rw [hp] at e2
        have e2' : (i : Int).tmod 2 = 0 := e2
        have e8 : IntKind.u8.wrap (i : Int) = (i : Int) := by rw [IntKind.wrap_u8]; omega
        have hu : ((UInt8.ofNat i).toNat : Int) = (i : Int) := by simp; omega
        have HSt := arm_append (UInt8.ofNat i) I.out hp ⟨by omega, by omega⟩
        obtain ⟨R, hR⟩ : ∃ R, appendA A nf [UInt8.ofNat i] = R := ⟨_, rfl⟩
        rw [hR] at HSt
        obtain ⟨hI, hE, hoff⟩ := HSt
        replace hI := Lib.hid hI
        clear e2
        have hok : okB (-1) i = true := decide_eq_true (.inl (by decide))
        rw [hok] at hE hoff
        replace hE : R.2 = 0 := hE
        replace hoff : R.1.off = false := hoff
        go_wp2_with (fail)
        refine (run_append (S.out.still ((Mod.refl _ wr).alloc _)) nf _ [UInt8.ofNat i] (rd_const wr _ _ _ _ rfl _ (by show _ = [Value.int .u8 ((UInt8.ofNat i).toNat : Int)]; rw [hu])) (by decide) hfl.1 hfl.2.1 (by show totA A.fs + 1 ≤ _; omega)).mono ?_
        rintro e w6 ⟨X6, rfl, s6, -⟩
        rw [hR] at s6 ⊢
        rw [hE]
        have S6 := Lib.hid s6
        go_wp2_with (fail)
        refine (run_up S6.out).mono ?_
        rintro e w7 ⟨rfl, rfl⟩
        rw [hoff]
        go_wp2
        exact ⟨⟨i + 1, R.1, X6, by go_num, by omega, S6, hI⟩, by simp [intOf]; omega⟩
      · rw [hp] at e2
        have e2' : (i : Int).tmod 2 = 1 := e2
        have HSt := arm_sync I.out hp
        obtain ⟨R, hR⟩ : ∃ R, syncA A nf = R := ⟨_, rfl⟩
        rw [hR] at HSt
        obtain ⟨hI, hE, hoff⟩ := HSt
        replace hI := Lib.hid hI
        clear e2
        have hok : okB (-1) i = true := decide_eq_true (.inl (by decide))
        rw [hok] at hE hoff
        replace hE : R.2 = 0 := hE
        replace hoff : R.1.off = false := hoff
        go_wp2_with (fail)
        refine (run_sync S.out nf (by decide) hfl.1).mono ?_
        rintro e w6 ⟨X6, rfl, s6, -⟩
        rw [hR] at s6 ⊢
        rw [hE]
        have S6 := Lib.hid s6
        go_wp2_with (fail)
        refine (run_up S6.out).mono ?_
        rintro e w7 ⟨rfl, rfl⟩
        rw [hoff]
        go_wp2
        exact ⟨⟨i + 1, R.1, X6, by go_num, by omega, S6, hI⟩, by simp [intOf]; omega⟩
    · have q1 : ¬ (i : Int) < (N : Int) := by omega
      obtain rfl : i = N := by omega
      have hend := arm_end I.out i (.inl ⟨by decide, rfl⟩)
      go_wp2_with (fail)
      refine (run_start S.out).mono ?_
      rintro e w6 ⟨X6, rfl, s6, -⟩
      go_wp2_with (fail)
      refine (run_read s6 nf (by decide)).mono ?_
      rintro e w7 ⟨vb, rfl, rb, hm7⟩
      obtain ⟨bb, hbb⟩ : ∃ b, (readA (startA A) nf).1 = b := ⟨_, rfl⟩
      rw [hbb] at hend rb
      have S7 := Lib.hid (s6.still hm7)
      obtain ⟨ab, cb, hvb, _, _⟩ := (rdc_own rb).2
      subst hvb
      obtain ⟨L, hL⟩ : ∃ L, bb.length = L := ⟨_, rfl⟩
      rw [hL] at hend ⊢
      obtain ⟨dn, hdn⟩ : ∃ x, i = x := ⟨_, rfl⟩
      rw [hdn] at hend
      have g1 : (dn : Int).tdiv 2 = ((dn / 2 : Nat) : Int) := by rw [Int.tdiv_eq_ediv_of_nonneg (by omega)]; omega
      have g2 : ((dn : Int) + 1).tdiv 2 = (((dn + 1) / 2 : Nat) : Int) := by rw [Int.tdiv_eq_ediv_of_nonneg (by omega)]; omega
      have g3 : IntKind.i64.wrap ((dn : Int) + 1) = (dn : Int) + 1 := by rw [IntKind.wrap_i64]; omega
      have g4 : IntKind.i64.wrap ((((dn + 1) / 2 : Nat) : Int) + 1) = (((dn + 1) / 2 : Nat) : Int) + 1 := by rw [IntKind.wrap_i64]; omega
      have g5 : ((dn / 2 : Nat) : Int) ≤ (L : Int) := by omega
      have g6 : (L : Int) ≤ (((dn + 1) / 2 : Nat) : Int) + 1 := by omega
      clear s6 hm7 rb hend hL hbb
      go_wp2
      go_ret
      exact ⟨ret_bool (decide_eq_true (by omega)), HM.out.trans S7.out.mod (fun _ h => h.elim)⟩
set_option maxRecDepth 100000 in
set_option maxHeartbeats 6400000 in
theorem arms_nn (deeds : Int) (after : Int) (k : Nat) (w : World) (hd : deeds < 0 ∧ -9223372036854775808 ≤ deeds) (ha : after < -1 ∧ -9223372036854775808 ≤ after) (hk : k < 18446744073709551616) :
    Calls Try.prog 5 #[.int .i64 deeds, .int .i64 after, .int .u64 (k : Int)] w fun e w' => e = .returned (.bool true) ∧ Mod (fun _ => False) w w' := by
  have hsh := shown_any w
  obtain ⟨m1, hm1⟩ : ∃ m : Nat, (m : Int) = -(deeds + 1) := ⟨(-(deeds + 1)).toNat, by omega⟩
  have q3 : IntKind.i64.wrap (deeds + 1) = deeds + 1 := by rw [IntKind.wrap_i64]; omega
  have q4 : IntKind.i64.wrap (-(deeds + 1)) = (m1 : Int) := by rw [IntKind.wrap_i64]; omega
  have q0 : deeds < 0 := hd.1
  have t1 := tmod_nat m1 60
  obtain ⟨N, hN⟩ : ∃ N, m1 % 60 = N := ⟨_, rfl⟩
  rw [hN] at t1
  have hN60 : N < 60 := by omega
  have t1' : (m1 : Int).tmod 60 = (N : Int) := t1
  obtain ⟨m2, hm2⟩ : ∃ m : Nat, (m : Int) = -after - 1 := ⟨(-after - 1).toNat, by omega⟩
  have q5 : IntKind.i64.wrap (IntKind.i64.wrap (-after) - 1) = (m2 : Int) := by
    by_cases h : after = -9223372036854775808
    · subst h
      have : m2 = 9223372036854775807 := by omega
      rw [this]; rfl
    · have h1 : IntKind.i64.wrap (-after) = -after := by rw [IntKind.wrap_i64]; omega
      rw [h1, IntKind.wrap_i64]; omega
  have q7 : wrap64 (wrap64 (-after) - 1) = (m2 : Int) := by unfold wrap64; rw [IntKind.wrap_i64, IntKind.wrap_i64] at q5; exact q5
  have q6 : after < -1 := ha.1
  have t2 := tmod_nat m2 80
  obtain ⟨al, hal⟩ : ∃ a, m2 % 80 = a := ⟨_, rfl⟩
  rw [hal] at t2
  have ha80 : al < 80 := by omega
  have t2' : (m2 : Int).tmod 80 = (al : Int) := t2
  clear hal t2
  clear hN t1 hm1 hd hm2 ha
  go_enter Try.func5, Try.ntmps5
  go_wp2_with (fail)
  refine hsh.mono ?_
  rintro e w1 ⟨rfl, hM1⟩
  go_wp2_with (fail)
  refine (run_new w1 1099511627776 (by decide)).mono ?_
  rintro e w2 ⟨d, X2, rfl, s2⟩
  replace s2 : Run w1 d X2 (big []) w2 := s2
  have HM := Lib.hid hM1
  clear hM1
  go_wp2_with (fail)
  refine (run_arm s2 (al : Int) k (by omega) hk).mono ?_
  rintro e w5 ⟨X5, rfl, s5, -⟩
  have A5 := Lib.hid (arm_start (al : Int) k (.inr (by omega)))
  obtain ⟨A0, hA0⟩ : ∃ A, armA (big []) (al : Int) k = A := ⟨_, rfl⟩
  rw [hA0] at s5 A5
  have S5 := Lib.hid s5
  clear s2 s5 hA0
  go_wp2
  go_loopw [9] (fun v wr => ∃ (i : Nat) (A : Ab) (X : Dk), v = .int .i64 i ∧ i ≤ N ∧ Hid (Run w1 d X A wr) ∧ Hid (ArmI (al : Int) k i A)) (fun v _ => N - (intOf v).toNat)
  case atStart => exact ⟨0, A0, X5, rfl, by omega, S5, A5⟩
  case round =>
    obtain ⟨i, A, X, rfl, hi, S, I⟩ := hrel
    by_cases hlt : i < N
    · have q1 : (i : Int) < (N : Int) := by omega
      have hfl := arm_falls I.out
      have e9 : IntKind.i64.wrap ((i : Int) + 1) = (i : Int) + 1 := by rw [IntKind.wrap_i64]; omega
      have e2 : (i : Int).tmod 2 = ((i % 2 : Nat) : Int) := tmod_nat i 2
      rcases (show i % 2 = 0 ∨ i % 2 = 1 by omega) with hp | hp
      · rw [hp] at e2
        have e2' : (i : Int).tmod 2 = 0 := e2
        have e8 : IntKind.u8.wrap (i : Int) = (i : Int) := by rw [IntKind.wrap_u8]; omega
        have hu : ((UInt8.ofNat i).toNat : Int) = (i : Int) := by simp; omega
        have HSt := arm_append (UInt8.ofNat i) I.out hp ⟨by omega, by omega⟩
        obtain ⟨R, hR⟩ : ∃ R, appendA A nf [UInt8.ofNat i] = R := ⟨_, rfl⟩
        rw [hR] at HSt
        obtain ⟨hI, hE, hoff⟩ := HSt
        replace hI := Lib.hid hI
        clear e2
        by_cases hia : i < al
        · have q2 : (i : Int) < (al : Int) := by omega
          have hok : okB (al : Int) i = true := decide_eq_true (.inr q2)
          rw [hok] at hE hoff
          replace hE : R.2 = 0 := hE
          replace hoff : R.1.off = false := hoff
          go_wp2_with (fail)
          refine (run_append (S.out.still ((Mod.refl _ wr).alloc _)) nf _ [UInt8.ofNat i] (rd_const wr _ _ _ _ rfl _ (by show _ = [Value.int .u8 ((UInt8.ofNat i).toNat : Int)]; rw [hu])) (by decide) hfl.1 hfl.2.1 (by show totA A.fs + 1 ≤ _; omega)).mono ?_
          rintro e w6 ⟨X6, rfl, s6, -⟩
          rw [hR] at s6 ⊢
          rw [hE]
          have S6 := Lib.hid s6
          go_wp2_with (fail)
          refine (run_up S6.out).mono ?_
          rintro e w7 ⟨rfl, rfl⟩
          rw [hoff]
          go_wp2
          exact ⟨⟨i + 1, R.1, X6, by go_num, by omega, S6, hI⟩, by simp [intOf]; omega⟩
        · have q2 : ¬ (i : Int) < (al : Int) := by omega
          have hok : okB (al : Int) i = false := decide_eq_false (by omega)
          rw [hok] at hE hoff
          replace hE : R.2 = 13 := hE
          replace hoff : R.1.off = true := hoff
          go_wp2_with (fail)
          refine (run_append (S.out.still ((Mod.refl _ wr).alloc _)) nf _ [UInt8.ofNat i] (rd_const wr _ _ _ _ rfl _ (by show _ = [Value.int .u8 ((UInt8.ofNat i).toNat : Int)]; rw [hu])) (by decide) hfl.1 hfl.2.1 (by show totA A.fs + 1 ≤ _; omega)).mono ?_
          rintro e w6 ⟨X6, rfl, s6, -⟩
          rw [hR] at s6 ⊢
          rw [hE]
          have S6 := Lib.hid s6
          go_wp2_with (fail)
          refine (run_up S6.out).mono ?_
          rintro e w7 ⟨rfl, rfl⟩
          rw [hoff]
          go_wp2
          exact ⟨⟨i + 1, R.1, X6, by go_num, by omega, S6, hI⟩, by simp [intOf]; omega⟩
      · rw [hp] at e2
        have e2' : (i : Int).tmod 2 = 1 := e2
        have HSt := arm_sync I.out hp
        obtain ⟨R, hR⟩ : ∃ R, syncA A nf = R := ⟨_, rfl⟩
        rw [hR] at HSt
        obtain ⟨hI, hE, hoff⟩ := HSt
        replace hI := Lib.hid hI
        clear e2
        by_cases hia : i < al
        · have q2 : (i : Int) < (al : Int) := by omega
          have hok : okB (al : Int) i = true := decide_eq_true (.inr q2)
          rw [hok] at hE hoff
          replace hE : R.2 = 0 := hE
          replace hoff : R.1.off = false := hoff
          go_wp2_with (fail)
          refine (run_sync S.out nf (by decide) hfl.1).mono ?_
          rintro e w6 ⟨X6, rfl, s6, -⟩
          rw [hR] at s6 ⊢
          rw [hE]
          have S6 := Lib.hid s6
          go_wp2_with (fail)
          refine (run_up S6.out).mono ?_
          rintro e w7 ⟨rfl, rfl⟩
          rw [hoff]
          go_wp2
          exact ⟨⟨i + 1, R.1, X6, by go_num, by omega, S6, hI⟩, by simp [intOf]; omega⟩
        · have q2 : ¬ (i : Int) < (al : Int) := by omega
          have hok : okB (al : Int) i = false := decide_eq_false (by omega)
          rw [hok] at hE hoff
          replace hE : R.2 = 13 := hE
          replace hoff : R.1.off = true := hoff
          go_wp2_with (fail)
          refine (run_sync S.out nf (by decide) hfl.1).mono ?_
          rintro e w6 ⟨X6, rfl, s6, -⟩
          rw [hR] at s6 ⊢
          rw [hE]
          have S6 := Lib.hid s6
          go_wp2_with (fail)
          refine (run_up S6.out).mono ?_
          rintro e w7 ⟨rfl, rfl⟩
          rw [hoff]
          go_wp2
          exact ⟨⟨i + 1, R.1, X6, by go_num, by omega, S6, hI⟩, by simp [intOf]; omega⟩
    · have q1 : ¬ (i : Int) < (N : Int) := by omega
      obtain rfl : i = N := by omega
      have hend := arm_end I.out (min i al) (.inr ⟨by omega, by omega⟩)
      go_wp2_with (fail)
      refine (run_start S.out).mono ?_
      rintro e w6 ⟨X6, rfl, s6, -⟩
      go_wp2_with (fail)
      refine (run_read s6 nf (by decide)).mono ?_
      rintro e w7 ⟨vb, rfl, rb, hm7⟩
      obtain ⟨bb, hbb⟩ : ∃ b, (readA (startA A) nf).1 = b := ⟨_, rfl⟩
      rw [hbb] at hend rb
      have S7 := Lib.hid (s6.still hm7)
      obtain ⟨ab, cb, hvb, _, _⟩ := (rdc_own rb).2
      subst hvb
      obtain ⟨L, hL⟩ : ∃ L, bb.length = L := ⟨_, rfl⟩
      rw [hL] at hend ⊢
      obtain ⟨dn, hdn⟩ : ∃ x, (min i al) = x := ⟨_, rfl⟩
      rw [hdn] at hend
      have g1 : (dn : Int).tdiv 2 = ((dn / 2 : Nat) : Int) := by rw [Int.tdiv_eq_ediv_of_nonneg (by omega)]; omega
      have g2 : ((dn : Int) + 1).tdiv 2 = (((dn + 1) / 2 : Nat) : Int) := by rw [Int.tdiv_eq_ediv_of_nonneg (by omega)]; omega
      have g3 : IntKind.i64.wrap ((dn : Int) + 1) = (dn : Int) + 1 := by rw [IntKind.wrap_i64]; omega
      have g4 : IntKind.i64.wrap ((((dn + 1) / 2 : Nat) : Int) + 1) = (((dn + 1) / 2 : Nat) : Int) + 1 := by rw [IntKind.wrap_i64]; omega
      have g5 : ((dn / 2 : Nat) : Int) ≤ (L : Int) := by omega
      have g6 : (L : Int) ≤ (((dn + 1) / 2 : Nat) : Int) + 1 := by omega
      have g7 : min (i : Int) (al : Int) = (dn : Int) := by omega
      clear s6 hm7 rb hend hL hbb
      go_wp2
      go_ret
      exact ⟨ret_bool (decide_eq_true (by omega)), HM.out.trans S7.out.mod (fun _ h => h.elim)⟩
theorem arms_any (deeds after : Int) (k : Nat) (w : World) (hd : -9223372036854775808 ≤ deeds ∧ deeds ≤ 9223372036854775807) (ha : -9223372036854775808 ≤ after ∧ after ≤ 9223372036854775807) (hk : k < 18446744073709551616) :
    Calls Try.prog 5 #[.int .i64 deeds, .int .i64 after, .int .u64 (k : Int)] w fun e w' => e = .returned (.bool true) ∧ Mod (fun _ => False) w w' := by
  rcases (show deeds < 0 ∨ 0 ≤ deeds by omega) with h | h
  · rcases (show after < -1 ∨ after = -1 ∨ 0 ≤ after by omega) with g | g | g
    · exact arms_nn deeds after k w ⟨h, hd.1⟩ ⟨g, ha.1⟩ hk
    · subst g; exact arms_nm deeds k w ⟨h, hd.1⟩ hk
    · obtain ⟨a, rfl⟩ := Int.eq_ofNat_of_zero_le g
      exact arms_np deeds a k w ⟨h, hd.1⟩ (by omega) hk
  · obtain ⟨D, rfl⟩ := Int.eq_ofNat_of_zero_le h
    rcases (show after < -1 ∨ after = -1 ∨ 0 ≤ after by omega) with g | g | g
    · exact arms_pn D after k w (by omega) ⟨g, ha.1⟩ hk
    · subst g; exact arms_pm D k w (by omega) hk
    · obtain ⟨a, rfl⟩ := Int.eq_ofNat_of_zero_le g
      exact arms_pp D a k w (by omega) (by omega) hk
end Go.Proofs.Ytoceddcppbddnaa
