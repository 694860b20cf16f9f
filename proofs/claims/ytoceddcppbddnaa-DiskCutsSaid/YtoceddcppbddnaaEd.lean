/-
  DiskCuts' walk.
-/
import Derived.Test.YtoceddcppbddnaaEb
namespace Go.Proofs.Ytoceddcppbddnaa
open Go.RowKit Mem Go.Maps
set_option linter.unusedVariables false
set_option linter.unusedSimpArgs false

/-- One file, some of its bytes lasting. -/
def one1 (b : Bs) (s : Nat) : Ab := big [(nf, b, s)]
theorem cut_out {b : Bs} {s : Nat} {n : Int} (h : n < 0 ∨ n > (b.length : Int)) : cutA (one1 b s) nf n = (one1 b s, 1) := by
  show (if n < 0 ∨ n > (b.length : Int) then _ else _) = _
  rw [if_pos h]
theorem cut_in {b : Bs} {s n : Nat} (h : n ≤ b.length) : cutA (one1 b s) nf (n : Int) = (one1 (b.take n) (min n s), 0) := by
  show (if (n : Int) < 0 ∨ (n : Int) > (b.length : Int) then _ else _) = _
  rw [if_neg (by omega)]
  rfl
theorem one_read (b : Bs) (s : Nat) : readA (one1 b s) nf = (b, 0) := rfl
theorem one_falls (b : Bs) (s : Nat) : (one1 b s).falls < 1000000 := by show (0 : Int) < 1000000; decide
theorem one_crash (k : Nat) (b : Bs) (s : Nat) : startA (crashA k (one1 b s)) = bigN [(nf, b.take (nn k 0 (nf, b, s)), nn k 0 (nf, b, s))] 1 := rfl
theorem bigN_read (b : Bs) (s : Nat) (f : Int) : readA (bigN [(nf, b, s)] f) nf = (b, 0) := rfl
set_option maxRecDepth 100000 in
set_option maxHeartbeats 6400000 in
/-- From the cut on: with so many bytes lasting. -/
theorem cuts_any (b : Bs) (va : Value) (n : Int) (sync : Bool) (k : Nat) (w : World) (h1 : RdC w va b) (hn : -9223372036854775808 ≤ n ∧ n ≤ 9223372036854775807) (hk : k < 18446744073709551616) :
    Calls Try.prog 6 #[va, .int .i64 n, .bool sync, .int .u64 (k : Int)] w fun e w' => e = .returned (.bool true) ∧ Mod (fun _ => False) w w' := by
  have hsh := shown_any w
  obtain ⟨a1, c1, hv1, hc1, hm1⟩ := h1.2
  subst hv1
  obtain ⟨l1, hl1⟩ : ∃ n, b.length = n := ⟨_, rfl⟩
  rw [hl1] at h1
  have H1 := Lib.hid h1
  clear h1
  rw [hl1]
  have hmx : (l1 : Int) ≤ 9223372036854775807 := by unfold maxLen at hm1; omega
  by_cases hlong : (l1 : Int) > 100000
  · clear hmx
    go_enter Try.func6, Try.ntmps6
    go_wp2_with (fail)
    refine hsh.mono ?_
    rintro e w1 ⟨rfl, hM1⟩
    go_wp2_with (fail)
    refine (run_new w1 1099511627776 (by decide)).mono ?_
    rintro e w2 ⟨d, X2, rfl, s2⟩
    go_wp2
    go_ret
    exact ⟨rfl, hM1.trans s2.mod (fun _ h => h.elim)⟩
  · have hsum : b.length ≤ 100000 := by omega
    by_cases hout : n < 0 ∨ n > (b.length : Int)
    · have q : n < 0 ∨ (0 ≤ n ∧ n > (l1 : Int)) := by omega
      rcases q with q | ⟨q, q'⟩
      · cases sync with
        | true =>
          go_enter Try.func6, Try.ntmps6
          go_wp2_with (fail)
          refine hsh.mono ?_
          rintro e w1 ⟨rfl, hM1⟩
          go_wp2_with (fail)
          refine (run_new w1 1099511627776 (by decide)).mono ?_
          rintro e w2 ⟨d, X2, rfl, s2⟩
          replace s2 : Run w1 d X2 (big []) w2 := s2
          have HM := Lib.hid hM1
          clear hM1
          go_wp2_with (fail)
          refine (run_append s2 nf _ b ((H1.out.still HM.out).run s2).1 (by decide) (by decide) (by decide) (by show 0 + b.length ≤ _; omega)).mono ?_
          rintro e w3 ⟨X3, rfl, s3, -⟩
          rw [keeps1 hsum] at s3 ⊢
          go_wp2_with (fail)
          refine (run_sync s3 nf (by decide) (big_falls _)).mono ?_
          rintro e w4 ⟨X4, rfl, s4, -⟩
          rw [keeps2] at s4 ⊢
          replace s4 : Run w1 d X4 (one1 b b.length) w4 := s4
          clear s2 s3
          go_wp2_with (fail)
          refine (run_cut s4 nf n (by decide) (one_falls _ _)).mono ?_
          rintro e w5 ⟨X5, rfl, s5, -⟩
          rw [cut_out hout] at s5 ⊢
          clear s4
          go_wp2_with (fail)
          refine (run_read s5 nf (by decide)).mono ?_
          rintro e w6 ⟨v6, rfl, r6, hm6⟩
          rw [one_read] at r6 ⊢
          have s6 := s5.still hm6
          have t6 := (rd_own r6).text
          obtain ⟨a6, c6, hv6, _, _⟩ := (rdc_own r6).2
          subst hv6
          rw [hl1] at t6
          have t7 := (((H1.out.still HM.out).run s6).1).text
          have ex : ((sv b).toList == (sv b).toList) = true := by simp
          have S6 := Lib.hid s6
          clear s5 s6 r6 hm6
          go_wp2
          go_ret
          exact ⟨rfl, HM.out.trans S6.out.mod (fun _ h => h.elim)⟩
        | false =>
          go_enter Try.func6, Try.ntmps6
          go_wp2_with (fail)
          refine hsh.mono ?_
          rintro e w1 ⟨rfl, hM1⟩
          go_wp2_with (fail)
          refine (run_new w1 1099511627776 (by decide)).mono ?_
          rintro e w2 ⟨d, X2, rfl, s2⟩
          replace s2 : Run w1 d X2 (big []) w2 := s2
          have HM := Lib.hid hM1
          clear hM1
          go_wp2_with (fail)
          refine (run_append s2 nf _ b ((H1.out.still HM.out).run s2).1 (by decide) (by decide) (by decide) (by show 0 + b.length ≤ _; omega)).mono ?_
          rintro e w3 ⟨X3, rfl, s3, -⟩
          rw [keeps1 hsum] at s3 ⊢
          have s4 : Run w1 d X3 (one1 b 0) w3 := s3
          clear s2 s3
          go_wp2_with (fail)
          refine (run_cut s4 nf n (by decide) (one_falls _ _)).mono ?_
          rintro e w5 ⟨X5, rfl, s5, -⟩
          rw [cut_out hout] at s5 ⊢
          clear s4
          go_wp2_with (fail)
          refine (run_read s5 nf (by decide)).mono ?_
          rintro e w6 ⟨v6, rfl, r6, hm6⟩
          rw [one_read] at r6 ⊢
          have s6 := s5.still hm6
          have t6 := (rd_own r6).text
          obtain ⟨a6, c6, hv6, _, _⟩ := (rdc_own r6).2
          subst hv6
          rw [hl1] at t6
          have t7 := (((H1.out.still HM.out).run s6).1).text
          have ex : ((sv b).toList == (sv b).toList) = true := by simp
          have S6 := Lib.hid s6
          clear s5 s6 r6 hm6
          go_wp2
          go_ret
          exact ⟨rfl, HM.out.trans S6.out.mod (fun _ h => h.elim)⟩
      · cases sync with
        | true =>
          have q0 : ¬ n < 0 := by omega
          go_enter Try.func6, Try.ntmps6
          go_wp2_with (fail)
          refine hsh.mono ?_
          rintro e w1 ⟨rfl, hM1⟩
          go_wp2_with (fail)
          refine (run_new w1 1099511627776 (by decide)).mono ?_
          rintro e w2 ⟨d, X2, rfl, s2⟩
          replace s2 : Run w1 d X2 (big []) w2 := s2
          have HM := Lib.hid hM1
          clear hM1
          go_wp2_with (fail)
          refine (run_append s2 nf _ b ((H1.out.still HM.out).run s2).1 (by decide) (by decide) (by decide) (by show 0 + b.length ≤ _; omega)).mono ?_
          rintro e w3 ⟨X3, rfl, s3, -⟩
          rw [keeps1 hsum] at s3 ⊢
          go_wp2_with (fail)
          refine (run_sync s3 nf (by decide) (big_falls _)).mono ?_
          rintro e w4 ⟨X4, rfl, s4, -⟩
          rw [keeps2] at s4 ⊢
          replace s4 : Run w1 d X4 (one1 b b.length) w4 := s4
          clear s2 s3
          go_wp2_with (fail)
          refine (run_cut s4 nf n (by decide) (one_falls _ _)).mono ?_
          rintro e w5 ⟨X5, rfl, s5, -⟩
          rw [cut_out hout] at s5 ⊢
          clear s4
          go_wp2_with (fail)
          refine (run_read s5 nf (by decide)).mono ?_
          rintro e w6 ⟨v6, rfl, r6, hm6⟩
          rw [one_read] at r6 ⊢
          have s6 := s5.still hm6
          have t6 := (rd_own r6).text
          obtain ⟨a6, c6, hv6, _, _⟩ := (rdc_own r6).2
          subst hv6
          rw [hl1] at t6
          have t7 := (((H1.out.still HM.out).run s6).1).text
          have ex : ((sv b).toList == (sv b).toList) = true := by simp
          have S6 := Lib.hid s6
          clear s5 s6 r6 hm6
          go_wp2
          go_ret
          exact ⟨rfl, HM.out.trans S6.out.mod (fun _ h => h.elim)⟩
        | false =>
          have q0 : ¬ n < 0 := by omega
          go_enter Try.func6, Try.ntmps6
          go_wp2_with (fail)
          refine hsh.mono ?_
          rintro e w1 ⟨rfl, hM1⟩
          go_wp2_with (fail)
          refine (run_new w1 1099511627776 (by decide)).mono ?_
          rintro e w2 ⟨d, X2, rfl, s2⟩
          replace s2 : Run w1 d X2 (big []) w2 := s2
          have HM := Lib.hid hM1
          clear hM1
          go_wp2_with (fail)
          refine (run_append s2 nf _ b ((H1.out.still HM.out).run s2).1 (by decide) (by decide) (by decide) (by show 0 + b.length ≤ _; omega)).mono ?_
          rintro e w3 ⟨X3, rfl, s3, -⟩
          rw [keeps1 hsum] at s3 ⊢
          have s4 : Run w1 d X3 (one1 b 0) w3 := s3
          clear s2 s3
          go_wp2_with (fail)
          refine (run_cut s4 nf n (by decide) (one_falls _ _)).mono ?_
          rintro e w5 ⟨X5, rfl, s5, -⟩
          rw [cut_out hout] at s5 ⊢
          clear s4
          go_wp2_with (fail)
          refine (run_read s5 nf (by decide)).mono ?_
          rintro e w6 ⟨v6, rfl, r6, hm6⟩
          rw [one_read] at r6 ⊢
          have s6 := s5.still hm6
          have t6 := (rd_own r6).text
          obtain ⟨a6, c6, hv6, _, _⟩ := (rdc_own r6).2
          subst hv6
          rw [hl1] at t6
          have t7 := (((H1.out.still HM.out).run s6).1).text
          have ex : ((sv b).toList == (sv b).toList) = true := by simp
          have S6 := Lib.hid s6
          clear s5 s6 r6 hm6
          go_wp2
          go_ret
          exact ⟨rfl, HM.out.trans S6.out.mod (fun _ h => h.elim)⟩
    · obtain ⟨m, rfl⟩ := Int.eq_ofNat_of_zero_le (show 0 ≤ n by omega)
      have hin : m ≤ b.length := by omega
      have q1 : ¬ (m : Int) > (l1 : Int) := by omega
      have hmc : m ≤ c1 := by omega
      have hbm : (b.take m).length = m := by rw [List.length_take]; omega
      cases sync with
      | true =>
        go_enter Try.func6, Try.ntmps6
        go_wp2_with (fail)
        refine hsh.mono ?_
        rintro e w1 ⟨rfl, hM1⟩
        go_wp2_with (fail)
        refine (run_new w1 1099511627776 (by decide)).mono ?_
        rintro e w2 ⟨d, X2, rfl, s2⟩
        replace s2 : Run w1 d X2 (big []) w2 := s2
        have HM := Lib.hid hM1
        clear hM1
        go_wp2_with (fail)
        refine (run_append s2 nf _ b ((H1.out.still HM.out).run s2).1 (by decide) (by decide) (by decide) (by show 0 + b.length ≤ _; omega)).mono ?_
        rintro e w3 ⟨X3, rfl, s3, -⟩
        rw [keeps1 hsum] at s3 ⊢
        go_wp2_with (fail)
        refine (run_sync s3 nf (by decide) (big_falls _)).mono ?_
        rintro e w4 ⟨X4, rfl, s4, -⟩
        rw [keeps2] at s4 ⊢
        replace s4 : Run w1 d X4 (one1 b b.length) w4 := s4
        clear s2 s3
        go_wp2_with (fail)
        refine (run_cut s4 nf (m : Int) (by decide) (one_falls _ _)).mono ?_
        rintro e w5 ⟨X5, rfl, s5, -⟩
        rw [cut_in hin] at s5 ⊢
        clear s4
        go_wp2_with (fail)
        refine (run_read s5 nf (by decide)).mono ?_
        rintro e w6 ⟨v6, rfl, r6, hm6⟩
        rw [one_read] at r6 ⊢
        have s6 := s5.still hm6
        have f6 : ∀ g, v6.ownBlock = some g → ¬ Foot d X5 g := fun g hg => s5.fresh (own_lt r6 hg).1
        obtain ⟨a6, c6, hv6, hc6, hc6'⟩ := (rdc_own r6).2
        subst hv6
        have R6 := Lib.hid r6
        have F6 := Lib.hid f6
        clear s5 hm6 r6 f6
        go_wp2_with (fail)
        refine (run_crash s6 k hk (one_falls _ _)).mono ?_
        rintro e w7 ⟨X7, rfl, s7, D7⟩
        have R7 := own_mod R6.out D7.m F6.out
        have F7 : ∀ g, (Value.slice a6 (b.take m).length c6).ownBlock = some g → ¬ Foot d X7 g := fun g hg => D7.far (F6.out g hg) (own_lt R6.out hg).2
        have HRF := Lib.hid (And.intro R7 F7)
        clear s6 D7 R6 F6 R7 F7
        go_wp2_with (fail)
        refine (run_start s7).mono ?_
        rintro e w8 ⟨X8, rfl, s8, D8⟩
        rw [one_crash] at s8
        have R8 := Lib.hid (own_mod HRF.out.1 D8.m HRF.out.2)
        clear s7 D8 HRF
        have hN := nn_le (k := k) (i := 0) (p := (nf, b.take m, min m b.length)) (by show min m b.length ≤ (b.take m).length; rw [hbm]; omega)
        have hNF := nn_full (k := k) (i := 0) (p := (nf, b.take m, min m b.length)) (by show min m b.length = (b.take m).length; rw [hbm]; omega)
        obtain ⟨N, hNe⟩ : ∃ N, nn k 0 (nf, b.take m, min m b.length) = N := ⟨_, rfl⟩
        rw [hNe] at hN s8 hNF
        replace hN : N ≤ (b.take m).length := hN
        replace hNF : N = min m b.length := hNF
        obtain ⟨x, hx⟩ : ∃ x, b.take m = x := ⟨_, rfl⟩
        obtain ⟨y, hy⟩ : ∃ y, x.take N = y := ⟨_, rfl⟩
        have hyx : x = y := by symm; rw [← hy]; apply List.take_of_length_le; rw [← hx, hbm]; omega
        rw [hx] at hN s8 R8 hbm
        have hxl : x.length = m := hbm
        have hyl : y.length = N := by rw [← hy, List.length_take]; omega
        rw [hy] at s8
        have HBG : Hid ((decide (y.length ≤ x.length) && (x.take y.length == y)) = true) := Lib.hid (by rw [hyl, decide_eq_true (by omega), hy]; simp)
        have HX := Lib.hid hx
        clear hNe hy hNF
        subst hyx
        clear hyl hN
        go_wp2_with (fail)
        refine (run_read s8 nf (by decide)).mono ?_
        rintro e w9 ⟨v9, rfl, r9, hm9⟩
        rw [bigN_read] at r9 ⊢
        have s9 := s8.still hm9
        have R9 := Lib.hid (own_mod R8.out hm9 (fun _ _ h => h))
        obtain ⟨a9, c9, hv9, hc9, hc9'⟩ := (rdc_own r9).2
        subst hv9
        have RY := Lib.hid r9
        have H1s := (H1.out.still HM.out).run s9
        have t1 : ∀ z : After w9, (convert 22 9 (.slice a6 x.length c6)).run Try.prog z.w = .ok (.string (sv x)) z.w := fun z => ((rd_own R9.out).mod z.m (fun _ _ h => h)).text
        have t2 : ∀ z : After w9, (convert 22 9 (.slice a1 m c1)).run Try.prog z.w = .ok (.string (sv (b.take m))) z.w := fun z => text_take (H1s.1.mod z.m (fun _ _ h => h)) m c1 hin
        rw [HX.out] at t2
        have ex : ((sv x).toList == (sv x).toList) = true := by simp
        have S9 := Lib.hid s9
        have hbeg : ∀ z : After w9, Calls Try.prog 16 #[.slice a9 x.length c9, .slice a6 x.length c6] z.w fun e w' => e = .returned (.bool true) ∧ Mod (fun _ => False) z.w w' := fun z => by
          have := begins_any z.w _ _ x x (rdc_own (own_mod RY.out z.m (fun _ _ h => h))) (rdc_own (own_mod R9.out z.m (fun _ _ h => h)))
          rw [HBG.out] at this
          exact this
        rw [hxl] at t1 hbeg
        clear s8 s9 hm9 r9 H1s hx R8 HBG
        go_wp2_with (fail)
        refine region_calm (by kernel_rfl) (by kernel_rfl) ?_
        repeat (go_big_quiet_step (first | (go_at_call 16; exact calm_call (hbeg _))))
        refine calm_end (fun w10 hm10 => ?_)
        have M10 := Lib.hid hm10
        have u1 := ((rd_own R9.out).mod hm10 (fun _ _ h => h)).text
        rw [hxl] at u1
        have u2 := ((rd_own RY.out).mod hm10 (fun _ _ h => h)).text
        rw [hxl] at u2
        clear hm10 t1 t2 hbeg
        go_wp2
        go_ret
        exact ⟨rfl, (HM.out.trans S9.out.mod (fun _ h => h.elim)).trans M10.out (fun _ h => h.elim)⟩
      | false =>
        go_enter Try.func6, Try.ntmps6
        go_wp2_with (fail)
        refine hsh.mono ?_
        rintro e w1 ⟨rfl, hM1⟩
        go_wp2_with (fail)
        refine (run_new w1 1099511627776 (by decide)).mono ?_
        rintro e w2 ⟨d, X2, rfl, s2⟩
        replace s2 : Run w1 d X2 (big []) w2 := s2
        have HM := Lib.hid hM1
        clear hM1
        go_wp2_with (fail)
        refine (run_append s2 nf _ b ((H1.out.still HM.out).run s2).1 (by decide) (by decide) (by decide) (by show 0 + b.length ≤ _; omega)).mono ?_
        rintro e w3 ⟨X3, rfl, s3, -⟩
        rw [keeps1 hsum] at s3 ⊢
        have s4 : Run w1 d X3 (one1 b 0) w3 := s3
        clear s2 s3
        go_wp2_with (fail)
        refine (run_cut s4 nf (m : Int) (by decide) (one_falls _ _)).mono ?_
        rintro e w5 ⟨X5, rfl, s5, -⟩
        rw [cut_in hin] at s5 ⊢
        clear s4
        go_wp2_with (fail)
        refine (run_read s5 nf (by decide)).mono ?_
        rintro e w6 ⟨v6, rfl, r6, hm6⟩
        rw [one_read] at r6 ⊢
        have s6 := s5.still hm6
        have f6 : ∀ g, v6.ownBlock = some g → ¬ Foot d X5 g := fun g hg => s5.fresh (own_lt r6 hg).1
        obtain ⟨a6, c6, hv6, hc6, hc6'⟩ := (rdc_own r6).2
        subst hv6
        have R6 := Lib.hid r6
        have F6 := Lib.hid f6
        clear s5 hm6 r6 f6
        go_wp2_with (fail)
        refine (run_crash s6 k hk (one_falls _ _)).mono ?_
        rintro e w7 ⟨X7, rfl, s7, D7⟩
        have R7 := own_mod R6.out D7.m F6.out
        have F7 : ∀ g, (Value.slice a6 (b.take m).length c6).ownBlock = some g → ¬ Foot d X7 g := fun g hg => D7.far (F6.out g hg) (own_lt R6.out hg).2
        have HRF := Lib.hid (And.intro R7 F7)
        clear s6 D7 R6 F6 R7 F7
        go_wp2_with (fail)
        refine (run_start s7).mono ?_
        rintro e w8 ⟨X8, rfl, s8, D8⟩
        rw [one_crash] at s8
        have R8 := Lib.hid (own_mod HRF.out.1 D8.m HRF.out.2)
        clear s7 D8 HRF
        have hN := nn_le (k := k) (i := 0) (p := (nf, b.take m, min m 0)) (by show min m 0 ≤ (b.take m).length; rw [hbm]; omega)
        obtain ⟨N, hNe⟩ : ∃ N, nn k 0 (nf, b.take m, min m 0) = N := ⟨_, rfl⟩
        rw [hNe] at hN s8 
        replace hN : N ≤ (b.take m).length := hN
        obtain ⟨x, hx⟩ : ∃ x, b.take m = x := ⟨_, rfl⟩
        obtain ⟨y, hy⟩ : ∃ y, x.take N = y := ⟨_, rfl⟩
        rw [hx] at hN s8 R8 hbm
        have hxl : x.length = m := hbm
        have hyl : y.length = N := by rw [← hy, List.length_take]; omega
        rw [hy] at s8
        have HBG : Hid ((decide (y.length ≤ x.length) && (x.take y.length == y)) = true) := Lib.hid (by rw [hyl, decide_eq_true (by omega), hy]; simp)
        have HX := Lib.hid hx
        clear hNe hy 
        
        go_wp2_with (fail)
        refine (run_read s8 nf (by decide)).mono ?_
        rintro e w9 ⟨v9, rfl, r9, hm9⟩
        rw [bigN_read] at r9 ⊢
        have s9 := s8.still hm9
        have R9 := Lib.hid (own_mod R8.out hm9 (fun _ _ h => h))
        obtain ⟨a9, c9, hv9, hc9, hc9'⟩ := (rdc_own r9).2
        subst hv9
        have RY := Lib.hid r9
        have H1s := (H1.out.still HM.out).run s9
        have t1 : ∀ z : After w9, (convert 22 9 (.slice a6 x.length c6)).run Try.prog z.w = .ok (.string (sv x)) z.w := fun z => ((rd_own R9.out).mod z.m (fun _ _ h => h)).text
        have t2 : ∀ z : After w9, (convert 22 9 (.slice a1 m c1)).run Try.prog z.w = .ok (.string (sv (b.take m))) z.w := fun z => text_take (H1s.1.mod z.m (fun _ _ h => h)) m c1 hin
        rw [HX.out] at t2
        have ex : ((sv x).toList == (sv x).toList) = true := by simp
        have S9 := Lib.hid s9
        have hbeg : ∀ z : After w9, Calls Try.prog 16 #[.slice a9 y.length c9, .slice a6 x.length c6] z.w fun e w' => e = .returned (.bool true) ∧ Mod (fun _ => False) z.w w' := fun z => by
          have := begins_any z.w _ _ y x (rdc_own (own_mod RY.out z.m (fun _ _ h => h))) (rdc_own (own_mod R9.out z.m (fun _ _ h => h)))
          rw [HBG.out] at this
          exact this
        rw [hxl] at t1 hbeg
        rw [hyl] at hbeg
        clear s8 s9 hm9 r9 H1s hx R8 HBG
        go_wp2_with (fail)
        refine region_calm (by kernel_rfl) (by kernel_rfl) ?_
        repeat (go_big_quiet_step (first | (go_at_call 16; exact calm_call (hbeg _))))
        refine calm_end (fun w10 hm10 => ?_)
        have M10 := Lib.hid hm10
        have u1 := ((rd_own R9.out).mod hm10 (fun _ _ h => h)).text
        rw [hxl] at u1
        have u2 := ((rd_own RY.out).mod hm10 (fun _ _ h => h)).text
        rw [hyl] at u2
        clear hm10 t1 t2 hbeg
        go_wp2
        go_ret
        exact ⟨rfl, (HM.out.trans S9.out.mod (fun _ h => h.elim)).trans M10.out (fun _ h => h.elim)⟩
end Go.Proofs.Ytoceddcppbddnaa
