/-
  AclMany's walk.
-/
import Derived.Test.YtpbdcjgconopnaaPm
namespace Go.Proofs.Ytpbdcjgconopnaa
open Go.RowKit Mem
set_option linter.unusedVariables false

theorem wn_len (j : Nat) : (wn j).length ≤ 9223372036854775807 := by show 5 ≤ _; decide

set_option maxRecDepth 100000 in
set_option maxHeartbeats 6400000 in
theorem many_any (n t : Int) (w : World) (hn1 : -9223372036854775808 ≤ n) (hn2 : n ≤ 9223372036854775807) (ht1 : -9223372036854775808 ≤ t) (ht2 : t ≤ 9223372036854775807) : Calls Try.prog 5 #[.int .i64 n, .int .i64 t] w (Same' true w) := by
  go_enter Try.func5, Try.ntmps5
  go_wp2_with (fail)
  refine (shown_any w).mono ?_
  rintro e w1 ⟨rfl, hm1⟩
  have HM1 := Lib.hid hm1
  clear hm1
  go_upto_if 19 with (fail)
  go_cut [0] (fun v wx => ∃ z : Int, v = .int .i64 z ∧ 0 ≤ z ∧ z ≤ 9223372036854775807 ∧ wx = w1)
  case first =>
    by_cases hneg : n < 0
    · have hw1 : IntKind.i64.wrap (n + 1) = n + 1 := by rw [IntKind.wrap_i64]; omega
      have hw2 : IntKind.i64.wrap (-(n + 1)) = -(n + 1) := by rw [IntKind.wrap_i64]; omega
      go_wp2
      go_meet
      case rel => exact ⟨_, rfl, by omega, by omega, rfl⟩
    · go_wp2
      go_meet
      case rel => exact ⟨_, rfl, by omega, by omega, rfl⟩
  case rest =>
    obtain ⟨z, rfl, hz0, hz1, rfl⟩ := hcut
    obtain ⟨N, hN⟩ : ∃ N : Nat, z.tmod 80 = (N : Int) := ⟨(z.tmod 80).toNat, (Int.toNat_of_nonneg (Int.tmod_nonneg _ hz0)).symm⟩
    have hN80 : N < 80 := by
      have : z.tmod 80 < 80 := Int.tmod_lt_of_pos _ (by decide)
      omega
    have HG0 : Hid (Gs wc (.slice none 0 0) (many (min 0 64))) := Lib.hid (.inl ⟨rfl, rfl⟩)
    go_wp2_with (fail)
    go_loopw [6, 7, 8, 9] (fun v i _ _ wr => ∃ k : Nat, i = .int .i64 k ∧ k ≤ N ∧ Hid (Gs wr v (many (min k 64))) ∧ Hid (Mod (fun _ => False) w wr)) (fun _ i _ _ _ => N - (intOf i).toNat)
    case atStart => exact ⟨0, rfl, by omega, HG0, HM1⟩
    case round =>
      obtain ⟨k, rfl, hk, hG, hM⟩ := hrel
      by_cases hlt : k < N
      · have hq0 : (k : Int) < (N : Int) := by omega
        have hq3 : (k : Int).tmod 3 = (k : Int) % 3 := Int.tmod_eq_emod_of_nonneg (by omega)
        have hw1 : IntKind.i64.wrap (1 + (k : Int) % 3) = 1 + (k : Int) % 3 := by rw [IntKind.wrap_i64]; omega
        have hw2 : IntKind.i64.wrap ((k : Int) + 1) = (k : Int) + 1 := by rw [IntKind.wrap_i64]; omega
        go_wp2_with (fail)
        refine (wn_any k (by omega) wr).mono ?_
        rintro e w2 ⟨rfl, hm2⟩
        have HM2 : Hid (Mod (fun _ => False) w w2) := Lib.hid (hM.out.trans hm2 (fun _ h => h.elim))
        have HG2 := Lib.hid (hG.out.new hm2)
        clear hm2
        go_wp2_with (fail)
        refine (set_c [97] (wn k) (1 + (k : Int) % 3) w2 HG2.out (right_goks (many_right (by omega))) ⟨by show 1 ≤ _; decide, wn_len k, by show -9223372036854775808 ≤ 1 + (k : Int) % 3; omega, by show 1 + (k : Int) % 3 ≤ 9223372036854775807; omega⟩).mono ?_
        rintro e w3 ⟨v3, c3, m3, rfl, hs3, hG3, hm3⟩
        have HM3 : Hid (Mod (fun _ => False) w w3) := Lib.hid (HM2.out.trans hm3 (fun _ h => h.elim))
        have HG3 := Lib.hid hG3
        have HO3 := Lib.hid (HG2.out.new hm3)
        clear hm3 hG3
        by_cases h64 : k < 64
        · have hmin : min k 64 = k := by omega
          rw [hmin] at hs3
          obtain ⟨rfl, rfl⟩ := set_next h64 hs3
          obtain ⟨A3, p3, rfl, _, hp3, _⟩ := HG3.out.form
          unfold maxLen at hp3
          rw [many_len] at HG3
          have hq64 : ¬ (64 : Int) ≤ (k : Int) := by omega
          have hml := many_len (k + 1)
          have Hg : Hid (Gs w3 (.slice A3 (k + 1) p3) (many (min (k + 1) 64))) := Lib.hid (by rw [show min (k + 1) 64 = k + 1 by omega]; exact HG3.out)
          clear hs3 HG3 hG HG2
          rw [hml]
          go_wp2
          go_roundw
          case rel => exact ⟨k + 1, by go_num, by omega, Hg, HM3⟩
          case measure => simp [intOf]; omega
        · have hmin : min k 64 = 64 := by omega
          rw [hmin] at hs3
          obtain ⟨rfl, rfl⟩ := set_full (by omega) (by omega) hs3
          obtain ⟨A3, p3, rfl, _, hp3, _⟩ := HG3.out.form
          have hq64 : (64 : Int) ≤ (k : Int) := by omega
          rw [show min k 64 = min (k + 1) 64 by omega] at HO3
          clear hs3 HG3 hG HG2
          go_wp2
          go_roundw
          case rel => exact ⟨k + 1, by go_num, by omega, HO3, HM3⟩
          case measure => simp [intOf]; omega
      · obtain rfl : k = N := by omega
        obtain ⟨K, hK⟩ : ∃ K, min k 64 = K := ⟨_, rfl⟩
        rw [hK] at hG
        have hK64 : K ≤ 64 := by omega
        have hKk : K = 0 ∨ 0 < K := by omega
        clear hK hN HG0 HM1
        obtain ⟨A, p, rfl, _, hp, _⟩ := hG.out.form
        unfold maxLen at hp
        rw [many_len] at hG
        have hml := many_len K
        rw [hml]
        clear hml
        rcases hKk with rfl | hKp
        · go_wp2
          go_ret
          exact ⟨rfl, hM.out⟩
        have hq0 : ¬ ((K : Int) = 0) := by omega
        have hq0' : ((K : Int) == 0) = false := by rw [beq_eq_false_iff_ne]; exact hq0
        go_upto_if 65 with (fail)
        go_cut [1] (fun v wx => ∃ z : Int, v = .int .i64 z ∧ 0 ≤ z ∧ z ≤ 9223372036854775807 ∧ wx = wr)
        case first =>
          by_cases hneg : t < 0
          · have hw1 : IntKind.i64.wrap (t + 1) = t + 1 := by rw [IntKind.wrap_i64]; omega
            have hw2 : IntKind.i64.wrap (-(t + 1)) = -(t + 1) := by rw [IntKind.wrap_i64]; omega
            go_wp2
            go_meet
            case rel => exact ⟨_, rfl, by omega, by omega, rfl⟩
          · go_wp2
            go_meet
            case rel => exact ⟨_, rfl, by omega, by omega, rfl⟩
        case rest =>
          obtain ⟨y, rfl, hy0, hy1, rfl⟩ := hcut
          obtain ⟨j, hj⟩ : ∃ j : Nat, y.tmod (K : Int) = (j : Int) := ⟨(y.tmod (K : Int)).toNat, (Int.toNat_of_nonneg (Int.tmod_nonneg _ hy0)).symm⟩
          have hjK : j < K := by
            have : y.tmod (K : Int) < (K : Int) := Int.tmod_lt_of_pos _ (by omega)
            omega
          go_wp2_with (fail)
          refine (wn_any j (by omega) wc).mono ?_
          rintro e w2 ⟨rfl, hm2⟩
          have HM2 : Hid (Mod (fun _ => False) w w2) := Lib.hid (hM.out.trans hm2 (fun _ h => h.elim))
          have HG2 := Lib.hid (hG.out.new hm2)
          clear hm2 hG hM hj
          go_wp2_with (fail)
          have HG2' : Hid (Gs w2 (.slice A K p) (many K)) := HG2
          refine (set_c [97] (wn j) 2 w2 HG2.out (right_goks (many_right hK64)) ⟨by show 1 ≤ _; decide, wn_len j, by show -9223372036854775808 ≤ (2 : Int); decide, by show (2 : Int) ≤ 9223372036854775807; decide⟩).mono ?_
          rintro e w3 ⟨v3, c3, x3, rfl, hs3, hG3, hm3⟩
          obtain ⟨rfl, hlx, hrx, hmx, hax⟩ := many_x hK64 hjK hs3
          have HM3 : Hid (Mod (fun _ => False) w w3) := Lib.hid (HM2.out.trans hm3 (fun _ h => h.elim))
          have HG3 := Lib.hid hG3
          have HR3 := Lib.hid hrx
          have HX3 := Lib.hid hmx
          have HA3 := Lib.hid hax
          clear hs3 hG3 hm3 hrx hmx hax HG2'
          obtain ⟨A3, p3, rfl, _, hp3, _⟩ := HG3.out.form
          unfold maxLen at hp3
          rw [hlx] at HG3 ⊢
          go_wp2_with (fail)
          refine (set_c [97] (wn j) 0 w3 HG3.out (right_goks HR3.out) ⟨by show 1 ≤ _; decide, wn_len j, by show -9223372036854775808 ≤ (0 : Int); decide, by show (0 : Int) ≤ 9223372036854775807; decide⟩).mono ?_
          rintro e w4 ⟨v4, c4, y4, rfl, hs4, hG4, hm4⟩
          obtain ⟨rfl, hly, hry, h0y, hay⟩ := many_y (by omega) HR3.out HX3.out HA3.out hs4
          have HM4 : Hid (Mod (fun _ => False) w w4) := Lib.hid (HM3.out.trans hm4 (fun _ h => h.elim))
          have HG4 := Lib.hid hG4
          have HR4 := Lib.hid hry
          have H04 := Lib.hid h0y
          have HA4 := Lib.hid hay
          clear hs4 hG4 hm4 hry h0y hay
          obtain ⟨A4, p4, rfl, _, hp4, _⟩ := HG4.out.form
          unfold maxLen at hp4
          rw [hlx] at hly
          clear hlx
          go_wp2_with (fail)
          refine (set_c [99] dnew 3 w4 HG4.out (right_goks HR4.out) ⟨by show 1 ≤ _; decide, by show 5 ≤ _; decide, by show -9223372036854775808 ≤ (3 : Int); decide, by show (3 : Int) ≤ 9223372036854775807; decide⟩).mono ?_
          rintro e w5 ⟨v5, c5, z5, rfl, hs5, hG5, hm5⟩
          obtain ⟨rfl, hlz, hrz, hm1z, hm2z⟩ := many_z (by omega) HR4.out H04.out HA4.out hs5
          have HM5 : Hid (Mod (fun _ => False) w w5) := Lib.hid (HM4.out.trans hm5 (fun _ h => h.elim))
          have HG5 := Lib.hid hG5
          have HR5 := Lib.hid hrz
          have H15 := Lib.hid hm1z
          have H25 := Lib.hid hm2z
          clear hs5 hG5 hm5 hrz hm1z hm2z
          obtain ⟨A5, p5, rfl, _, hp5, _⟩ := HG5.out.form
          unfold maxLen at hp5
          have hz5 : z5.length = K := by omega
          rw [hz5] at HG5 ⊢
          clear hlz hz5
          have l2 : (y4.length : Int) = (K : Int) - 1 := by omega
          go_wp2_with (fail)
          refine (may_b [99] dnew w5 HG5.out (right_goks HR5.out) (by show 5 ≤ _; decide) H15.out).mono ?_
          rintro e w6 ⟨rfl, hm6⟩
          have HM6 : Hid (Mod (fun _ => False) w w6) := Lib.hid (HM5.out.trans hm6 (fun _ h => h.elim))
          have HG6 := Lib.hid (HG5.out.new hm6)
          clear hm6
          go_wp2_with (fail)
          refine (may_b [97] (wn j) w6 HG6.out (right_goks HR5.out) (wn_len j) H25.out).mono ?_
          rintro e w7 ⟨rfl, hm7⟩
          have HM7 : Hid (Mod (fun _ => False) w w7) := Lib.hid (HM6.out.trans hm7 (fun _ h => h.elim))
          clear hm7
          go_wp2
          go_ret
          exact ⟨rfl, HM7.out⟩
end Go.Proofs.Ytpbdcjgconopnaa
