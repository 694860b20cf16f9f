/-
  Numbers.
-/
import Derived.Test.YtknaaaphdjdaoaaDoorNp
namespace Go.Proofs.YtknaaaphdjdaoaaDoor
open Go.RowKit Mem
set_option linter.unusedVariables false
set_option linter.unusedSimpArgs false

theorem ret_tup {N : Nat} {z : Int} {k : Nat} (h : z = (k : Int)) : Ending.returned (.tuple #[.int .u64 (N : Int), .int .i64 z]) = Ending.returned (.tuple #[.int .u64 (N : Int), .int .i64 (k : Int)]) := by rw [h]
set_option maxRecDepth 100000 in
set_option maxHeartbeats 6400000 in
theorem getnum_any (x : Addr) (n c : Nat) (l : Bs) (w : World) (hn : l.length = n) (hc : ∀ (j : Nat) u, (bts l)[j]? = some u → w.cell? (x.add j) = some u) (hl : n ≤ c) (hcm : c ≤ 9223372036854775807) :
    Calls Tryd.prog 57 #[.slice (some x) n c] w fun e w' => e = .returned (.tuple #[.int .u64 ((gn l).1 : Int), .int .i64 ((gn l).2 : Int)]) ∧ w' = w := by
  by_cases h10 : n < 10
  · obtain ⟨m, hm⟩ : ∃ m, m = n := ⟨_, rfl⟩
    subst hm
    have hm10 : (m : Int) < 10 := by omega
    have hmin : min (m : Int) 10 = (m : Int) := by omega
    have hmc : (m : Int) ≤ (c : Int) := by omega
    go_enter Tryd.func57, Tryd.ntmps57
    go_wp2_with (fail)
    go_loopw [4, 13] (fun v4 v13 wr => ∃ (k acc : Nat), v4 = .int .u64 (acc : Int) ∧ v13 = .int .i64 (k : Int) ∧ k ≤ m ∧ Hid (acc < 128 ^ k) ∧ Hid (gn l = gnF k acc (l.drop k)) ∧ wr = w) (fun _ i _ => 10 - (iOf i).toNat)
    case atStart => exact ⟨0, 0, rfl, rfl, by omega, Lib.hid (by decide), Lib.hid rfl, rfl⟩
    case round =>
      obtain ⟨k, acc, rfl, rfl, hk, ha, hE, rfl⟩ := hrel
      by_cases hlt : k < m
      · have q1 : (k : Int) < (m : Int) := by omega
        have hkl : k < l.length := by omega
        obtain ⟨b, hb⟩ : ∃ b, l[k] = b := ⟨_, rfl⟩
        obtain ⟨X, hX⟩ : ∃ X, b.toNat = X := ⟨_, rfl⟩
        have hX256 : X < 256 := by rw [← hX]; exact b.toNat_lt
        have hcell : wr.cell? (x.add k) = some (.int .u8 (X : Int)) := hc k _ (by rw [← hX, ← hb]; simp [bts, hkl])
        have hdk : l.drop k = b :: l.drop (k + 1) := by rw [List.drop_eq_getElem_cons hkl, hb]
        have hstep := hE.out
        rw [hdk] at hstep
        simp only [gnF, hX] at hstep
        rw [if_neg (by omega)] at hstep
        have HA := ha
        clear ha hE hdk hX hb
        by_cases hA : k = 9 ∧ 1 < X
        · rw [if_pos (.inl hA)] at hstep
          obtain ⟨hA1, hX1⟩ := hA
          have HE := Lib.hid hstep
          have hx1 : (1 : Int) < (X : Int) := by omega
          have hk9 : (k : Int) = 9 := by omega
          have hcell9 : wr.cell? { block := x.block, off := x.off + 9 } = some (.int .u8 (X : Int)) := by have h9 := hcell; rw [hA1] at h9; exact h9
          clear hA1
          clear hstep
          go_wp2_with (fail)
          all_goals first
            | (exfalso; omega)
            | (go_ret2
               exact ⟨by rw [HE.out]; rfl, rfl⟩)
        by_cases hZ : 0 < k ∧ X = 0
        · rw [if_pos (.inr hZ)] at hstep
          obtain ⟨hk0, rfl⟩ := hZ
          have HE := Lib.hid hstep
          have hk0' : (0 : Int) < (k : Int) := by omega
          clear hstep hA
          go_wp2_with (fail)
          all_goals first
            | (exfalso; omega)
            | (go_ret2
               exact ⟨by rw [HE.out]; rfl, rfl⟩)
        have hk89 : k ≤ 8 ∨ (k = 9 ∧ X ≤ 1) := by omega
        rw [if_neg (by omega)] at hstep
        have hor := or_step acc X k hX256 HA.out hk89
        have hsh := share acc X k hX256 HA.out hk89
        obtain ⟨N, hN⟩ : ∃ N, acc + X % 128 * 128 ^ k = N := ⟨_, rfl⟩
        rw [hN] at hor hsh hstep
        by_cases h128 : X < 128
        · rw [if_pos h128] at hstep
          have hN2 : acc + X * 128 ^ k = N := by rw [← hN, Nat.mod_eq_of_lt h128]
          rw [hN2] at hstep
          have HE := Lib.hid hstep
          have hx8 : (X : Int) < 128 := by omega
          have hx0 : ¬ ((0 : Int) < (k : Int) ∧ (X : Int) = 0) := by omega
          clear hstep hN hN2 hsh HA
          go_wp2_with (fail)
          all_goals first
            | (exfalso; omega)
            | (exfalso; simp_all; omega)
            | (go_ret2
               exact ⟨by rw [HE.out]; exact ret_tup (by omega), rfl⟩)
        · rw [if_neg h128] at hstep
          have HE := Lib.hid hstep
          have hk8 : k ≤ 8 := by omega
          have hN128 := Lib.hid (hsh.2 hk8)
          have hx8 : ¬ (X : Int) < 128 := by omega
          have hk9 : ((k : Int) == 9) = false := by simp; omega
          have hX0 : ((X : Int) == 0) = false := by simp; omega
          clear hstep hN hsh HA
          go_wp2_with (fail)
          all_goals first
            | (exfalso; omega)
            | (refine ⟨⟨k + 1, N, rfl, by simp, by omega, hN128, HE, trivial⟩, ?_⟩
               show 10 - ((k : Int) + 1).toNat < 10 - (k : Int).toNat
               omega)
      · have q1 : ¬ (k : Int) < (m : Int) := by omega
        have hz : gn l = (0, 0) := by
          rw [hE.out]
          by_cases h10 : k = 10
          · rw [h10]; exact gnF_ten _ _
          · rw [List.drop_eq_nil_of_le (by omega)]; rfl
        have HE := Lib.hid hz
        clear hz ha hE
        go_wp2_with (fail)
        all_goals first
          | (exfalso; omega)
          | (go_ret2
             exact ⟨by rw [HE.out]; exact ret_tup (by omega), rfl⟩)
  by_cases h11 : 10 < n
  · have hgt : (10 : Int) < (n : Int) := by omega
    have hnn : ¬ (n : Int) < 10 := by omega
    have hmin : min (n : Int) 10 = 10 := by omega
    have hmax : max (10 : Int) 0 = 10 := by decide
    have hmc : (10 : Int) ≤ (c : Int) := by omega
    go_enter Tryd.func57, Tryd.ntmps57
    go_wp2_with (fail)
    go_loopw [4, 13] (fun v4 v13 wr => ∃ (k acc : Nat), v4 = .int .u64 (acc : Int) ∧ v13 = .int .i64 (k : Int) ∧ k ≤ 10 ∧ Hid (acc < 128 ^ k) ∧ Hid (gn l = gnF k acc (l.drop k)) ∧ wr = w) (fun _ i _ => 10 - (iOf i).toNat)
    case atStart => exact ⟨0, 0, rfl, rfl, by omega, Lib.hid (by decide), Lib.hid rfl, rfl⟩
    case round =>
      obtain ⟨k, acc, rfl, rfl, hk, ha, hE, rfl⟩ := hrel
      by_cases hlt : k < 10
      · have q1 : (k : Int) < 10 := by omega
        have hkl : k < l.length := by omega
        obtain ⟨b, hb⟩ : ∃ b, l[k] = b := ⟨_, rfl⟩
        obtain ⟨X, hX⟩ : ∃ X, b.toNat = X := ⟨_, rfl⟩
        have hX256 : X < 256 := by rw [← hX]; exact b.toNat_lt
        have hcell : wr.cell? (x.add k) = some (.int .u8 (X : Int)) := hc k _ (by rw [← hX, ← hb]; simp [bts, hkl])
        have hdk : l.drop k = b :: l.drop (k + 1) := by rw [List.drop_eq_getElem_cons hkl, hb]
        have hstep := hE.out
        rw [hdk] at hstep
        simp only [gnF, hX] at hstep
        rw [if_neg (by omega)] at hstep
        have HA := ha
        clear ha hE hdk hX hb
        by_cases hA : k = 9 ∧ 1 < X
        · rw [if_pos (.inl hA)] at hstep
          obtain ⟨hA1, hX1⟩ := hA
          have HE := Lib.hid hstep
          have hx1 : (1 : Int) < (X : Int) := by omega
          have hk9 : (k : Int) = 9 := by omega
          have hcell9 : wr.cell? { block := x.block, off := x.off + 9 } = some (.int .u8 (X : Int)) := by have h9 := hcell; rw [hA1] at h9; exact h9
          clear hA1
          clear hstep
          go_wp2_with (fail)
          all_goals first
            | (exfalso; omega)
            | (go_ret2
               exact ⟨by rw [HE.out]; rfl, rfl⟩)
        by_cases hZ : 0 < k ∧ X = 0
        · rw [if_pos (.inr hZ)] at hstep
          obtain ⟨hk0, rfl⟩ := hZ
          have HE := Lib.hid hstep
          have hk0' : (0 : Int) < (k : Int) := by omega
          clear hstep hA
          go_wp2_with (fail)
          all_goals first
            | (exfalso; omega)
            | (go_ret2
               exact ⟨by rw [HE.out]; rfl, rfl⟩)
        have hk89 : k ≤ 8 ∨ (k = 9 ∧ X ≤ 1) := by omega
        rw [if_neg (by omega)] at hstep
        have hor := or_step acc X k hX256 HA.out hk89
        have hsh := share acc X k hX256 HA.out hk89
        obtain ⟨N, hN⟩ : ∃ N, acc + X % 128 * 128 ^ k = N := ⟨_, rfl⟩
        rw [hN] at hor hsh hstep
        by_cases h128 : X < 128
        · rw [if_pos h128] at hstep
          have hN2 : acc + X * 128 ^ k = N := by rw [← hN, Nat.mod_eq_of_lt h128]
          rw [hN2] at hstep
          have HE := Lib.hid hstep
          have hx8 : (X : Int) < 128 := by omega
          have hx0 : ¬ ((0 : Int) < (k : Int) ∧ (X : Int) = 0) := by omega
          clear hstep hN hN2 hsh HA
          go_wp2_with (fail)
          all_goals first
            | (exfalso; omega)
            | (exfalso; simp_all; omega)
            | (go_ret2
               exact ⟨by rw [HE.out]; exact ret_tup (by omega), rfl⟩)
        · rw [if_neg h128] at hstep
          have HE := Lib.hid hstep
          have hk8 : k ≤ 8 := by omega
          have hN128 := Lib.hid (hsh.2 hk8)
          have hx8 : ¬ (X : Int) < 128 := by omega
          have hk9 : ((k : Int) == 9) = false := by simp; omega
          have hX0 : ((X : Int) == 0) = false := by simp; omega
          clear hstep hN hsh HA
          go_wp2_with (fail)
          all_goals first
            | (exfalso; omega)
            | (refine ⟨⟨k + 1, N, rfl, by simp, by omega, hN128, HE, trivial⟩, ?_⟩
               show 10 - ((k : Int) + 1).toNat < 10 - (k : Int).toNat
               omega)
      · have q1 : ¬ (k : Int) < 10 := by omega
        have hz : gn l = (0, 0) := by
          rw [hE.out]
          by_cases h10 : k = 10
          · rw [h10]; exact gnF_ten _ _
          · rw [List.drop_eq_nil_of_le (by omega)]; rfl
        have HE := Lib.hid hz
        clear hz ha hE
        go_wp2_with (fail)
        all_goals first
          | (exfalso; omega)
          | (go_ret2
             exact ⟨by rw [HE.out]; exact ret_tup (by omega), rfl⟩)
  · obtain rfl : n = 10 := by omega
    have hmax : max (10 : Int) 0 = 10 := by decide
    have hmc : (10 : Int) ≤ (c : Int) := by omega
    go_enter Tryd.func57, Tryd.ntmps57
    go_wp2_with (fail)
    go_loopw [4, 13] (fun v4 v13 wr => ∃ (k acc : Nat), v4 = .int .u64 (acc : Int) ∧ v13 = .int .i64 (k : Int) ∧ k ≤ 10 ∧ Hid (acc < 128 ^ k) ∧ Hid (gn l = gnF k acc (l.drop k)) ∧ wr = w) (fun _ i _ => 10 - (iOf i).toNat)
    case atStart => exact ⟨0, 0, rfl, rfl, by omega, Lib.hid (by decide), Lib.hid rfl, rfl⟩
    case round =>
      obtain ⟨k, acc, rfl, rfl, hk, ha, hE, rfl⟩ := hrel
      by_cases hlt : k < 10
      · have q1 : (k : Int) < 10 := by omega
        have hkl : k < l.length := by omega
        obtain ⟨b, hb⟩ : ∃ b, l[k] = b := ⟨_, rfl⟩
        obtain ⟨X, hX⟩ : ∃ X, b.toNat = X := ⟨_, rfl⟩
        have hX256 : X < 256 := by rw [← hX]; exact b.toNat_lt
        have hcell : wr.cell? (x.add k) = some (.int .u8 (X : Int)) := hc k _ (by rw [← hX, ← hb]; simp [bts, hkl])
        have hdk : l.drop k = b :: l.drop (k + 1) := by rw [List.drop_eq_getElem_cons hkl, hb]
        have hstep := hE.out
        rw [hdk] at hstep
        simp only [gnF, hX] at hstep
        rw [if_neg (by omega)] at hstep
        have HA := ha
        clear ha hE hdk hX hb
        by_cases hA : k = 9 ∧ 1 < X
        · rw [if_pos (.inl hA)] at hstep
          obtain ⟨hA1, hX1⟩ := hA
          have HE := Lib.hid hstep
          have hx1 : (1 : Int) < (X : Int) := by omega
          have hk9 : (k : Int) = 9 := by omega
          have hcell9 : wr.cell? { block := x.block, off := x.off + 9 } = some (.int .u8 (X : Int)) := by have h9 := hcell; rw [hA1] at h9; exact h9
          clear hA1
          clear hstep
          go_wp2_with (fail)
          all_goals first
            | (exfalso; omega)
            | (go_ret2
               exact ⟨by rw [HE.out]; rfl, rfl⟩)
        by_cases hZ : 0 < k ∧ X = 0
        · rw [if_pos (.inr hZ)] at hstep
          obtain ⟨hk0, rfl⟩ := hZ
          have HE := Lib.hid hstep
          have hk0' : (0 : Int) < (k : Int) := by omega
          clear hstep hA
          go_wp2_with (fail)
          all_goals first
            | (exfalso; omega)
            | (go_ret2
               exact ⟨by rw [HE.out]; rfl, rfl⟩)
        have hk89 : k ≤ 8 ∨ (k = 9 ∧ X ≤ 1) := by omega
        rw [if_neg (by omega)] at hstep
        have hor := or_step acc X k hX256 HA.out hk89
        have hsh := share acc X k hX256 HA.out hk89
        obtain ⟨N, hN⟩ : ∃ N, acc + X % 128 * 128 ^ k = N := ⟨_, rfl⟩
        rw [hN] at hor hsh hstep
        by_cases h128 : X < 128
        · rw [if_pos h128] at hstep
          have hN2 : acc + X * 128 ^ k = N := by rw [← hN, Nat.mod_eq_of_lt h128]
          rw [hN2] at hstep
          have HE := Lib.hid hstep
          have hx8 : (X : Int) < 128 := by omega
          have hx0 : ¬ ((0 : Int) < (k : Int) ∧ (X : Int) = 0) := by omega
          clear hstep hN hN2 hsh HA
          go_wp2_with (fail)
          all_goals first
            | (exfalso; omega)
            | (exfalso; simp_all; omega)
            | (go_ret2
               exact ⟨by rw [HE.out]; exact ret_tup (by omega), rfl⟩)
        · rw [if_neg h128] at hstep
          have HE := Lib.hid hstep
          have hk8 : k ≤ 8 := by omega
          have hN128 := Lib.hid (hsh.2 hk8)
          have hx8 : ¬ (X : Int) < 128 := by omega
          have hk9 : ((k : Int) == 9) = false := by simp; omega
          have hX0 : ((X : Int) == 0) = false := by simp; omega
          clear hstep hN hsh HA
          go_wp2_with (fail)
          all_goals first
            | (exfalso; omega)
            | (refine ⟨⟨k + 1, N, rfl, by simp, by omega, hN128, HE, trivial⟩, ?_⟩
               show 10 - ((k : Int) + 1).toNat < 10 - (k : Int).toNat
               omega)
      · have q1 : ¬ (k : Int) < 10 := by omega
        have hz : gn l = (0, 0) := by
          rw [hE.out]
          by_cases h10 : k = 10
          · rw [h10]; exact gnF_ten _ _
          · rw [List.drop_eq_nil_of_le (by omega)]; rfl
        have HE := Lib.hid hz
        clear hz ha hE
        go_wp2_with (fail)
        all_goals first
          | (exfalso; omega)
          | (go_ret2
             exact ⟨by rw [HE.out]; exact ret_tup (by omega), rfl⟩)
theorem getnum_nil (w : World) : Calls Tryd.prog 57 #[.slice none 0 0] w fun e w' => e = .returned (.tuple #[.int .u64 0, .int .i64 0]) ∧ w' = w := by
  go_enter Tryd.func57, Tryd.ntmps57
  go_wp2_with (fail)
  go_loopw [4, 13] (fun v4 v13 wr => v4 = .int .u64 0 ∧ v13 = .int .i64 0 ∧ wr = w) (fun _ _ _ => 0)
  case atStart => exact ⟨rfl, rfl, rfl⟩
  case round =>
    obtain ⟨rfl, rfl, rfl⟩ := hrel
    go_wp2_with (fail)
    go_ret2
    exact ⟨rfl, rfl⟩
theorem maxLen_le : maxLen ≤ 9223372036854775807 := by decide
/-- GetNumber, of what came in. -/
theorem getnum_rd {v : Value} {l : Bs} {w : World} (h : RdC w v l) : Calls Tryd.prog 57 #[v] w fun e w' => e = .returned (.tuple #[.int .u64 ((gn l).1 : Int), .int .i64 ((gn l).2 : Int)]) ∧ w' = w := by
  obtain ⟨h1, A, c, rfl, hl, hm⟩ := h
  rcases h1 with ⟨hv, rfl⟩ | ⟨x, c', hv, hc⟩
  · rw [hv]; exact getnum_nil w
  · injection hv with e1 _ e3
    subst e1 e3
    exact getnum_any x l.length c l w rfl hc hl (Nat.le_trans hm maxLen_le)
end Go.Proofs.YtknaaaphdjdaoaaDoor
