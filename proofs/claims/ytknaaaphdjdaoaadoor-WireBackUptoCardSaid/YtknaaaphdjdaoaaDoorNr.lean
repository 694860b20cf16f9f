/-
  GetNumber, the document's.
-/
import Derived.Test.YtknaaaphdjdaoaaDoorNu
namespace Go.Proofs.YtknaaaphdjdaoaaDoor
open Go.RowKit Mem
set_option linter.unusedVariables false
set_option linter.unusedSimpArgs false

set_option maxRecDepth 100000 in
set_option maxHeartbeats 6400000 in
theorem rgetnum_any (A : Option Addr) (n c : Nat) (l : Bs) (w : World) (hn : l.length = n) (h : RdC w (.slice A n c) l) :
    Calls Tryd.prog 43 #[.slice A n c] w fun e w' => e = .returned (.tuple #[.int .u64 ((gn l).1 : Int), .int .i64 ((gn l).2 : Int)]) ∧ w' = w := by
  have hmx : n ≤ 9223372036854775807 := by
    obtain ⟨_, A', c', hv, h1, h2⟩ := h
    have := maxLen_le
    omega
  have hcells : ∀ k (hk : k < l.length), ∃ x, A = some x ∧ w.cell? (x.add k) = some (.int .u8 (l[k].toNat : Int)) ∧ n ≤ c := by
    intro k hk
    obtain ⟨h1, A', c', hv, hl, hm⟩ := h
    injection hv with e1 e2 e3
    rcases h1 with ⟨hv, rfl⟩ | ⟨x, c'', hv, hc⟩
    · simp at hk
    · injection hv with f1 f2 f3
      refine ⟨x, f1, hc k _ (by simp [bts, hk]), by omega⟩
  clear h
  go_enter Tryd.func43, Tryd.ntmps43
  go_wp2_with (fail)
  go_loopw [4, 5] (fun v4 v5 wr => ∃ (k acc : Nat), v4 = .int .u64 (acc : Int) ∧ v5 = .int .i64 (k : Int) ∧ k ≤ n ∧ k ≤ 10 ∧ Hid (acc < 128 ^ k) ∧ Hid (gn l = gnF k acc (l.drop k)) ∧ wr = w) (fun _ i _ => 10 - (iOf i).toNat)
  case atStart => exact ⟨0, 0, rfl, rfl, by omega, by omega, Lib.hid (by decide), Lib.hid rfl, rfl⟩
  case round =>
    obtain ⟨k, acc, rfl, rfl, hk, hk10, ha, hE, rfl⟩ := hrel
    by_cases hlt : k < n ∧ k < 10
    · have q1 : (k : Int) < (n : Int) := by omega
      have q2 : (k : Int) < 10 := by omega
      have hkl : k < l.length := by omega
      obtain ⟨x, rfl, hcell, hnc⟩ := hcells k hkl
      clear hcells
      obtain ⟨b, hb⟩ : ∃ b, l[k] = b := ⟨_, rfl⟩
      obtain ⟨X, hX⟩ : ∃ X, b.toNat = X := ⟨_, rfl⟩
      have hX256 : X < 256 := by rw [← hX]; exact b.toNat_lt
      rw [hb, hX] at hcell
      have hdk : l.drop k = b :: l.drop (k + 1) := by rw [List.drop_eq_getElem_cons hkl, hb]
      have hstep := hE.out
      rw [hdk] at hstep
      simp only [gnF, hX] at hstep
      rw [if_neg (by omega)] at hstep
      have HA := ha
      clear ha hE hdk hX hb
      have e9 : (128 : Nat) ^ 9 = 9223372036854775808 := by decide
      by_cases hk9 : k = 9
      · have hcell9 : wr.cell? { block := x.block, off := x.off + 9 } = some (.int .u8 (X : Int)) := by have h9 := hcell; rw [hk9] at h9; exact h9
        have hk9' : (k : Int) = 9 := by omega
        have hA9 := HA.out
        rw [hk9, e9] at hA9
        by_cases hC : 1 < X % 128
        · rw [if_pos (.inl ⟨hk9, by omega⟩)] at hstep
          have HE := Lib.hid hstep
          have hc1 : 1 < (X : Int) % 128 := by omega
          clear hstep hk9 hA9 HA
          go_wp2_with (fail)
          all_goals first
            | (exfalso; omega)
            | (go_ret2
               exact ⟨by rw [HE.out]; exact ret_tup (by omega), rfl⟩)
        have hX4 : X = 0 ∨ X = 1 ∨ X = 128 ∨ X = 129 := by omega
        have ho0 : Go.bits .or .u64 (acc : Int) 0 = (acc : Int) := by
          have := or64 acc 0 9 (by rw [e9]; exact hA9) (by omega)
          simpa using this
        have ho1 : Go.bits .or .u64 (acc : Int) 9223372036854775808 = ((acc + 9223372036854775808 : Nat) : Int) := by
          have := or64 acc 1 9 (by rw [e9]; exact hA9) (by omega)
          rw [e9] at this
          simpa using this
        have e10 : (128 : Nat) ^ 10 = 1180591620717411303424 := by decide
        rcases hX4 with rfl | rfl | rfl | rfl
        · rw [if_pos (.inr ⟨by omega, rfl⟩)] at hstep
          have HE := Lib.hid hstep
          clear hstep hk9 hA9 HA
          go_wp2_with (fail)
          all_goals first
            | (exfalso; omega)
            | (go_ret2
               exact ⟨by rw [HE.out]; exact ret_tup (by omega), rfl⟩)
        · rw [if_neg (by omega), if_pos (by omega), hk9, e9, Nat.one_mul] at hstep
          obtain ⟨N, hN⟩ : ∃ N, acc + 9223372036854775808 = N := ⟨_, rfl⟩
          rw [hN] at hstep ho1
          have HE := Lib.hid hstep
          clear hstep hk9 hA9 HA hN
          go_wp2_with (fail)
          all_goals first
            | (exfalso; omega)
            | (go_ret2
               exact ⟨by rw [HE.out]; exact ret_tup (by omega), rfl⟩)
        · rw [if_pos (.inl ⟨hk9, by omega⟩)] at hstep
          obtain ⟨N, hN⟩ : ∃ N, acc = N := ⟨_, rfl⟩
          subst hN
          have HE : Hid (gn l = gnF (k + 1) acc (l.drop (k + 1))) := Lib.hid (by rw [hstep, hk9, gnF_ten])
          have hN128 : Hid (acc < 128 ^ (k + 1)) := Lib.hid (by rw [hk9, e10]; omega)
          clear hstep hk9 hA9 HA
          go_wp2_with (fail)
          all_goals first
            | (exfalso; omega)
            | (refine ⟨⟨k + 1, acc, rfl, by simp; try omega, by omega, by omega, hN128, HE, trivial⟩, ?_⟩
               simp only [iOf]
               omega)
        · rw [if_pos (.inl ⟨hk9, by omega⟩)] at hstep
          obtain ⟨N, hN⟩ : ∃ N, acc + 9223372036854775808 = N := ⟨_, rfl⟩
          rw [hN] at ho1
          have HE : Hid (gn l = gnF (k + 1) N (l.drop (k + 1))) := Lib.hid (by rw [hstep, hk9, gnF_ten])
          have hN128 : Hid (N < 128 ^ (k + 1)) := Lib.hid (by rw [hk9, e10, ← hN]; omega)
          clear hstep hk9 hA9 HA hN
          go_wp2_with (fail)
          all_goals first
            | (exfalso; omega)
            | (refine ⟨⟨k + 1, N, rfl, by simp; try omega, by omega, by omega, hN128, HE, trivial⟩, ?_⟩
               simp only [iOf]
               omega)
      · have hk8 : k ≤ 8 := by omega
        have hk9' : ((k : Int) == 9) = false := by simp; omega
        have hk9'' : ¬ (k : Int) = 9 := by omega
        have hor0 := or_c acc (X % 128) k (by omega) HA.out (.inl hk8)
        obtain ⟨N, hN⟩ : ∃ N, acc + X % 128 * 128 ^ k = N := ⟨_, rfl⟩
        rw [hN] at hor0 hstep
        obtain ⟨hor1, hNlt⟩ := hor0
        have hor : Go.bits .or .u64 (acc : Int) (IntKind.u64.wrap ((X : Int) % 128 * 2 ^ (7 * k))) = (N : Int) := by
          rw [Int.natCast_emod] at hor1; exact hor1
        have hN128 := Lib.hid hNlt
        clear hor1 hNlt
        by_cases h128 : X < 128
        · have hx8 : (X : Int) < 128 := by omega
          by_cases hZ : 0 < k ∧ X = 0
          · rw [if_pos (.inr hZ)] at hstep
            have HE := Lib.hid hstep
            obtain ⟨hk0, rfl⟩ := hZ
            have hk0' : (0 : Int) < (k : Int) := by omega
            clear hstep hN HA hk9 hor hN128
            go_wp2_with (fail)
            all_goals first
              | (exfalso; omega)
              | (go_ret2
                 exact ⟨by rw [HE.out]; exact ret_tup (by omega), rfl⟩)
          · have hN2 : acc + X * 128 ^ k = N := by rw [← hN, Nat.mod_eq_of_lt h128]
            rw [if_neg (by omega), if_pos h128, hN2] at hstep
            have HE := Lib.hid hstep
            have hz2 : (0 : Int) < (k : Int) → ¬ (X : Int) = 0 := by omega
            clear hstep hN hN2 HA hk9
            go_wp2_with (fail)
            all_goals first
              | (exfalso; omega)
              | (exfalso; simp_all; omega)
              | (go_ret2
                 exact ⟨by rw [HE.out]; exact ret_tup (by omega), rfl⟩)
        · rw [if_neg (by omega), if_neg h128] at hstep
          have HE := Lib.hid hstep
          have hx8 : ¬ (X : Int) < 128 := by omega
          clear hstep hN HA hk9
          go_wp2_with (fail)
          all_goals first
            | (exfalso; omega)
            | (refine ⟨⟨k + 1, N, rfl, by simp; try omega, by omega, by omega, hN128, HE, trivial⟩, ?_⟩
               simp only [iOf]
               omega)
    · have hq : (k : Int) < (n : Int) → ¬ (k : Int) < 10 := by omega
      have hz : gn l = (0, 0) := by
        rw [hE.out]
        by_cases h10 : k = 10
        · rw [h10]; exact gnF_ten _ _
        · rw [List.drop_eq_nil_of_le (by omega)]; rfl
      have HE := Lib.hid hz
      clear hz ha hE hcells
      go_wp2_with (fail)
      all_goals
        go_ret2
        exact ⟨by rw [HE.out]; rfl, rfl⟩
end Go.Proofs.YtknaaaphdjdaoaaDoor
