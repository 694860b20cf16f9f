/-
  GetText.
-/
import Derived.Test.YtknaaaphdjdaoaaDoorNr
namespace Go.Proofs.YtknaaaphdjdaoaaDoor
open Go.RowKit Mem
set_option linter.unusedVariables false
set_option linter.unusedSimpArgs false

theorem gnF_le : ∀ (l : Bs) (k acc : Nat), acc < 128 ^ k → k ≤ 10 → (gnF k acc l).2 ≤ k + l.length ∧ (gnF k acc l).1 < 18446744073709551616 ∧ ((gnF k acc l).2 = 0 ∨ k < (gnF k acc l).2)
  | [], k, acc, ha, hk => ⟨Nat.zero_le _, (by decide : (0 : Nat) < 18446744073709551616), .inl rfl⟩
  | b :: r, k, acc, ha, hk => by
    have hb := b.toNat_lt
    unfold gnF
    split
    · exact ⟨Nat.zero_le _, by decide, .inl rfl⟩
    · next h10 =>
      split
      · exact ⟨Nat.zero_le _, by decide, .inl rfl⟩
      · next h9 =>
        split
        · next h128 =>
          have hs := (share acc b.toNat k hb ha (by omega)).1
          rw [Nat.mod_eq_of_lt h128] at hs
          exact ⟨by simp, hs, .inr (by simp)⟩
        · next h128 =>
          have hs := (share acc b.toNat k hb ha (by omega)).2 (by omega)
          obtain ⟨h1, h2, h3⟩ := gnF_le r (k + 1) _ hs (by omega)
          refine ⟨by simp only [List.length_cons]; omega, h2, ?_⟩
          rcases h3 with h3 | h3
          · exact .inl h3
          · exact .inr (by omega)
theorem gn_le (l : Bs) : (gn l).2 ≤ l.length ∧ (gn l).1 < 18446744073709551616 := by
  have := gnF_le l 0 0 (by decide) (by omega)
  exact ⟨by have := this.1; unfold gn; omega, this.2.1⟩
/-- A text that is read, and how many bytes it takes. -/
def gt (l : Bs) (most : Int) : Bs × Nat :=
  if (gn l).2 = 0 ∨ most < 0 ∨ most < ((gn l).1 : Int) ∨ l.length - (gn l).2 < (gn l).1 then ([], 0) else ((l.drop (gn l).2).take (gn l).1, (gn l).2 + (gn l).1)
theorem ret_txt {a : Bs} {z : Int} {k : Nat} (h : z = (k : Int)) : Ending.returned (.tuple #[.string (sv a), .int .i64 z]) = Ending.returned (.tuple #[.string (sv a), .int .i64 (k : Int)]) := by rw [h]
set_option maxRecDepth 100000 in
set_option maxHeartbeats 6400000 in
theorem gettext_any (A : Option Addr) (n c : Nat) (l : Bs) (most : Int) (w : World) (hn : l.length = n) (h : RdC w (.slice A n c) l) (hm : -9223372036854775808 ≤ most ∧ most ≤ 9223372036854775807) :
    Calls Tryd.prog 58 #[.slice A n c, .int .i64 most] w fun e w' => e = .returned (.tuple #[.string (sv (gt l most).1), .int .i64 ((gt l most).2 : Int)]) ∧ w' = w := by
  have hg := getnum_rd h
  have hle := gn_le l
  obtain ⟨N, hN⟩ : ∃ N, (gn l).1 = N := ⟨_, rfl⟩
  obtain ⟨K, hK⟩ : ∃ K, (gn l).2 = K := ⟨_, rfl⟩
  have hgt : gt l most = if K = 0 ∨ most < 0 ∨ most < (N : Int) ∨ l.length - K < N then ([], 0) else ((l.drop K).take N, K + N) := by unfold gt; rw [hN, hK]
  rw [hN, hK] at hg hle
  rw [hn] at hle hgt
  obtain ⟨h1, A', c', hv, hlc, hcm⟩ := h
  injection hv with e1 e2 e3
  subst e3
  rw [hn] at hlc
  have hcm2 := maxLen_le
  have hcmx : c ≤ 9223372036854775807 := Nat.le_trans hcm maxLen_le
  have hcvs : K ≠ 0 → N ≤ n - K → ∃ x, A = some x ∧ (∀ w' : World, w' = w → (convert 24 9 (.slice (some (x.add K)) N (c - K))).run Tryd.prog w' = .ok (.string (sv ((l.drop K).take N))) w') ∧ (c = K → ∀ w' : World, w' = w → (convert 24 9 (.slice (some x) N 0)).run Tryd.prog w' = .ok (.string (sv ((l.drop K).take N))) w') := by
    intro hK0 hNn
    rcases h1 with ⟨hv, rfl⟩ | ⟨x, c'', hv, hcell⟩
    · have : (gn []).2 = 0 := rfl
      omega
    · injection hv with f1 f2 f3
      subst f1
      have hTl : ((l.drop K).take N).length = N := by rw [List.length_take, List.length_drop]; omega
      refine ⟨x, rfl, ?_, ?_⟩
      · rintro w' rfl
        have := conv_text (w := w') (x.add K) (c - K) ((l.drop K).take N) (fun j u hj => by
          have hj2 : j < N := by have := (List.getElem?_eq_some_iff.1 hj).1; rwa [bts_len, hTl] at this
          have e : (x.add K).add j = x.add (K + j) := by
            by_cases hj0 : j = 0
            · subst hj0; simp [Addr.add, hK0]
            · simp [Addr.add, hK0, hj0, Nat.add_assoc]
          rw [e]
          refine hcell (K + j) u ?_
          rw [← hj]
          unfold bts
          rw [List.getElem?_map, List.getElem?_map, List.getElem?_take_of_lt hj2, List.getElem?_drop])
        rw [hTl] at this
        exact this
      · rintro hcK w' rfl
        have hN0 : N = 0 := by omega
        have hT0 : (l.drop K).take N = [] := by rw [hN0]; rfl
        have := conv_text (w := w') x 0 [] (fun j u hj => by simp [bts] at hj)
        rw [hT0, hN0]
        exact this
  clear hn e1 e2 hcm hcm2
  go_enter Tryd.func58, Tryd.ntmps58
  by_cases hK0 : K = 0
  · rw [if_pos (.inl hK0)] at hgt
    subst hK0
    rw [hgt]
    clear hgt
    go_wp2_with (fail)
    refine hg.mono ?_
    rintro e w2 ⟨rfl, rfl⟩
    go_wp2_with (fail)
    go_ret2
    exact ⟨rfl, rfl⟩
  · have hKp : ((K : Int) == 0) = false := by simp; omega
    by_cases hm0 : most < 0
    · rw [if_pos (.inr (.inl hm0))] at hgt
      rw [hgt]
      clear hgt
      go_wp2_with (fail)
      refine hg.mono ?_
      rintro e w2 ⟨rfl, rfl⟩
      go_wp2_with (fail)
      go_ret2
      exact ⟨rfl, rfl⟩
    · have hw1 : IntKind.u64.wrap most = most := by rw [IntKind.wrap_u64]; omega
      have hw2 : IntKind.u64.wrap ((n : Int) - (K : Int)) = (n : Int) - (K : Int) := by rw [IntKind.wrap_u64]; omega
      by_cases hb : most < (N : Int) ∨ n - K < N
      · rw [if_pos (.inr (.inr hb))] at hgt
        rw [hgt]
        clear hgt
        have hb2 : ¬ most < (N : Int) → (n : Int) - (K : Int) < (N : Int) := by omega
        go_wp2_with (fail)
        refine hg.mono ?_
        rintro e w2 ⟨rfl, rfl⟩
        go_wp2_with (fail)
        all_goals first
          | (exfalso; omega)
          | (go_ret2
             exact ⟨rfl, rfl⟩)
      · rw [if_neg (by omega)] at hgt
        have hNm : (N : Int) ≤ most := by omega
        have hNk : (N : Int) ≤ (n : Int) - (K : Int) := by omega
        rw [hgt]
        clear hgt
        obtain ⟨x, rfl, hc1, hc2⟩ := hcvs hK0 (by omega)
        obtain ⟨T, hT⟩ : ∃ T, (l.drop K).take N = T := ⟨_, rfl⟩
        rw [hT] at hc1 hc2
        simp only [hT]
        have hkc : (K : Int) ≤ (c : Int) := by omega
        by_cases hcK : c = K
        · have hx := hc2 hcK
          have hN0 : N = 0 := by omega
          have hnK : n = K := by omega
          subst hcK hN0
          subst hnK
          clear hc1 hc2 hT hcvs
          go_wp2_with (fail)
          refine hg.mono ?_
          rintro e w2 ⟨rfl, rfl⟩
          have hx2 := hx w2 rfl
          go_wp2_with (fail)
          all_goals first
            | (exfalso; omega)
            | (go_ret2
               exact ⟨ret_txt (by omega), rfl⟩)
        · have hx := hc1
          clear hc1 hc2 hT hcvs
          go_wp2_with (fail)
          refine hg.mono ?_
          rintro e w2 ⟨rfl, rfl⟩
          have hx2 := hx w2 rfl
          go_wp2_with (fail)
          all_goals first
            | (exfalso; omega)
            | (go_ret2
               exact ⟨ret_txt (by omega), rfl⟩)
end Go.Proofs.YtknaaaphdjdaoaaDoor
