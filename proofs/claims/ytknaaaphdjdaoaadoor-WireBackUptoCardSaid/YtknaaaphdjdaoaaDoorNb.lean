/-
  What is written is read again: numbers. No walk in sight.
-/
import Derived.Test.YtknaaaphdjdaoaaDoorVn
namespace Go.Proofs.YtknaaaphdjdaoaaDoor
open Go.RowKit Mem

theorem u8_lt (n : Nat) (h : n < 256) : n.toUInt8.toNat = n := by simp [Nat.mod_eq_of_lt h]
/-- From the k-th group on. -/
theorem gnF_pnF (rest : Bs) : ∀ (f k acc n : Nat), k + f = 10 → n < 128 ^ (f + 1) → (k = 0 ∨ 0 < n) → n * 128 ^ k < 18446744073709551616 →
    gnF k acc (pnF f n ++ rest) = (acc + n * 128 ^ k, k + (pnF f n).length) := by
  intro f
  induction f with
  | zero =>
    intro k acc n hk hn h0 hm
    have : k = 10 := by omega
    subst this
    have e : (128 : Nat) ^ 10 = 1180591620717411303424 := by decide
    rw [e] at hm
    omega
  | succ f ih =>
    intro k acc n hk hn h0 hm
    have hk9 : k ≤ 9 := by omega
    have h9 : k = 9 → n ≤ 1 := by
      rintro rfl
      have e : (128 : Nat) ^ 9 = 9223372036854775808 := by decide
      rw [e] at hm
      omega
    by_cases h : n < 128
    · rw [pnF_stop _ _ h]
      have e := u8_lt n (by omega)
      simp only [List.cons_append, List.nil_append, gnF, e, List.length_singleton]
      rw [if_neg (by omega), if_neg (by omega), if_pos h]
    · rw [pnF_go _ _ h]
      have e := u8_lt (n % 128 + 128) (by omega)
      have ep : 128 ^ (k + 1) = 128 * 128 ^ k := by rw [Nat.pow_succ, Nat.mul_comm]
      have ed : n % 128 * 128 ^ k + n / 128 * (128 * 128 ^ k) = n * 128 ^ k := by
        rw [← Nat.mul_assoc, ← Nat.add_mul, Nat.mul_comm (n / 128) 128, Nat.mod_add_div]
      simp only [List.cons_append, gnF, e, List.length_cons]
      rw [if_neg (by omega), if_neg (by omega), if_neg (by omega), ih (k + 1) _ (n / 128) (by omega) ?_ (by omega) (by rw [ep]; omega)]
      · have e3 : (n % 128 + 128) % 128 = n % 128 := by omega
        rw [e3, ep]
        refine Prod.ext ?_ ?_
        · show acc + n % 128 * 128 ^ k + n / 128 * (128 * 128 ^ k) = _
          omega
        · show k + 1 + (pnF f (n / 128)).length = k + ((pnF f (n / 128)).length + 1)
          omega
      · rw [Nat.pow_succ] at hn
        omega
theorem gn_pn (n : Nat) (h : n < 18446744073709551616) (rest : Bs) : gn (pn n ++ rest) = (n, (pn n).length) := by
  have hn : n < 128 ^ 11 := by
    have e : (128 : Nat) ^ 11 = 151115727451828646838272 := by decide
    omega
  have := gnF_pnF rest 10 0 0 n rfl hn (.inl rfl) (by omega)
  rw [gn, pn, this]
  simp
/-- A part of it is no number. -/
theorem gnF_part : ∀ (f k acc n m : Nat), k + f = 10 → m < (pnF f n).length → gnF k acc ((pnF f n).take m) = (0, 0) := by
  intro f
  induction f with
  | zero =>
    intro k acc n m _ hm
    have : m = 0 := by simp [pnF] at hm; omega
    subst this
    simp [gnF]
  | succ f ih =>
    intro k acc n m hk hm
    cases m with
    | zero => simp [gnF]
    | succ m =>
      by_cases h : n < 128
      · rw [pnF_stop _ _ h] at hm
        simp at hm
      · rw [pnF_go _ _ h] at hm ⊢
        have e := u8_lt (n % 128 + 128) (by omega)
        simp only [List.take_succ_cons, gnF, e]
        split
        · rfl
        · split
          · rfl
          · rw [if_neg (by omega)]
            exact ih (k + 1) _ (n / 128) m (by omega) (by simpa using hm)
theorem gn_part (n m : Nat) (h : m < (pn n).length) : gn ((pn n).take m) = (0, 0) := gnF_part 10 0 0 n m rfl h
/-- Texts. -/
theorem gt_pn (s rest : Bs) (most : Int) (hs : s.length < 18446744073709551616) (hm : (s.length : Int) ≤ most) : gt (pn s.length ++ s ++ rest) most = (s, (pn s.length).length + s.length) := by
  have e := gn_pn s.length hs (s ++ rest)
  have hl := (pn_len s.length).1
  unfold gt
  rw [List.append_assoc, e]
  rw [if_neg (by simp only [List.length_append]; omega)]
  simp
theorem gt_short (s : Bs) (hs : s.length < 18446744073709551616) : gt (pn s.length ++ s) ((s.length : Int) - 1) = ([], 0) := by
  have e := gn_pn s.length hs s
  unfold gt
  rw [e, if_pos (.inr (.inr (.inl (by show (s.length : Int) - 1 < (s.length : Int); omega))))]
theorem gt_part (s : Bs) (m : Nat) (most : Int) (hs : s.length < 18446744073709551616) (hm : m < (pn s.length ++ s).length) : gt ((pn s.length ++ s).take m) most = ([], 0) := by
  by_cases h : m < (pn s.length).length
  · rw [List.take_append_of_le_length (by omega)]
    unfold gt
    rw [gn_part _ _ h, if_pos (.inl rfl)]
  · have e1 : (pn s.length ++ s).take m = pn s.length ++ s.take (m - (pn s.length).length) := by
      rw [List.take_append, List.take_of_length_le (by omega)]
    have e := gn_pn s.length hs (s.take (m - (pn s.length).length))
    rw [List.length_append] at hm
    unfold gt
    rw [e1, e, if_pos (.inr (.inr (.inr (by simp only [List.length_append, List.length_take]; omega))))]
end Go.Proofs.YtknaaaphdjdaoaaDoor
