/-
  Letters' bytes: apart; what is read is written so. No walk in sight.
-/
import Derived.Test.YtknaaaphdjdaoaaDoorPf
namespace Go.Proofs.YtknaaaphdjdaoaaDoor
open Go.RowKit Mem
set_option linter.unusedVariables false
set_option linter.unusedSimpArgs false

theorem enc_inj {a b : Lt} (ha : rightB a = true) (hb : rightB b = true) : encB a = encB b ↔ a = b := by
  constructor
  · intro h
    have h1 := let_z a ha []
    have h2 := let_z b hb []
    rw [h, h2] at h1
    injection h1 with h1
    injection h1 with h1 _
    exact h1.symm
  · rintro rfl
    rfl
theorem u8_self (b : UInt8) : b.toNat.toUInt8 = b := by
  apply UInt8.toNat_inj.1
  have := b.toNat_lt
  simp
/-- A number is read from its own bytes alone. -/
theorem gnF_inv : ∀ (l : Bs) (k acc N J : Nat), k ≤ 10 → gnF k acc l = (N, J) → J ≠ 0 → ∃ m, N = acc + m * 128 ^ k ∧ k < J ∧ l.take (J - k) = pnF (10 - k) m ∧ (0 < k → 0 < m)
  | [], k, acc, N, J, _, h, hJ => by
    rw [gnF] at h
    injection h with _ h
    exact absurd h.symm hJ
  | b :: r, k, acc, N, J, hk, h, hJ => by
    have hb := b.toNat_lt
    rw [gnF] at h
    split at h
    · injection h with _ h; exact absurd h.symm hJ
    next hk10 =>
    split at h
    · injection h with _ h; exact absurd h.symm hJ
    next hz =>
    split at h
    · next h128 =>
      injection h with h1 h2
      subst h1 h2
      refine ⟨b.toNat, rfl, by omega, ?_, fun h0 => by omega⟩
      rw [show k + 1 - k = 1 by omega, pnF_stop _ _ h128, u8_self]
      rfl
    · next h128 =>
      obtain ⟨m, h1, h2, h3, h4⟩ := gnF_inv r (k + 1) _ N J (by omega) h hJ
      have hm := h4 (by omega)
      have ep : 128 ^ (k + 1) = 128 * 128 ^ k := by rw [Nat.pow_succ, Nat.mul_comm]
      refine ⟨b.toNat % 128 + 128 * m, ?_, by omega, ?_, fun _ => by omega⟩
      · rw [h1, ep, Nat.add_mul, ← Nat.mul_assoc, Nat.mul_comm m 128, Nat.add_assoc]
      · rw [show J - k = (J - (k + 1)) + 1 by omega, List.take_succ_cons, h3, show 10 - k = (10 - (k + 1)) + 1 by omega, pnF_go _ _ (by omega)]
        have e1 : (b.toNat % 128 + 128 * m) % 128 + 128 = b.toNat := by omega
        have e2 : (b.toNat % 128 + 128 * m) / 128 = m := by omega
        rw [e1, e2, u8_self]
theorem gn_inv {l : Bs} (h : (gn l).2 ≠ 0) : l = pn (gn l).1 ++ l.drop (gn l).2 := by
  obtain ⟨m, h1, h2, h3, _⟩ := gnF_inv l 0 0 (gn l).1 (gn l).2 (by omega) rfl h
  rw [Nat.pow_zero, Nat.mul_one, Nat.zero_add] at h1
  rw [Nat.sub_zero] at h3
  have : pn (gn l).1 = l.take (gn l).2 := by rw [h3, h1]; rfl
  rw [this, List.take_append_drop]
theorem nb_inv {l : Bs} {k most n j : Nat} (h : nb l k most = .ok (n, j)) : l.drop k = pn n ++ l.drop j ∧ n ≤ most := by
  unfold nb at h
  split at h
  · cases h
  · next hh =>
    injection h with h
    injection h with h1 h2
    subst h1 h2
    have := gn_inv (l := l.drop k) (by omega)
    rw [List.drop_drop] at this
    exact ⟨this, by omega⟩
theorem tb_inv {l s : Bs} {k most j : Nat} (h : tb l k most = .ok (s, j)) : l.drop k = pn s.length ++ (s ++ l.drop j) := by
  unfold tb at h
  split at h
  · cases h
  · next hh =>
    injection h with h
    injection h with h1 h2
    subst h1 h2
    unfold gt at hh ⊢
    split at hh
    · exact absurd rfl hh
    · next hg =>
      rw [if_neg hg]
      have hn := gn_inv (l := l.drop k) (by omega)
      have hle := (gn_le (l.drop k)).1
      have hlen : (((l.drop k).drop (gn (l.drop k)).2).take (gn (l.drop k)).1).length = (gn (l.drop k)).1 := by
        rw [List.length_take, List.length_drop]
        omega
      rw [hlen, ← Nat.add_assoc, ← List.drop_drop (l := l), ← List.drop_drop (l := l)]
      conv => lhs; rw [hn]
      congr 1
      rw [List.take_append_drop]
theorem rowR_inv {l : Bs} : ∀ (n k : Nat) (zs : List Int) (j : Nat), rowR l n k = .ok (zs, j) → l.drop k = pnz zs ++ l.drop j ∧ zs.length = n
  | 0, k, zs, j, h => by
    rw [rowR] at h
    injection h with h
    injection h with h1 h2
    subst h1 h2
    exact ⟨rfl, rfl⟩
  | n + 1, k, zs, j, h => by
    rw [rowR] at h
    cases h1 : nb l k 5 with
    | error p => rw [h1] at h; cases h
    | ok x =>
      obtain ⟨z, k1⟩ := x
      rw [h1, thn_ok] at h
      cases h2 : rowR l n k1 with
      | error p => rw [h2] at h; cases h
      | ok y =>
        obtain ⟨ys, k2⟩ := y
        rw [h2, thn_ok] at h
        injection h with h
        injection h with h3 h4
        subst h3 h4
        obtain ⟨e1, _⟩ := nb_inv h1
        obtain ⟨e2, e3⟩ := rowR_inv n k1 ys k2 h2
        rw [e1, e2, pnz_cons, Int.toNat_natCast, List.append_assoc, List.length_cons, e3]
        exact ⟨rfl, rfl⟩
theorem nodesR_inv {l : Bs} {k j : Nat} {zs : List Int} (h : nodesR l k = .ok (zs, j)) : l.drop k = pn zs.length ++ (pnz zs ++ l.drop j) := by
  rw [nodesR] at h
  cases h1 : nb l k 5 with
  | error p => rw [h1] at h; cases h
  | ok x =>
    obtain ⟨n, k1⟩ := x
    rw [h1, thn_ok] at h
    obtain ⟨e1, _⟩ := nb_inv h1
    obtain ⟨e2, e3⟩ := rowR_inv n k1 zs j h
    rw [e1, e2, e3]
end Go.Proofs.YtknaaaphdjdaoaaDoor
