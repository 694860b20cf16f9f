/-
  A right letter's bytes are read as it. No walk in sight.
  Letters' bytes: apart; what is read is written so. No walk in sight.
  A letter that is read is written as the bytes it was read from. No walk in sight.
-/
import Derived.Test.YtknaaaphdjdaoaaDoorPe
section
namespace Go.Proofs.YtknaaaphdjdaoaaDoor
open Go.RowKit Mem
set_option linter.unusedVariables false
set_option linter.unusedSimpArgs false

theorem head_parts {m : Lt} (h : rightB m = true) : (1 ≤ m.fr ∧ m.fr ≤ 5) ∧ (1 ≤ m.tt ∧ m.tt ≤ 5) ∧ (1 ≤ m.tm ∧ m.tm ≤ 999999) ∧ (0 ≤ m.ix ∧ m.ix ≤ 999999) ∧ (0 ≤ m.rd ∧ m.rd ≤ 1073741824) ∧ (0 ≤ m.lt ∧ m.lt ≤ m.tm) ∧ (0 ≤ m.cm ∧ m.cm ≤ 999999) ∧ kindR m = true := by
  rw [rightB, Bool.and_eq_true, Bool.and_eq_true, head0, fine0] at h
  simp only [Bool.and_eq_true, bw_iff] at h
  obtain ⟨⟨⟨⟨⟨h1, h2⟩, _⟩, h4⟩, ⟨⟨h5, h6⟩, h7⟩, h8⟩, h9⟩ := h
  exact ⟨h1, h2, h4, h5, h6, h7, h8, h9⟩
theorem snap_parts {m : Lt} (h : snap0 m = true) : m.si = 0 ∧ m.st = 0 ∧ m.sn = [] ∧ m.sd = [] := by
  rw [snap0, Bool.and_eq_true, Bool.and_eq_true, Bool.and_eq_true] at h
  exact ⟨by simpa using h.1.1.1, by simpa using h.1.1.2, List.isEmpty_iff.1 h.1.2, List.isEmpty_iff.1 h.2⟩
theorem kind_cases {m : Lt} (h : kindR m = true) : m.kd = 1 ∨ m.kd = 2 ∨ m.kd = 3 ∨ m.kd = 4 ∨ m.kd = 5 := by
  by_cases h1 : m.kd = 1
  · exact .inl h1
  by_cases h2 : m.kd = 2
  · exact .inr (.inl h2)
  by_cases h3 : m.kd = 3
  · exact .inr (.inr (.inl h3))
  by_cases h4 : m.kd = 4
  · exact .inr (.inr (.inr (.inl h4)))
  by_cases h5 : m.kd = 5
  · exact .inr (.inr (.inr (.inr h5)))
  unfold kindR at h
  rw [if_neg h1, if_neg h2, if_neg h3, if_neg h4, if_neg h5] at h
  cases h
theorem body_z {kd fr tt tm : Int} {body rest l : Bs} (hl : l = pnz [kd, fr, tt, tm] ++ body ++ rest) (h0 : 0 ≤ kd ∧ kd ≤ 5) (h1 : 0 ≤ fr ∧ fr ≤ 5) (h2 : 0 ≤ tt ∧ tt ≤ 5) (h3 : 0 ≤ tm ∧ tm ≤ 999999) :
    letterR l = restR l kd.toNat fr.toNat tt.toNat tm.toNat (pnz [kd, fr, tt, tm]).length ∧ l.drop (pnz [kd, fr, tt, tm]).length = body ++ rest := by
  have hd : l.drop 0 = pn kd.toNat ++ (pn fr.toNat ++ (pn tt.toNat ++ (pn tm.toNat ++ (body ++ rest)))) := by
    rw [hl, List.drop_zero]
    simp only [pnz_cons, pnz_nil, List.append_assoc, List.append_nil, List.nil_append]
  obtain ⟨n1, d1⟩ := nb_z (most := 5) hd h0.1 h0.2 (by omega)
  obtain ⟨n2, d2⟩ := nb_z (most := 5) d1 h1.1 h1.2 (by omega)
  obtain ⟨n3, d3⟩ := nb_z (most := 5) d2 h2.1 h2.2 (by omega)
  obtain ⟨n4, d4⟩ := nb_z (most := 999999) d3 h3.1 h3.2 (by omega)
  have e : 0 + (pn kd.toNat).length + (pn fr.toNat).length + (pn tt.toNat).length + (pn tm.toNat).length = (pnz [kd, fr, tt, tm]).length := by
    simp only [pnz_cons, pnz_nil, List.length_append, List.length_nil]
    omega
  rw [e] at n4 d4
  refine ⟨?_, d4⟩
  unfold letterR
  rw [n1, thn_ok, n2, thn_ok, n3, thn_ok, n4, thn_ok]
theorem let_z (m : Lt) (h : rightB m = true) (rest : Bs) : letterR (encB m ++ rest) = .ok (m, (encB m).length) := by
  obtain ⟨hf, ht, hm, hi, hr, hlt, hc, hk⟩ := head_parts h
  have hkc := kind_cases hk
  obtain ⟨kd, fr, tt, tm, ix, lt, cm, rd, ok, es, si, st, sn, sd⟩ := m
  simp only at hf ht hm hi hr hlt hc hkc
  obtain ⟨l, hl⟩ : ∃ l, encB ⟨kd, fr, tt, tm, ix, lt, cm, rd, ok, es, si, st, sn, sd⟩ ++ rest = l := ⟨_, rfl⟩
  rw [hl]
  have z1 : ((fr.toNat : Nat) : Int) = fr := by omega
  have z2 : ((tt.toNat : Nat) : Int) = tt := by omega
  have z3 : ((tm.toNat : Nat) : Int) = tm := by omega
  have z4 : ((ix.toNat : Nat) : Int) = ix := by omega
  have z5 : ((lt.toNat : Nat) : Int) = lt := by omega
  have z6 : ((cm.toNat : Nat) : Int) = cm := by omega
  have z7 : ((rd.toNat : Nat) : Int) = rd := by omega
  rcases hkc with rfl | rfl | rfl | rfl | rfl
  · unfold kindR at hk
    dsimp only at hk
    rw [if_pos rfl] at hk
    simp only [Bool.and_eq_true, beq_iff_eq, Bool.not_eq_true'] at hk
    obtain ⟨⟨⟨⟨he, hs⟩, rfl⟩, rfl⟩, rfl⟩ := hk
    obtain rfl := List.isEmpty_iff.1 he
    obtain ⟨rfl, rfl, rfl, rfl⟩ := snap_parts hs
    obtain ⟨e0, d0⟩ := body_z (kd := 1) (fr := fr) (tt := tt) (tm := tm) (body := pnz [ix, lt]) (rest := rest) (l := l) hl.symm (by omega) (by omega) (by omega) (by omega)
    simp only [pnz_cons ix, pnz_cons lt, pnz_nil, List.append_assoc, List.append_nil, List.nil_append] at d0
    rw [e0]
    unfold restR
    obtain ⟨n1, d1⟩ := nb_z (most := 999999) d0 hi.1 hi.2 (by omega)
    obtain ⟨n2, d2⟩ := nb_z (most := 999999) d1 hlt.1 (by omega) (by omega)
    rw [if_neg (by decide), if_pos (by decide), n1, thn_ok, n2, thn_ok, z1, z2, z3, z4, z5]
    congr 2
    simp [encB, pnz_cons, pnz_nil, bitK_n]
    try omega
  · unfold kindR at hk
    dsimp only at hk
    rw [if_neg (by decide), if_pos rfl] at hk
    simp only [Bool.and_eq_true, beq_iff_eq, Bool.not_eq_true'] at hk
    obtain ⟨⟨⟨⟨⟨he, hs⟩, rfl⟩, rfl⟩, rfl⟩, rfl⟩ := hk
    obtain rfl := List.isEmpty_iff.1 he
    obtain ⟨rfl, rfl, rfl, rfl⟩ := snap_parts hs
    obtain ⟨e0, d0⟩ := body_z (kd := 2) (fr := fr) (tt := tt) (tm := tm) (body := pnz [bitN ok]) (rest := rest) (l := l) hl.symm (by omega) (by omega) (by omega) (by omega)
    simp only [pnz_cons (bitN ok), pnz_nil, List.append_assoc, List.append_nil, List.nil_append] at d0
    rw [e0]
    unfold restR
    obtain ⟨n1, d1⟩ := nb_z (most := 1) d0 (by cases ok <;> decide) (by cases ok <;> decide) (by omega)
    rw [if_neg (by decide), if_neg (by decide), if_pos (by decide), n1, thn_ok, z1, z2, z3, bitK_n, bitK_beq]
    congr 2
    simp [encB, pnz_cons, pnz_nil, bitK_n]
    try omega
  · unfold kindR at hk
    dsimp only at hk
    rw [if_neg (by decide), if_neg (by decide), if_pos rfl] at hk
    simp only [Bool.and_eq_true, Bool.not_eq_true'] at hk
    obtain ⟨⟨⟨he, h4⟩, hs⟩, rfl⟩ := hk
    replace h4 := of_decide_eq_true h4
    obtain ⟨rfl, rfl, rfl, rfl⟩ := snap_parts hs
    obtain ⟨e0, d0⟩ := body_z (kd := 3) (fr := fr) (tt := tt) (tm := tm) (body := pnz [ix, lt, cm, rd, (es.length : Int)] ++ es.flatMap encEn) (rest := rest) (l := l) hl.symm (by omega) (by omega) (by omega) (by omega)
    simp only [pnz_cons ix, pnz_cons lt, pnz_cons cm, pnz_cons rd, pnz_cons (es.length : Int), pnz_nil, List.append_assoc, List.append_nil, List.nil_append] at d0
    rw [e0]
    unfold restR
    obtain ⟨n1, d1⟩ := nb_z (most := 999999) d0 hi.1 hi.2 (by omega)
    obtain ⟨n2, d2⟩ := nb_z (most := 999999) d1 hlt.1 (by omega) (by omega)
    obtain ⟨n3, d3⟩ := nb_z (most := 999999) d2 hc.1 hc.2 (by omega)
    obtain ⟨n4, d4⟩ := nb_z (most := 1073741824) d3 hr.1 hr.2 (by omega)
    obtain ⟨n5, d5⟩ := nb_z (most := 4) d4 (by omega) (by omega) (by omega)
    obtain ⟨n6, d6⟩ := ents_z es 0 _ lt rest d5 he
    rw [if_neg (by decide), if_neg (by decide), if_neg (by decide), if_neg (by decide), if_neg (by decide), n1, thn_ok, n2, thn_ok, n3, thn_ok, n4, thn_ok, n5, thn_ok, z4]
    rw [Int.toNat_natCast] at n6 ⊢
    rw [n6, thn_ok, z1, z2, z3, z5, z6, z7]
    congr 2
    simp [encB, pnz_cons, pnz_nil, bitK_n]
    try omega
  · unfold kindR at hk
    dsimp only at hk
    rw [if_neg (by decide), if_neg (by decide), if_neg (by decide), if_pos rfl] at hk
    simp only [Bool.and_eq_true, beq_iff_eq, Bool.not_eq_true'] at hk
    obtain ⟨⟨⟨he, hs⟩, rfl⟩, rfl⟩ := hk
    obtain rfl := List.isEmpty_iff.1 he
    obtain ⟨rfl, rfl, rfl, rfl⟩ := snap_parts hs
    obtain ⟨e0, d0⟩ := body_z (kd := 4) (fr := fr) (tt := tt) (tm := tm) (body := pnz [bitN ok, ix, rd]) (rest := rest) (l := l) hl.symm (by omega) (by omega) (by omega) (by omega)
    simp only [pnz_cons (bitN ok), pnz_cons ix, pnz_cons rd, pnz_nil, List.append_assoc, List.append_nil, List.nil_append] at d0
    rw [e0]
    unfold restR
    obtain ⟨n1, d1⟩ := nb_z (most := 1) d0 (by cases ok <;> decide) (by cases ok <;> decide) (by omega)
    obtain ⟨n2, d2⟩ := nb_z (most := 999999) d1 hi.1 hi.2 (by omega)
    obtain ⟨n3, d3⟩ := nb_z (most := 1073741824) d2 hr.1 hr.2 (by omega)
    rw [if_neg (by decide), if_neg (by decide), if_neg (by decide), if_pos (by decide), n1, thn_ok, n2, thn_ok, n3, thn_ok, z1, z2, z3, z4, z7, bitK_n, bitK_beq]
    congr 2
    simp [encB, pnz_cons, pnz_nil, bitK_n]
    try omega
  · unfold kindR at hk
    dsimp only at hk
    rw [if_neg (by decide), if_neg (by decide), if_neg (by decide), if_neg (by decide), if_pos rfl] at hk
    simp only [Bool.and_eq_true, beq_iff_eq, Bool.not_eq_true', bw_iff] at hk
    obtain ⟨⟨⟨⟨⟨⟨⟨⟨hsi, hst⟩, hg⟩, hsd⟩, he⟩, rfl⟩, rfl⟩, rfl⟩, rfl⟩ := hk
    replace hsd := of_decide_eq_true hsd
    obtain rfl := List.isEmpty_iff.1 he
    have z8 : ((si.toNat : Nat) : Int) = si := by omega
    have z9 : ((st.toNat : Nat) : Int) = st := by omega
    obtain ⟨e0, d0⟩ := body_z (kd := 5) (fr := fr) (tt := tt) (tm := tm) (body := pnz [si, st, (sn.length : Int)] ++ (pnz sn ++ (pnz [(sd.length : Int)] ++ (sd ++ pnz [rd])))) (rest := rest) (l := l) hl.symm (by omega) (by omega) (by omega) (by omega)
    simp only [pnz_cons si, pnz_cons st, pnz_cons (sn.length : Int), pnz_cons (sd.length : Int), pnz_cons rd, Int.toNat_natCast, pnz_nil, List.append_assoc, List.append_nil, List.nil_append] at d0
    rw [e0]
    unfold restR
    obtain ⟨n1, d1⟩ := nb_z (most := 999999) d0 (by omega) (by omega) (by omega)
    obtain ⟨n2, d2⟩ := nb_z (most := 999999) d1 (by omega) (by omega) (by omega)
    obtain ⟨n3, d3⟩ := nodes_z d2 hg
    obtain ⟨n4, d4⟩ := text_z (most := 300000) d3 hsd (by omega)
    obtain ⟨n5, d5⟩ := nb_z (most := 1073741824) d4 hr.1 hr.2 (by omega)
    rw [if_neg (by decide), if_neg (by decide), if_neg (by decide), if_neg (by decide), if_pos (by decide), n1, thn_ok, n2, thn_ok, n3, thn_ok, n4, thn_ok, n5, thn_ok, z1, z2, z3, z7, z8, z9]
    congr 2
    simp [encB, pnz_cons, pnz_nil, bitK_n]
    try omega
end Go.Proofs.YtknaaaphdjdaoaaDoor
end
section
namespace Go.Proofs.YtknaaaphdjdaoaaDoor
open Go.RowKit Mem
set_option linter.unusedVariables false
set_option linter.unusedSimpArgs false

theorem enc_inj {a b : Lt} (ha : rightB a = true) (hb : rightB b = true) : encB a = encB b ↔ a = b := by
  constructor
  · intro h
    have h1 := let_z a ha []
    have h2 := let_z b hb []
    rw [h, h2] at h1
    injection h1 with h1
    injection h1 with h1 _
    exact h1.symm
  · rintro rfl
    rfl
theorem u8_self (b : UInt8) : b.toNat.toUInt8 = b := by
  apply UInt8.toNat_inj.1
  have := b.toNat_lt
  simp
/-- A number is read from its own bytes alone. -/
theorem gnF_inv : ∀ (l : Bs) (k acc N J : Nat), k ≤ 10 → gnF k acc l = (N, J) → J ≠ 0 → ∃ m, N = acc + m * 128 ^ k ∧ k < J ∧ l.take (J - k) = pnF (10 - k) m ∧ (0 < k → 0 < m)
  | [], k, acc, N, J, _, h, hJ => by
    rw [gnF] at h
    injection h with _ h
    exact absurd h.symm hJ
  | b :: r, k, acc, N, J, hk, h, hJ => by
    have hb := b.toNat_lt
    rw [gnF] at h
    split at h
    · injection h with _ h; exact absurd h.symm hJ
    next hk10 =>
    split at h
    · injection h with _ h; exact absurd h.symm hJ
    next hz =>
    split at h
    · next h128 =>
      injection h with h1 h2
      subst h1 h2
      refine ⟨b.toNat, rfl, by omega, ?_, fun h0 => by omega⟩
      rw [show k + 1 - k = 1 by omega, pnF_stop _ _ h128, u8_self]
      rfl
    · next h128 =>
      obtain ⟨m, h1, h2, h3, h4⟩ := gnF_inv r (k + 1) _ N J (by omega) h hJ
      have hm := h4 (by omega)
      have ep : 128 ^ (k + 1) = 128 * 128 ^ k := by rw [Nat.pow_succ, Nat.mul_comm]
      refine ⟨b.toNat % 128 + 128 * m, ?_, by omega, ?_, fun _ => by omega⟩
      · rw [h1, ep, Nat.add_mul, ← Nat.mul_assoc, Nat.mul_comm m 128, Nat.add_assoc]
      · rw [show J - k = (J - (k + 1)) + 1 by omega, List.take_succ_cons, h3, show 10 - k = (10 - (k + 1)) + 1 by omega, pnF_go _ _ (by omega)]
        have e1 : (b.toNat % 128 + 128 * m) % 128 + 128 = b.toNat := by omega
        have e2 : (b.toNat % 128 + 128 * m) / 128 = m := by omega
        rw [e1, e2, u8_self]
theorem gn_inv {l : Bs} (h : (gn l).2 ≠ 0) : l = pn (gn l).1 ++ l.drop (gn l).2 := by
  obtain ⟨m, h1, h2, h3, _⟩ := gnF_inv l 0 0 (gn l).1 (gn l).2 (by omega) rfl h
  rw [Nat.pow_zero, Nat.mul_one, Nat.zero_add] at h1
  rw [Nat.sub_zero] at h3
  have : pn (gn l).1 = l.take (gn l).2 := by rw [h3, h1]; rfl
  rw [this, List.take_append_drop]
theorem nb_inv {l : Bs} {k most n j : Nat} (h : nb l k most = .ok (n, j)) : l.drop k = pn n ++ l.drop j ∧ n ≤ most := by
  unfold nb at h
  split at h
  · cases h
  · next hh =>
    injection h with h
    injection h with h1 h2
    subst h1 h2
    have := gn_inv (l := l.drop k) (by omega)
    rw [List.drop_drop] at this
    exact ⟨this, by omega⟩
theorem tb_inv {l s : Bs} {k most j : Nat} (h : tb l k most = .ok (s, j)) : l.drop k = pn s.length ++ (s ++ l.drop j) := by
  unfold tb at h
  split at h
  · cases h
  · next hh =>
    injection h with h
    injection h with h1 h2
    subst h1 h2
    unfold gt at hh ⊢
    split at hh
    · exact absurd rfl hh
    · next hg =>
      rw [if_neg hg]
      have hn := gn_inv (l := l.drop k) (by omega)
      have hle := (gn_le (l.drop k)).1
      have hlen : (((l.drop k).drop (gn (l.drop k)).2).take (gn (l.drop k)).1).length = (gn (l.drop k)).1 := by
        rw [List.length_take, List.length_drop]
        omega
      rw [hlen, ← Nat.add_assoc, ← List.drop_drop (l := l), ← List.drop_drop (l := l)]
      conv => lhs; rw [hn]
      congr 1
      rw [List.take_append_drop]
theorem rowR_inv {l : Bs} : ∀ (n k : Nat) (zs : List Int) (j : Nat), rowR l n k = .ok (zs, j) → l.drop k = pnz zs ++ l.drop j ∧ zs.length = n
  | 0, k, zs, j, h => by
    rw [rowR] at h
    injection h with h
    injection h with h1 h2
    subst h1 h2
    exact ⟨rfl, rfl⟩
  | n + 1, k, zs, j, h => by
    rw [rowR] at h
    cases h1 : nb l k 5 with
    | error p => rw [h1] at h; cases h
    | ok x =>
      obtain ⟨z, k1⟩ := x
      rw [h1, thn_ok] at h
      cases h2 : rowR l n k1 with
      | error p => rw [h2] at h; cases h
      | ok y =>
        obtain ⟨ys, k2⟩ := y
        rw [h2, thn_ok] at h
        injection h with h
        injection h with h3 h4
        subst h3 h4
        obtain ⟨e1, _⟩ := nb_inv h1
        obtain ⟨e2, e3⟩ := rowR_inv n k1 ys k2 h2
        rw [e1, e2, pnz_cons, Int.toNat_natCast, List.append_assoc, List.length_cons, e3]
        exact ⟨rfl, rfl⟩
theorem nodesR_inv {l : Bs} {k j : Nat} {zs : List Int} (h : nodesR l k = .ok (zs, j)) : l.drop k = pn zs.length ++ (pnz zs ++ l.drop j) := by
  rw [nodesR] at h
  cases h1 : nb l k 5 with
  | error p => rw [h1] at h; cases h
  | ok x =>
    obtain ⟨n, k1⟩ := x
    rw [h1, thn_ok] at h
    obtain ⟨e1, _⟩ := nb_inv h1
    obtain ⟨e2, e3⟩ := rowR_inv n k1 zs j h
    rw [e1, e2, e3]
end Go.Proofs.YtknaaaphdjdaoaaDoor
end
section
namespace Go.Proofs.YtknaaaphdjdaoaaDoor
open Go.RowKit Mem
set_option linter.unusedVariables false
set_option linter.unusedSimpArgs false

theorem thn_inv {α β : Type} {x : Except Nat (α × Nat)} {f : α → Nat → Except Nat (β × Nat)} {y : β × Nat} (h : thn x f = .ok y) : ∃ a k, x = .ok (a, k) ∧ f a k = .ok y := by
  cases x with
  | error p => rw [thn_err] at h; cases h
  | ok x => obtain ⟨a, k⟩ := x; exact ⟨a, k, rfl, h⟩
theorem bitN_eq {b : Nat} (h : b ≤ 1) : bitN ((b == 1) : Bool) = (b : Int) := by
  have : b = 0 ∨ b = 1 := by omega
  rcases this with rfl | rfl <;> rfl
theorem ok_inj {α : Type} {a b : α} {j k : Nat} (h : (Except.ok (a, j) : Except Nat (α × Nat)) = .ok (b, k)) : a = b ∧ j = k := by
  injection h with h
  injection h with h1 h2
  exact ⟨h1, h2⟩
theorem entR_inv {l : Bs} {ix : Int} {i k j : Nat} {e : En} (h : entR l ix i k = .ok (e, j)) : l.drop k = encEn e ++ l.drop j := by
  unfold entR at h
  obtain ⟨tm, k1, h1, h⟩ := thn_inv h
  obtain ⟨kd, k2, h2, h⟩ := thn_inv h
  obtain ⟨e1, b1⟩ := nb_inv h1
  obtain ⟨e2, b2⟩ := nb_inv h2
  by_cases c1 : kd = 1
  · rw [if_pos c1] at h
    obtain ⟨dt, k3, h3, h⟩ := thn_inv h
    obtain ⟨rfl, rfl⟩ := ok_inj h
    subst c1
    rw [e1, e2, tb_inv h3]
    simp [encEn, pnz_cons, pnz_nil]
  · rw [if_neg c1] at h
    by_cases c2 : kd = 2
    · rw [if_pos c2] at h
      obtain ⟨nd, k3, h3, h⟩ := thn_inv h
      obtain ⟨rfl, rfl⟩ := ok_inj h
      subst c2
      rw [e1, e2, nodesR_inv h3]
      simp [encEn, pnz_cons, pnz_nil]
    · rw [if_neg c2] at h
      obtain ⟨rfl, rfl⟩ := ok_inj h
      obtain rfl : kd = 0 := by omega
      rw [e1, e2]
      simp [encEn, pnz_cons, pnz_nil]
theorem entsR_inv {l : Bs} {ix : Int} : ∀ (n i k j : Nat) (es : List En), entsR l ix n i k = .ok (es, j) → l.drop k = es.flatMap encEn ++ l.drop j ∧ es.length = n
  | 0, i, k, j, es, h => by
    rw [entsR] at h
    obtain ⟨rfl, rfl⟩ := ok_inj h
    exact ⟨rfl, rfl⟩
  | n + 1, i, k, j, es, h => by
    rw [entsR] at h
    obtain ⟨e, k1, h1, h⟩ := thn_inv h
    obtain ⟨es', k2, h2, h⟩ := thn_inv h
    obtain ⟨rfl, rfl⟩ := ok_inj h
    obtain ⟨e2, e3⟩ := entsR_inv n (i + 1) k1 k2 es' h2
    rw [entR_inv h1, e2, List.flatMap_cons, List.append_assoc, List.length_cons, e3]
    exact ⟨rfl, rfl⟩
theorem letterR_inv {l : Bs} {m : Lt} {j : Nat} (h : letterR l = .ok (m, j)) : l = encB m ++ l.drop j := by
  unfold letterR at h
  obtain ⟨kd, k1, h1, h⟩ := thn_inv h
  obtain ⟨fr, k2, h2, h⟩ := thn_inv h
  obtain ⟨tt, k3, h3, h⟩ := thn_inv h
  obtain ⟨tm, k4, h4, h⟩ := thn_inv h
  obtain ⟨e1, b1⟩ := nb_inv h1
  have e2 := (nb_inv h2).1
  have e3 := (nb_inv h3).1
  have e4 := (nb_inv h4).1
  rw [List.drop_zero] at e1
  unfold restR at h
  by_cases c0 : kd = 0
  · rw [if_pos c0] at h; cases h
  rw [if_neg c0] at h
  by_cases c1 : kd = 1
  · rw [if_pos c1] at h
    obtain ⟨ix, k5, h5, h⟩ := thn_inv h
    obtain ⟨lt, k6, h6, h⟩ := thn_inv h
    obtain ⟨rfl, rfl⟩ := ok_inj h
    subst c1
    conv => lhs; rw [e1, e2, e3, e4, (nb_inv h5).1, (nb_inv h6).1]
    simp [encB, pnz_cons, pnz_nil]
  rw [if_neg c1] at h
  by_cases c2 : kd = 2
  · rw [if_pos c2] at h
    obtain ⟨b, k5, h5, h⟩ := thn_inv h
    obtain ⟨rfl, rfl⟩ := ok_inj h
    subst c2
    conv => lhs; rw [e1, e2, e3, e4, (nb_inv h5).1]
    simp [encB, pnz_cons, pnz_nil, bitN_eq (nb_inv h5).2]
  rw [if_neg c2] at h
  by_cases c4 : kd = 4
  · rw [if_pos c4] at h
    obtain ⟨b, k5, h5, h⟩ := thn_inv h
    obtain ⟨ix, k6, h6, h⟩ := thn_inv h
    obtain ⟨rd, k7, h7, h⟩ := thn_inv h
    obtain ⟨rfl, rfl⟩ := ok_inj h
    subst c4
    conv => lhs; rw [e1, e2, e3, e4, (nb_inv h5).1, (nb_inv h6).1, (nb_inv h7).1]
    simp [encB, pnz_cons, pnz_nil, bitN_eq (nb_inv h5).2]
  rw [if_neg c4] at h
  by_cases c5 : kd = 5
  · rw [if_pos c5] at h
    obtain ⟨si, k5, h5, h⟩ := thn_inv h
    obtain ⟨st, k6, h6, h⟩ := thn_inv h
    obtain ⟨sn, k7, h7, h⟩ := thn_inv h
    obtain ⟨sd, k8, h8, h⟩ := thn_inv h
    obtain ⟨rd, k9, h9, h⟩ := thn_inv h
    obtain ⟨rfl, rfl⟩ := ok_inj h
    subst c5
    conv => lhs; rw [e1, e2, e3, e4, (nb_inv h5).1, (nb_inv h6).1, nodesR_inv h7, tb_inv h8, (nb_inv h9).1]
    simp [encB, pnz_cons, pnz_nil]
  rw [if_neg c5] at h
  have c3 : kd = 3 := by omega
  obtain ⟨ix, k5, h5, h⟩ := thn_inv h
  obtain ⟨lt, k6, h6, h⟩ := thn_inv h
  obtain ⟨cm, k7, h7, h⟩ := thn_inv h
  obtain ⟨rd, k8, h8, h⟩ := thn_inv h
  obtain ⟨n, k9, h9, h⟩ := thn_inv h
  obtain ⟨es, k10, h10, h⟩ := thn_inv h
  obtain ⟨rfl, rfl⟩ := ok_inj h
  subst c3
  obtain ⟨e10, n10⟩ := entsR_inv _ _ _ _ _ h10
  conv => lhs; rw [e1, e2, e3, e4, (nb_inv h5).1, (nb_inv h6).1, (nb_inv h7).1, (nb_inv h8).1, (nb_inv h9).1, e10]
  simp [encB, pnz_cons, pnz_nil, n10]
/-- Of a string, a right letter is read and nothing is left, just if the string is its bytes. -/
theorem letterR_iff {l : Bs} {m : Lt} (hm : rightB m = true) : letterR l = .ok (m, l.length) ↔ l = encB m := by
  constructor
  · intro h
    have := letterR_inv h
    rwa [List.drop_length, List.append_nil] at this
  · rintro rfl
    have := let_z m hm []
    rwa [List.append_nil] at this
end Go.Proofs.YtknaaaphdjdaoaaDoor
end
