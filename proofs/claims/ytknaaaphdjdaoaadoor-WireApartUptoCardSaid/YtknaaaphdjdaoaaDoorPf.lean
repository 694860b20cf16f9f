/-
  A right letter's bytes are read as it. No walk in sight.
-/
import Derived.Test.YtknaaaphdjdaoaaDoorPe
namespace Go.Proofs.YtknaaaphdjdaoaaDoor
open Go.RowKit Mem
set_option linter.unusedVariables false
set_option linter.unusedSimpArgs false

theorem head_parts {m : Lt} (h : rightB m = true) : (1 ≤ m.fr ∧ m.fr ≤ 5) ∧ (1 ≤ m.tt ∧ m.tt ≤ 5) ∧ (1 ≤ m.tm ∧ m.tm ≤ 999999) ∧ (0 ≤ m.ix ∧ m.ix ≤ 999999) ∧ (0 ≤ m.rd ∧ m.rd ≤ 1073741824) ∧ (0 ≤ m.lt ∧ m.lt ≤ m.tm) ∧ (0 ≤ m.cm ∧ m.cm ≤ 999999) ∧ kindR m = true := by
  rw [rightB, Bool.and_eq_true, Bool.and_eq_true, head0, fine0] at h
  simp only [Bool.and_eq_true, bw_iff] at h
  obtain ⟨⟨⟨⟨⟨h1, h2⟩, _⟩, h4⟩, ⟨⟨h5, h6⟩, h7⟩, h8⟩, h9⟩ := h
  exact ⟨h1, h2, h4, h5, h6, h7, h8, h9⟩
theorem snap_parts {m : Lt} (h : snap0 m = true) : m.si = 0 ∧ m.st = 0 ∧ m.sn = [] ∧ m.sd = [] := by
  rw [snap0, Bool.and_eq_true, Bool.and_eq_true, Bool.and_eq_true] at h
  exact ⟨by simpa using h.1.1.1, by simpa using h.1.1.2, List.isEmpty_iff.1 h.1.2, List.isEmpty_iff.1 h.2⟩
theorem kind_cases {m : Lt} (h : kindR m = true) : m.kd = 1 ∨ m.kd = 2 ∨ m.kd = 3 ∨ m.kd = 4 ∨ m.kd = 5 := by
  by_cases h1 : m.kd = 1
  · exact .inl h1
  by_cases h2 : m.kd = 2
  · exact .inr (.inl h2)
  by_cases h3 : m.kd = 3
  · exact .inr (.inr (.inl h3))
  by_cases h4 : m.kd = 4
  · exact .inr (.inr (.inr (.inl h4)))
  by_cases h5 : m.kd = 5
  · exact .inr (.inr (.inr (.inr h5)))
  unfold kindR at h
  rw [if_neg h1, if_neg h2, if_neg h3, if_neg h4, if_neg h5] at h
  cases h
theorem body_z {kd fr tt tm : Int} {body rest l : Bs} (hl : l = pnz [kd, fr, tt, tm] ++ body ++ rest) (h0 : 0 ≤ kd ∧ kd ≤ 5) (h1 : 0 ≤ fr ∧ fr ≤ 5) (h2 : 0 ≤ tt ∧ tt ≤ 5) (h3 : 0 ≤ tm ∧ tm ≤ 999999) :
    letterR l = restR l kd.toNat fr.toNat tt.toNat tm.toNat (pnz [kd, fr, tt, tm]).length ∧ l.drop (pnz [kd, fr, tt, tm]).length = body ++ rest := by
  have hd : l.drop 0 = pn kd.toNat ++ (pn fr.toNat ++ (pn tt.toNat ++ (pn tm.toNat ++ (body ++ rest)))) := by
    rw [hl, List.drop_zero]
    simp only [pnz_cons, pnz_nil, List.append_assoc, List.append_nil, List.nil_append]
  obtain ⟨n1, d1⟩ := nb_z (most := 5) hd h0.1 h0.2 (by omega)
  obtain ⟨n2, d2⟩ := nb_z (most := 5) d1 h1.1 h1.2 (by omega)
  obtain ⟨n3, d3⟩ := nb_z (most := 5) d2 h2.1 h2.2 (by omega)
  obtain ⟨n4, d4⟩ := nb_z (most := 999999) d3 h3.1 h3.2 (by omega)
  have e : 0 + (pn kd.toNat).length + (pn fr.toNat).length + (pn tt.toNat).length + (pn tm.toNat).length = (pnz [kd, fr, tt, tm]).length := by
    simp only [pnz_cons, pnz_nil, List.length_append, List.length_nil]
    omega
  rw [e] at n4 d4
  refine ⟨?_, d4⟩
  unfold letterR
  rw [n1, thn_ok, n2, thn_ok, n3, thn_ok, n4, thn_ok]
theorem let_z (m : Lt) (h : rightB m = true) (rest : Bs) : letterR (encB m ++ rest) = .ok (m, (encB m).length) := by
  obtain ⟨hf, ht, hm, hi, hr, hlt, hc, hk⟩ := head_parts h
  have hkc := kind_cases hk
  obtain ⟨kd, fr, tt, tm, ix, lt, cm, rd, ok, es, si, st, sn, sd⟩ := m
  simp only at hf ht hm hi hr hlt hc hkc
  obtain ⟨l, hl⟩ : ∃ l, encB ⟨kd, fr, tt, tm, ix, lt, cm, rd, ok, es, si, st, sn, sd⟩ ++ rest = l := ⟨_, rfl⟩
  rw [hl]
  have z1 : ((fr.toNat : Nat) : Int) = fr := by omega
  have z2 : ((tt.toNat : Nat) : Int) = tt := by omega
  have z3 : ((tm.toNat : Nat) : Int) = tm := by omega
  have z4 : ((ix.toNat : Nat) : Int) = ix := by omega
  have z5 : ((lt.toNat : Nat) : Int) = lt := by omega
  have z6 : ((cm.toNat : Nat) : Int) = cm := by omega
  have z7 : ((rd.toNat : Nat) : Int) = rd := by omega
  rcases hkc with rfl | rfl | rfl | rfl | rfl
  · unfold kindR at hk
    dsimp only at hk
    rw [if_pos rfl] at hk
    simp only [Bool.and_eq_true, beq_iff_eq, Bool.not_eq_true'] at hk
    obtain ⟨⟨⟨⟨he, hs⟩, rfl⟩, rfl⟩, rfl⟩ := hk
    obtain rfl := List.isEmpty_iff.1 he
    obtain ⟨rfl, rfl, rfl, rfl⟩ := snap_parts hs
    obtain ⟨e0, d0⟩ := body_z (kd := 1) (fr := fr) (tt := tt) (tm := tm) (body := pnz [ix, lt]) (rest := rest) (l := l) hl.symm (by omega) (by omega) (by omega) (by omega)
    simp only [pnz_cons ix, pnz_cons lt, pnz_nil, List.append_assoc, List.append_nil, List.nil_append] at d0
    rw [e0]
    unfold restR
    obtain ⟨n1, d1⟩ := nb_z (most := 999999) d0 hi.1 hi.2 (by omega)
    obtain ⟨n2, d2⟩ := nb_z (most := 999999) d1 hlt.1 (by omega) (by omega)
    rw [if_neg (by decide), if_pos (by decide), n1, thn_ok, n2, thn_ok, z1, z2, z3, z4, z5]
    congr 2
    simp [encB, pnz_cons, pnz_nil, bitK_n]
    try omega
  · unfold kindR at hk
    dsimp only at hk
    rw [if_neg (by decide), if_pos rfl] at hk
    simp only [Bool.and_eq_true, beq_iff_eq, Bool.not_eq_true'] at hk
    obtain ⟨⟨⟨⟨⟨he, hs⟩, rfl⟩, rfl⟩, rfl⟩, rfl⟩ := hk
    obtain rfl := List.isEmpty_iff.1 he
    obtain ⟨rfl, rfl, rfl, rfl⟩ := snap_parts hs
    obtain ⟨e0, d0⟩ := body_z (kd := 2) (fr := fr) (tt := tt) (tm := tm) (body := pnz [bitN ok]) (rest := rest) (l := l) hl.symm (by omega) (by omega) (by omega) (by omega)
    simp only [pnz_cons (bitN ok), pnz_nil, List.append_assoc, List.append_nil, List.nil_append] at d0
    rw [e0]
    unfold restR
    obtain ⟨n1, d1⟩ := nb_z (most := 1) d0 (by cases ok <;> decide) (by cases ok <;> decide) (by omega)
    rw [if_neg (by decide), if_neg (by decide), if_pos (by decide), n1, thn_ok, z1, z2, z3, bitK_n, bitK_beq]
    congr 2
    simp [encB, pnz_cons, pnz_nil, bitK_n]
    try omega
  · unfold kindR at hk
    dsimp only at hk
    rw [if_neg (by decide), if_neg (by decide), if_pos rfl] at hk
    simp only [Bool.and_eq_true, Bool.not_eq_true'] at hk
    obtain ⟨⟨⟨he, h4⟩, hs⟩, rfl⟩ := hk
    replace h4 := of_decide_eq_true h4
    obtain ⟨rfl, rfl, rfl, rfl⟩ := snap_parts hs
    obtain ⟨e0, d0⟩ := body_z (kd := 3) (fr := fr) (tt := tt) (tm := tm) (body := pnz [ix, lt, cm, rd, (es.length : Int)] ++ es.flatMap encEn) (rest := rest) (l := l) hl.symm (by omega) (by omega) (by omega) (by omega)
    simp only [pnz_cons ix, pnz_cons lt, pnz_cons cm, pnz_cons rd, pnz_cons (es.length : Int), pnz_nil, List.append_assoc, List.append_nil, List.nil_append] at d0
    rw [e0]
    unfold restR
    obtain ⟨n1, d1⟩ := nb_z (most := 999999) d0 hi.1 hi.2 (by omega)
    obtain ⟨n2, d2⟩ := nb_z (most := 999999) d1 hlt.1 (by omega) (by omega)
    obtain ⟨n3, d3⟩ := nb_z (most := 999999) d2 hc.1 hc.2 (by omega)
    obtain ⟨n4, d4⟩ := nb_z (most := 1073741824) d3 hr.1 hr.2 (by omega)
    obtain ⟨n5, d5⟩ := nb_z (most := 4) d4 (by omega) (by omega) (by omega)
    obtain ⟨n6, d6⟩ := ents_z es 0 _ lt rest d5 he
    rw [if_neg (by decide), if_neg (by decide), if_neg (by decide), if_neg (by decide), if_neg (by decide), n1, thn_ok, n2, thn_ok, n3, thn_ok, n4, thn_ok, n5, thn_ok, z4]
    rw [Int.toNat_natCast] at n6 ⊢
    rw [n6, thn_ok, z1, z2, z3, z5, z6, z7]
    congr 2
    simp [encB, pnz_cons, pnz_nil, bitK_n]
    try omega
  · unfold kindR at hk
    dsimp only at hk
    rw [if_neg (by decide), if_neg (by decide), if_neg (by decide), if_pos rfl] at hk
    simp only [Bool.and_eq_true, beq_iff_eq, Bool.not_eq_true'] at hk
    obtain ⟨⟨⟨he, hs⟩, rfl⟩, rfl⟩ := hk
    obtain rfl := List.isEmpty_iff.1 he
    obtain ⟨rfl, rfl, rfl, rfl⟩ := snap_parts hs
    obtain ⟨e0, d0⟩ := body_z (kd := 4) (fr := fr) (tt := tt) (tm := tm) (body := pnz [bitN ok, ix, rd]) (rest := rest) (l := l) hl.symm (by omega) (by omega) (by omega) (by omega)
    simp only [pnz_cons (bitN ok), pnz_cons ix, pnz_cons rd, pnz_nil, List.append_assoc, List.append_nil, List.nil_append] at d0
    rw [e0]
    unfold restR
    obtain ⟨n1, d1⟩ := nb_z (most := 1) d0 (by cases ok <;> decide) (by cases ok <;> decide) (by omega)
    obtain ⟨n2, d2⟩ := nb_z (most := 999999) d1 hi.1 hi.2 (by omega)
    obtain ⟨n3, d3⟩ := nb_z (most := 1073741824) d2 hr.1 hr.2 (by omega)
    rw [if_neg (by decide), if_neg (by decide), if_neg (by decide), if_pos (by decide), n1, thn_ok, n2, thn_ok, n3, thn_ok, z1, z2, z3, z4, z7, bitK_n, bitK_beq]
    congr 2
    simp [encB, pnz_cons, pnz_nil, bitK_n]
    try omega
  · unfold kindR at hk
    dsimp only at hk
    rw [if_neg (by decide), if_neg (by decide), if_neg (by decide), if_neg (by decide), if_pos rfl] at hk
    simp only [Bool.and_eq_true, beq_iff_eq, Bool.not_eq_true', bw_iff] at hk
    obtain ⟨⟨⟨⟨⟨⟨⟨⟨hsi, hst⟩, hg⟩, hsd⟩, he⟩, rfl⟩, rfl⟩, rfl⟩, rfl⟩ := hk
    replace hsd := of_decide_eq_true hsd
    obtain rfl := List.isEmpty_iff.1 he
    have z8 : ((si.toNat : Nat) : Int) = si := by omega
    have z9 : ((st.toNat : Nat) : Int) = st := by omega
    obtain ⟨e0, d0⟩ := body_z (kd := 5) (fr := fr) (tt := tt) (tm := tm) (body := pnz [si, st, (sn.length : Int)] ++ (pnz sn ++ (pnz [(sd.length : Int)] ++ (sd ++ pnz [rd])))) (rest := rest) (l := l) hl.symm (by omega) (by omega) (by omega) (by omega)
    simp only [pnz_cons si, pnz_cons st, pnz_cons (sn.length : Int), pnz_cons (sd.length : Int), pnz_cons rd, Int.toNat_natCast, pnz_nil, List.append_assoc, List.append_nil, List.nil_append] at d0
    rw [e0]
    unfold restR
    obtain ⟨n1, d1⟩ := nb_z (most := 999999) d0 (by omega) (by omega) (by omega)
    obtain ⟨n2, d2⟩ := nb_z (most := 999999) d1 (by omega) (by omega) (by omega)
    obtain ⟨n3, d3⟩ := nodes_z d2 hg
    obtain ⟨n4, d4⟩ := text_z (most := 300000) d3 hsd (by omega)
    obtain ⟨n5, d5⟩ := nb_z (most := 1073741824) d4 hr.1 hr.2 (by omega)
    rw [if_neg (by decide), if_neg (by decide), if_neg (by decide), if_neg (by decide), if_pos (by decide), n1, thn_ok, n2, thn_ok, n3, thn_ok, n4, thn_ok, n5, thn_ok, z1, z2, z3, z7, z8, z9]
    congr 2
    simp [encB, pnz_cons, pnz_nil, bitK_n]
    try omega
end Go.Proofs.YtknaaaphdjdaoaaDoor
