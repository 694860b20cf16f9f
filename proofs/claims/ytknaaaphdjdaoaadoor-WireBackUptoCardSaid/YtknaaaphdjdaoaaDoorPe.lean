/-
  A letter's bytes, and what is read of them. No walk in sight.
-/
import Derived.Test.YtknaaaphdjdaoaaDoorWp
import Derived.Test.YtknaaaphdjdaoaaDoorLg
namespace Go.Proofs.YtknaaaphdjdaoaaDoor
open Go.RowKit Mem
set_option linter.unusedVariables false
set_option linter.unusedSimpArgs false

def encEn (e : En) : Bs := pnz [e.tm, e.kd] ++ (if e.kd = 1 then pnz [(e.dt.length : Int)] ++ e.dt else if e.kd = 2 then pnz [(e.nd.length : Int)] ++ pnz e.nd else [])
def encB (m : Lt) : Bs := pnz [m.kd, m.fr, m.tt, m.tm] ++
  (if m.kd = 1 then pnz [m.ix, m.lt]
   else if m.kd = 2 then pnz [bitN m.ok]
   else if m.kd = 4 then pnz [bitN m.ok, m.ix, m.rd]
   else if m.kd = 5 then pnz [m.si, m.st, (m.sn.length : Int)] ++ (pnz m.sn ++ (pnz [(m.sd.length : Int)] ++ (m.sd ++ pnz [m.rd])))
   else pnz [m.ix, m.lt, m.cm, m.rd, (m.es.length : Int)] ++ m.es.flatMap encEn)
theorem pnz_cons (z : Int) (zs : List Int) : pnz (z :: zs) = pn z.toNat ++ pnz zs := rfl
theorem pnz_nil : pnz [] = [] := rfl
/-- One number, read at a place. -/
theorem nb_z {l : Bs} {k most : Nat} {z : Int} {rest : Bs} (h : l.drop k = pn z.toNat ++ rest) (h0 : 0 ≤ z) (h1 : z ≤ (most : Int)) (hm : most ≤ 1073741824) : nb l k most = .ok (z.toNat, k + (pn z.toNat).length) ∧ l.drop (k + (pn z.toNat).length) = rest :=
  nb_at h (by omega) (by omega)
theorem toNat_z {z : Int} (h : 0 ≤ z) : ((z.toNat : Nat) : Int) = z := by omega
theorem row_z {l : Bs} : ∀ (zs : List Int) (k : Nat) (rest : Bs), l.drop k = pnz zs ++ rest → (∀ z ∈ zs, 0 ≤ z ∧ z ≤ 5) → rowR l zs.length k = .ok (zs, k + (pnz zs).length) ∧ l.drop (k + (pnz zs).length) = rest
  | [], k, rest, h, _ => ⟨rfl, by simpa [pnz_nil] using h⟩
  | z :: zs, k, rest, h, hz => by
    rw [pnz_cons, List.append_assoc] at h
    have hb := hz z (by simp)
    obtain ⟨n1, h1⟩ := nb_z (most := 5) h hb.1 hb.2 (by omega)
    obtain ⟨n2, h2⟩ := row_z zs _ rest h1 (fun x hx => hz x (by simp [hx]))
    have e : k + (pnz (z :: zs)).length = k + (pn z.toNat).length + (pnz zs).length := by rw [pnz_cons, List.length_append]; omega
    rw [e]
    refine ⟨?_, h2⟩
    show thn (nb l k 5) (fun z j => thn (rowR l zs.length j) fun zs j' => .ok ((z : Int) :: zs, j')) = _
    rw [n1, thn_ok, n2, thn_ok, toNat_z hb.1]
theorem up_range : ∀ (zs : List Int) (p : Int), upB p zs = true → ∀ z ∈ zs, 1 ≤ z ∧ z ≤ 5
  | [], _, _, z, hz => by simp at hz
  | x :: r, p, h, z, hz => by
    rw [upB, Bool.and_eq_true] at h
    by_cases hx : 1 ≤ x ∧ x ≤ 5 ∧ p < x
    · rcases List.mem_cons.1 hz with rfl | hz
      · exact ⟨hx.1, hx.2.1⟩
      · exact up_range r x h.2 z hz
    · have := upB_bad (r := r) hx
      rw [upB] at this
      rw [h.1, h.2] at this
      cases this
theorem up_len : ∀ (zs : List Int) (p : Int), 0 ≤ p → p ≤ 5 → upB p zs = true → (zs.length : Int) ≤ 5 - p
  | [], p, _, h, _ => by simp; omega
  | x :: r, p, h0, h5, h => by
    rw [upB, Bool.and_eq_true] at h
    by_cases hx : 1 ≤ x ∧ x ≤ 5 ∧ p < x
    · have := up_len r x (by omega) hx.2.1 h.2
      simp only [List.length_cons]
      omega
    · have := upB_bad (r := r) hx
      rw [upB] at this
      rw [h.1, h.2] at this
      cases this
theorem nodes_z {l : Bs} {zs : List Int} {k : Nat} {rest : Bs} (h : l.drop k = pn zs.length ++ (pnz zs ++ rest)) (hg : groupB zs = true) : nodesR l k = .ok (zs, k + ((pn zs.length).length + (pnz zs).length)) ∧ l.drop (k + ((pn zs.length).length + (pnz zs).length)) = rest := by
  rw [groupB, Bool.and_eq_true] at hg
  have hl := up_len zs 0 (by omega) (by omega) hg.1
  have hr := up_range zs 0 hg.1
  obtain ⟨n1, h1⟩ := nb_at (most := 5) h (by omega) (by omega)
  obtain ⟨n2, h2⟩ := row_z zs _ rest h1 (fun z hz => by have := hr z hz; omega)
  rw [← Nat.add_assoc]
  refine ⟨?_, h2⟩
  unfold nodesR
  rw [n1, thn_ok, n2]
theorem text_z {l s : Bs} {k most : Nat} {rest : Bs} (h : l.drop k = pn s.length ++ (s ++ rest)) (hs : s.length ≤ most) (hm : most ≤ 1000000) : tb l k most = .ok (s, k + ((pn s.length).length + s.length)) ∧ l.drop (k + ((pn s.length).length + s.length)) = rest := by
  have e := gt_pn s rest (most : Int) (by omega) (by omega)
  rw [List.append_assoc] at e
  have h1 := (pn_len s.length).1
  constructor
  · unfold tb
    rw [h, e, if_neg (by simp only; omega)]
  · rw [← List.drop_drop, h, ← List.append_assoc, ← List.length_append, List.drop_left]
theorem ent_z {l : Bs} {ix : Int} {i k : Nat} {e : En} {rest : Bs} (h : l.drop k = encEn e ++ rest) (hi : e.ix = ix + 1 + i) (he : entryB e = true) : entR l ix i k = .ok (e, k + (encEn e).length) ∧ l.drop (k + (encEn e).length) = rest := by
  obtain ⟨eix, tm, kd, dt, nd⟩ := e
  simp only at hi
  subst hi
  simp only [entryB, Bool.and_eq_true] at he
  obtain ⟨⟨⟨⟨⟨h1, h2⟩, h3⟩, h4⟩, h5⟩, hk⟩ := he
  replace h3 := of_decide_eq_true h3
  replace h4 := of_decide_eq_true h4
  replace h5 := of_decide_eq_true h5
  clear h1 h2
  have hk2 : kd = 0 ∨ kd = 1 ∨ kd = 2 := by
    by_cases a : kd = 0
    · exact .inl a
    by_cases b : kd = 1
    · exact .inr (.inl b)
    by_cases c : kd = 2
    · exact .inr (.inr c)
    rw [kindBx kd dt nd a b c] at hk
    cases hk
  have hd : l.drop k = pn tm.toNat ++ (pn kd.toNat ++ ((if kd = 1 then pnz [(dt.length : Int)] ++ dt else if kd = 2 then pnz [(nd.length : Int)] ++ pnz nd else []) ++ rest)) := by
    rw [h, encEn]
    simp only [pnz_cons, pnz_nil, List.append_assoc, List.append_nil, List.nil_append]
  obtain ⟨n1, d1⟩ := nb_z (most := 999999) hd (by omega) (by omega) (by omega)
  obtain ⟨n2, d2⟩ := nb_z (most := 2) d1 (by omega) (by omega) (by omega)
  have hlen : (encEn ⟨ix + 1 + i, tm, kd, dt, nd⟩).length = (pn tm.toNat).length + (pn kd.toNat).length + (if kd = 1 then pnz [(dt.length : Int)] ++ dt else if kd = 2 then pnz [(nd.length : Int)] ++ pnz nd else []).length := by
    rw [encEn]
    simp only [pnz_cons, pnz_nil, List.length_append, List.append_nil]
  unfold entR
  rw [n1, thn_ok, n2, thn_ok, hlen]
  rcases hk2 with rfl | rfl | rfl
  · rw [kindB0, Bool.and_eq_true] at hk
    have e1 : dt = [] := List.isEmpty_iff.1 hk.1
    have e2 : nd = [] := List.isEmpty_iff.1 hk.2
    subst e1 e2
    refine ⟨?_, ?_⟩
    · rw [if_neg (by decide), if_neg (by decide)]
      simp only [toNat_z (show (0 : Int) ≤ tm by omega)]
      simp
      omega
    · simpa [Nat.add_assoc] using d2
  · rw [kindB1] at hk
    have e2 : nd = [] := List.isEmpty_iff.1 hk
    subst e2
    have d3 : l.drop (k + (pn tm.toNat).length + (pn (1 : Int).toNat).length) = pn dt.length ++ (dt ++ rest) := by
      rw [d2]
      simp [pnz_cons, pnz_nil]
    obtain ⟨n3, d4⟩ := text_z (most := 8000) d3 (by omega) (by omega)
    refine ⟨?_, ?_⟩
    · rw [if_pos (by decide), n3, thn_ok]
      simp only [toNat_z (show (0 : Int) ≤ tm by omega)]
      congr 2
      simp [pnz_cons, pnz_nil]
      omega
    · rw [← d4]
      congr 1
      simp [pnz_cons, pnz_nil]
      omega
  · rw [kindB2, Bool.and_eq_true] at hk
    have e1 : dt = [] := List.isEmpty_iff.1 hk.2
    subst e1
    have d3 : l.drop (k + (pn tm.toNat).length + (pn (2 : Int).toNat).length) = pn nd.length ++ (pnz nd ++ rest) := by
      rw [d2]
      simp [pnz_cons, pnz_nil]
    obtain ⟨n3, d4⟩ := nodes_z d3 hk.1
    refine ⟨?_, ?_⟩
    · rw [if_neg (by decide), if_pos (by decide), n3, thn_ok]
      simp only [toNat_z (show (0 : Int) ≤ tm by omega)]
      congr 2
      simp [pnz_cons, pnz_nil]
      omega
    · rw [← d4]
      congr 1
      simp [pnz_cons, pnz_nil]
      omega
theorem ents_z {l : Bs} {ix tm : Int} : ∀ (es : List En) (i k : Nat) (t : Int) (rest : Bs), l.drop k = es.flatMap encEn ++ rest → entsB ix tm i t es = true → entsR l ix es.length i k = .ok (es, k + (es.flatMap encEn).length) ∧ l.drop (k + (es.flatMap encEn).length) = rest
  | [], i, k, t, rest, h, _ => ⟨rfl, by simpa using h⟩
  | e :: es, i, k, t, rest, h, he => by
    rw [entsB, Bool.and_eq_true, Bool.and_eq_true, Bool.and_eq_true] at he
    obtain ⟨⟨⟨h1, h2⟩, h3⟩, h4⟩ := he
    rw [List.flatMap_cons, List.append_assoc] at h
    obtain ⟨n1, d1⟩ := ent_z h (by simpa using h2) h1
    obtain ⟨n2, d2⟩ := ents_z es (i + 1) _ _ rest d1 h4
    have e' : k + ((e :: es).flatMap encEn).length = k + (encEn e).length + (es.flatMap encEn).length := by rw [List.flatMap_cons, List.length_append]; omega
    rw [e']
    refine ⟨?_, d2⟩
    show thn (entR l ix i k) (fun e k => thn (entsR l ix es.length (i + 1) k) fun es k => .ok (e :: es, k)) = _
    rw [n1, thn_ok, n2, thn_ok]
end Go.Proofs.YtknaaaphdjdaoaaDoor
