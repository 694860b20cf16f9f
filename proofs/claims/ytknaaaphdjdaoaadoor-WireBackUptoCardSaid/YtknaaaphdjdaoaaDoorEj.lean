/-
  Encode, of every letter.
-/
import Derived.Test.YtknaaaphdjdaoaaDoorEg
import Derived.Test.YtknaaaphdjdaoaaDoorEf
import Derived.Test.YtknaaaphdjdaoaaDoorRu
namespace Go.Proofs.YtknaaaphdjdaoaaDoor
open Go.RowKit Mem
set_option linter.unusedVariables false
set_option linter.unusedSimpArgs false

theorem group_ok {zs : List Int} (h : groupB zs = true) : zs ≠ [] ∧ zs.length ≤ 5 ∧ ∀ z ∈ zs, 0 ≤ z ∧ z ≤ 5 := by
  rw [groupB, Bool.and_eq_true] at h
  refine ⟨fun e => by subst e; simp at h, by have := up_len zs 0 (by omega) (by omega) h.1; omega, fun z hz => by have := up_range zs 0 h.1 z hz; omega⟩
theorem ents_ok {ix tm : Int} (htm : tm ≤ 999999) : ∀ (es : List En) (i : Nat) (t : Int), entsB ix tm i t es = true → ∀ e ∈ es, EnOk e
  | [], _, _, _, e, he => by cases he
  | a :: r, i, t, h, e, he => by
    rw [entsB, Bool.and_eq_true, Bool.and_eq_true, Bool.and_eq_true] at h
    rcases List.mem_cons.1 he with rfl | he
    · have h1 := h.1.1.1
      rw [entryB, Bool.and_eq_true, Bool.and_eq_true, Bool.and_eq_true, Bool.and_eq_true, Bool.and_eq_true] at h1
      obtain ⟨⟨⟨⟨⟨_, _⟩, c⟩, d⟩, f⟩, k⟩ := h1
      have c := of_decide_eq_true c
      have d := of_decide_eq_true d
      have f := of_decide_eq_true f
      refine ⟨⟨by omega, by omega⟩, ?_, f, fun h2 => ?_⟩
      · unfold kindB at k
        by_cases k0 : e.kd = 0
        · exact .inl k0
        by_cases k1 : e.kd = 1
        · exact .inr (.inl k1)
        by_cases k2 : e.kd = 2
        · exact .inr (.inr k2)
        rw [if_neg k0, if_neg k1, if_neg k2] at k
        cases k
      · rw [h2, kindB2, Bool.and_eq_true] at k
        exact group_ok k.1
    · exact ents_ok htm r (i + 1) a.tm h.2 e he
theorem bw_le {n lo hi : Int} (h : bw n lo hi = true) : lo ≤ n ∧ n ≤ hi := by
  unfold bw at h
  rw [Bool.and_eq_true] at h
  exact ⟨of_decide_eq_true h.1, of_decide_eq_true h.2⟩
/-- What Encode answers. -/
def EncA (m : Lt) (w : World) (e : Ending) (w' : World) : Prop :=
  (rightB m = true ∧ ∃ v, e = .returned (.tuple #[v, .int .i64 0]) ∧ Ob w w' v (encB m) ∧ Mod (fun _ => False) w w') ∨
  (rightB m = false ∧ e = .returned (.tuple #[.slice none 0 0, .int .i64 1]) ∧ Mod (fun _ => False) w w')
theorem enc_any (m : Lt) (ev nv dv : Value) (w : World) (hel : m.es.length ≤ 1048576) (h : LV w ev nv dv m) :
    Calls Tryd.prog 11 #[lval m ev nv dv] w fun e w' => EncA m w e w' := by
  have hr := fun w' (hm : Mod (fun _ => False) w w') => right_any m ev nv dv w' hel (h.mod hm)
  obtain ⟨kd, fr, tt, tm, ix, lt, cm, rd, ok, es, si, st, sn, sd⟩ := m
  obtain ⟨RB, hRB⟩ : ∃ RB, rightB ⟨kd, fr, tt, tm, ix, lt, cm, rd, ok, es, si, st, sn, sd⟩ = RB := ⟨_, rfl⟩
  rw [hRB] at hr
  have hes := h.1
  have hsn := h.2.1
  have hsd := h.2.2
  simp only at hes hsn hsd
  obtain ⟨e1, e3, rfl⟩ := hes.val
  obtain ⟨n1, n3, rfl⟩ := hsn.val
  obtain ⟨_, d1, d3, rfl, _⟩ := id hsd
  unfold lval at hr ⊢
  simp only at hr ⊢
  cases RB with
  | false => exact (enc_bad kd fr tt tm ix lt cm rd si st ok e1 n1 d1 _ e3 _ n3 _ d3 w hr).mono fun e w' ⟨h1, h2⟩ => .inr ⟨hRB, h1, h2⟩
  | true =>
    have hR := hRB
    rw [rightB, Bool.and_eq_true, Bool.and_eq_true] at hR
    obtain ⟨⟨hh, hf⟩, hk⟩ := hR
    rw [head0, Bool.and_eq_true, Bool.and_eq_true, Bool.and_eq_true] at hh
    rw [fine0, Bool.and_eq_true, Bool.and_eq_true, Bool.and_eq_true] at hf
    simp only at hh hf
    have f1 := bw_le hh.1.1.1
    have f2 := bw_le hh.1.1.2
    have f3 := bw_le hh.2
    have f4 := bw_le hf.1.1.1
    have f5 := bw_le hf.1.1.2
    have f6 := bw_le hf.1.2
    have f7 := bw_le hf.2
    by_cases k1 : kd = 1
    · subst k1
      exact (enc_1 fr tt tm ix lt cm rd si st ok e1 n1 d1 _ e3 _ n3 _ d3 w (by omega) (by omega) (by omega) (by omega) (by omega) hr).mono fun e w' ⟨v, h1, h2, h3⟩ => .inl ⟨hRB, v, h1, by simpa only [encB, if_true] using h2, h3⟩
    by_cases k2 : kd = 2
    · subst k2
      exact (enc_2 fr tt tm ix lt cm rd si st ok e1 n1 d1 _ e3 _ n3 _ d3 w (by omega) (by omega) (by omega) hr).mono fun e w' ⟨v, h1, h2, h3⟩ => .inl ⟨hRB, v, h1, h2, h3⟩
    by_cases k4 : kd = 4
    · subst k4
      exact (enc_4 fr tt tm ix lt cm rd si st ok e1 n1 d1 _ e3 _ n3 _ d3 w (by omega) (by omega) (by omega) (by omega) (by omega) hr).mono fun e w' ⟨v, h1, h2, h3⟩ => .inl ⟨hRB, v, h1, h2, h3⟩
    by_cases k5 : kd = 5
    · subst k5
      simp only [kindR] at hk
      rw [if_neg (by decide), if_neg (by decide), if_neg (by decide), if_neg (by decide), if_pos trivial] at hk
      simp only [Bool.and_eq_true] at hk
      obtain ⟨⟨⟨⟨⟨⟨⟨⟨g1, g2⟩, g3⟩, g4⟩, _⟩, _⟩, _⟩, _⟩, _⟩ := hk
      have g1 := bw_le g1
      have g2 := bw_le g2
      have g3 := group_ok g3
      have g4 := of_decide_eq_true g4
      refine (enc_5 fr tt tm ix lt cm rd si st ok sn sd e1 n1 d1 _ e3 _ n3 _ d3 w (by omega) (by omega) (by omega) (by omega) (by omega) (by omega) g3.2.2 g3.2.1 g3.1 g4 hsn hsd hr).mono fun e w' ⟨v, h1, h2, h3⟩ => .inl ⟨hRB, v, h1, ?_, h3⟩
      have e : encB ⟨5, fr, tt, tm, ix, lt, cm, rd, ok, es, si, st, sn, sd⟩ = pnz [5, fr, tt, tm] ++ pnz [si, st, (sn.length : Int)] ++ pnz sn ++ pnz [(sd.length : Int)] ++ sd ++ pnz [rd] := by
        simp [encB]
      rw [e]
      exact h2
    by_cases k3 : kd = 3
    · subst k3
      simp only [kindR] at hk
      rw [if_neg (by decide), if_neg (by decide), if_pos trivial] at hk
      simp only [Bool.and_eq_true] at hk
      obtain ⟨⟨⟨g1, g2⟩, _⟩, _⟩ := hk
      have g2 := of_decide_eq_true g2
      refine (enc_3 fr tt tm ix lt cm rd si st ok es e1 n1 d1 e3 _ n3 _ d3 w (by omega) (by omega) (by omega) (by omega) (by omega) (by omega) (by omega) g2 (ents_ok (by omega) es 0 lt g1) hes hr).mono fun e w' ⟨v, h1, h2, h3⟩ => .inl ⟨hRB, v, h1, ?_, h3⟩
      have e : encB ⟨3, fr, tt, tm, ix, lt, cm, rd, ok, es, si, st, sn, sd⟩ = pnz [3, fr, tt, tm] ++ pnz [ix, lt, cm, rd, (es.length : Int)] ++ es.flatMap encEn := by
        simp [encB]
      rw [e]
      exact h2
    · simp only [kindR] at hk
      rw [if_neg k1, if_neg k2, if_neg k3, if_neg k4, if_neg k5] at hk
      cases hk
end Go.Proofs.YtknaaaphdjdaoaaDoor
