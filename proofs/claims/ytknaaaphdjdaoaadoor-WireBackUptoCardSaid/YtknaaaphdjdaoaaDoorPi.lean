/-
  The reader's letter, of whatever bytes.
  Decode, of whatever bytes, at most 1 MiB.
  What Decode takes: right letters' bytes, those alone. No walk in sight.
-/
import Derived.Test.YtknaaaphdjdaoaaDoorDd
import Derived.Test.YtknaaaphdjdaoaaDoorLi
import Derived.Test.YtknaaaphdjdaoaaDoorLf
import Derived.Test.YtknaaaphdjdaoaaDoorLg
import Derived.Test.YtknaaaphdjdaoaaDoorPh
import Derived.Test.YtknaaaphdjdaoaaDoorRu
section
namespace Go.Proofs.YtknaaaphdjdaoaaDoor
open Go.RowKit Mem
set_option linter.unusedVariables false
set_option linter.unusedSimpArgs false

theorem letok_any (l : Bs) : LetOk l := by
  intro B r bv w h
  cases h1 : nb l 0 5 with
  | error p => exact letter_e1 B r bv l p w h h1
  | ok x =>
    obtain ⟨kd, k1⟩ := x
    cases h2 : nb l k1 5 with
    | error p => exact letter_e2 B r bv l kd k1 p w h h1 h2
    | ok x =>
      obtain ⟨fr, k2⟩ := x
      cases h3 : nb l k2 5 with
      | error p => exact letter_e3 B r bv l kd fr k1 k2 p w h h1 h2 h3
      | ok x =>
        obtain ⟨tt, k3⟩ := x
        cases h4 : nb l k3 999999 with
        | error p => exact letter_e4 B r bv l kd fr tt k1 k2 k3 p w h h1 h2 h3 h4
        | ok x =>
          obtain ⟨tm, k4⟩ := x
          have hk := (nb_le (Nat.zero_le _) h1).1
          have : kd = 0 ∨ kd = 1 ∨ kd = 2 ∨ kd = 3 ∨ kd = 4 ∨ kd = 5 := by omega
          rcases this with rfl | rfl | rfl | rfl | rfl | rfl
          · exact letter_e5 B r bv l fr tt tm k1 k2 k3 k4 w h h1 h2 h3 h4
          · exact letter_1 B r bv l fr tt tm k1 k2 k3 k4 w h h1 h2 h3 h4
          · exact letter_2 B r bv l fr tt tm k1 k2 k3 k4 w h h1 h2 h3 h4
          · exact letter_3 B r bv l fr tt tm k1 k2 k3 k4 w h h1 h2 h3 h4
          · exact letter_4 B r bv l fr tt tm k1 k2 k3 k4 w h h1 h2 h3 h4
          · exact letter_5 B r bv l fr tt tm k1 k2 k3 k4 w h h1 h2 h3 h4
end Go.Proofs.YtknaaaphdjdaoaaDoor
end
section
namespace Go.Proofs.YtknaaaphdjdaoaaDoor
open Go.RowKit Mem
set_option linter.unusedVariables false
set_option linter.unusedSimpArgs false

theorem letter_few {l : Bs} {m : Lt} {j : Nat} (h : letterR l = .ok (m, j)) : m.es.length ≤ 4 := by
  unfold letterR at h
  obtain ⟨kd, k1, h1, h⟩ := thn_inv h
  obtain ⟨fr, k2, h2, h⟩ := thn_inv h
  obtain ⟨tt, k3, h3, h⟩ := thn_inv h
  obtain ⟨tm, k4, h4, h⟩ := thn_inv h
  unfold restR at h
  by_cases c0 : kd = 0
  · rw [if_pos c0] at h; cases h
  rw [if_neg c0] at h
  by_cases c1 : kd = 1
  · rw [if_pos c1] at h
    obtain ⟨ix, k5, h5, h⟩ := thn_inv h
    obtain ⟨lt, k6, h6, h⟩ := thn_inv h
    obtain ⟨rfl, rfl⟩ := ok_inj h
    exact Nat.zero_le _
  rw [if_neg c1] at h
  by_cases c2 : kd = 2
  · rw [if_pos c2] at h
    obtain ⟨b, k5, h5, h⟩ := thn_inv h
    obtain ⟨rfl, rfl⟩ := ok_inj h
    exact Nat.zero_le _
  rw [if_neg c2] at h
  by_cases c4 : kd = 4
  · rw [if_pos c4] at h
    obtain ⟨b, k5, h5, h⟩ := thn_inv h
    obtain ⟨ix, k6, h6, h⟩ := thn_inv h
    obtain ⟨rd, k7, h7, h⟩ := thn_inv h
    obtain ⟨rfl, rfl⟩ := ok_inj h
    exact Nat.zero_le _
  rw [if_neg c4] at h
  by_cases c5 : kd = 5
  · rw [if_pos c5] at h
    obtain ⟨si, k5, h5, h⟩ := thn_inv h
    obtain ⟨st, k6, h6, h⟩ := thn_inv h
    obtain ⟨sn, k7, h7, h⟩ := thn_inv h
    obtain ⟨sd, k8, h8, h⟩ := thn_inv h
    obtain ⟨rd, k9, h9, h⟩ := thn_inv h
    obtain ⟨rfl, rfl⟩ := ok_inj h
    exact Nat.zero_le _
  rw [if_neg c5] at h
  obtain ⟨ix, k5, h5, h⟩ := thn_inv h
  obtain ⟨lt, k6, h6, h⟩ := thn_inv h
  obtain ⟨cm, k7, h7, h⟩ := thn_inv h
  obtain ⟨rd, k8, h8, h⟩ := thn_inv h
  obtain ⟨n, k9, h9, h⟩ := thn_inv h
  obtain ⟨es, k10, h10, h⟩ := thn_inv h
  obtain ⟨rfl, rfl⟩ := ok_inj h
  have h11 := (entsR_inv _ _ _ _ _ h10).2
  have h12 := (nb_inv h9).2
  show es.length ≤ 4
  omega
theorem dec_all (A : Option Addr) (n c : Nat) (l : Bs) (w : World) (hin : RdC w (.slice A n c) l) (hl : l.length ≤ 1048576) :
    Calls Tryd.prog 14 #[.slice A n c] w (Decs w (decR l)) :=
  dec_any A n c l w hin hl (letok_any l) (fun m k h ev nv dv w hv => right_any m ev nv dv w (by have := letter_few h; omega) hv)
end Go.Proofs.YtknaaaphdjdaoaaDoor
end
section
namespace Go.Proofs.YtknaaaphdjdaoaaDoor
open Go.RowKit Mem
set_option linter.unusedVariables false
set_option linter.unusedSimpArgs false

theorem decR_iff (l : Bs) (m : Lt) : decR l = .ok m ↔ rightB m = true ∧ l = encB m := by
  constructor
  · intro h
    unfold decR at h
    cases hl : letterR l with
    | error p => rw [hl] at h; cases h
    | ok x =>
      obtain ⟨m', k⟩ := x
      rw [hl] at h
      simp only at h
      split at h
      · cases h
      next hk =>
      split at h
      next hr =>
        injection h with h
        subst h
        have := letterR_inv hl
        rw [List.drop_eq_nil_of_le (by omega), List.append_nil] at this
        exact ⟨hr, this⟩
      · cases h
  · rintro ⟨hr, rfl⟩
    have h := let_z m hr []
    rw [List.append_nil] at h
    unfold decR
    rw [h]
    simp only
    rw [if_neg (Nat.lt_irrefl _), if_pos hr]
/-- No right letter's bytes begin another's. -/
theorem enc_front {a b : Lt} (ha : rightB a = true) (hb : rightB b = true) {x : Bs} (h : encB a ++ x = encB b) : x = [] ∧ a = b := by
  have h1 := let_z a ha x
  have h2 := let_z b hb []
  rw [List.append_nil] at h2
  rw [h, h2] at h1
  injection h1 with h1
  injection h1 with h1 _
  subst h1
  refine ⟨?_, rfl⟩
  have := congrArg List.length h
  rw [List.length_append] at this
  exact List.eq_nil_of_length_eq_zero (by omega)
/-- Neither a strict beginning of a right letter's bytes is a letter's, nor they and more behind. -/
theorem dec_short {m : Lt} (hm : rightB m = true) {l x : Bs} (h : l ++ x = encB m) (hx : x ≠ []) (m' : Lt) : decR l ≠ .ok m' := by
  intro hd
  obtain ⟨hr, rfl⟩ := (decR_iff l m').1 hd
  exact hx (enc_front hr hm h).1
theorem dec_more {m : Lt} (hm : rightB m = true) {x : Bs} (hx : x ≠ []) (m' : Lt) : decR (encB m ++ x) ≠ .ok m' := by
  intro hd
  obtain ⟨hr, h⟩ := (decR_iff _ m').1 hd
  exact hx (enc_front hm hr h).1
end Go.Proofs.YtknaaaphdjdaoaaDoor
end
