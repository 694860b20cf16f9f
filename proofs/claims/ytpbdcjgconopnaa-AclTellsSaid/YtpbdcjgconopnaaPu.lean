/-
  The order of grants, and what is found in ordered ones. No program in sight.
-/
import Derived.Test.YtpbdcjgconopnaaAd
namespace Go.Proofs.Ytpbdcjgconopnaa
open Go.RowKit Mem
set_option linter.unusedVariables false

theorem cb_self : ∀ a : Bs, Lib.compareBytes a a = 0
  | [] => rfl
  | x :: a => by
    unfold Lib.compareBytes
    rw [if_neg (UInt8.lt_irrefl x), if_neg (UInt8.lt_irrefl x)]
    exact cb_self a
theorem cb_eq : ∀ {a b : Bs}, Lib.compareBytes a b = 0 → a = b
  | [], [], _ => rfl
  | [], _ :: _, h => by simp [Lib.compareBytes] at h
  | _ :: _, [], h => by simp [Lib.compareBytes] at h
  | x :: a, y :: b, h => by
    unfold Lib.compareBytes at h
    split at h
    · simp at h
    · rename_i h1
      split at h
      · simp at h
      · rename_i h2
        have : x = y := by
          apply UInt8.toNat_inj.1
          simp only [UInt8.lt_iff_toNat_lt] at h1 h2
          omega
        rw [this, cb_eq h]
theorem cb_anti : ∀ (a b : Bs), Lib.compareBytes b a = - Lib.compareBytes a b
  | [], [] => rfl
  | [], _ :: _ => rfl
  | _ :: _, [] => rfl
  | x :: a, y :: b => by
    unfold Lib.compareBytes
    by_cases h1 : x < y
    · have h2 : ¬ y < x := by simp only [UInt8.lt_iff_toNat_lt] at *; omega
      rw [if_neg h2, if_pos h1, if_pos h1]; rfl
    · by_cases h2 : y < x
      · rw [if_pos h2, if_neg h1, if_pos h2]
      · rw [if_neg h2, if_neg h1, if_neg h1, if_neg h2]
        exact cb_anti a b
theorem cb_val : ∀ (a b : Bs), Lib.compareBytes a b = -1 ∨ Lib.compareBytes a b = 0 ∨ Lib.compareBytes a b = 1
  | [], [] => .inr (.inl rfl)
  | [], _ :: _ => .inl rfl
  | _ :: _, [] => .inr (.inr rfl)
  | x :: a, y :: b => by
    unfold Lib.compareBytes
    split
    · exact .inl rfl
    · split
      · exact .inr (.inr rfl)
      · exact cb_val a b
theorem cb_trans : ∀ {a b c : Bs}, Lib.compareBytes a b < 0 → Lib.compareBytes b c < 0 → Lib.compareBytes a c < 0
  | [], [], _, h, _ => by simp [Lib.compareBytes] at h
  | [], _ :: _, [], _, h => by simp [Lib.compareBytes] at h
  | [], _ :: _, _ :: _, _, _ => by simp [Lib.compareBytes]
  | _ :: _, [], _, h, _ => by simp [Lib.compareBytes] at h
  | _ :: _, _ :: _, [], _, h => by simp [Lib.compareBytes] at h
  | x :: a, y :: b, z :: c, h, k => by
    unfold Lib.compareBytes at h k ⊢
    simp only [UInt8.lt_iff_toNat_lt] at *
    by_cases h1 : x.toNat < y.toNat
    · by_cases k1 : y.toNat < z.toNat
      · rw [if_pos (by omega)]; decide
      · rw [if_neg k1] at k
        by_cases k2 : z.toNat < y.toNat
        · rw [if_pos k2] at k; simp at k
        · rw [if_pos (by omega)]; decide
    · rw [if_neg h1] at h
      by_cases h2 : y.toNat < x.toNat
      · rw [if_pos h2] at h; simp at h
      · rw [if_neg h2] at h
        by_cases k1 : y.toNat < z.toNat
        · rw [if_pos (by omega)]; decide
        · rw [if_neg k1] at k
          by_cases k2 : z.toNat < y.toNat
          · rw [if_pos k2] at k; simp at k
          · rw [if_neg k2] at k
            rw [if_neg (by omega), if_neg (by omega)]
            exact cb_trans h k

/-- The same place. -/
def same (a b : Gr) : Prop := a.t = b.t ∧ a.w = b.w
instance (a b : Gr) : Decidable (same a b) := by unfold same; infer_instance
theorem cmp_zero {a b : Gr} : cmpG a b = 0 ↔ same a b := by
  unfold cmpG or2 same
  constructor
  · intro h
    split at h
    · next h1 => exact ⟨cb_eq h1, cb_eq h⟩
    · next h1 => exact absurd h h1
  · rintro ⟨h1, h2⟩
    rw [h1, h2, cb_self, if_pos rfl, cb_self]
theorem cmp_anti (a b : Gr) : cmpG b a = - cmpG a b := by
  unfold cmpG or2
  rw [cb_anti a.t b.t, cb_anti a.w b.w]
  by_cases h : Lib.compareBytes a.t b.t = 0
  · rw [if_pos h, if_pos (by omega)]
  · rw [if_neg h, if_neg (by omega)]
theorem cmp_trans {a b c : Gr} (h : cmpG a b < 0) (k : cmpG b c < 0) : cmpG a c < 0 := by
  unfold cmpG or2 at *
  by_cases h1 : Lib.compareBytes a.t b.t = 0
  · rw [if_pos h1] at h
    have e := cb_eq h1
    rw [e]
    by_cases k1 : Lib.compareBytes b.t c.t = 0
    · rw [if_pos k1] at k ⊢; exact cb_trans h k
    · rw [if_neg k1] at k ⊢; exact k
  · rw [if_neg h1] at h
    by_cases k1 : Lib.compareBytes b.t c.t = 0
    · have e := cb_eq k1
      rw [← e, if_neg h1]; exact h
    · rw [if_neg k1] at k
      have h2 := cb_trans h k
      rw [if_neg (by omega)]; exact h2
theorem cmp_same_l {a b c : Gr} (h : same a b) : cmpG a c = cmpG b c := by unfold cmpG; rw [h.1, h.2]
theorem cmp_same_r {a b c : Gr} (h : same a b) : cmpG c a = cmpG c b := by unfold cmpG; rw [h.1, h.2]

/-- Rising. -/
def Rise (l : List Gr) : Prop := ∀ i j, i < j → j < l.length → cmpG l[i]! l[j]! < 0
theorem right_ok {l : List Gr} (h : rightB l = true) : l.length ≤ 64 ∧ ∀ i, i < l.length → okAt l i = true := by
  unfold rightB at h
  simp only [Bool.and_eq_true, List.all_eq_true, List.mem_range, decide_eq_true_eq] at h
  exact ⟨h.2, h.1⟩
theorem ok_parts {l : List Gr} {i : Nat} (h : okAt l i = true) : fineB l[i]! = true ∧ 1 ≤ l[i]!.r ∧ l[i]!.r ≤ 3 ∧ (0 < i → cmpG l[i-1]! l[i]! < 0) := by
  unfold okAt at h
  simp only [Bool.and_eq_true, decide_eq_true_eq, Bool.or_eq_true, beq_iff_eq] at h
  exact ⟨h.1.1, h.1.2.1, h.1.2.2, fun h0 => h.2.elim (fun e => by omega) id⟩
theorem right_rise {l : List Gr} (h : rightB l = true) : Rise l := by
  intro i j hij hj
  induction j with
  | zero => omega
  | succ j ih =>
    have h1 := (ok_parts ((right_ok h).2 (j + 1) hj)).2.2.2 (by omega)
    rw [Nat.add_sub_cancel] at h1
    rcases Nat.lt_or_ge i j with h2 | h2
    · exact cmp_trans (ih h2 (by omega)) h1
    · obtain rfl : i = j := by omega
      exact h1
/-- What the search tells of rising grants. -/
theorem bs_split {l : List Gr} {g : Gr} {i : Nat} (hr : Rise l) (h : BsAt l g i) : (∀ j, j < i → cmpG l[j]! g < 0) ∧ (∀ j, i ≤ j → j < l.length → 0 ≤ cmpG l[j]! g) ∧ (∀ j, i < j → j < l.length → 0 < cmpG l[j]! g) := by
  obtain ⟨h0, h1, h2⟩ := h
  have key : ∀ j, i < j → j < l.length → 0 < cmpG l[j]! g := fun j hj hl => by
    have a := h2 (by omega)
    have b := hr i j hj hl
    rcases (by omega : 0 < cmpG l[j]! g ∨ cmpG l[j]! g ≤ 0) with h | h
    · exact h
    · exfalso
      rcases Int.lt_or_eq_of_le h with h | h
      · have := cmp_trans b h; omega
      · have := cmp_same_r (c := l[i]!) (cmp_zero.1 h); omega
  refine ⟨fun j hj => ?_, fun j hj hl => ?_, key⟩
  · have a := h1 (by omega)
    rcases Nat.lt_or_ge j (i - 1) with h | h
    · exact cmp_trans (hr j (i - 1) h (by omega)) a
    · obtain rfl : j = i - 1 := by omega
      exact a
  · rcases Nat.lt_or_ge i j with h | h
    · have := key j h hl; omega
    · obtain rfl : j = i := by omega
      exact h2 hl
theorem found_same {l : List Gr} {g : Gr} {i : Nat} (h : foundB l g i = true) : i < l.length ∧ same l[i]! g := by
  unfold foundB at h
  simp only [Bool.and_eq_true, decide_eq_true_eq] at h
  exact ⟨h.1, cmp_zero.1 h.2⟩
theorem found_no {l : List Gr} {g : Gr} {i : Nat} (hr : Rise l) (hb : BsAt l g i) (h : foundB l g i = false) : ∀ j, j < l.length → ¬ same l[j]! g := by
  obtain ⟨a, b, c⟩ := bs_split hr hb
  intro j hj hs
  have h0 := cmp_zero.2 hs
  rcases Nat.lt_trichotomy j i with hlt | heq | hgt
  · have := a j hlt; omega
  · subst heq
    unfold foundB at h
    rw [decide_eq_true hj, decide_eq_true h0] at h
    simp at h
  · have := c j hgt hj; omega

/-- The right that was granted. -/
def look (l : List Gr) (t w : Bs) : Int := match l.find? (fun x => decide (same x ⟨t, w, 0⟩)) with
  | some x => x.r
  | none => 0
theorem look_at {l : List Gr} {t w : Bs} {r : Int} {i : Nat} (hr : Rise l) (hb : BsAt l ⟨t, w, r⟩ i) : look l t w = if foundB l ⟨t, w, r⟩ i then l[i]!.r else 0 := by
  unfold look
  rcases hf : foundB l ⟨t, w, r⟩ i with _ | _
  · have hno := found_no hr hb hf
    have : l.find? (fun x => decide (same x ⟨t, w, 0⟩)) = none := by
      rw [List.find?_eq_none]
      intro x hx
      obtain ⟨j, hj, rfl⟩ := List.getElem_of_mem hx
      have := hno j hj
      rw [getElem!_pos l j hj] at this
      exact decide_eq_false (show ¬ same l[j] ⟨t, w, 0⟩ from this) |> fun h => by rw [h]; simp
    rw [this]; rfl
  · obtain ⟨hi, hs⟩ := found_same hf
    have hsome : ∃ x, l.find? (fun x => decide (same x ⟨t, w, 0⟩)) = some x := by
      rcases hq : l.find? (fun x => decide (same x ⟨t, w, 0⟩)) with _ | x
      · rw [List.find?_eq_none] at hq
        rw [getElem!_pos l i hi] at hs
        exact absurd (show same l[i] ⟨t, w, 0⟩ from hs) (by simpa using hq _ (List.getElem_mem hi))
      · exact ⟨x, rfl⟩
    obtain ⟨x, hx⟩ := hsome
    rw [hx]
    have hp := List.find?_some hx
    have hm := List.mem_of_find?_eq_some hx
    obtain ⟨j, hj, hjx⟩ := List.getElem_of_mem hm
    have hsj : same l[j]! ⟨t, w, r⟩ := by rw [getElem!_pos l j hj, hjx]; exact (of_decide_eq_true hp : same x ⟨t, w, 0⟩)
    have : j = i := by
      obtain ⟨a, b, c⟩ := bs_split hr hb
      have h0 := cmp_zero.2 hsj
      rcases Nat.lt_trichotomy j i with hlt | heq | hgt
      · have := a j hlt; omega
      · exact heq
      · have := c j hgt hj; omega
    subst this
    rw [if_pos rfl, getElem!_pos l j hj, hjx]
/-- What may be. -/
def mayB (l : List Gr) (t w : Bs) : Int := match who w with
  | none => 0
  | some (h, o) => if !nm t || !rightB l then 0 else if h == t then (if o == [114, 111, 111, 116] then 3 else 2) else look l t w
end Go.Proofs.Ytpbdcjgconopnaa
