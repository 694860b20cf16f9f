/-
  The plain side of CursorTabs and CursorMoves.
-/
import Derived.Test.YtbmflpojcgocaaaPure
namespace Go.Proofs.Ytbmflpojcgocaaa.Pl

/-- How many blanks and tabs a text begins with, and the column behind them. -/
def run : List UInt8 → Nat → Nat × Nat
  | [], c => (0, c)
  | b :: r, c => if isBl b then ((run r (nxt c b)).1 + 1, (run r (nxt c b)).2) else (0, c)

theorem ends_run (l : List UInt8) (f : Nat) : ∀ a c, l.length - a ≤ f → a ≤ l.length → ends l (l.length - a) a c = (a + (run (l.drop a) c).1, (run (l.drop a) c).2) := by
  induction f with
  | zero =>
    intro a c h h'
    rw [ends_end l a c (by omega), List.drop_of_length_le (by omega)]
    rfl
  | succ f ih =>
    intro a c h h'
    by_cases ha : a < l.length
    · have hb : l[a]? = some l[a] := List.getElem?_eq_getElem ha
      rw [List.drop_eq_getElem_cons ha]
      simp only [run]
      cases hbl : isBl l[a] with
      | true =>
        rw [ends_step l a c _ hb hbl, ih (a + 1) _ (by omega) (by omega)]
        simp only [if_true, Prod.mk.injEq, and_true]
        omega
      | false =>
        rw [ends_no l a c _ hb hbl]
        simp
    · rw [ends_end l a c (by omega), List.drop_of_length_le (by omega)]
      rfl

theorem end_run (l : List UInt8) (s : St) (h : s.at_ ≤ l.length) : endAt l s = s.at_ + (run (l.drop s.at_) (s.col + s.part)).1 ∧ endCol l s = (run (l.drop s.at_) (s.col + s.part)).2 := by
  have := ends_run l _ s.at_ (s.col + s.part) (Nat.le_refl _) h
  exact ⟨by unfold endAt; rw [this], by unfold endCol; rw [this]⟩

theorem run_blanks (k : Nat) (r : List UInt8) : ∀ c, run (List.replicate k 32 ++ r) c = ((run r (c + k)).1 + k, (run r (c + k)).2) := by
  induction k with
  | zero => intro c; simp
  | succ k ih =>
    intro c
    rw [List.replicate_succ, List.cons_append]
    simp only [run]
    rw [if_pos (by decide), ih]
    have : nxt c 32 = c + 1 := by simp [nxt]
    rw [this, show c + 1 + k = c + (k + 1) from by omega]
    simp only [Prod.mk.injEq, and_true]
    omega

def tabs : Nat → Nat → Nat
  | 0, c => c
  | k + 1, c => tabs k (c / 4 * 4 + 4)
theorem tabs_eq (k : Nat) : ∀ c, tabs k c = if 0 < k then c / 4 * 4 + 4 * k else c := by
  induction k with
  | zero => intro c; rfl
  | succ k ih =>
    intro c
    simp only [tabs, ih]
    by_cases h : 0 < k
    · rw [if_pos h, if_pos (by omega)]; omega
    · rw [if_neg h, if_pos (by omega)]; omega

theorem run_tabs (k : Nat) (r : List UInt8) : ∀ c, run (List.replicate k 9 ++ r) c = ((run r (tabs k c)).1 + k, (run r (tabs k c)).2) := by
  induction k with
  | zero => intro c; simp [tabs]
  | succ k ih =>
    intro c
    rw [List.replicate_succ, List.cons_append]
    simp only [run]
    rw [if_pos (by decide), ih]
    have : nxt c 9 = c / 4 * 4 + 4 := by simp [nxt]
    rw [this]
    simp only [tabs, Prod.mk.injEq, and_true]
    omega

/-- The text of CursorTabs. -/
def tabText (a b c : Nat) : List UInt8 := List.replicate a 32 ++ List.replicate b 9 ++ List.replicate c 32 ++ [120, 32, 121]
def tabCol (a b c : Nat) : Nat := (if 0 < b then a / 4 * 4 + 4 * b else a) + c
theorem tab_run (a b c : Nat) : run (tabText a b c) 0 = (a + b + c, tabCol a b c) := by
  unfold tabText
  rw [List.append_assoc, List.append_assoc, run_blanks, run_tabs, run_blanks, tabs_eq]
  have : ∀ x, run [120, 32, 121] x = (0, x) := fun x => rfl
  rw [this]
  simp only [Nat.zero_add, tabCol, Prod.mk.injEq, and_true]
  omega
theorem tab_len (a b c : Nat) : (tabText a b c).length = a + b + c + 3 := by simp [tabText]; omega
theorem tab_drop (a b c : Nat) : (tabText a b c).drop (a + b + c) = [120, 32, 121] := by
  unfold tabText
  rw [List.drop_append_of_le_length (by simp; omega), List.drop_of_length_le (by simp; omega)]
  rfl

/-- The bytes that are neither blank nor tab. -/
def dense (l : List UInt8) : List UInt8 := l.filter fun b => !isBl b
theorem dense_snoc (l : List UInt8) (b : UInt8) : dense (l ++ [b]) = dense l ++ if isBl b then [] else [b] := by
  unfold dense
  rw [List.filter_append]
  cases h : isBl b <;> simp [h]
theorem dense_le (l : List UInt8) : (dense l).length ≤ l.length := List.length_filter_le _ _

/-- A text without blanks and tabs: nothing is skipped, and each byte is a column. -/
theorem dense_end (l : List UInt8) (hd : ∀ b ∈ l, isBl b = false) (a c : Nat) : endAt l ⟨a, c, 0⟩ = a ∧ endCol l ⟨a, c, 0⟩ = c := by
  have h : ends l (l.length - a) a (c + 0) = (a, c + 0) := by
    cases hb : l[a]? with
    | none => exact ends_end l a _ (List.getElem?_eq_none_iff.1 hb)
    | some b => exact ends_no l a _ b hb (hd b (List.mem_of_getElem? hb))
  exact ⟨congrArg Prod.fst h, congrArg Prod.snd h⟩
theorem dense_nxt (b : UInt8) (c : Nat) (h : isBl b = false) : nxt c b = c + 1 := by
  unfold nxt
  rw [if_neg]
  rintro rfl
  exact absurd h (by decide)
theorem dense_moves (l : List UInt8) (hd : ∀ b ∈ l, isBl b = false) (n : Nat) : ∀ a c, a ≤ l.length → moves l n ⟨a, c, 0⟩ = ⟨min (a + n) l.length, c + (min (a + n) l.length - a), 0⟩ := by
  induction n with
  | zero => intro a c h; simp only [moves, St.mk.injEq, and_true]; omega
  | succ n ih =>
    intro a c h
    by_cases ha : a < l.length
    · have hb : l[a]? = some l[a] := List.getElem?_eq_getElem ha
      rw [moves_step l n a c 0 _ hb, dense_nxt _ _ (hd _ (List.getElem_mem ha)), ih (a + 1) (c + 1) (by omega)]
      simp only [St.mk.injEq, and_true]
      omega
    · rw [moves_end l _ _ (by show l.length ≤ a; omega)]
      simp only [St.mk.injEq, and_true]
      omega

theorem run_fst (k : Nat) : ∀ (r : List UInt8) (c : Nat), (∀ j, j < k → ∃ b, r[j]? = some b ∧ isBl b = true) → (∀ b, r[k]? = some b → isBl b = false) → (run r c).1 = k := by
  induction k with
  | zero =>
    intro r c _ h
    cases r with
    | nil => rfl
    | cons b r =>
      have := h b rfl
      simp [run, this]
  | succ k ih =>
    intro r c h h'
    cases r with
    | nil => obtain ⟨b, hb, _⟩ := h 0 (by omega); simp at hb
    | cons b r =>
      obtain ⟨b', hb, hbl⟩ := h 0 (by omega)
      simp only [List.getElem?_cons_zero, Option.some.injEq] at hb
      subst hb
      simp only [run, hbl, if_true]
      rw [ih r _ (fun j hj => by simpa using h (j + 1) (by omega)) (fun b hb => h' b (by simpa using hb))]
theorem endAt_is (l : List UInt8) (s : St) (k : Nat) (hs : s.at_ ≤ l.length) (hall : ∀ j, j < k → ∃ b, l[s.at_ + j]? = some b ∧ isBl b = true) (h : ∀ b, l[s.at_ + k]? = some b → isBl b = false) : endAt l s = s.at_ + k := by
  rw [(end_run l s hs).1, run_fst k _ _ (fun j hj => by rw [List.getElem?_drop]; exact hall j hj) (fun b hb => h b (by rw [List.getElem?_drop] at hb; exact hb))]

end Go.Proofs.Ytbmflpojcgocaaa.Pl
