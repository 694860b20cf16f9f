/-
  The plain side of cursor: a place in a line, passed column by column. No program in sight.
-/
namespace Go.Proofs.Ytbmflpojcgocaaa.Pl

def isBl (c : UInt8) : Bool := c == 32 || c == 9
/-- The column behind a byte. -/
def nxt (col : Nat) (c : UInt8) : Nat := if c = 9 then col / 4 * 4 + 4 else col + 1
theorem nxt_gt (col : Nat) (c : UInt8) : col < nxt col c := by unfold nxt; split <;> omega
theorem nxt_le (col : Nat) (c : UInt8) : nxt col c ≤ col + 4 := by unfold nxt; split <;> omega

/-- A place: how many bytes are passed, the column, the columns left of a tab. -/
structure St where
  at_ : Nat
  col : Nat
  part : Nat

/-- One column of blanks or tabs. -/
def step1 (l : List UInt8) (s : St) : Option St :=
  if s.part = 0 then
    match l[s.at_]? with
    | none => none
    | some c => if isBl c then some ⟨s.at_ + 1, s.col + 1, nxt s.col c - s.col - 1⟩ else none
  else some ⟨s.at_, s.col + 1, s.part - 1⟩

/-- So many columns, or all there are. -/
def iter (l : List UInt8) : Nat → St → St
  | 0, s => s
  | n + 1, s => match step1 l s with
    | none => s
    | some s' => iter l n s'

theorem iter_stop (l : List UInt8) (n : Nat) (s : St) (h : step1 l s = none) : iter l n s = s := by
  cases n with
  | zero => rfl
  | succ n => simp [iter, h]

theorem iter_add (l : List UInt8) (n m : Nat) : ∀ s, iter l (n + m) s = iter l m (iter l n s) := by
  induction n with
  | zero => intro s; simp [iter]
  | succ n ih =>
    intro s
    rw [show n + 1 + m = (n + m) + 1 from by omega]
    simp only [iter]
    cases h : step1 l s with
    | none => simp [iter_stop l m s h]
    | some s' => exact ih s'

/-- Within a tab: k columns of it. -/
theorem iter_part (l : List UInt8) (k : Nat) : ∀ s : St, k ≤ s.part → iter l k s = ⟨s.at_, s.col + k, s.part - k⟩ := by
  induction k with
  | zero => intro s _; rfl
  | succ k ih =>
    intro s h
    have hs : step1 l s = some ⟨s.at_, s.col + 1, s.part - 1⟩ := by unfold step1; rw [if_neg (by omega)]
    simp only [iter, hs]
    rw [ih _ (by show k ≤ s.part - 1; omega)]
    simp only [St.mk.injEq, true_and]
    omega

/-- What Skip does in one round at a isBl or a tab of which nothing was passed yet. -/
theorem iter_byte (l : List UInt8) (a c k : Nat) (b : UInt8) (hb : l[a]? = some b) (hbl : isBl b = true) (h1 : 1 ≤ k) (h2 : k ≤ nxt c b - c) :
    iter l k ⟨a, c, 0⟩ = ⟨a + 1, c + k, nxt c b - c - k⟩ := by
  obtain ⟨k, rfl⟩ : ∃ j, k = j + 1 := ⟨k - 1, by omega⟩
  have hs : step1 l ⟨a, c, 0⟩ = some ⟨a + 1, c + 1, nxt c b - c - 1⟩ := by simp [step1, hb, hbl]
  simp only [iter, hs]
  rw [iter_part l k _ (by show k ≤ nxt c b - c - 1; omega)]
  simp only [St.mk.injEq, true_and]
  omega

/-- A byte taken up: nothing of it passed yet. -/
theorem iter_up (l : List UInt8) (a c k : Nat) (b : UInt8) (hb : l[a]? = some b) (hbl : isBl b = true) (h1 : 1 ≤ k) : iter l k ⟨a, c, 0⟩ = iter l k ⟨a + 1, c, nxt c b - c⟩ := by
  obtain ⟨k, rfl⟩ : ∃ j, k = j + 1 := ⟨k - 1, by omega⟩
  have := nxt_gt c b
  have hs : step1 l ⟨a, c, 0⟩ = some ⟨a + 1, c + 1, nxt c b - c - 1⟩ := by simp [step1, hb, hbl]
  have hs' : step1 l ⟨a + 1, c, nxt c b - c⟩ = some ⟨a + 1, c + 1, nxt c b - c - 1⟩ := by
    unfold step1; rw [if_neg (by show ¬ nxt c b - c = 0; omega)]
  simp only [iter, hs, hs']
/-- Some columns of a tab, and the others. -/
theorem iter_some (l : List UInt8) (k m : Nat) (s : St) (hk : k ≤ s.part) (hm : k ≤ m) : iter l m s = iter l (m - k) ⟨s.at_, s.col + k, s.part - k⟩ := by
  rw [show m = k + (m - k) from by omega, iter_add, iter_part l k s hk, show k + (m - k) - k = m - k from by omega]

/-- Where the blanks and tabs from a place on end, and the column there. -/
def ends (l : List UInt8) : Nat → Nat → Nat → Nat × Nat
  | 0, a, c => (a, c)
  | f + 1, a, c => match l[a]? with
    | none => (a, c)
    | some b => if isBl b then ends l f (a + 1) (nxt c b) else (a, c)

theorem ends_step (l : List UInt8) (a c : Nat) (b : UInt8) (hb : l[a]? = some b) (hbl : isBl b = true) : ends l (l.length - a) a c = ends l (l.length - (a + 1)) (a + 1) (nxt c b) := by
  have ha : a < l.length := (List.getElem?_eq_some_iff.1 hb).1
  obtain ⟨f, hf⟩ : ∃ f, l.length - a = f + 1 := ⟨l.length - a - 1, by omega⟩
  rw [hf, show l.length - (a + 1) = f from by omega]
  simp [ends, hb, hbl]
theorem ends_end (l : List UInt8) (a c : Nat) (h : l.length ≤ a) : ends l (l.length - a) a c = (a, c) := by
  rw [show l.length - a = 0 from by omega]; rfl
theorem ends_no (l : List UInt8) (a c : Nat) (b : UInt8) (hb : l[a]? = some b) (hbl : isBl b = false) : ends l (l.length - a) a c = (a, c) := by
  have ha : a < l.length := (List.getElem?_eq_some_iff.1 hb).1
  obtain ⟨f, hf⟩ : ∃ f, l.length - a = f + 1 := ⟨l.length - a - 1, by omega⟩
  rw [hf]
  simp [ends, hb, hbl]

theorem ends_bd (l : List UInt8) (f : Nat) : ∀ a c, a ≤ l.length → a ≤ (ends l f a c).1 ∧ (ends l f a c).1 ≤ l.length ∧ c ≤ (ends l f a c).2 ∧ (ends l f a c).2 + 4 * a ≤ c + 4 * (ends l f a c).1 := by
  induction f with
  | zero => intro a c h; simp only [ends]; omega
  | succ f ih =>
    intro a c h
    simp only [ends]
    cases hb : l[a]? with
    | none => simp only; omega
    | some b =>
      have ha : a < l.length := (List.getElem?_eq_some_iff.1 hb).1
      simp only
      split
      · have := ih (a + 1) (nxt c b) (by omega)
        have := nxt_le c b
        have := nxt_gt c b
        omega
      · simp only; omega

/-- Where the blanks and tabs from a place on end, and the column there. -/
def endAt (l : List UInt8) (s : St) : Nat := (ends l (l.length - s.at_) s.at_ (s.col + s.part)).1
def endCol (l : List UInt8) (s : St) : Nat := (ends l (l.length - s.at_) s.at_ (s.col + s.part)).2

/-- So many bytes, or all there are. -/
def moves (l : List UInt8) : Nat → St → St
  | 0, s => s
  | n + 1, s => match l[s.at_]? with
    | none => s
    | some b => moves l n ⟨s.at_ + 1, nxt s.col b, 0⟩

theorem moves_step (l : List UInt8) (n a c p : Nat) (b : UInt8) (hb : l[a]? = some b) : moves l (n + 1) ⟨a, c, p⟩ = moves l n ⟨a + 1, nxt c b, 0⟩ := by simp [moves, hb]
theorem moves_end (l : List UInt8) (n : Nat) (s : St) (h : l.length ≤ s.at_) : moves l n s = s := by
  cases n with
  | zero => rfl
  | succ n => simp [moves, List.getElem?_eq_none_iff.2 h]

theorem end_bd (l : List UInt8) (s : St) (h : s.at_ ≤ l.length) : s.at_ ≤ endAt l s ∧ endAt l s ≤ l.length ∧ s.col + s.part ≤ endCol l s ∧ endCol l s + 4 * s.at_ ≤ s.col + s.part + 4 * endAt l s :=
  ends_bd l _ _ _ h

/-- A step of one column: the end stays where it is. -/
theorem step_end (l : List UInt8) (s s' : St) (h : step1 l s = some s') : endAt l s' = endAt l s ∧ endCol l s' = endCol l s ∧ s'.col = s.col + 1 ∧ s.col + 1 ≤ endCol l s ∧ (s.at_ ≤ l.length → s'.at_ ≤ l.length) := by
  obtain ⟨a, c, p⟩ := s
  unfold step1 at h
  simp only at h
  by_cases hp : p = 0
  · subst hp
    rw [if_pos rfl] at h
    cases hb : l[a]? with
    | none => rw [hb] at h; simp at h
    | some b =>
      rw [hb] at h
      simp only at h
      cases hbl : isBl b with
      | false => rw [hbl] at h; simp at h
      | true =>
        rw [hbl] at h
        simp only [if_true, Option.some.injEq] at h
        subst h
        have hg := nxt_gt c b
        have ha : a < l.length := (List.getElem?_eq_some_iff.1 hb).1
        have he := ends_step l a c b hb hbl
        have h1 := end_bd l ⟨a + 1, c + 1, nxt c b - c - 1⟩ (by show a + 1 ≤ l.length; omega)
        have e : ends l (l.length - (a + 1)) (a + 1) (c + 1 + (nxt c b - c - 1)) = ends l (l.length - a) a (c + 0) := by
          show _ = ends l (l.length - a) a c
          rw [he, show c + 1 + (nxt c b - c - 1) = nxt c b from by omega]
        have e1 : endAt l ⟨a + 1, c + 1, nxt c b - c - 1⟩ = endAt l ⟨a, c, 0⟩ := congrArg Prod.fst e
        have e2 : endCol l ⟨a + 1, c + 1, nxt c b - c - 1⟩ = endCol l ⟨a, c, 0⟩ := congrArg Prod.snd e
        simp only at h1
        exact ⟨e1, e2, rfl, by show c + 1 ≤ _; omega, fun _ => by show a + 1 ≤ l.length; omega⟩
  · rw [if_neg hp] at h
    simp only [Option.some.injEq] at h
    subst h
    have e : ends l (l.length - a) a (c + 1 + (p - 1)) = ends l (l.length - a) a (c + p) := by rw [show c + 1 + (p - 1) = c + p from by omega]
    have e1 : endAt l ⟨a, c + 1, p - 1⟩ = endAt l ⟨a, c, p⟩ := congrArg Prod.fst e
    have e2 : endCol l ⟨a, c + 1, p - 1⟩ = endCol l ⟨a, c, p⟩ := congrArg Prod.snd e
    refine ⟨e1, e2, rfl, ?_, fun h => h⟩
    have : ∀ f a c, c ≤ (ends l f a c).2 := by
      intro f
      induction f with
      | zero => intro a c; exact Nat.le_refl _
      | succ f ih =>
        intro a c
        simp only [ends]
        cases l[a]? with
        | none => exact Nat.le_refl _
        | some b =>
          simp only
          split
          · exact Nat.le_trans (Nat.le_of_lt (nxt_gt c b)) (ih _ _)
          · exact Nat.le_refl _
    have := this (l.length - a) a (c + p)
    unfold endCol
    simp only
    omega

/-- Where no column is left: nothing of a tab is, and no blank or tab stands there. -/
theorem stop_end (l : List UInt8) (s : St) (h : step1 l s = none) : s.part = 0 ∧ endAt l s = s.at_ ∧ endCol l s = s.col := by
  obtain ⟨a, c, p⟩ := s
  unfold step1 at h
  simp only at h
  by_cases hp : p = 0
  · subst hp
    rw [if_pos rfl] at h
    have e : ends l (l.length - a) a (c + 0) = (a, c + 0) := by
      cases hb : l[a]? with
      | none => exact ends_end l a _ (List.getElem?_eq_none_iff.1 hb)
      | some b =>
        rw [hb] at h
        simp only at h
        cases hbl : isBl b with
        | true => rw [hbl] at h; simp at h
        | false => exact ends_no l a _ b hb hbl
    exact ⟨rfl, congrArg Prod.fst e, congrArg Prod.snd e⟩
  · rw [if_neg hp] at h; simp at h

theorem iter_end (l : List UInt8) (n : Nat) : ∀ s, endAt l (iter l n s) = endAt l s ∧ endCol l (iter l n s) = endCol l s ∧ (s.col ≤ endCol l s → (iter l n s).col = min (s.col + n) (endCol l s)) ∧ (s.at_ ≤ l.length → (iter l n s).at_ ≤ l.length) := by
  induction n with
  | zero => intro s; exact ⟨rfl, rfl, fun h => by simp only [iter]; omega, fun h => h⟩
  | succ n ih =>
    intro s
    simp only [iter]
    cases h : step1 l s with
    | none =>
      obtain ⟨_, _, h3⟩ := stop_end l s h
      exact ⟨rfl, rfl, fun _ => by simp only; omega, fun h => h⟩
    | some s' =>
      obtain ⟨h1, h2, h3, h4, h5⟩ := step_end l s s' h
      obtain ⟨i1, i2, i3, i4⟩ := ih s'
      refine ⟨i1.trans h1, i2.trans h2, fun _ => ?_, fun h => i4 (h5 h)⟩
      have := i3 (by omega)
      simp only
      omega

/-- All columns passed. -/
theorem iter_all (l : List UInt8) (n : Nat) : ∀ s, s.col ≤ endCol l s → endCol l s - s.col ≤ n → step1 l (iter l n s) = none := by
  induction n with
  | zero =>
    intro s h0 h
    simp only [iter]
    cases h1 : step1 l s with
    | none => rfl
    | some s' => have := (step_end l s s' h1).2.2.2.1; omega
  | succ n ih =>
    intro s h0 h
    simp only [iter]
    cases h1 : step1 l s with
    | none => exact h1
    | some s' =>
      obtain ⟨e1, e2, e3, e4, _⟩ := step_end l s s' h1
      exact ih s' (by omega) (by omega)

/-- A place that may be: its column is no more than four for each byte. -/
def Ok (l : List UInt8) (s : St) : Prop := s.at_ ≤ l.length ∧ s.col + s.part ≤ 4 * s.at_ ∧ s.part ≤ 4

theorem ok_step (l : List UInt8) (s s' : St) (h : step1 l s = some s') (hk : Ok l s) : Ok l s' := by
  obtain ⟨a, c, p⟩ := s
  obtain ⟨h1, h2, h3⟩ := hk
  simp only at h1 h2 h3
  unfold step1 at h
  simp only at h
  by_cases hp : p = 0
  · subst hp
    rw [if_pos rfl] at h
    cases hb : l[a]? with
    | none => rw [hb] at h; simp at h
    | some b =>
      rw [hb] at h
      simp only at h
      cases hbl : isBl b with
      | false => rw [hbl] at h; simp at h
      | true =>
        rw [hbl] at h
        simp only [if_true, Option.some.injEq] at h
        subst h
        have hg := nxt_gt c b
        have hn := nxt_le c b
        have ha : a < l.length := (List.getElem?_eq_some_iff.1 hb).1
        exact ⟨by show a + 1 ≤ _; omega, by show c + 1 + (nxt c b - c - 1) ≤ 4 * (a + 1); omega, by show nxt c b - c - 1 ≤ 4; omega⟩
  · rw [if_neg hp] at h
    simp only [Option.some.injEq] at h
    subst h
    exact ⟨h1, by show c + 1 + (p - 1) ≤ 4 * a; omega, by show p - 1 ≤ 4; omega⟩

theorem ok_iter (l : List UInt8) (n : Nat) : ∀ s, Ok l s → Ok l (iter l n s) := by
  induction n with
  | zero => intro s h; exact h
  | succ n ih =>
    intro s h
    simp only [iter]
    cases h1 : step1 l s with
    | none => exact h
    | some s' => exact ih s' (ok_step l s s' h1 h)

end Go.Proofs.Ytbmflpojcgocaaa.Pl
