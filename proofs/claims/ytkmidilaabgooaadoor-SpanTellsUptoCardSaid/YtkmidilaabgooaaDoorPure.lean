/-
  Spans as functions on lists of bytes. No program in sight.
-/
import Derived.Test.YtkmidilaabgooaaDoorNames
namespace Go.Proofs.YtkmidilaabgooaaDoor
set_option linter.unusedVariables false
set_option linter.unusedSimpArgs false

/-- A letter, a digit, one of some. -/
def ltr (c : UInt8) : Bool := (97 ≤ c && c ≤ 122) || (65 ≤ c && c ≤ 90)
def dig (c : UInt8) : Bool := 48 ≤ c && c ≤ 57
def isB (p q : Bool) (o : Bs) (c : UInt8) : Bool := (p && ltr c) || (q && dig c) || o.contains c
abbrev bt : UInt8 → Bool := isB false false [32, 9]
abbrev nameB : UInt8 → Bool := isB true true [45]
abbrev attrB : UInt8 → Bool := isB true true [95, 46, 58, 45]
abbrev badV : UInt8 → Bool := isB false false [9, 10, 32, 34, 39, 61, 60, 62, 96]
/-- What is left behind a text that comes next. -/
def textF (t l : Bs) : Option Bs := if t.isPrefixOf l then some (l.drop t.length) else none
def gapF (l : Bs) : Bs := match l.dropWhile bt with
  | [] => []
  | c :: r => if c == 10 then r.dropWhile bt else c :: r
def nameF : Bs → Option Bs
  | [] => none
  | c :: l => if isB true false [] c then some ((c :: l).dropWhile nameB) else none
/-- An attribute's value; none: it is wrong. -/
def valF (l : Bs) : Option Bs := match gapF l with
  | [] => some l
  | c :: r => if c == 61 then (match gapF r with
      | [] => none
      | d :: r' => if d == 39 || d == 34 then (cut d r').map (·.2) else if badV d then none else some ((d :: r').dropWhile fun x => !badV x))
    else some l
/-- Attributes. -/
def attrs (l : Bs) : Option Bs := match gapF l with
  | [] => some l
  | c :: g => if (c :: g).length < l.length && isB true false [95, 58] c then (match valF ((c :: g).dropWhile attrB) with
      | none => none
      | some v => if h : v.length < l.length then attrs v else none)
    else some l
termination_by l.length
def slash (l : Bs) : Bs := match l with
  | [] => []
  | c :: r => if c == 47 then r else c :: r
/-- A tag, up to its end. -/
def tagB (l : Bs) : Option Bs := match l with
  | [] => none
  | c :: l => if c == 60 then (match l with
      | [] => none
      | d :: r => if d == 47 then (nameF r).map gapF else match nameF (d :: r) with
        | none => none
        | some r => (attrs r).map fun r => slash (gapF r))
    else none
def endF (l : Bs) : Option Bs := match l with
  | [] => none
  | c :: r => if c == 62 then some r else none
def tagF (l : Bs) : Option Bs := match tagB l with
  | none => none
  | some m => endF m
/-- Behind the first of some bytes. -/
def uptoF (e : Bs) : Bs → Option Bs
  | [] => if e.isPrefixOf [] then some [] else none
  | b :: l => if e.isPrefixOf (b :: l) then some ((b :: l).drop e.length) else uptoF e l
def ltr1 (l : Bs) : Bool := match l with | [] => false | c :: _ => isB true false [] c
def rawK (l : Bs) : Option Bs :=
  if [60, 33, 45, 45, 62].isPrefixOf l then some (l.drop 5)
  else if [60, 33, 45, 45, 45, 62].isPrefixOf l then some (l.drop 6)
  else if [60, 33, 45, 45].isPrefixOf l then uptoF [45, 45, 62] (l.drop 4)
  else if [60, 63].isPrefixOf l then uptoF [63, 62] (l.drop 2)
  else if [60, 33, 91, 67, 68, 65, 84, 65, 91].isPrefixOf l then uptoF [93, 93, 62] (l.drop 9)
  else if [60, 33].isPrefixOf l && ltr1 (l.drop 2) then uptoF [62] (l.drop 2)
  else none
def rawF (l : Bs) : Option Bs := match tagF l with
  | some r => some r
  | none => rawK l
/-- How many bytes were taken. -/
def took (l : Bs) (r : Option Bs) : Nat := match r with
  | none => 0
  | some r => l.length - r.length
abbrev mailB : UInt8 → Bool := isB true true [46, 33, 35, 36, 37, 38, 39, 42, 43, 47, 61, 63, 94, 95, 123, 124, 125, 126, 45, 96]
def partB (p : Bs) : Bool := decide (1 ≤ p.length) && decide (p.length ≤ 63) && p.all nameB && p.head? != some 45 && p.getLast? != some 45
/-- Pieces between points. -/
def pieces (c : UInt8) : Bs → List Bs
  | [] => [[]]
  | b :: l => if b == c then [] :: pieces c l else match pieces c l with
    | [] => [[b]]
    | p :: ps => (b :: p) :: ps
def mailF (t : Bs) : Bool := match t.dropWhile mailB with
  | [] => false
  | c :: d => decide ((c :: d).length < t.length) && c == 64 && (pieces 46 d).all partB
def schemeF (t : Bs) : Bool := match t with
  | [] => false
  | c :: _ => isB true false [] c && decide (2 ≤ (t.takeWhile (isB true true [43, 46, 45])).length) && decide ((t.takeWhile (isB true true [43, 46, 45])).length ≤ 32) && (t.dropWhile (isB true true [43, 46, 45])).head? == some 58
def badA (c : UInt8) : Bool := c ≤ 32 || c == 127 || c == 60
def mailto : Bs := [109, 97, 105, 108, 116, 111, 58]
/-- The link with which a text begins: where it leads, and its text. -/
def autoF (l : Bs) : Option (Bs × Bs) := match l with
  | [] => none
  | c :: r => if c == 60 then (match cut 62 r with
      | none => none
      | some (t, _) => if t.any badA then none else if schemeF t then some (t, t) else if mailF t then some (mailto ++ t, t) else none)
    else none
/-- Grave accents. -/
def ticks (l : Bs) : Nat := (l.takeWhile (· == 96)).length
def close (k : Nat) (l : Bs) : Option (Bs × Bs) := match l with
  | [] => none
  | c :: r => if c == 96 then
      (if ticks (c :: r) = k then some ([], (c :: r).drop k)
      else if h : ((c :: r).drop (ticks (c :: r))).length < (c :: r).length then (close k ((c :: r).drop (ticks (c :: r)))).map fun p => ((c :: r).take (ticks (c :: r)) ++ p.1, p.2) else none)
    else (close k r).map fun p => (c :: p.1, p.2)
termination_by l.length
decreasing_by
  · exact h
  · simp
def strip (c : Bs) : Bs := 
  if (c.map fun b => if b == 10 then 32 else b).any (· != 32) && (c.map fun b => if b == 10 then 32 else b).head? == some 32 && (c.map fun b => if b == 10 then 32 else b).getLast? == some 32
  then (c.map fun b => if b == 10 then 32 else b).tail.dropLast else c.map fun b => if b == 10 then 32 else b
def codeF (l : Bs) : Option (Bs × Bs) := if ticks l = 0 then none else (close (ticks l) (l.drop (ticks l))).map fun p => (strip p.1, p.2)

/-! what is left is an end of what was -/
theorem dw_suffix (p : UInt8 → Bool) (l : Bs) : l.dropWhile p <:+ l := List.dropWhile_suffix p
theorem gap_suffix (l : Bs) : gapF l <:+ l := by
  have h := dw_suffix bt l
  unfold gapF
  cases hd : l.dropWhile bt with
  | nil => simp
  | cons c r =>
    rw [hd] at h
    dsimp only
    split
    · exact (dw_suffix bt r).trans ((List.suffix_cons c r).trans h)
    · exact h
theorem name_suffix {l r : Bs} (h : nameF l = some r) : r <:+ l := by
  unfold nameF at h
  split at h
  · cases h
  · split at h
    · injection h with h; subst h; exact dw_suffix _ _
    · cases h
theorem cut_suffix (c : UInt8) : ∀ (l a b : Bs), cut c l = some (a, b) → l = a ++ c :: b
  | [], _, _, h => by cases h
  | x :: l, a, b, h => by
    unfold cut at h
    split at h
    · rename_i hx
      injection h with h; injection h with h1 h2
      subst h1 h2
      rw [beq_iff_eq] at hx
      rw [hx]; rfl
    · cases hc : cut c l with
      | none => rw [hc] at h; cases h
      | some p =>
        rw [hc] at h
        injection h with h; injection h with h1 h2
        subst h1 h2
        rw [cut_suffix c l p.1 p.2 hc]; rfl
theorem val_suffix {l r : Bs} (h : valF l = some r) : r <:+ l := by
  have hg := gap_suffix l
  unfold valF at h
  split at h
  · injection h with h; subst h; exact List.suffix_refl _
  · rename_i c r' hr
    rw [hr] at hg
    split at h
    · have hg2 := gap_suffix r'
      split at h
      · cases h
      · rename_i d r'' hr2
        rw [hr2] at hg2
        have hs : d :: r'' <:+ l := hg2.trans ((List.suffix_cons c r').trans hg)
        split at h
        · cases hc : cut d r'' with
          | none => rw [hc] at h; cases h
          | some p =>
            rw [hc] at h
            injection h with h; subst h
            have := cut_suffix d r'' p.1 p.2 hc
            refine List.IsSuffix.trans ?_ hs
            rw [this]
            exact ⟨d :: p.1 ++ [d], by simp⟩
        · split at h
          · cases h
          · injection h with h; subst h
            exact (dw_suffix _ _).trans hs
    · injection h with h; subst h; exact List.suffix_refl _
theorem attrs_suffix : ∀ (n : Nat) {l r : Bs}, l.length ≤ n → attrs l = some r → r <:+ l
  | n, l, r, hn, h => by
    have hg := gap_suffix l
    unfold attrs at h
    split at h
    · injection h with h; subst h; exact List.suffix_refl _
    · rename_i c g hr
      rw [hr] at hg
      split at h
      · split at h
        · cases h
        · rename_i v hv
          split at h
          · rename_i hlt
            cases n with
            | zero => omega
            | succ n => exact (attrs_suffix n (by omega) h).trans ((val_suffix hv).trans ((dw_suffix _ _).trans hg))
          · cases h
      · injection h with h; subst h; exact List.suffix_refl _
theorem slash_suffix (l : Bs) : slash l <:+ l := by
  unfold slash
  split
  · exact List.suffix_refl _
  · split
    · exact List.suffix_cons _ _
    · exact List.suffix_refl _
theorem tagB_suffix {l r : Bs} (h : tagB l = some r) : r <:+ l := by
  unfold tagB at h
  split at h
  · cases h
  · rename_i c l
    split at h
    · split at h
      · cases h
      · rename_i d r'
        split at h
        · cases hn : nameF r' with
          | none => rw [hn] at h; cases h
          | some m =>
            rw [hn] at h; injection h with h; subst h
            exact (gap_suffix m).trans ((name_suffix hn).trans ((List.suffix_cons _ _).trans (List.suffix_cons _ _)))
        · cases hn : nameF (d :: r') with
          | none => rw [hn] at h; cases h
          | some m =>
            rw [hn] at h; dsimp only at h
            cases ha : attrs m with
            | none => rw [ha] at h; cases h
            | some m2 =>
              rw [ha] at h; injection h with h; subst h
              exact (slash_suffix _).trans ((gap_suffix m2).trans ((attrs_suffix _ (Nat.le_refl _) ha).trans ((name_suffix hn).trans (List.suffix_cons _ _))))
    · cases h

/-! what stands behind the mark 62 does not matter -/
theorem dw_mark (p : UInt8 → Bool) (hp : p 62 = false) (r : Bs) : ∀ l : Bs, (l ++ 62 :: r).dropWhile p = l.dropWhile p ++ 62 :: r
  | [] => by simp [List.dropWhile, hp]
  | c :: l => by
    rw [List.cons_append, List.dropWhile_cons, List.dropWhile_cons]
    split
    · exact dw_mark p hp r l
    · rfl
theorem gap_mark (l r : Bs) : gapF (l ++ 62 :: r) = gapF l ++ 62 :: r := by
  unfold gapF
  rw [dw_mark bt (by decide)]
  cases l.dropWhile bt with
  | nil => rfl
  | cons c m =>
    dsimp only [List.cons_append]
    by_cases hc : (c == 10) = true
    · rw [if_pos hc, if_pos hc, dw_mark bt (by decide)]
    · rw [if_neg hc, if_neg hc]; rfl
theorem name_mark (l r : Bs) : nameF (l ++ 62 :: r) = (nameF l).map (· ++ 62 :: r) := by
  cases l with
  | nil => rfl
  | cons c l =>
    show (if isB true false [] c then some ((c :: l ++ 62 :: r).dropWhile nameB) else none) = Option.map _ (if isB true false [] c then some ((c :: l).dropWhile nameB) else none)
    rw [dw_mark nameB (by decide)]
    split <;> rfl
theorem cut_none_len (c : UInt8) : ∀ (l m a b : Bs), cut c l = none → cut c (l ++ m) = some (a, b) → b.length < m.length
  | [], m, a, b, _, h => by have := congrArg List.length (cut_suffix c m a b h); simp at this; omega
  | x :: l, m, a, b, h, h2 => by
    rw [List.cons_append] at h2
    unfold cut at h h2
    split at h
    · cases h
    · rename_i hx
      rw [if_neg hx] at h2
      cases h3 : cut c l with
      | some p => rw [h3] at h; cases h
      | none =>
        cases h4 : cut c (l ++ m) with
        | none => rw [h4] at h2; cases h2
        | some p =>
          rw [h4] at h2
          injection h2 with h2; injection h2 with h5 h6
          subst h6
          exact cut_none_len c l m p.1 p.2 h3 h4
theorem cut_mark (c : UInt8) (r : Bs) : ∀ l a b : Bs, cut c l = some (a, b) → cut c (l ++ r) = some (a, b ++ r)
  | [], _, _, h => by cases h
  | x :: l, a, b, h => by
    rw [List.cons_append]
    unfold cut at h ⊢
    split at h
    · rename_i hx
      injection h with h; injection h with h1 h2
      subst h1 h2
      rw [if_pos hx]
    · rename_i hx
      rw [if_neg hx]
      cases h3 : cut c l with
      | none => rw [h3] at h; cases h
      | some p =>
        rw [h3] at h
        injection h with h; injection h with h1 h2
        subst h1 h2
        rw [cut_mark c r l p.1 p.2 h3]
        rfl
theorem val_mark (l r : Bs) : (∃ q, valF l = some q ∧ valF (l ++ 62 :: r) = some (q ++ 62 :: r)) ∨ (valF l = none ∧ ∀ q, valF (l ++ 62 :: r) ≠ some (q ++ 62 :: r)) := by
  unfold valF
  rw [gap_mark]
  cases gapF l with
  | nil =>
    exact .inl ⟨l, rfl, rfl⟩
  | cons c m =>
    dsimp only [List.cons_append]
    by_cases hc : (c == 61) = true
    · rw [if_pos hc, if_pos hc, gap_mark]
      cases gapF m with
      | nil => exact .inr ⟨rfl, fun q h => by cases h⟩
      | cons d s =>
        dsimp only [List.cons_append]
        by_cases hd : (d == 39 || d == 34) = true
        · rw [if_pos hd, if_pos hd]
          cases hcc : cut d s with
          | some p => exact .inl ⟨p.2, rfl, by rw [cut_mark d (62 :: r) s p.1 p.2 hcc]; rfl⟩
          | none =>
            refine .inr ⟨rfl, fun q h => ?_⟩
            cases hc2 : cut d (s ++ 62 :: r) with
            | none => rw [hc2] at h; cases h
            | some p =>
              rw [hc2] at h
              injection h with h
              have hl := cut_none_len d s _ p.1 p.2 hcc hc2
              have hl2 := congrArg List.length h
              simp at hl hl2
              omega
        · rw [if_neg hd, if_neg hd]
          by_cases hb : badV d = true
          · rw [if_pos hb, if_pos hb]
            exact .inr ⟨rfl, fun q h => by cases h⟩
          · rw [if_neg hb, if_neg hb]
            refine .inl ⟨_, rfl, ?_⟩
            rw [← List.cons_append, dw_mark _ (by decide)]
    · rw [if_neg hc, if_neg hc]
      exact .inl ⟨l, rfl, rfl⟩
theorem attrs_mark (r : Bs) : ∀ (n : Nat) (l : Bs), l.length ≤ n → (∃ q, attrs l = some q ∧ attrs (l ++ 62 :: r) = some (q ++ 62 :: r)) ∨ (attrs l = none ∧ ∀ q, attrs (l ++ 62 :: r) ≠ some (q ++ 62 :: r))
  | n, l, hn => by
    rw [attrs, attrs, gap_mark]
    cases hg : gapF l with
    | nil => exact .inl ⟨l, rfl, by dsimp only [List.nil_append]; rw [if_neg (by simp; intro h; decide)]⟩
    | cons c g =>
      dsimp only [List.cons_append]
      have el : decide ((c :: (g ++ 62 :: r)).length < (l ++ 62 :: r).length) = decide ((c :: g).length < l.length) := by
        rw [decide_eq_decide]; simp; omega
      rw [el]
      by_cases hc : (decide ((c :: g).length < l.length) && isB true false [95, 58] c) = true
      · rw [if_pos hc, if_pos hc]
        rw [← List.cons_append, dw_mark attrB (by decide)]
        have hle : ((c :: g).dropWhile attrB).length < l.length := by
          rw [Bool.and_eq_true, decide_eq_true_eq] at hc
          exact Nat.lt_of_le_of_lt (dw_suffix attrB (c :: g)).length_le hc.1
        rcases val_mark ((c :: g).dropWhile attrB) r with ⟨q, h1, h2⟩ | ⟨h1, h2⟩
        · rw [h1, h2]
          dsimp only
          have hq := (val_suffix h1).length_le
          rw [dif_pos (by omega), dif_pos (by simp; omega)]
          cases n with
          | zero => omega
          | succ n => exact attrs_mark r n q (by omega)
        · rw [h1]
          refine .inr ⟨rfl, fun q h => ?_⟩
          cases hv : valF (List.dropWhile attrB (c :: g) ++ 62 :: r) with
          | none => rw [hv] at h; cases h
          | some v =>
            rw [hv] at h
            dsimp only at h
            split at h
            · have hs := attrs_suffix _ (Nat.le_refl _) h
              have hs2 := val_suffix hv
              obtain ⟨y, hy⟩ := hs
              exact h2 (y ++ q) (by rw [hv, ← hy]; simp)
            · cases h
      · rw [if_neg hc, if_neg hc]
        exact .inl ⟨l, rfl, rfl⟩
theorem slash_mark (l r : Bs) : slash (l ++ 62 :: r) = slash l ++ 62 :: r := by
  cases l with
  | nil => rfl
  | cons c l =>
    show (if c == 47 then l ++ 62 :: r else c :: (l ++ 62 :: r)) = (if c == 47 then l else c :: l) ++ 62 :: r
    split <;> rfl
theorem tagB_mark (l r : Bs) : (∃ q, tagB l = some q ∧ tagB (l ++ 62 :: r) = some (q ++ 62 :: r)) ∨ (tagB l = none ∧ ∀ q, tagB (l ++ 62 :: r) ≠ some (q ++ 62 :: r)) := by
  cases l with
  | nil => exact .inr ⟨rfl, fun q h => by cases h⟩
  | cons c l =>
    rw [List.cons_append]
    unfold tagB
    by_cases hc : (c == 60) = true
    · dsimp only
      rw [if_pos hc, if_pos hc]
      cases l with
      | nil => exact .inr ⟨rfl, fun q h => by cases h⟩
      | cons d l =>
        dsimp only [List.cons_append]
        by_cases hd : (d == 47) = true
        · rw [if_pos hd, if_pos hd, name_mark]
          cases nameF l with
          | none => exact .inr ⟨rfl, fun q h => by cases h⟩
          | some m => exact .inl ⟨_, rfl, by show some (gapF (m ++ 62 :: r)) = _; rw [gap_mark]⟩
        · rw [if_neg hd, if_neg hd, ← List.cons_append, name_mark]
          cases nameF (d :: l) with
          | none => exact .inr ⟨rfl, fun q h => by cases h⟩
          | some m =>
            dsimp only [Option.map_some]
            rcases attrs_mark r _ m (Nat.le_refl _) with ⟨q, h1, h2⟩ | ⟨h1, h2⟩
            · rw [h1, h2]
              exact .inl ⟨_, rfl, by dsimp only [Option.map_some]; rw [gap_mark, slash_mark]⟩
            · rw [h1]
              refine .inr ⟨rfl, fun q h => ?_⟩
              cases ha : attrs (m ++ 62 :: r) with
              | none => rw [ha] at h; cases h
              | some v =>
                rw [ha] at h
                injection h with h
                have hs := (slash_suffix (gapF v)).trans (gap_suffix v)
                have h' : slash (gapF v) = q ++ 62 :: r := h
                rw [h'] at hs
                obtain ⟨y, hy⟩ := hs
                exact h2 (y ++ q) (by rw [ha, ← hy]; simp)
    · dsimp only
      rw [if_neg hc, if_neg hc]
      exact .inr ⟨rfl, fun q h => by cases h⟩
theorem tag_front {l r : Bs} (h : tagF l = some r) : ∃ p, l = p ++ 62 :: r ∧ tagB p = some [] := by
  unfold tagF at h
  cases hb : tagB l with
  | none => rw [hb] at h; cases h
  | some m =>
    rw [hb] at h
    dsimp only at h
    unfold endF at h
    cases m with
    | nil => cases h
    | cons c m =>
      dsimp only at h
      split at h
      · rename_i hc
        injection h with h
        rw [beq_iff_eq] at hc
        subst h hc
        obtain ⟨p, hp⟩ := tagB_suffix hb
        refine ⟨p, hp.symm, ?_⟩
        rcases tagB_mark p m with ⟨q, h1, h2⟩ | ⟨h1, h2⟩
        · rw [hp, hb] at h2
          injection h2 with h2
          have : q = [] := by simpa using h2
          rw [h1, this]
        · rw [hp, hb] at h2
          exact absurd rfl (h2 [])
      · cases h
theorem tag_of {p : Bs} (h : tagB p = some []) (r : Bs) : tagF (p ++ 62 :: r) = some r := by
  unfold tagF
  rcases tagB_mark p r with ⟨q, h1, h2⟩ | ⟨h1, h2⟩
  · rw [h] at h1; injection h1 with h1; subst h1
    rw [h2]; rfl
  · rw [h] at h1; cases h1
end Go.Proofs.YtkmidilaabgooaaDoor
