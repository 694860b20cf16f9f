/-
  What stands behind a span does not matter. No program in sight.
-/
import Derived.Test.YtkmidilaabgooaaDoorPure
namespace Go.Proofs.YtkmidilaabgooaaDoor
set_option linter.unusedVariables false
set_option linter.unusedSimpArgs false

theorem pre_app : ∀ (t a b : Bs), t.length ≤ a.length → t.isPrefixOf (a ++ b) = t.isPrefixOf a
  | [], a, b, _ => by simp [List.isPrefixOf]
  | x :: t, [], b, h => by simp at h
  | x :: t, y :: a, b, h => by
    rw [List.cons_append, List.isPrefixOf, List.isPrefixOf, pre_app t a b (by simpa using h)]
theorem pre_self (t b : Bs) : t.isPrefixOf (t ++ b) = true := by rw [List.isPrefixOf_iff_prefix]; exact List.prefix_append _ _
theorem pre_split {t l : Bs} (h : t.isPrefixOf l = true) : l = t ++ l.drop t.length := by
  rw [List.isPrefixOf_iff_prefix] at h
  obtain ⟨x, rfl⟩ := h
  simp
theorem upto_first (e : Bs) (he : e ≠ []) (b : Bs) : uptoF e (e ++ b) = some b := by
  cases e with
  | nil => exact absurd rfl he
  | cons x e =>
    rw [List.cons_append]
    unfold uptoF
    rw [← List.cons_append, pre_self, if_pos rfl]
    simp
theorem upto_front (e : Bs) (he : e ≠ []) : ∀ (l r : Bs), uptoF e l = some r → ∃ a, l = a ++ e ++ r ∧ ∀ b, uptoF e (a ++ e ++ b) = some b
  | [], r, h => by
    unfold uptoF at h
    split at h
    · rename_i h2
      have := pre_split h2
      cases e with
      | nil => exact absurd rfl he
      | cons x e => simp at this
    · cases h
  | x :: l, r, h => by
    unfold uptoF at h
    split at h
    · rename_i h2
      injection h with h
      refine ⟨[], ?_, fun b => ?_⟩
      · rw [← h]; simpa using pre_split h2
      · simpa using upto_first e he b
    · rename_i h2
      obtain ⟨a, h3, h4⟩ := upto_front e he l r h
      refine ⟨x :: a, by rw [h3]; rfl, fun b => ?_⟩
      show uptoF e (x :: (a ++ e ++ b)) = some b
      unfold uptoF
      have : e.isPrefixOf (x :: (a ++ e ++ b)) = false := by
        rw [show x :: (a ++ e ++ b) = (x :: (a ++ e)) ++ b from rfl, pre_app _ _ _ (by simp; omega)]
        rw [h3, show x :: (a ++ e ++ r) = (x :: (a ++ e)) ++ r from rfl, pre_app _ _ _ (by simp; omega)] at h2
        exact Bool.eq_false_iff.2 h2
      rw [this]
      simpa using h4 b
/-- Nothing of the kind is in it. -/
theorem upto_far (x : UInt8) (e b : Bs) : ∀ t : Bs, x ∉ t → uptoF (x :: e) (t ++ (x :: e) ++ b) = some b
  | [], _ => upto_first _ (by simp) b
  | y :: t, h => by
    have h1 : (x == y) = false := by
      rw [beq_eq_false_iff_ne]; rintro rfl; simp at h
    show uptoF (x :: e) (y :: (t ++ (x :: e) ++ b)) = some b
    unfold uptoF
    rw [List.isPrefixOf, h1]
    simpa using upto_far x e b t (fun h2 => h (List.mem_cons_of_mem _ h2))
theorem upto_none (x : UInt8) (e z : Bs) (hz : z.length < e.length + 1) : ∀ t : Bs, x ∉ t → uptoF (x :: e) (t ++ z) = none
  | [], _ => by
    rw [List.nil_append]
    induction z with
    | nil => rfl
    | cons y z ih =>
      unfold uptoF
      have : (x :: e).isPrefixOf (y :: z) = false := by
        cases hp : (x :: e).isPrefixOf (y :: z) with
        | false => rfl
        | true =>
          rw [List.isPrefixOf_iff_prefix] at hp
          have := hp.length_le
          simp at this hz
          omega
      rw [this]
      simpa using ih (by simp at hz; omega)
  | y :: t, h => by
    have h1 : (x == y) = false := by
      rw [beq_eq_false_iff_ne]; rintro rfl; simp at h
    rw [List.cons_append]
    unfold uptoF
    rw [List.isPrefixOf, h1]
    simpa using upto_none x e z hz t (fun h2 => h (List.mem_cons_of_mem _ h2))

theorem tag_none (c : UInt8) (x : Bs) (h1 : (c == 47) = false) (h2 : isB true false [] c = false) : tagF (60 :: c :: x) = none := by
  have : tagB (60 :: c :: x) = none := by
    show (if (60 == 60 : Bool) then (if c == 47 then (nameF x).map gapF else match nameF (c :: x) with
        | none => none
        | some r => (attrs r).map fun r => slash (gapF r)) else none) = none
    rw [if_pos (by rfl), h1]
    have : nameF (c :: x) = none := by
      show (if isB true false [] c then _ else none) = none
      rw [h2]; rfl
    rw [this]; rfl
  unfold tagF
  rw [this]
theorem raw_of_not_tag {l : Bs} (h : tagF l = none) : rawF l = rawK l := by
  unfold rawF; rw [h]
/-- HTML, cut off and with anything behind it. -/
theorem raw_front {l r : Bs} (h : rawF l = some r) : ∃ p, l = 60 :: p ++ 62 :: r ∧ ∀ b, rawF (60 :: p ++ 62 :: b) = some b := by
  cases ht : tagF l with
  | some m =>
    unfold rawF at h
    rw [ht] at h
    injection h with h; subst h
    obtain ⟨p, hp, hb⟩ := tag_front ht
    cases p with
    | nil => cases hb
    | cons c p =>
      have hc : c = 60 := by
        unfold tagB at hb
        dsimp only at hb
        split at hb
        · rename_i h1; simpa using h1
        · cases hb
      subst hc
      refine ⟨p, hp, fun b => ?_⟩
      unfold rawF
      rw [tag_of hb]
  | none =>
    rw [raw_of_not_tag ht] at h
    have key : ∀ (t e : Bs) (c : UInt8) (t' e' : Bs), t = 60 :: c :: t' → e = e' ++ [62] → ((c == 47) = false ∧ isB true false [] c = false) →
        t.isPrefixOf l = true → uptoF e (l.drop t.length) = some r →
        (∀ a, l = t ++ a ++ e ++ r → ∀ b, rawK (t ++ a ++ e ++ b) = uptoF e (a ++ e ++ b)) → ∃ p, l = 60 :: p ++ 62 :: r ∧ ∀ b, rawF (60 :: p ++ 62 :: b) = some b := by
      intro t e c t' e' ht' he' hc hp hu hk
      obtain ⟨a, h1, h2⟩ := upto_front e (by rw [he']; simp) _ _ hu
      have hl : l = t ++ a ++ e ++ r := by
        have := pre_split hp
        rw [h1] at this
        rw [this]; simp
      have hk' := hk a hl
      subst ht' he'
      refine ⟨c :: t' ++ a ++ e', by rw [hl]; simp, fun b => ?_⟩
      have e1 : (60 :: (c :: t' ++ a ++ e') ++ 62 :: b) = (60 :: c :: t') ++ a ++ (e' ++ [62]) ++ b := by simp
      rw [e1, raw_of_not_tag (by simpa using tag_none c _ hc.1 hc.2), hk' b, h2]
    by_cases q1 : [60, 33, 45, 45, 62].isPrefixOf l = true
    · have e0 : rawK l = some (l.drop 5) := by unfold rawK; rw [if_pos q1]
      rw [e0] at h; injection h with h
      have := pre_split q1
      refine ⟨[33, 45, 45], by rw [← h]; simpa using this, fun b => ?_⟩
      rw [raw_of_not_tag (by simpa using tag_none 33 _ (by decide) (by decide))]
      rfl
    · by_cases q2 : [60, 33, 45, 45, 45, 62].isPrefixOf l = true
      · have e0 : rawK l = some (l.drop 6) := by unfold rawK; rw [if_neg q1, if_pos q2]
        rw [e0] at h; injection h with h
        have := pre_split q2
        refine ⟨[33, 45, 45, 45], by rw [← h]; simpa using this, fun b => ?_⟩
        rw [raw_of_not_tag (by simpa using tag_none 33 _ (by decide) (by decide))]
        rfl
      · by_cases q3 : [60, 33, 45, 45].isPrefixOf l = true
        · have e0 : rawK l = uptoF [45, 45, 62] (l.drop 4) := by unfold rawK; rw [if_neg q1, if_neg q2, if_pos q3]
          rw [e0] at h
          refine key [60, 33, 45, 45] [45, 45, 62] 33 [45, 45] [45, 45] rfl rfl (by decide) q3 h (fun a hl b => ?_)
          rw [hl] at q1 q2
          rw [pre_app _ ([60, 33, 45, 45] ++ a ++ [45, 45, 62]) r (by simp)] at q1 q2
          unfold rawK
          rw [pre_app [60, 33, 45, 45, 62] ([60, 33, 45, 45] ++ a ++ [45, 45, 62]) b (by simp), pre_app [60, 33, 45, 45, 45, 62] ([60, 33, 45, 45] ++ a ++ [45, 45, 62]) b (by simp), if_neg q1, if_neg q2]
          rfl
        · by_cases q4 : [60, 63].isPrefixOf l = true
          · have e0 : rawK l = uptoF [63, 62] (l.drop 2) := by unfold rawK; rw [if_neg q1, if_neg q2, if_neg q3, if_pos q4]
            rw [e0] at h
            refine key [60, 63] [63, 62] 63 [] [63] rfl rfl (by decide) q4 h (fun a hl b => ?_)
            rfl
          · by_cases q5 : [60, 33, 91, 67, 68, 65, 84, 65, 91].isPrefixOf l = true
            · have e0 : rawK l = uptoF [93, 93, 62] (l.drop 9) := by unfold rawK; rw [if_neg q1, if_neg q2, if_neg q3, if_neg q4, if_pos q5]
              rw [e0] at h
              refine key [60, 33, 91, 67, 68, 65, 84, 65, 91] [93, 93, 62] 33 [91, 67, 68, 65, 84, 65, 91] [93, 93] rfl rfl (by decide) q5 h (fun a hl b => ?_)
              rfl
            · have e0 : rawK l = if [60, 33].isPrefixOf l && ltr1 (l.drop 2) then uptoF [62] (l.drop 2) else none := by
                unfold rawK; rw [if_neg q1, if_neg q2, if_neg q3, if_neg q4, if_neg q5]
              rw [e0] at h
              split at h
              · rename_i q6
                rw [Bool.and_eq_true] at q6
                refine key [60, 33] [62] 33 [] [] rfl rfl (by decide) q6.1 h (fun a hl b => ?_)
                have q7 := q6.2
                rw [hl] at q7
                cases a with
                | nil =>
                  have : isB true false [] 62 = true := q7
                  exact absurd this (by decide)
                | cons x a =>
                  have hx : isB true false [] x = true := q7
                  have n1 : (45 == x) = false := by rw [beq_eq_false_iff_ne]; rintro rfl; exact absurd hx (by decide)
                  have n2 : (91 == x) = false := by rw [beq_eq_false_iff_ne]; rintro rfl; exact absurd hx (by decide)
                  show rawK (60 :: 33 :: x :: (a ++ [62] ++ b)) = uptoF [62] (x :: (a ++ [62] ++ b))
                  have m1 : ∀ (t z : Bs), List.isPrefixOf (60 :: 33 :: 45 :: t) (60 :: 33 :: x :: z) = false := fun t z => by simp [List.isPrefixOf, n1]
                  have m2 : ∀ (t z : Bs), List.isPrefixOf (60 :: 33 :: 91 :: t) (60 :: 33 :: x :: z) = false := fun t z => by simp [List.isPrefixOf, n2]
                  have m3 : ∀ (t z : Bs), List.isPrefixOf (60 :: 63 :: t) (60 :: 33 :: x :: z) = false := fun t z => by simp [List.isPrefixOf]
                  have m4 : ∀ (z : Bs), List.isPrefixOf [60, 33] (60 :: 33 :: x :: z) = true := fun z => by simp [List.isPrefixOf]
                  unfold rawK
                  rw [m1, m1, m1, m2, m3, m4]
                  show (if (true && isB true false [] x) then _ else none) = _
                  rw [hx]
                  rfl
              · cases h

theorem cut_front (c : UInt8) : ∀ (l a b : Bs), cut c l = some (a, b) → ∀ b', cut c (a ++ c :: b') = some (a, b')
  | [], _, _, h, _ => by cases h
  | x :: l, a, b, h, b' => by
    unfold cut at h
    split at h
    · rename_i hx
      injection h with h; injection h with h1 h2
      subst h1 h2
      simp [cut]
    · rename_i hx
      cases hc : cut c l with
      | none => rw [hc] at h; cases h
      | some p =>
        rw [hc] at h
        injection h with h; injection h with h1 h2
        subst h1 h2
        show cut c (x :: (p.1 ++ c :: b')) = _
        unfold cut
        rw [if_neg hx, cut_front c l p.1 p.2 hc b']
        rfl
theorem cut_far (c : UInt8) (b : Bs) : ∀ a : Bs, c ∉ a → cut c (a ++ c :: b) = some (a, b)
  | [], _ => by simp [cut]
  | x :: a, h => by
    have h1 : ¬ (x == c) = true := by
      rw [beq_iff_eq]; rintro rfl; simp at h
    show cut c (x :: (a ++ c :: b)) = _
    unfold cut
    rw [if_neg h1, cut_far c b a (fun h2 => h (List.mem_cons_of_mem _ h2))]
    rfl
/-- What a text between the marks leads to. -/
def linkF (t : Bs) : Option (Bs × Bs) := if t.any badA then none else if schemeF t then some (t, t) else if mailF t then some (mailto ++ t, t) else none
theorem auto_cut {r t x : Bs} (h : cut 62 r = some (t, x)) : autoF (60 :: r) = linkF t := by
  show (if (60 == 60 : Bool) then (match cut 62 r with
      | none => none
      | some (t, _) => if t.any badA then none else if schemeF t then some (t, t) else if mailF t then some (mailto ++ t, t) else none) else none) = _
  rw [if_pos (by rfl), h]
  rfl
theorem link_text {t d u : Bs} (h : linkF t = some (d, u)) : u = t := by
  unfold linkF at h
  split at h
  · cases h
  · split at h
    · injection h with h; injection h with h1 h2; exact h2.symm
    · split at h
      · injection h with h; injection h with h1 h2; exact h2.symm
      · cases h
theorem auto_front {l d u : Bs} (h : autoF l = some (d, u)) : ∃ r, l = 60 :: u ++ 62 :: r ∧ ∀ b, autoF (60 :: u ++ 62 :: b) = some (d, u) := by
  cases l with
  | nil => cases h
  | cons c r =>
    by_cases hc : (c == 60) = true
    · rw [beq_iff_eq] at hc
      subst hc
      cases hq : cut 62 r with
      | none =>
        have : autoF (60 :: r) = none := by
          show (if (60 == 60 : Bool) then (match cut 62 r with
            | none => none
            | some (t, _) => if t.any badA then none else if schemeF t then some (t, t) else if mailF t then some (mailto ++ t, t) else none) else none) = _
          rw [if_pos (by rfl), hq]
        rw [this] at h; cases h
      | some p =>
        rw [auto_cut hq] at h
        have hu := link_text h
        subst hu
        refine ⟨p.2, by rw [cut_suffix 62 r p.1 p.2 hq]; rfl, fun b => ?_⟩
        have := cut_front 62 r p.1 p.2 hq b
        show autoF (60 :: (p.1 ++ 62 :: b)) = _
        rw [auto_cut this, h]
    · have : autoF (c :: r) = none := by
        unfold autoF
        dsimp only
        rw [if_neg hc]
      rw [this] at h; cases h

/-! code -/
theorem tw_split (p : UInt8 → Bool) (l : Bs) : l.takeWhile p ++ l.dropWhile p = l := List.takeWhile_append_dropWhile
theorem ticks_take (l : Bs) : l.take (ticks l) = List.replicate (ticks l) 96 := by
  unfold ticks
  induction l with
  | nil => rfl
  | cons c l ih =>
    rw [List.takeWhile_cons]
    split
    · rename_i h
      rw [beq_iff_eq] at h
      subst h
      simpa [List.replicate_succ] using ih
    · rfl
theorem ticks_drop (l : Bs) : l.drop (ticks l) = l.dropWhile (· == 96) := by
  unfold ticks
  induction l with
  | nil => rfl
  | cons c l ih =>
    rw [List.takeWhile_cons, List.dropWhile_cons]
    split
    · simpa using ih
    · rfl
theorem ticks_le (l : Bs) : ticks l ≤ l.length := by
  unfold ticks
  exact (List.takeWhile_prefix _).length_le
theorem ticks_next (l : Bs) : (l.drop (ticks l)).head? ≠ some 96 := by
  rw [ticks_drop]
  intro h
  cases hd : l.dropWhile (· == 96) with
  | nil => rw [hd] at h; cases h
  | cons c r =>
    rw [hd] at h
    injection h with h
    subst h
    have : ∀ l : Bs, l.dropWhile (· == 96) ≠ 96 :: r := by
      intro l
      induction l with
      | nil => intro h; cases h
      | cons c l ih =>
        rw [List.dropWhile_cons]
        split
        · exact ih
        · rename_i hc; intro h; injection h with h; subst h; exact hc rfl
    exact this l hd
theorem ticks_rep (k : Nat) {b : Bs} (hb : b.head? ≠ some 96) : ticks (List.replicate k 96 ++ b) = k := by
  induction k with
  | zero =>
    cases b with
    | nil => rfl
    | cons c b =>
      have : (c == 96) = false := by rw [beq_eq_false_iff_ne]; rintro rfl; exact hb rfl
      unfold ticks
      simp [List.takeWhile_cons, this]
  | succ k ih =>
    unfold ticks at ih ⊢
    rw [List.replicate_succ, List.cons_append, List.takeWhile_cons, if_pos (by rfl), List.length_cons, ih]
theorem close_run {k : Nat} {l : Bs} (hk : 0 < k) (h : ticks l = k) : close k l = some ([], l.drop k) := by
  cases l with
  | nil => rw [show ticks [] = 0 from rfl] at h; omega
  | cons c r =>
    have hc : (c == 96) = true := by
      cases hc : (c == 96) with
      | true => rfl
      | false => unfold ticks at h; simp only [List.takeWhile_cons, hc] at h; simp at h; omega
    rw [close]
    rw [if_pos hc, if_pos h]
theorem close_skip {k : Nat} {l : Bs} (hn : 0 < ticks l) (h : ticks l ≠ k) : close k l = (close k (l.drop (ticks l))).map fun p => (l.take (ticks l) ++ p.1, p.2) := by
  cases l with
  | nil => rw [show ticks [] = 0 from rfl] at hn; omega
  | cons c r =>
    have hc : (c == 96) = true := by
      cases hc : (c == 96) with
      | true => rfl
      | false => unfold ticks at hn; simp only [List.takeWhile_cons, hc] at hn; simp at hn
    rw [close]
    rw [if_pos hc, if_neg h, dif_pos (by simp only [List.length_drop, List.length_cons]; omega)]
theorem close_cons {k : Nat} {c : UInt8} {r : Bs} (hc : (c == 96) = false) : close k (c :: r) = (close k r).map fun p => (c :: p.1, p.2) := by
  rw [close]
  rw [hc, if_neg (by decide)]
theorem ticks_cons {c : UInt8} {r : Bs} (hc : (c == 96) = false) : ticks (c :: r) = 0 := by
  unfold ticks; simp [List.takeWhile_cons, hc]
theorem close_front (k : Nat) (hk : 0 < k) : ∀ (n : Nat) (l c r : Bs), l.length ≤ n → close k l = some (c, r) →
    l = c ++ List.replicate k 96 ++ r ∧ r.head? ≠ some 96 ∧ ∀ b : Bs, b.head? ≠ some 96 → close k (c ++ List.replicate k 96 ++ b) = some (c, b)
  | n, [], c, r, hn, h => by rw [close] at h; cases h
  | 0, x :: l, c, r, hn, h => by simp at hn
  | n + 1, x :: l, c, r, hn, h => by
    by_cases hx : (x == 96) = true
    · have hpos : 0 < ticks (x :: l) := by unfold ticks; simp [List.takeWhile_cons, hx]
      by_cases ht : ticks (x :: l) = k
      · rw [close_run hk ht] at h
        injection h with h; injection h with h1 h2
        subst h1 h2
        refine ⟨?_, ?_, fun b hb => ?_⟩
        · have := ticks_take (x :: l)
          rw [ht] at this
          rw [← this]
          simp
        · rw [← ht]; exact ticks_next _
        · rw [List.nil_append, close_run hk (ticks_rep k hb)]
          simp
      · rw [close_skip hpos ht] at h
        cases hc : close k ((x :: l).drop (ticks (x :: l))) with
        | none => rw [hc] at h; cases h
        | some p =>
          rw [hc] at h
          injection h with h; injection h with h1 h2
          obtain ⟨k1, k2, k3⟩ := close_front k hk n ((x :: l).drop (ticks (x :: l))) p.1 p.2 (by simp only [List.length_drop, List.length_cons] at hn ⊢; omega) hc
          subst h2
          have htk := ticks_take (x :: l)
          have hnx := ticks_next (x :: l)
          obtain ⟨m, hm⟩ : ∃ m, ticks (x :: l) = m := ⟨_, rfl⟩
          have hsp : x :: l = (x :: l).take m ++ (x :: l).drop m := (List.take_append_drop m (x :: l)).symm
          rw [hm] at htk hnx k1 h1 ht hpos
          rw [htk] at h1
          have hp1 : p.1 ≠ [] := by
            intro e
            rw [k1, e] at hnx
            apply hnx
            cases k with
            | zero => omega
            | succ k => rfl
          have hhead : ∀ b, (p.1 ++ List.replicate k 96 ++ b).head? ≠ some 96 := by
            intro b
            cases hp : p.1 with
            | nil => exact absurd hp hp1
            | cons y t =>
              rw [k1, hp] at hnx
              exact hnx
          refine ⟨?_, k2, fun b hb => ?_⟩
          · rw [hsp, htk, k1, ← h1]; simp
          · rw [← h1]
            have e1 : List.replicate m 96 ++ p.1 ++ List.replicate k 96 ++ b = List.replicate m 96 ++ (p.1 ++ List.replicate k 96 ++ b) := by simp
            have e2 := ticks_rep m (hhead b)
            rw [e1, close_skip (by rw [e2]; exact hpos) (by rw [e2]; exact ht), e2]
            have e3 : (List.replicate m (96 : UInt8) ++ (p.1 ++ List.replicate k 96 ++ b)).drop m = p.1 ++ List.replicate k 96 ++ b := by
              rw [List.drop_append_of_le_length (by simp), List.drop_of_length_le (by simp)]; rfl
            have e4 : (List.replicate m (96 : UInt8) ++ (p.1 ++ List.replicate k 96 ++ b)).take m = List.replicate m 96 := by
              rw [List.take_append_of_le_length (by simp), List.take_of_length_le (by simp)]
            rw [e3, e4, k3 b hb]
            rfl
    · have hx' : (x == 96) = false := by simpa using hx
      rw [close_cons hx'] at h
      cases hc : close k l with
      | none => rw [hc] at h; cases h
      | some p =>
        rw [hc] at h
        injection h with h; injection h with h1 h2
        obtain ⟨k1, k2, k3⟩ := close_front k hk n l p.1 p.2 (by simpa using hn) hc
        subst h1 h2
        refine ⟨by rw [k1]; simp, k2, fun b hb => ?_⟩
        show close k (x :: (p.1 ++ List.replicate k 96 ++ b)) = _
        rw [close_cons hx', k3 b hb]
        rfl
theorem close_plain (k : Nat) (hk : 0 < k) {b : Bs} (hb : b.head? ≠ some 96) : ∀ c : Bs, 96 ∉ c → close k (c ++ List.replicate k 96 ++ b) = some (c, b)
  | [], _ => by
    rw [List.nil_append, close_run hk (ticks_rep k hb)]
    simp
  | x :: c, h => by
    have hx : (x == 96) = false := by rw [beq_eq_false_iff_ne]; rintro rfl; simp at h
    show close k (x :: (c ++ List.replicate k 96 ++ b)) = _
    rw [close_cons hx, close_plain k hk hb c (fun h2 => h (List.mem_cons_of_mem _ h2))]
    rfl
theorem code_plain (k : Nat) (hk : 0 < k) {b c : Bs} (hb : b.head? ≠ some 96) (hc : 96 ∉ c) (hne : c ≠ []) : codeF (List.replicate k 96 ++ c ++ List.replicate k 96 ++ b) = some (strip c, b) := by
  have e1 : List.replicate k (96 : UInt8) ++ c ++ List.replicate k 96 ++ b = List.replicate k 96 ++ (c ++ List.replicate k 96 ++ b) := by simp
  have hh : (c ++ List.replicate k 96 ++ b).head? ≠ some 96 := by
    cases c with
    | nil => exact absurd rfl hne
    | cons x c => intro h; injection h with h; subst h; simp at hc
  have e2 := ticks_rep k hh
  unfold codeF
  rw [e1, e2, if_neg (by omega), List.drop_append_of_le_length (by simp), List.drop_of_length_le (by simp), List.nil_append, close_plain k hk hb c hc]
  rfl
theorem code_front {l t r : Bs} (h : codeF l = some (t, r)) : ∃ a, l = a ++ r ∧ a ≠ [] ∧ ∀ b : Bs, b.head? ≠ some 96 → codeF (a ++ b) = some (t, b) := by
  unfold codeF at h
  split at h
  · cases h
  · rename_i hk
    cases hc : close (ticks l) (l.drop (ticks l)) with
    | none => rw [hc] at h; cases h
    | some p =>
      rw [hc] at h
      injection h with h; injection h with h1 h2
      obtain ⟨k1, k2, k3⟩ := close_front (ticks l) (by omega) _ _ p.1 p.2 (Nat.le_refl _) hc
      subst h2
      have htk := ticks_take l
      have hnx := ticks_next l
      obtain ⟨m, hm⟩ : ∃ m, ticks l = m := ⟨_, rfl⟩
      have hsp : l = l.take m ++ l.drop m := (List.take_append_drop m l).symm
      rw [hm] at htk hnx k1 k3 hk
      have hp1 : p.1 ≠ [] := by
        intro e
        rw [k1, e] at hnx
        apply hnx
        cases m with
        | zero => omega
        | succ k => rfl
      have hhead : ∀ b, (p.1 ++ List.replicate m 96 ++ b).head? ≠ some 96 := by
        intro b
        cases hp : p.1 with
        | nil => exact absurd hp hp1
        | cons y t =>
          rw [k1, hp] at hnx
          exact hnx
      refine ⟨List.replicate m 96 ++ p.1 ++ List.replicate m 96, ?_, ?_, fun b hb => ?_⟩
      · rw [hsp, htk, k1]; simp
      · intro e
        have := congrArg List.length e
        simp at this
        omega
      · have e1 : List.replicate m 96 ++ p.1 ++ List.replicate m 96 ++ b = List.replicate m 96 ++ (p.1 ++ List.replicate m 96 ++ b) := by simp
        have e2 := ticks_rep m (hhead b)
        unfold codeF
        rw [e1, e2, if_neg hk, List.drop_append_of_le_length (by simp), List.drop_of_length_le (by simp), List.nil_append, k3 b hb, ← h1]
        rfl
theorem map_lf {s : Bs} (h : 10 ∉ s) : (s.map fun b => if b == 10 then 32 else b) = s := by
  induction s with
  | nil => rfl
  | cons c s ih =>
    have hc : (c == 10) = false := by rw [beq_eq_false_iff_ne]; rintro rfl; simp at h
    rw [List.map_cons, ih (fun h2 => h (List.mem_cons_of_mem _ h2)), hc]
    rfl
theorem strip_plain {s : Bs} (h : 10 ∉ s) : strip s = if s.any (· != 32) && s.head? == some 32 && s.getLast? == some 32 then s.tail.dropLast else s := by
  unfold strip
  rw [map_lf h]
end Go.Proofs.YtkmidilaabgooaaDoor
