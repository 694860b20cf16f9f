/-
  What AclHome says of May, without a program.
-/
import Derived.Test.YtpbdcjgconopnaaPu
namespace Go.Proofs.Ytpbdcjgconopnaa
set_option linter.unusedVariables false

theorem nm_le {l : Bs} (h : nm l = true) : l.length ≤ 16 := by
  unfold nm at h
  split at h
  · cases h
  · simp only [Bool.and_eq_true, decide_eq_true_eq] at h
    exact h.1.1
theorem nm_ok {l : Bs} (h : nm l = true) : ∀ b ∈ l, okb b = true := by
  unfold nm at h
  split at h
  · cases h
  · simp only [Bool.and_eq_true, List.all_eq_true] at h
    exact h.2
theorem cut_at : ∀ (a b : Bs), (∀ x ∈ a, okb x = true) → cut 47 (a ++ 47 :: b) = some (a, b)
  | [], b, _ => by simp [cut]
  | x :: a, b, h => by
    have hx : (x == 47) = false := by
      rw [beq_eq_false_iff_ne]
      rintro rfl
      exact absurd (h 47 (by simp)) (by decide)
    simp [cut, hx, cut_at a b (fun y hy => h y (by simp [hy]))]
theorem who_at {a b : Bs} (ha : nm a = true) (hb : nm b = true) : who (a ++ 47 :: b) = some (a, b) := by
  unfold who
  rw [cut_at a b (nm_ok ha)]
  simp [ha, hb]
/-- The last that was granted, of the first k. -/
def last (l : List Gr) (t w : Bs) : Nat → Int
  | 0 => 0
  | k + 1 => if l[k]!.t == t && l[k]!.w == w then l[k]!.r else last l t w k
theorem last_none {l : List Gr} {t w : Bs} : ∀ k, (∀ j, j < k → ¬ same l[j]! ⟨t, w, 0⟩) → last l t w k = 0
  | 0, _ => rfl
  | k + 1, h => by
    unfold last
    have h1 := h k (by omega)
    rw [if_neg (fun hc => h1 (by simpa [same] using hc)), last_none k (fun j hj => h j (by omega))]
theorem last_some {l : List Gr} {t w : Bs} {i : Nat} (hs : same l[i]! ⟨t, w, 0⟩) : ∀ k, i < k → (∀ j, i < j → j < k → ¬ same l[j]! ⟨t, w, 0⟩) → last l t w k = l[i]!.r
  | 0, h, _ => by omega
  | k + 1, h, hn => by
    unfold last
    by_cases hk : k = i
    · subst hk
      have : (l[k]!.t == t && l[k]!.w == w) = true := by simpa [same] using hs
      rw [if_pos this]
    · have h1 := hn k (by omega) (by omega)
      rw [if_neg (fun hc => h1 (by simpa [same] using hc)), last_some hs k (by omega) (fun j a b => hn j a (by omega))]
theorem last_look {l : List Gr} {t w : Bs} (hr : Rise l) : last l t w l.length = look l t w := by
  unfold look
  rcases hq : l.find? (fun x => decide (same x ⟨t, w, 0⟩)) with _ | x
  · rw [List.find?_eq_none] at hq
    exact last_none _ (fun j hj h => by
      rw [getElem!_pos l j hj] at h
      exact hq _ (List.getElem_mem hj) (decide_eq_true h))
  · have hp := List.find?_some hq
    have hm := List.mem_of_find?_eq_some hq
    obtain ⟨j, hj, rfl⟩ := List.getElem_of_mem hm
    have hs : same l[j]! ⟨t, w, 0⟩ := by rw [getElem!_pos l j hj]; exact of_decide_eq_true hp
    rw [last_some hs l.length hj (fun i hi hil h => by
      have h1 := hr j i hi hil
      rw [cmp_same_l hs, cmp_same_r h, cmp_zero.2 ⟨rfl, rfl⟩] at h1
      omega), getElem!_pos l j hj]
theorem may_home {l : List Gr} {t o : Bs} (hr : rightB l = true) (ht : nm t = true) (ho : nm o = true) : mayB l t (t ++ 47 :: o) = if o == [114, 111, 111, 116] then 3 else 2 := by
  unfold mayB
  rw [who_at ht ho]
  simp [ht, hr]
theorem may_away {l : List Gr} {t o x : Bs} (hr : rightB l = true) (ht : nm t = true) (ho : nm o = true) (hx : nm x = true) : mayB l t (x ++ 47 :: o) = if x == t then (if o == [114, 111, 111, 116] then 3 else 2) else last l t (x ++ 47 :: o) l.length := by
  unfold mayB
  rw [who_at hx ho, last_look (right_rise hr)]
  simp [ht, hr]
end Go.Proofs.Ytpbdcjgconopnaa
