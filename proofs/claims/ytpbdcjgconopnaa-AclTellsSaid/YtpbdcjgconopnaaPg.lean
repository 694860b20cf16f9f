/-
  What AclGives and AclMany say of Set and May, without a program.
-/
import Derived.Test.YtpbdcjgconopnaaPh
import Derived.Test.YtpbdcjgconopnaaSe
namespace Go.Proofs.Ytpbdcjgconopnaa
set_option linter.unusedVariables false

abbrev Bel (a b : Gr) : Prop := cmpG a b < 0
abbrev Up (l : List Gr) : Prop := l.Pairwise Bel
theorem up_of {l : List Gr} (h : Rise l) : Up l := by
  rw [Up, List.pairwise_iff_getElem]
  intro i j hi hj hij
  have := h i j hij hj
  rwa [getElem!_pos l i hi, getElem!_pos l j hj] at this
theorem rise_of {l : List Gr} (h : Up l) : Rise l := by
  intro i j hij hj
  have hi : i < l.length := by omega
  rw [Up, List.pairwise_iff_getElem] at h
  rw [getElem!_pos l i hi, getElem!_pos l j hj]
  exact h i j hi hj hij
theorem bel_irr (a : Gr) : ¬ Bel a a := by
  have := cmp_zero.2 (show same a a from ⟨rfl, rfl⟩)
  unfold Bel; omega
theorem bel_anti {a b : Gr} (h : Bel a b) : ¬ Bel b a := by
  have := cmp_anti a b
  unfold Bel at *; omega
theorem up_uniq : ∀ {a b : List Gr}, Up a → Up b → (∀ m, m ∈ a ↔ m ∈ b) → a = b
  | [], [], _, _, _ => rfl
  | [], y :: b, _, _, h => absurd ((h y).2 (by simp)) (by simp)
  | x :: a, [], _, _, h => absurd ((h x).1 (by simp)) (by simp)
  | x :: a, y :: b, ha, hb, h => by
    rw [Up, List.pairwise_cons] at ha hb
    have hxy : x = y := by
      have h1 := (h x).1 (by simp)
      have h2 := (h y).2 (by simp)
      simp only [List.mem_cons] at h1 h2
      rcases h1 with h1 | h1
      · exact h1
      · rcases h2 with h2 | h2
        · exact h2.symm
        · exact absurd (ha.1 y h2) (bel_anti (hb.1 x h1))
    subst hxy
    rw [up_uniq ha.2 hb.2 (fun m => ?_)]
    have hm := h m
    simp only [List.mem_cons] at hm
    constructor
    · intro hma
      rcases hm.1 (.inr hma) with rfl | h1
      · exact absurd (ha.1 _ hma) (bel_irr _)
      · exact h1
    · intro hmb
      rcases hm.2 (.inr hmb) with rfl | h1
      · exact absurd (hb.1 _ hmb) (bel_irr _)
      · exact h1
/-- All entries may be. -/
def Fit (l : List Gr) : Prop := ∀ m ∈ l, fineB m = true ∧ 1 ≤ m.r ∧ m.r ≤ 3
theorem right_parts {l : List Gr} (h : rightB l = true) : l.length ≤ 64 ∧ Up l ∧ Fit l := by
  refine ⟨(right_ok h).1, up_of (right_rise h), fun m hm => ?_⟩
  obtain ⟨i, hi, rfl⟩ := List.getElem_of_mem hm
  have := ok_parts ((right_ok h).2 i hi)
  rw [getElem!_pos l i hi] at this
  exact ⟨this.1, this.2.1, this.2.2.1⟩
theorem right_of {l : List Gr} (h64 : l.length ≤ 64) (hu : Up l) (hf : Fit l) : rightB l = true := by
  unfold rightB
  rw [Bool.and_eq_true, List.all_eq_true, decide_eq_true_eq]
  refine ⟨fun i hi => ?_, h64⟩
  have hi := List.mem_range.1 hi
  obtain ⟨a, b, c⟩ := hf l[i] (List.getElem_mem hi)
  unfold okAt
  rw [getElem!_pos l i hi, a, decide_eq_true ⟨b, c⟩]
  rcases i with _ | i
  · rfl
  · have := rise_of hu i (i + 1) (by omega) hi
    rw [getElem!_pos l (i + 1) hi] at this
    simp only [Nat.add_sub_cancel, decide_eq_true this]
    simp
theorem same_symm {a b : Gr} (h : same a b) : same b a := ⟨h.1.symm, h.2.symm⟩
theorem same_eq {l : List Gr} (hu : Up l) {a b : Gr} (ha : a ∈ l) (hb : b ∈ l) (h : same a b) : a = b := by
  obtain ⟨i, hi, rfl⟩ := List.getElem_of_mem ha
  obtain ⟨j, hj, rfl⟩ := List.getElem_of_mem hb
  have h0 := cmp_zero.2 h
  have h1 := cmp_zero.2 (same_symm h)
  rw [Up, List.pairwise_iff_getElem] at hu
  rcases Nat.lt_trichotomy i j with hlt | rfl | hgt
  · have := hu i j hi hj hlt; unfold Bel at this; omega
  · rfl
  · have := hu j i hj hi hgt; unfold Bel at this; omega
theorem look_mem {l : List Gr} (hu : Up l) {m : Gr} (hm : m ∈ l) : look l m.t m.w = m.r := by
  unfold look
  rcases hq : l.find? (fun x => decide (same x ⟨m.t, m.w, 0⟩)) with _ | x
  · rw [List.find?_eq_none] at hq
    exact absurd (decide_eq_true (show same m ⟨m.t, m.w, 0⟩ from ⟨rfl, rfl⟩)) (hq m hm)
  · have hp := List.find?_some hq
    have hs : same x ⟨m.t, m.w, 0⟩ := of_decide_eq_true hp
    have := same_eq hu (List.mem_of_find?_eq_some hq) hm ⟨hs.1, hs.2⟩
    rw [this]
theorem look_no {l : List Gr} {t u : Bs} (h : ∀ m ∈ l, ¬ (m.t = t ∧ m.w = u)) : look l t u = 0 := by
  unfold look
  rw [List.find?_eq_none.2 (fun m hm hc => h m hm (of_decide_eq_true hc : same m ⟨t, u, 0⟩))]
theorem look_cases (l : List Gr) (t u : Bs) : (∃ m ∈ l, m.t = t ∧ m.w = u) ∨ ∀ m ∈ l, ¬ (m.t = t ∧ m.w = u) := by
  by_cases h : ∃ m ∈ l, m.t = t ∧ m.w = u
  · exact .inl h
  · exact .inr (fun m hm hc => h ⟨m, hm, hc⟩)
/-- What stands where a grant was given. -/
structure Put (l : List Gr) (g : Gr) (x : List Gr) : Prop where
  up : Up x
  mem : ∀ m, m ∈ x ↔ (m ∈ l ∧ ¬ same m g) ∨ (m = g ∧ g.r ≠ 0)
theorem halves {l : List Gr} {g : Gr} {i : Nat} (hu : Up l) (hb : BsAt l g i) : (∀ m ∈ l.take i, Bel m g) ∧ (∀ m ∈ l.drop (i + 1), Bel g m) ∧ (foundB l g i = false → ∀ m ∈ l.drop i, Bel g m) := by
  obtain ⟨h1, h2, h3⟩ := bs_split (rise_of hu) hb
  refine ⟨fun m hm => ?_, fun m hm => ?_, fun hf m hm => ?_⟩
  · obtain ⟨j, hj, rfl⟩ := List.getElem_of_mem hm
    rw [List.length_take] at hj
    have := h1 j (by omega)
    rw [getElem!_pos l j (by omega)] at this
    rwa [List.getElem_take]
  · obtain ⟨j, hj, rfl⟩ := List.getElem_of_mem hm
    rw [List.length_drop] at hj
    have := h3 (i + 1 + j) (by omega) (by omega)
    rw [getElem!_pos l _ (by omega)] at this
    rw [List.getElem_drop]
    have := cmp_anti l[i + 1 + j] g
    unfold Bel; omega
  · obtain ⟨j, hj, rfl⟩ := List.getElem_of_mem hm
    rw [List.length_drop] at hj
    have h4 := h2 (i + j) (by omega) (by omega)
    have h5 := found_no (rise_of hu) hb hf (i + j) (by omega)
    rw [getElem!_pos l _ (by omega)] at h4 h5
    rw [List.getElem_drop]
    have h6 : cmpG l[i + j] g ≠ 0 := fun h => h5 (cmp_zero.1 h)
    have := cmp_anti l[i + j] g
    unfold Bel; omega
theorem not_same_l {a g : Gr} (h : Bel a g) : ¬ same a g := fun hs => by have := cmp_zero.2 hs; unfold Bel at h; omega
theorem not_same_r {a g : Gr} (h : Bel g a) : ¬ same a g := fun hs => by have := cmp_zero.2 (same_symm hs); unfold Bel at h; omega
theorem bel_trans {a b c : Gr} (h : Bel a b) (k : Bel b c) : Bel a c := cmp_trans h k
theorem split_at {l : List Gr} {i : Nat} (hi : i < l.length) : l = l.take i ++ l[i] :: l.drop (i + 1) := by
  rw [← List.drop_eq_getElem_cons hi, List.take_append_drop]
theorem mem_mid {l : List Gr} {i : Nat} (hi : i < l.length) (m : Gr) : m ∈ l ↔ m ∈ l.take i ∨ m = l[i] ∨ m ∈ l.drop (i + 1) := by
  have h := congrArg (fun z => m ∈ z) (split_at hi)
  simp only [List.mem_append, List.mem_cons] at h
  exact Eq.to_iff h
theorem mem_two (l : List Gr) (i : Nat) (m : Gr) : m ∈ l ↔ m ∈ l.take i ∨ m ∈ l.drop i := by
  rw [← List.mem_append, List.take_append_drop]
theorem put_of {l : List Gr} {g : Gr} {x : List Gr} (h : SetOf l g 0 x) : goodG l g ∧ Put l g x ∧ x.length ≤ 64 := by
  rcases h with ⟨_, h, _⟩ | ⟨hg, i, hb, h⟩
  · cases h
  · obtain ⟨h64, hu, hfit⟩ := right_parts hg.1
    obtain ⟨k1, k2, k3⟩ := halves hu hb
    have hut := hu.take (i := i)
    have hud := hu.drop (i := i)
    have hud1 := hu.drop (i := i + 1)
    refine ⟨hg, ?_⟩
    rcases h with ⟨hf, hr, _, rfl⟩ | ⟨hf, hr, _, rfl⟩ | ⟨hf, hr, _, rfl⟩ | ⟨_, _, _, h, _⟩ | ⟨hf, hr, hlt, _, rfl⟩
    · obtain ⟨hi, hs⟩ := found_same hf
      rw [getElem!_pos l i hi] at hs
      refine ⟨⟨?_, fun m => ?_⟩, by simp; omega⟩
      · rw [Up, List.pairwise_append]
        exact ⟨hut, hud1, fun a ha b hb => bel_trans (k1 a ha) (k2 b hb)⟩
      · have hml := mem_mid hi m
        rw [hml, List.mem_append]
        constructor
        · rintro (h1 | h1)
          · exact .inl ⟨.inl h1, not_same_l (k1 m h1)⟩
          · exact .inl ⟨.inr (.inr h1), not_same_r (k2 m h1)⟩
        · rintro (⟨h1 | h1 | h1, h2⟩ | ⟨_, h⟩)
          · exact .inl h1
          · subst h1; exact absurd hs h2
          · exact .inr h1
          · exact absurd hr h
    · obtain ⟨hi, hs⟩ := found_same hf
      rw [getElem!_pos l i hi] at hs
      refine ⟨⟨?_, fun m => ?_⟩, by simp; omega⟩
      · rw [Up, List.append_assoc, List.pairwise_append]
        refine ⟨hut, List.pairwise_cons.2 ⟨fun b hb => k2 b hb, hud1⟩, fun a ha b hb => ?_⟩
        simp only [List.singleton_append, List.mem_cons] at hb
        rcases hb with rfl | hb
        · exact k1 a ha
        · exact bel_trans (k1 a ha) (k2 b hb)
      · have hml := mem_mid hi m
        rw [hml, List.mem_append, List.mem_append, List.mem_singleton]
        constructor
        · rintro ((h1 | h1) | h1)
          · exact .inl ⟨.inl h1, not_same_l (k1 m h1)⟩
          · exact .inr ⟨h1, hr⟩
          · exact .inl ⟨.inr (.inr h1), not_same_r (k2 m h1)⟩
        · rintro (⟨h1 | h1 | h1, h2⟩ | ⟨h, _⟩)
          · exact .inl (.inl h1)
          · subst h1; exact absurd hs h2
          · exact .inr h1
          · exact .inl (.inr h)
    · refine ⟨⟨hu, fun m => ?_⟩, h64⟩
      have hml := mem_two x i m
      constructor
      · intro h1
        refine .inl ⟨h1, ?_⟩
        rcases hml.1 h1 with h2 | h2
        · exact not_same_l (k1 m h2)
        · exact not_same_r (k3 hf m h2)
      · rintro (⟨h1, _⟩ | ⟨_, h⟩)
        · exact h1
        · exact absurd hr h
    · cases h
    · have hil := hb.1
      refine ⟨⟨?_, fun m => ?_⟩, by simp; omega⟩
      · rw [Up, List.append_assoc, List.pairwise_append]
        refine ⟨hut, List.pairwise_cons.2 ⟨fun b hb => k3 hf b hb, hud⟩, fun a ha b hb => ?_⟩
        simp only [List.singleton_append, List.mem_cons] at hb
        rcases hb with rfl | hb
        · exact k1 a ha
        · exact bel_trans (k1 a ha) (k3 hf b hb)
      · have hml := mem_two l i m
        rw [hml, List.mem_append, List.mem_append, List.mem_singleton]
        constructor
        · rintro ((h1 | h1) | h1)
          · exact .inl ⟨.inl h1, not_same_l (k1 m h1)⟩
          · exact .inr ⟨h1, hr⟩
          · exact .inl ⟨.inr h1, not_same_r (k3 hf m h1)⟩
        · rintro (⟨h1 | h1, h2⟩ | ⟨h, _⟩)
          · exact .inl (.inl h1)
          · exact .inr h1
          · exact .inl (.inr h)
theorem put_right {l : List Gr} {g : Gr} {x : List Gr} (hl : goodG l g) (hp : Put l g x) (h64 : x.length ≤ 64) : rightB x = true := by
  obtain ⟨_, hu, hf⟩ := right_parts hl.1
  refine right_of h64 hp.up (fun m hm => ?_)
  rcases (hp.mem m).1 hm with ⟨h, _⟩ | ⟨rfl, h⟩
  · exact hf m h
  · have := hl.2.2.1
    exact ⟨hl.2.1, by omega, hl.2.2.2⟩
theorem put_none {l : List Gr} {g : Gr} {c : Int} {x : List Gr} (h : SetOf l g c x) (hc : c ≠ 0) : x = [] := by
  rcases h with ⟨_, _, h⟩ | ⟨_, i, _, h⟩
  · exact h
  · rcases h with ⟨_, _, h, _⟩ | ⟨_, _, h, _⟩ | ⟨_, _, h, _⟩ | ⟨_, _, _, _, h⟩ | ⟨_, _, _, h, _⟩
    · exact absurd h hc
    · exact absurd h hc
    · exact absurd h hc
    · exact h
    · exact absurd h hc
/-- What may be of a grant's own. -/
theorem may_fine {l : List Gr} {g : Gr} (hr : rightB l = true) (hf : fineB g = true) : mayB l g.t g.w = look l g.t g.w := by
  unfold fineB at hf
  unfold mayB
  rcases hq : who g.w with _ | ⟨h, o⟩
  · rw [hq] at hf; cases hf
  · rw [hq] at hf
    simp only [Bool.and_eq_true, Bool.not_eq_true'] at hf
    simp [hf.1, hr, hf.2]
theorem put_look {l : List Gr} {g : Gr} {x : List Gr} (hp : Put l g x) : look x g.t g.w = g.r := by
  by_cases hr : g.r = 0
  · rw [hr]
    refine look_no (fun m hm hc => ?_)
    rcases (hp.mem m).1 hm with ⟨_, h⟩ | ⟨_, h⟩
    · exact h hc
    · exact h hr
  · exact look_mem hp.up ((hp.mem g).2 (.inr ⟨rfl, hr⟩))
theorem put_other {l : List Gr} {g : Gr} {x : List Gr} (hu : Up l) (hp : Put l g x) {t u : Bs} (hne : ¬ (t = g.t ∧ u = g.w)) : look x t u = look l t u := by
  rcases look_cases l t u with ⟨m, hm, rfl, rfl⟩ | h
  · rw [look_mem hu hm, look_mem hp.up ((hp.mem m).2 (.inl ⟨hm, fun h => hne h⟩))]
  · rw [look_no h, look_no (fun m hm hc => ?_)]
    rcases (hp.mem m).1 hm with ⟨h1, _⟩ | ⟨rfl, _⟩
    · exact h m h1 hc
    · exact hne ⟨hc.1.symm, hc.2.symm⟩
theorem may_other {l : List Gr} {g : Gr} {x : List Gr} (hr : rightB l = true) (hx : rightB x = true) (hp : Put l g x) {t u : Bs} (hne : ¬ (t = g.t ∧ u = g.w)) : mayB x t u = mayB l t u := by
  unfold mayB
  rw [put_other (right_parts hr).2.1 hp hne, hr, hx]
/-- A rising row without one of its own. -/
theorem less_one {l : List Gr} (hu : Up l) {m : Gr} (hm : m ∈ l) {y : List Gr} (hy : Up y) (h : ∀ k, k ∈ y ↔ k ∈ l ∧ ¬ same k m) : y.length = l.length - 1 := by
  obtain ⟨i, hi, rfl⟩ := List.getElem_of_mem hm
  have hs := split_at hi
  have hu' := hu
  rw [hs, Up, List.pairwise_append, List.pairwise_cons] at hu'
  obtain ⟨a1, ⟨a2, a3⟩, a4⟩ := hu'
  have he : y = l.take i ++ l.drop (i + 1) := by
    refine up_uniq hy (List.pairwise_append.2 ⟨a1, a3, fun a ha b hb => a4 a ha b (List.mem_cons_of_mem _ hb)⟩) (fun k => ?_)
    rw [h k]
    have hk := mem_mid hi k
    rw [hk, List.mem_append]
    constructor
    · rintro ⟨h1 | rfl | h1, h2⟩
      · exact .inl h1
      · exact absurd ⟨rfl, rfl⟩ h2
      · exact .inr h1
    · rintro (h1 | h1)
      · exact ⟨.inl h1, not_same_l (a4 k h1 _ List.mem_cons_self)⟩
      · exact ⟨.inr (.inr h1), not_same_r (a2 k h1)⟩
  rw [he]
  simp; omega
/-- All that AclGives says of what was given. -/
structure Gave (l : List Gr) (g : Gr) (x : List Gr) : Prop where
  right : rightB x = true
  own : mayB x g.t g.w = g.r
  other : ∀ t u, ¬ (t = g.t ∧ u = g.w) → mayB x t u = mayB l t u
  taken : ∀ c y, SetOf x ⟨g.t, g.w, 0⟩ c y → c = 0 ∧ (mayB l g.t g.w = 0 → y = l) ∧ (mayB l g.t g.w ≠ 0 → y.length + 1 = l.length)
  back : ∀ c z, mayB l g.t g.w ≠ 0 → SetOf x ⟨g.t, g.w, mayB l g.t g.w⟩ c z → c = 0 ∧ z = l
theorem set_bad_not {l : List Gr} {g : Gr} {c : Int} {m : List Gr} (hg : goodG l g) (h : SetOf l g c m) (hne : g.r = 0 ∨ (∃ k ∈ l, same k g) ∨ l.length < 64) : c = 0 := by
  rcases h with ⟨h, _⟩ | ⟨_, i, hb, h⟩
  · exact absurd hg h
  · rcases h with ⟨_, _, h, _⟩ | ⟨_, _, h, _⟩ | ⟨_, _, h, _⟩ | ⟨hf, hr, h64, _⟩ | ⟨_, _, _, h, _⟩
    · exact h
    · exact h
    · exact h
    · rcases hne with h | ⟨k, hk, hs⟩ | h
      · exact absurd h hr
      · obtain ⟨j, hj, rfl⟩ := List.getElem_of_mem hk
        have := found_no (right_rise hg.1) hb hf j hj
        rw [getElem!_pos l j hj] at this
        exact absurd hs this
      · omega
    · exact h
theorem gave_of {l : List Gr} {g : Gr} {x : List Gr} (h : SetOf l g 0 x) : Gave l g x := by
  obtain ⟨hg, hp, h64⟩ := put_of h
  have hr := put_right hg hp h64
  obtain ⟨hl64, hu, hfit⟩ := right_parts hg.1
  have hmay : mayB l g.t g.w = look l g.t g.w := may_fine hg.1 hg.2.1
  have hgood : ∀ r, 0 ≤ r → r ≤ 3 → goodG x ⟨g.t, g.w, r⟩ := fun r h1 h2 => ⟨hr, hg.2.1, h1, h2⟩
  refine ⟨hr, by rw [may_fine hr hg.2.1, put_look hp], fun t u hne => may_other hg.1 hr hp hne, fun c y hs => ?_, fun c z hne hs => ?_⟩
  · have hc := set_bad_not (hgood 0 (by omega) (by omega)) hs (.inl rfl)
    subst hc
    obtain ⟨_, hp2, _⟩ := put_of hs
    have hmem : ∀ k, k ∈ y ↔ k ∈ l ∧ ¬ same k g := fun k => by
      rw [hp2.mem k, hp.mem k]
      constructor
      · rintro (⟨h1 | ⟨rfl, h1⟩, h2⟩ | ⟨_, h⟩)
        · exact h1
        · exact absurd ⟨rfl, rfl⟩ h2
        · exact absurd rfl h
      · exact fun h1 => .inl ⟨.inl h1, h1.2⟩
    refine ⟨rfl, fun h0 => ?_, fun hne => ?_⟩
    · refine up_uniq hp2.up hu (fun k => ?_)
      rw [hmem k]
      refine ⟨fun h => h.1, fun hk => ⟨hk, fun hs => ?_⟩⟩
      have h1 := look_mem hu hk
      rw [hs.1, hs.2, ← hmay, h0] at h1
      have := (hfit k hk).2.1
      omega
    · rcases look_cases l g.t g.w with ⟨k, hk, hs⟩ | hno
      · have := less_one hu hk hp2.up (fun j => by
          rw [hmem j]
          exact ⟨fun ⟨a, b⟩ => ⟨a, fun h => b ⟨h.1.trans hs.1, h.2.trans hs.2⟩⟩, fun ⟨a, b⟩ => ⟨a, fun h => b ⟨h.1.trans hs.1.symm, h.2.trans hs.2.symm⟩⟩⟩)
        have hpos : 0 < l.length := List.length_pos_of_mem hk
        omega
      · rw [hmay, look_no hno] at hne
        exact absurd rfl hne
  · rcases look_cases l g.t g.w with ⟨k, hk, hsk⟩ | hno
    · have h1 := look_mem hu hk
      rw [hsk.1, hsk.2, ← hmay] at h1
      have hb := hfit k hk
      have hkr : k = ⟨g.t, g.w, mayB l g.t g.w⟩ := by rw [h1, ← hsk.1, ← hsk.2]
      have hc := set_bad_not (hgood (mayB l g.t g.w) (by omega) (by omega)) hs (by
        by_cases h0 : g.r = 0
        · right; right
          have := less_one hu hk hp.up (fun j => by
            rw [hp.mem j]
            constructor
            · rintro (⟨a, b⟩ | ⟨_, b⟩)
              · exact ⟨a, fun h => b ⟨h.1.trans hsk.1, h.2.trans hsk.2⟩⟩
              · exact absurd h0 b
            · exact fun ⟨a, b⟩ => .inl ⟨a, fun h => b ⟨h.1.trans hsk.1.symm, h.2.trans hsk.2.symm⟩⟩)
          have hpos : 0 < l.length := List.length_pos_of_mem hk
          omega
        · right; left
          exact ⟨g, (hp.mem g).2 (.inr ⟨rfl, h0⟩), rfl, rfl⟩)
      subst hc
      obtain ⟨_, hp2, _⟩ := put_of hs
      refine ⟨rfl, up_uniq hp2.up hu (fun j => ?_)⟩
      rw [hp2.mem j, hp.mem j]
      constructor
      · rintro (⟨h1 | ⟨rfl, h1⟩, h2⟩ | ⟨rfl, _⟩)
        · exact h1.1
        · exact absurd ⟨rfl, rfl⟩ h2
        · rw [← hkr]; exact hk
      · intro hj
        by_cases hjs : same j g
        · right
          refine ⟨?_, hne⟩
          rw [← hkr]
          exact same_eq hu hj hk ⟨hjs.1.trans hsk.1.symm, hjs.2.trans hsk.2.symm⟩
        · exact .inl ⟨.inl ⟨hj, hjs⟩, hjs⟩
    · rw [hmay, look_no hno] at hne
      exact absurd rfl hne
end Go.Proofs.Ytpbdcjgconopnaa
