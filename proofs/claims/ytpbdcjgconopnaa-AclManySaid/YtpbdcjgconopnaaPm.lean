/-
  What AclMany says of Set, without a program.
-/
import Derived.Test.YtpbdcjgconopnaaMw
namespace Go.Proofs.Ytpbdcjgconopnaa
set_option linter.unusedVariables false

/-- The grant of a number. -/
def gm (j : Nat) : Gr := ⟨[97], wn j, 1 + (j : Int) % 3⟩
def many (k : Nat) : List Gr := (List.range k).map gm
theorem many_len (k : Nat) : (many k).length = k := by simp [many]
theorem many_succ (k : Nat) : many (k + 1) = many k ++ [gm k] := by simp [many, List.range_succ]
theorem gm_bel : ∀ k, k < 80 → ∀ j, j < k → cmpG (gm j) (gm k) < 0 := by decide +kernel
theorem gm_fine : ∀ k, k < 80 → fineB (gm k) = true := by decide +kernel
theorem many_up {k : Nat} (hk : k ≤ 80) : Up (many k) := by
  rw [Up, many, List.pairwise_map]
  refine List.Pairwise.imp_of_mem (fun {a b} ha hb hab => ?_) (List.pairwise_lt_range (n := k))
  have hb' := List.mem_range.1 hb
  exact gm_bel b (by omega) a hab
theorem many_fit {k : Nat} (hk : k ≤ 80) : Fit (many k) := by
  intro m hm
  obtain ⟨j, hj, rfl⟩ := List.mem_map.1 hm
  have hj' := List.mem_range.1 hj
  refine ⟨gm_fine j (by omega), ?_⟩
  show 1 ≤ 1 + (j : Int) % 3 ∧ 1 + (j : Int) % 3 ≤ 3
  omega
theorem many_right {k : Nat} (hk : k ≤ 64) : rightB (many k) = true := right_of (by rw [many_len]; exact hk) (many_up (by omega)) (many_fit (by omega))
/-- A grant above all others. -/
theorem set_top {l : List Gr} {g : Gr} {c : Int} {m : List Gr} (h : SetOf l g c m) (hg : goodG l g) (hr : g.r ≠ 0) (hb : ∀ k ∈ l, Bel k g) : (l.length < 64 → c = 0 ∧ m = l ++ [g]) ∧ (l.length = 64 → c = 11 ∧ m = []) := by
  rcases h with ⟨h, _⟩ | ⟨_, i, hbs, h⟩
  · exact absurd hg h
  · have hi : i = l.length := by
      rcases Nat.lt_or_ge i l.length with hlt | hge
      · have h1 := hbs.2.2 hlt
        have h2 := hb _ (List.getElem_mem hlt)
        rw [getElem!_pos l i hlt] at h1
        unfold Bel at h2
        omega
      · have := hbs.1; omega
    have hf : foundB l g i = false := by unfold foundB; rw [decide_eq_false (show ¬ i < l.length by omega)]; rfl
    rcases h with ⟨h, _⟩ | ⟨h, _⟩ | ⟨_, h, _⟩ | ⟨_, _, h1, h2, h3⟩ | ⟨_, _, h1, h2, h3⟩
    · rw [hf] at h; cases h
    · rw [hf] at h; cases h
    · exact absurd h hr
    · exact ⟨fun h => by omega, fun _ => ⟨h2, h3⟩⟩
    · refine ⟨fun _ => ⟨h2, ?_⟩, fun h => by omega⟩
      rw [h3, hi]; simp
theorem set_next {i : Nat} (hi : i < 64) {c : Int} {m : List Gr} (h : SetOf (many i) (gm i) c m) : c = 0 ∧ m = many (i + 1) := by
  have hf := many_fit (k := i + 1) (by omega) (gm i) (by rw [many_succ]; simp)
  have := (set_top h ⟨many_right (by omega), hf.1, by omega, by omega⟩ (by omega) (fun k hk => by
    obtain ⟨j, hj, rfl⟩ := List.mem_map.1 hk
    exact gm_bel i (by omega) j (List.mem_range.1 hj))).1 (by rw [many_len]; exact hi)
  rw [many_succ]; exact this
theorem set_full {i : Nat} (h64 : 64 ≤ i) (hi : i < 80) {c : Int} {m : List Gr} (h : SetOf (many 64) (gm i) c m) : c = 11 ∧ m = [] := by
  have hf := many_fit (k := i + 1) (by omega) (gm i) (by rw [many_succ]; simp)
  exact (set_top h ⟨many_right (by omega), hf.1, by omega, by omega⟩ (by omega) (fun k hk => by
    obtain ⟨j, hj, rfl⟩ := List.mem_map.1 hk
    have := List.mem_range.1 hj
    exact gm_bel i (by omega) j (by omega))).2 (many_len 64)
theorem set_len {l : List Gr} {g : Gr} {m : List Gr} (h : SetOf l g 0 m) : ((∃ k ∈ l, same k g) → (g.r = 0 → m.length + 1 = l.length) ∧ (g.r ≠ 0 → m.length = l.length)) ∧ ((∀ k ∈ l, ¬ same k g) → g.r ≠ 0 → m.length = l.length + 1) := by
  rcases h with ⟨_, h, _⟩ | ⟨hg, i, hb, h⟩
  · cases h
  · have hrise := right_rise hg.1
    have hyes : foundB l g i = true → ∃ k ∈ l, same k g := fun hf => by
      obtain ⟨hi, hs⟩ := found_same hf
      rw [getElem!_pos l i hi] at hs
      exact ⟨_, List.getElem_mem hi, hs⟩
    have hno : foundB l g i = false → ¬ ∃ k ∈ l, same k g := fun hf ⟨k, hk, hs⟩ => by
      obtain ⟨j, hj, rfl⟩ := List.getElem_of_mem hk
      have := found_no hrise hb hf j hj
      rw [getElem!_pos l j hj] at this
      exact this hs
    have hil := hb.1
    rcases h with ⟨hf, hr, _, rfl⟩ | ⟨hf, hr, _, rfl⟩ | ⟨hf, hr, _, rfl⟩ | ⟨_, _, _, h, _⟩ | ⟨hf, hr, hlt, _, rfl⟩
    · have hi := (found_same hf).1
      obtain ⟨k, hk, hs⟩ := hyes hf
      exact ⟨fun _ => ⟨fun _ => by simp; omega, fun h => absurd hr h⟩, fun h _ => absurd hs (h k hk)⟩
    · have hi := (found_same hf).1
      obtain ⟨k, hk, hs⟩ := hyes hf
      exact ⟨fun _ => ⟨fun h => absurd h hr, fun _ => by simp; omega⟩, fun h _ => absurd hs (h k hk)⟩
    · exact ⟨fun h => absurd h (hno hf), fun _ h => absurd hr h⟩
    · cases h
    · exact ⟨fun h => absurd h (hno hf), fun _ _ => by simp; omega⟩
def dnew : Bs := [100, 47, 110, 101, 119]
theorem many_x {k j : Nat} (hk : k ≤ 64) (hj : j < k) {c : Int} {x : List Gr} (h : SetOf (many k) ⟨[97], wn j, 2⟩ c x) : c = 0 ∧ x.length = k ∧ rightB x = true ∧ (∃ m ∈ x, same m ⟨[97], wn j, 0⟩) ∧ ∀ m ∈ x, m.t = [97] := by
  have hmem : gm j ∈ many k := List.mem_map.2 ⟨j, List.mem_range.2 hj, rfl⟩
  have hg : goodG (many k) ⟨[97], wn j, 2⟩ := ⟨many_right hk, gm_fine j (by omega), by show (0 : Int) ≤ 2; decide, by show (2 : Int) ≤ 3; decide⟩
  have hs : same (gm j) ⟨[97], wn j, 2⟩ := ⟨rfl, rfl⟩
  obtain rfl := set_bad_not hg h (.inr (.inl ⟨_, hmem, hs⟩))
  obtain ⟨_, hp, h64⟩ := put_of h
  refine ⟨rfl, ?_, put_right hg hp h64, ⟨⟨[97], wn j, 2⟩, (hp.mem _).2 (.inr ⟨rfl, by show (2 : Int) ≠ 0; decide⟩), rfl, rfl⟩, fun m hm => ?_⟩
  · rw [((set_len h).1 ⟨_, hmem, hs⟩).2 (by show (2 : Int) ≠ 0; decide), many_len]
  · rcases (hp.mem m).1 hm with ⟨h1, _⟩ | ⟨rfl, _⟩
    · obtain ⟨i, _, rfl⟩ := List.mem_map.1 h1
      rfl
    · rfl
theorem many_y {x : List Gr} {j : Nat} (hj : j < 64) (hx : rightB x = true) (hm : ∃ m ∈ x, same m ⟨[97], wn j, 0⟩) (ha : ∀ m ∈ x, m.t = [97]) {c : Int} {y : List Gr} (h : SetOf x ⟨[97], wn j, 0⟩ c y) : c = 0 ∧ y.length + 1 = x.length ∧ rightB y = true ∧ mayB y [97] (wn j) = 0 ∧ ∀ m ∈ y, m.t = [97] := by
  have hg : goodG x ⟨[97], wn j, 0⟩ := ⟨hx, gm_fine j (by omega), by show (0 : Int) ≤ 0; decide, by show (0 : Int) ≤ 3; decide⟩
  obtain rfl := set_bad_not hg h (.inl rfl)
  obtain ⟨_, hp, h64⟩ := put_of h
  refine ⟨rfl, ((set_len h).1 hm).1 rfl, put_right hg hp h64, (gave_of h).own, fun m hm => ?_⟩
  rcases (hp.mem m).1 hm with ⟨h1, _⟩ | ⟨rfl, _⟩
  · exact ha m h1
  · rfl
theorem many_z {y : List Gr} {j : Nat} (hlen : y.length < 64) (hy : rightB y = true) (h0 : mayB y [97] (wn j) = 0) (ha : ∀ m ∈ y, m.t = [97]) {c : Int} {z : List Gr} (h : SetOf y ⟨[99], dnew, 3⟩ c z) : c = 0 ∧ z.length = y.length + 1 ∧ rightB z = true ∧ mayB z [99] dnew = 3 ∧ mayB z [97] (wn j) = 0 := by
  have hg : goodG y ⟨[99], dnew, 3⟩ := ⟨hy, by decide, by show (0 : Int) ≤ 3; decide, by show (3 : Int) ≤ 3; decide⟩
  obtain rfl := set_bad_not hg h (.inr (.inr hlen))
  have hv := gave_of h
  refine ⟨rfl, (set_len h).2 (fun k hk hs => ?_) (by show (3 : Int) ≠ 0; decide), hv.right, hv.own, ?_⟩
  · have := ha k hk
    rw [hs.1] at this
    exact absurd this (by decide)
  · rw [hv.other [97] (wn j) (fun h => absurd h.1 (by decide)), h0]
end Go.Proofs.Ytpbdcjgconopnaa
