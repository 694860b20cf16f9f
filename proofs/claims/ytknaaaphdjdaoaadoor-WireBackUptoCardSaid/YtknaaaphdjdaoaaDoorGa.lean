/-
  group, entry, between, same.
-/
import Derived.Test.YtknaaaphdjdaoaaDoorVn
namespace Go.Proofs.YtknaaaphdjdaoaaDoor
open Go.RowKit Mem
set_option linter.unusedVariables false
set_option linter.unusedSimpArgs false

def bw (n lo hi : Int) : Bool := decide (lo ≤ n) && decide (n ≤ hi)
set_option maxRecDepth 100000 in
theorem between_any (n lo hi : Int) (w : World) : Calls Tryd.prog 27 #[.int .i64 n, .int .i64 lo, .int .i64 hi] w fun e w' => e = .returned (.bool (bw n lo hi)) ∧ w' = w := by
  unfold bw
  go_enter Tryd.func27, Tryd.ntmps27
  by_cases h1 : lo ≤ n
  · go_wp2_with (fail)
    go_ret
    exact ⟨by simp [h1], rfl⟩
  · have h2 : decide (lo ≤ n) = false := by simp; omega
    go_wp2_with (fail)
    go_ret
    exact ⟨rfl, rfl⟩
/-- Rising numbers of nodes, behind p. -/
def upB : Int → List Int → Bool
  | _, [] => true
  | p, z :: r => (decide (1 ≤ z) && decide (z ≤ 5) && decide (p < z)) && upB z r
def groupB (zs : List Int) : Bool := upB 0 zs && !zs.isEmpty
theorem upB_head {p : Int} {z : Int} {r : List Int} (h1 : 1 ≤ z) (h2 : z ≤ 5) (h3 : p < z) : upB p (z :: r) = upB z r := by simp [upB, h1, h2, h3]
theorem upB_bad {p : Int} {z : Int} {r : List Int} (h : ¬ (1 ≤ z ∧ z ≤ 5 ∧ p < z)) : upB p (z :: r) = false := by
  simp only [upB]
  by_cases h1 : 1 ≤ z
  · by_cases h2 : z ≤ 5
    · have h3 : ¬ p < z := fun h3 => h ⟨h1, h2, h3⟩
      simp [h3]
    · simp [h2]
  · simp [h1]
set_option maxRecDepth 100000 in
set_option maxHeartbeats 3200000 in
theorem group_any (x : Value) (zs : List Int) (w : World) (hx : RI w x zs) :
    Calls Tryd.prog 29 #[x] w fun e w' => e = .returned (.bool (groupB zs)) ∧ w' = w := by
  obtain ⟨a, d, rfl⟩ := hx.val
  have hmx : zs.length ≤ 9223372036854775807 := by
    rcases hx with ⟨_, rfl⟩ | ⟨_, _, _, h1, h2, _⟩
    · simp
    · have := maxLen_le; omega
  have hcell := fun i hi => hx.at_ i hi
  have HC := Lib.hid hcell
  clear hx hcell
  go_enter Tryd.func29, Tryd.ntmps29
  go_wp2_with (fail)
  go_loopw [7] (fun v7 wr => ∃ (i : Nat) (p : Int), v7 = .int .i64 (i : Int) ∧ i ≤ zs.length ∧ Hid (0 < i → ∃ h : i - 1 < zs.length, zs[i - 1] = p) ∧ Hid (i = 0 → p = 0) ∧ Hid (upB 0 zs = upB p (zs.drop i)) ∧ wr = w) (fun i _ => zs.length - (iOf i).toNat)
  case atStart => exact ⟨0, 0, rfl, by omega, Lib.hid (fun h => absurd h (by omega)), Lib.hid (fun _ => rfl), Lib.hid rfl, rfl⟩
  case round =>
    obtain ⟨i, p, rfl, hi, hp, hp0, hE, rfl⟩ := hrel
    by_cases hlt : i < zs.length
    · have q1 : (i : Int) < (zs.length : Int) := by omega
      obtain ⟨b, rfl, hc⟩ := HC.out i hlt
      obtain ⟨z, hzi⟩ : ∃ z, zs[i] = z := ⟨_, rfl⟩
      have hE2 := hE.out
      rw [List.drop_eq_getElem_cons hlt, hzi] at hE2
      rw [hzi] at hc
      by_cases hz1 : z < 1
      · rw [upB_bad (by omega)] at hE2
        have HE := Lib.hid hE2
        clear hE hE2 hp hp0
        go_wp2_with (fail)
        go_ret
        exact ⟨by simp [groupB, HE.out], rfl⟩
      by_cases hz5 : 5 < z
      · rw [upB_bad (by omega)] at hE2
        have HE := Lib.hid hE2
        clear hE hE2 hp hp0
        go_wp2_with (fail)
        go_ret
        exact ⟨by simp [groupB, HE.out], rfl⟩
      by_cases hi0 : i = 0
      · obtain rfl := hp0.out hi0
        subst hi0
        rw [upB_head (by omega) (by omega) (by omega)] at hE2
        have HE := Lib.hid hE2
        have HZ := Lib.hid hzi
        rw [show b.add 0 = b by simp [Addr.add]] at hc
        clear hE hE2 hp hp0 hzi
        go_wp2_with (fail)
        refine ⟨⟨1, z, by simp, by omega, Lib.hid (fun _ => ⟨hlt, HZ.out⟩), Lib.hid (fun h => by omega), HE, trivial⟩, ?_⟩
        show zs.length - 1 < zs.length - 0
        omega
      · have hi1 : (0 : Int) < (i : Int) := by omega
        obtain ⟨hq, hpz⟩ := hp.out (by omega)
        obtain ⟨b', hb', hc'⟩ := HC.out (i - 1) hq
        injection hb' with hb'
        subst hb'
        rw [hpz] at hc'
        have hsub : ((i : Int) - 1).toNat = i - 1 := by omega
        have hsub0 : 0 ≤ (i : Int) - 1 := by omega
        have hsub1 : (i : Int) - 1 < (zs.length : Int) := by omega
        have hwr : IntKind.i64.wrap ((i : Int) - 1) = (i : Int) - 1 := by rw [IntKind.wrap_i64]; omega
        by_cases hpz2 : z ≤ p
        · rw [upB_bad (by omega)] at hE2
          have HE := Lib.hid hE2
          clear hE hE2 hp hp0 hpz hzi
          go_wp2_with (fail)
          go_ret
          exact ⟨by simp [groupB, HE.out], rfl⟩
        · rw [upB_head (by omega) (by omega) (by omega)] at hE2
          have HE := Lib.hid hE2
          have HZ := Lib.hid hzi
          clear hE hE2 hp hp0 hpz hzi
          go_wp2_with (fail)
          refine ⟨⟨i + 1, z, by simp, by omega, Lib.hid (fun _ => ⟨hlt, HZ.out⟩), Lib.hid (fun h => by omega), HE, trivial⟩, ?_⟩
          simp only [iOf]
          omega
    · have q1 : ¬ (i : Int) < (zs.length : Int) := by omega
      have hE2 := hE.out
      rw [List.drop_eq_nil_of_le (by omega)] at hE2
      have HE := Lib.hid hE2
      clear hE hE2 hp hp0 HC
      cases zs with
      | nil =>
        go_wp2_with (fail)
        go_ret
        exact ⟨rfl, rfl⟩
      | cons z r =>
        have q2 : (0 : Int) < ((z :: r).length : Int) := by simp
        go_wp2_with (fail)
        go_ret
        exact ⟨by rw [groupB, HE.out]; rfl, rfl⟩
/-- An entry. -/
structure En where
  ix : Int
  tm : Int
  kd : Int
  dt : Bs
  nd : List Int
def kindB (kd : Int) (dt : Bs) (nd : List Int) : Bool := if kd = 0 then dt.isEmpty && nd.isEmpty else if kd = 1 then nd.isEmpty else if kd = 2 then groupB nd && dt.isEmpty else false
theorem kindB0 (dt : Bs) (nd : List Int) : kindB 0 dt nd = (dt.isEmpty && nd.isEmpty) := rfl
theorem kindB1 (dt : Bs) (nd : List Int) : kindB 1 dt nd = nd.isEmpty := rfl
theorem kindB2 (dt : Bs) (nd : List Int) : kindB 2 dt nd = (groupB nd && dt.isEmpty) := rfl
theorem kindBx (kd : Int) (dt : Bs) (nd : List Int) (h0 : ¬ kd = 0) (h1 : ¬ kd = 1) (h2 : ¬ kd = 2) : kindB kd dt nd = false := by unfold kindB; rw [if_neg h0, if_neg h1, if_neg h2]
def entryB (e : En) : Bool := (decide (1 ≤ e.ix) && decide (e.ix ≤ 999999) && decide (1 ≤ e.tm) && decide (e.tm ≤ 999999) && decide (e.dt.length ≤ 8000)) && kindB e.kd e.dt e.nd
/-- An entry's value. -/
def EnV (w : World) (v : Value) (e : En) : Prop := ∃ dv nv, v = .agg #[.int .i64 e.ix, .int .i64 e.tm, .int .i64 e.kd, dv, nv] ∧ RdC w dv e.dt ∧ RI w nv e.nd
theorem isEmpty_len {α : Type} (l : List α) : l.isEmpty = decide (l.length = 0) := by cases l <;> simp
set_option maxRecDepth 100000 in
set_option maxHeartbeats 3200000 in
theorem entry_any (v : Value) (e : En) (w : World) (h : EnV w v e) :
    Calls Tryd.prog 28 #[v] w fun en w' => en = .returned (.bool (entryB e)) ∧ Mod (fun _ => False) w w' := by
  obtain ⟨ix, tm, kd, dt, nd⟩ := e
  obtain ⟨dv, nv, rfl, hd, hn⟩ := h
  obtain ⟨hd1, A, c, rfl, hdc, hdm⟩ := hd
  have hg := group_any nv nd
  have hdl : dt.length ≤ 9223372036854775807 := by have := maxLen_le; simp only at *; omega
  obtain ⟨a, d, rfl⟩ := hn.val
  have hnl : nd.length ≤ 9223372036854775807 := by
    rcases hn with ⟨_, h⟩ | ⟨_, _, _, h1, h2, _⟩
    · simp only at h; rw [h]; simp
    · simp only at h1; have := maxLen_le; omega
  simp only at *
  have HN := Lib.hid hn
  clear hd1 hn hdc hdm hg
  go_enter Tryd.func28, Tryd.ntmps28
  by_cases h1 : 1 ≤ ix ∧ ix ≤ 999999 ∧ 1 ≤ tm ∧ tm ≤ 999999 ∧ dt.length ≤ 8000
  · have hB : ∀ b : Bool, kindB kd dt nd = b → entryB ⟨ix, tm, kd, dt, nd⟩ = b := by
      intro b hb
      obtain ⟨p1, p2, p3, p4, p5⟩ := h1
      simp only [entryB, p1, p2, p3, p4, p5, hb, decide_true, Bool.true_and]
    have HB := Lib.hid hB
    obtain ⟨p1, p2, p3, p4, p5⟩ := h1
    clear hB
    by_cases k0 : kd = 0
    · subst k0
      go_wp2_with (fail)
      all_goals go_ret
      all_goals
        refine ⟨?_, (Mod.refl _ w).alloc _⟩
        rw [HB.out _ (kindB0 dt nd)]
        show Ending.returned (.bool (wrap64 ((dt.length : Int) + (nd.length : Int)) == 0)) = _
        have e : (wrap64 ((dt.length : Int) + (nd.length : Int)) == 0) = (dt.isEmpty && nd.isEmpty) := by
          rw [isEmpty_len, isEmpty_len, ← Bool.decide_and]
          have : wrap64 ((dt.length : Int) + (nd.length : Int)) = 0 ↔ dt.length = 0 ∧ nd.length = 0 := by unfold wrap64; omega
          exact decide_eq_decide.2 this
        rw [e]
    by_cases k1 : kd = 1
    · subst k1
      go_wp2_with (fail)
      all_goals go_ret
      all_goals
        refine ⟨?_, (Mod.refl _ w).alloc _⟩
        rw [HB.out _ (kindB1 dt nd)]
        show Ending.returned (.bool ((nd.length : Int) == 0)) = _
        have e : ((nd.length : Int) == 0) = nd.isEmpty := by
          rw [isEmpty_len]
          exact decide_eq_decide.2 (by omega)
        rw [e]
    by_cases k2 : kd = 2
    · subst k2
      go_wp2_with (fail)
      refine (group_any _ nd _ (HN.out.mod ((Mod.refl _ w).alloc _))).mono ?_
      rintro en w2 ⟨rfl, rfl⟩
      obtain ⟨G, hG⟩ : ∃ G, groupB nd = G := ⟨_, rfl⟩
      have hB := HB.out (G && dt.isEmpty) (by rw [kindB2, hG])
      rw [hG]
      have HB2 := Lib.hid hB
      clear hB HB hG
      cases G with
      | false =>
        go_wp2_with (fail)
        go_ret
        exact ⟨by rw [HB2.out]; rfl, (Mod.refl _ w).alloc _⟩
      | true =>
        go_wp2_with (fail)
        go_ret
        refine ⟨?_, (Mod.refl _ w).alloc _⟩
        show Ending.returned (.bool ((dt.length : Int) == 0)) = _
        have e : ((dt.length : Int) == 0) = (true && dt.isEmpty) := by
          rw [isEmpty_len, Bool.true_and]
          exact decide_eq_decide.2 (by omega)
        rw [HB2.out, e]
    · have hB := HB.out false (kindBx kd dt nd k0 k1 k2)
      go_wp2_with (fail)
      go_ret
      exact ⟨by rw [hB]; rfl, (Mod.refl _ w).alloc _⟩
  · have hB : entryB ⟨ix, tm, kd, dt, nd⟩ = false := by
      have : (decide (1 ≤ ix) && decide (ix ≤ 999999) && decide (1 ≤ tm) && decide (tm ≤ 999999) && decide (dt.length ≤ 8000)) = false := by
        rw [← Bool.decide_and, ← Bool.decide_and, ← Bool.decide_and, ← Bool.decide_and]
        exact decide_eq_false (fun h => h1 ⟨h.1.1.1.1, h.1.1.1.2, h.1.1.2, h.1.2, h.2⟩)
      simp only [entryB, this, Bool.false_and]
    rw [hB]
    clear hB
    go_wp2_with (fail)
    all_goals first
      | (exfalso; omega)
      | (go_ret
         exact ⟨rfl, (Mod.refl _ w).alloc _⟩)
end Go.Proofs.YtknaaaphdjdaoaaDoor
