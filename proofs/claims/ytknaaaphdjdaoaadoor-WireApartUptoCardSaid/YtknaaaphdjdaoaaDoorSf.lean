/-
  The document's Same: rows of entries.
-/
import Derived.Test.YtknaaaphdjdaoaaDoorSe
namespace Go.Proofs.YtknaaaphdjdaoaaDoor
open Go.RowKit Mem
set_option linter.unusedVariables false
set_option linter.unusedSimpArgs false

def esEq : List En → List En → Bool
  | [], [] => true
  | a :: r, b :: s => enEq a b && esEq r s
  | _, _ => false
theorem esEq_iff : ∀ (a b : List En), esEq a b = true ↔ a = b
  | [], [] => by simp [esEq]
  | [], b :: s => by simp [esEq]
  | a :: r, [] => by simp [esEq]
  | a :: r, b :: s => by rw [esEq, Bool.and_eq_true, enEq_iff, esEq_iff r s, List.cons.injEq]
theorem esEq_no {a b : List En} (h : a ≠ b) : esEq a b = false := by
  cases h2 : esEq a b with
  | false => rfl
  | true => exact absurd ((esEq_iff a b).1 h2) h
theorem take_step {α : Type} {a b : List α} {i : Nat} (ha : i < a.length) (hb : i < b.length) (h : a.take i = b.take i) : (a.take (i + 1) = b.take (i + 1)) ↔ a[i] = b[i] := by
  have e1 : a.take (i + 1) = a.take i ++ [a[i]] := by rw [List.take_add_one, List.getElem?_eq_getElem ha]; rfl
  have e2 : b.take (i + 1) = b.take i ++ [b[i]] := by rw [List.take_add_one, List.getElem?_eq_getElem hb]; rfl
  rw [e1, e2, h]
  exact ⟨fun h => (List.cons.inj (List.append_cancel_left h)).1, fun h => by rw [h]⟩
theorem RE.row {w : World} {A : Option Addr} {n c : Nat} {es : List En} (h : RE w (.slice A n c) es) (j : Nat) (hj : j < es.length) : ∃ a dv nv, A = some a ∧ w.cell? (a.add (j * 5)) = some (.int .i64 es[j].ix) ∧ w.cell? ⟨(a.add (j * 5)).block, (a.add (j * 5)).off + 1, none⟩ = some (.int .i64 es[j].tm) ∧ w.cell? ⟨(a.add (j * 5)).block, (a.add (j * 5)).off + 2, none⟩ = some (.int .i64 es[j].kd) ∧ w.cell? ⟨(a.add (j * 5)).block, (a.add (j * 5)).off + 3, none⟩ = some dv ∧ w.cell? ⟨(a.add (j * 5)).block, (a.add (j * 5)).off + 4, none⟩ = some nv ∧ RdC w dv es[j].dt ∧ RI w nv es[j].nd := by
  rcases h with ⟨h, rfl⟩ | ⟨a, c', h, _, _, hc⟩
  · simp at hj
  · injection h with h1
    obtain ⟨dv, nv, r⟩ := hc j _ (List.getElem?_eq_getElem hj)
    exact ⟨a, dv, nv, h1, r⟩
set_option maxRecDepth 100000 in
set_option maxHeartbeats 3200000 in
theorem samees_any (x y : Value) (es fs : List En) (w : World) (hx : RE w x es) (hy : RE w y fs) : Calls Tryd.prog 39 #[x, y] w fun e w' => e = .returned (.bool (esEq es fs)) ∧ Mod (fun _ => False) w w' := by
  obtain ⟨a, c, rfl⟩ := hx.val
  obtain ⟨b, d, rfl⟩ := hy.val
  have HX := Lib.hid hx
  have HY := Lib.hid hy
  have hmx : es.length ≤ 9223372036854775807 := by
    rcases hx with ⟨_, rfl⟩ | ⟨_, _, _, h1, h2, _⟩
    · simp
    · have := maxLen_le; omega
  clear hx hy
  by_cases hl : es.length = fs.length
  · go_enter Tryd.func39, Tryd.ntmps39
    rw [← hl]
    have HL := Lib.hid hl
    clear hl
    go_wp2_with (fail)
    go_loopw [5] (fun v5 wr => ∃ (i : Nat), v5 = .int .i64 (i : Int) ∧ i ≤ es.length ∧ Hid (es.take i = fs.take i) ∧ Hid (Mod (fun _ => False) w wr)) (fun i _ => es.length - (iOf i).toNat)
    case atStart => exact ⟨0, rfl, by omega, Lib.hid rfl, Lib.hid (Mod.refl _ _)⟩
    case round =>
      obtain ⟨i, rfl, hi, hE, hm⟩ := hrel
      by_cases hlt : i < es.length
      · have q1 : (i : Int) < (es.length : Int) := by omega
        have hlt2 : i < fs.length := by rw [← HL.out]; exact hlt
        obtain ⟨ad, dv, nv, ha, x0, x1, x2, x3, x4, hd, hn⟩ := (HX.out.mod hm.out).row i hlt
        obtain ⟨bd, du, nu, hb, y0, y1, y2, y3, y4, hd', hn'⟩ := (HY.out.mod hm.out).row i hlt2
        subst ha hb
        have hst := take_step hlt hlt2 hE.out
        obtain ⟨e, he⟩ : ∃ e, es[i] = e := ⟨_, rfl⟩
        obtain ⟨f, hf⟩ : ∃ f, fs[i] = f := ⟨_, rfl⟩
        rw [he, hf] at hst
        rw [he] at x0 x1 x2 hd hn
        rw [hf] at y0 y1 y2 hd' hn'
        have hc : ∀ x : After wr, Calls Tryd.prog 51 #[.agg #[.int .i64 e.ix, .int .i64 e.tm, .int .i64 e.kd, dv, nv], .agg #[.int .i64 f.ix, .int .i64 f.tm, .int .i64 f.kd, du, nu]] x.w fun en w' => en = .returned (.bool (enEq e f)) ∧ Mod (fun _ => False) x.w w' := fun x => sameen_any _ _ e f x.w ⟨dv, nv, rfl, hd.mod x.m, hn.mod x.m⟩ ⟨du, nu, rfl, hd'.mod x.m, hn'.mod x.m⟩
        have Hc := Lib.hid hc
        have u0 := calm_cell x0
        have u1 := calm_cell x1
        have u2 := calm_cell x2
        have u3 := calm_cell x3
        have u4 := calm_cell x4
        have v0 := calm_cell y0
        have v1 := calm_cell y1
        have v2 := calm_cell y2
        have v3 := calm_cell y3
        have v4 := calm_cell y4
        obtain ⟨q, hq⟩ : ∃ q, enEq e f = q := ⟨_, rfl⟩
        rw [hq] at Hc
        have HS : Hid ((q = true → es.take (i + 1) = fs.take (i + 1)) ∧ (q = false → es ≠ fs)) := Lib.hid ⟨fun h => hst.2 ((enEq_iff e f).1 (by rw [hq]; exact h)), fun h h2 => by
          have := hst.1 (by rw [h2])
          rw [← enEq_iff, hq, h] at this
          cases this⟩
        clear hc hq hst he hf x0 x1 x2 x3 x4 y0 y1 y2 y3 y4 hd hn hd' hn' hE
        go_wp2_with (fail)
        refine region_calm (by kernel_rfl) (by kernel_rfl) ?_
        repeat (go_big_quiet_step (first | (go_at_call 51; exact calm_call (Hc.out _))))
        refine calm_end (fun w9 hm9 => ?_)
        have Hm9 := Lib.hid (md_then hm.out hm9)
        clear hm9 u0 u1 u2 u3 u4 v0 v1 v2 v3 v4 Hc
        cases q with
        | true =>
          go_wp2_with (fail)
          refine ⟨⟨i + 1, by simp, by omega, Lib.hid (HS.out.1 (by first | rfl | trivial)), Hm9⟩, ?_⟩
          simp only [iOf]
          omega
        | false =>
          have hz := esEq_no (HS.out.2 (by first | rfl | trivial))
          have HZ := Lib.hid hz
          clear hz HS
          go_wp2_with (fail)
          go_ret
          exact ⟨by rw [HZ.out]; rfl, Hm9.out⟩
      · have q1 : ¬ (i : Int) < (es.length : Int) := by omega
        have hz : esEq es fs = true := by
          rw [esEq_iff]
          have := hE.out
          rw [List.take_of_length_le (by omega), List.take_of_length_le (by have := HL.out; omega)] at this
          exact this
        have HZ := Lib.hid hz
        clear hz hE
        go_wp2_with (fail)
        go_ret
        exact ⟨by rw [HZ.out]; rfl, hm.out⟩
  · have hl3 : ((es.length : Int) != (fs.length : Int)) = true := by simp; omega
    have hz := esEq_no (a := es) (b := fs) (fun e => hl (by rw [e]))
    have HZ := Lib.hid hz
    clear hl hz
    go_enter Tryd.func39, Tryd.ntmps39
    go_wp2_with (fail)
    go_ret
    exact ⟨by rw [HZ.out]; rfl, Mod.refl _ _⟩
end Go.Proofs.YtknaaaphdjdaoaaDoor
