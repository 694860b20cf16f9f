/-
  The document's Same: nodes, entries.
  The document's Same: rows of entries.
-/
import Derived.Test.YtknaaaphdjdaoaaDoorRs
import Derived.Test.YtknaaaphdjdaoaaDoorCalm
section
namespace Go.Proofs.YtknaaaphdjdaoaaDoor
open Go.RowKit Mem
set_option linter.unusedVariables false
set_option linter.unusedSimpArgs false

theorem take_eq_step {α : Type} [DecidableEq α] {a b : List α} {i : Nat} (ha : i < a.length) (hb : i < b.length) (h : a.take i = b.take i) : (a.take (i + 1) = b.take (i + 1)) ↔ a[i] = b[i] := by
  have e1 : a.take (i + 1) = a.take i ++ [a[i]] := by rw [List.take_add_one, List.getElem?_eq_getElem ha]; rfl
  have e2 : b.take (i + 1) = b.take i ++ [b[i]] := by rw [List.take_add_one, List.getElem?_eq_getElem hb]; rfl
  rw [e1, e2, h]
  exact ⟨fun h => (List.cons.inj (List.append_cancel_left h)).1, fun h => by rw [h]⟩
set_option maxRecDepth 100000 in
set_option maxHeartbeats 1600000 in
theorem samen_any (x y : Value) (zs ys : List Int) (w : World) (hx : RI w x zs) (hy : RI w y ys) : Calls Tryd.prog 52 #[x, y] w fun e w' => e = .returned (.bool (decide (zs = ys))) ∧ ∃ q, w' = w.drewN q := by
  obtain ⟨a, c, rfl⟩ := hx.val
  obtain ⟨b, d, rfl⟩ := hy.val
  have HX := Lib.hid hx
  have HY := Lib.hid hy
  have hmx : zs.length ≤ 9223372036854775807 := by
    rcases hx with ⟨_, rfl⟩ | ⟨_, _, _, h1, h2, _⟩
    · simp
    · have := maxLen_le; omega
  clear hx hy
  by_cases hl : zs.length = ys.length
  · have hl2 : (zs.length : Int) = (ys.length : Int) := by omega
    go_enter Tryd.func52, Tryd.ntmps52
    rw [← hl]
    have HL := Lib.hid hl
    clear hl hl2
    go_wp2_with (fail)
    go_loopw [5] (fun v5 wr => ∃ (i : Nat) (q : Nat), v5 = .int .i64 (i : Int) ∧ i ≤ zs.length ∧ Hid (zs.take i = ys.take i) ∧ wr = w.drewN q) (fun i _ => zs.length - (iOf i).toNat)
    case atStart => exact ⟨0, 0, rfl, by omega, Lib.hid rfl, rfl⟩
    case round =>
      obtain ⟨i, q, rfl, hi, hE, rfl⟩ := hrel
      by_cases hlt : i < zs.length
      · have q1 : (i : Int) < (zs.length : Int) := by omega
        obtain ⟨a', ha, e1⟩ := HX.out.at_ i hlt
        obtain ⟨b', hb, e2⟩ := HY.out.at_ i (by rw [← HL.out]; exact hlt)
        subst ha hb
        have hst := take_eq_step hlt (by rw [← HL.out]; exact hlt) hE.out
        obtain ⟨z, hz⟩ : ∃ z, zs[i] = z := ⟨_, rfl⟩
        obtain ⟨y, hy⟩ : ∃ y, ys[i]'(by rw [← HL.out]; exact hlt) = y := ⟨_, rfl⟩
        rw [hz, hy] at hst
        rw [hz] at e1
        rw [hy] at e2
        clear hz hy
        by_cases hzy : z = y
        · subst hzy
          have HE := Lib.hid (hst.2 rfl)
          clear hst hE
          go_wp2_with (fail)
          go_region
          go_wp2_with (fail)
          all_goals first
            | (exfalso; omega)
            | (refine ⟨⟨i + 1, _, by simp, by omega, HE, rfl⟩, ?_⟩
               simp only [iOf]
               omega)
        · have hne : (z != y) = true := by simpa using hzy
          have hd : zs ≠ ys := fun e => hzy (hst.1 (by rw [e]))
          have HD := Lib.hid hd
          clear hst hE hd hzy
          go_wp2_with (fail)
          go_region
          go_wp2_with (fail)
          all_goals first
            | (exfalso; omega)
            | (go_ret
               exact ⟨by rw [decide_eq_false HD.out]; rfl, _, rfl⟩)
      · have q1 : ¬ (i : Int) < (zs.length : Int) := by omega
        have hd : zs = ys := by
          have := hE.out
          rw [List.take_of_length_le (by omega), List.take_of_length_le (by have := HL.out; omega)] at this
          exact this
        have HD := Lib.hid hd
        clear hd hE
        go_wp2_with (fail)
        go_ret
        exact ⟨by rw [decide_eq_true HD.out]; rfl, _, rfl⟩
  · have hl2 : ¬ (zs.length : Int) = (ys.length : Int) := by omega
    have hl3 : ((zs.length : Int) != (ys.length : Int)) = true := by simp; omega
    have HD := Lib.hid (fun e : zs = ys => hl (by rw [e]))
    clear hl
    go_enter Tryd.func52, Tryd.ntmps52
    go_wp2_with (fail)
    go_ret
    exact ⟨by rw [decide_eq_false HD.out]; rfl, 0, rfl⟩
/-- Are two entries the same? -/
def enEq (a b : En) : Bool := (a.ix == b.ix) && (a.tm == b.tm) && (a.kd == b.kd) && decide (a.dt = b.dt) && decide (a.nd = b.nd)
theorem enEq_iff (a b : En) : enEq a b = true ↔ a = b := by
  obtain ⟨a1, a2, a3, a4, a5⟩ := a
  obtain ⟨b1, b2, b3, b4, b5⟩ := b
  simp [enEq, and_assoc]
set_option maxRecDepth 100000 in
set_option maxHeartbeats 3200000 in
theorem sameen_any (u v : Value) (a b : En) (w : World) (hu : EnV w u a) (hv : EnV w v b) : Calls Tryd.prog 51 #[u, v] w fun e w' => e = .returned (.bool (enEq a b)) ∧ Mod (fun _ => False) w w' := by
  obtain ⟨a1, a2, a3, a4, a5⟩ := a
  obtain ⟨b1, b2, b3, b4, b5⟩ := b
  obtain ⟨du, nu, rfl, hdu, hnu⟩ := hu
  obtain ⟨dv, nv, rfl, hdv, hnv⟩ := hv
  simp only at *
  obtain ⟨_, p1, p3, rfl, _⟩ := id hdu
  obtain ⟨_, p2, p4, rfl, _⟩ := id hdv
  obtain ⟨r1, r3, rfl⟩ := hnu.val
  obtain ⟨r2, r4, rfl⟩ := hnv.val
  have hm : Mod (fun _ => False) w ((w.alloc (Obj.cells #[.int .i64 a1, .int .i64 a2, .int .i64 a3, .slice p1 a4.length p3, .slice r1 a5.length r3] 45)).alloc (Obj.cells #[.int .i64 b1, .int .i64 b2, .int .i64 b3, .slice p2 b4.length p4, .slice r2 b5.length r4] 45)) := ((Mod.refl _ w).alloc _).alloc _
  have hs := samen_any _ _ a5 b5 _ (hnu.mod hm) (hnv.mod hm)
  have HX : Hid (∀ w', Mod (fun _ => False) w w' → (convert 24 9 (.slice p1 a4.length p3)).run Tryd.prog w' = .ok (.string (sv a4)) w' ∧ (convert 24 9 (.slice p2 b4.length p4)).run Tryd.prog w' = .ok (.string (sv b4)) w') := Lib.hid (fun w' h => ⟨(hdu.mod h).1.text, (hdv.mod h).1.text⟩)
  have HM := Lib.hid hm
  have t1 : (sv a4).toList = a4 := sv_toList a4
  have t2 : (sv b4).toList = b4 := sv_toList b4
  obtain ⟨x1, h1⟩ : ∃ x, (a1 == b1) = x := ⟨_, rfl⟩
  obtain ⟨x2, h2⟩ : ∃ x, (a2 == b2) = x := ⟨_, rfl⟩
  obtain ⟨x3, h3⟩ : ∃ x, (a3 == b3) = x := ⟨_, rfl⟩
  obtain ⟨x4, h4⟩ : ∃ x, (a4 == b4) = x := ⟨_, rfl⟩
  obtain ⟨x5, h5⟩ : ∃ x, decide (a5 = b5) = x := ⟨_, rfl⟩
  have hd4 : decide (a4 = b4) = x4 := by rw [← h4, Bool.eq_iff_iff]; simp
  have he : enEq ⟨a1, a2, a3, a4, a5⟩ ⟨b1, b2, b3, b4, b5⟩ = (x1 && x2 && x3 && x4 && x5) := by simp only [enEq, h1, h2, h3, hd4, h5]
  rw [he]
  rw [h5] at hs
  clear he h5 hd4 hm hdu hnu hdv hnv
  go_enter Tryd.func51, Tryd.ntmps51
  go_wp2_with (fail)
  refine hs.mono ?_
  rintro e w2 ⟨rfl, q, rfl⟩
  have HM2 := Lib.hid (HM.out.drewN q)
  obtain ⟨y1, y2⟩ := HX.out _ HM2.out
  clear hs
  go_wp2_with (fail)
  all_goals
    go_ret
    refine ⟨?_, HM2.out⟩
    show Ending.returned (Value.bool _) = Ending.returned (Value.bool _)
    congr 2
    clear HM HM2 HX y1 y2
    simp_all
end Go.Proofs.YtknaaaphdjdaoaaDoor
end
section
namespace Go.Proofs.YtknaaaphdjdaoaaDoor
open Go.RowKit Mem
set_option linter.unusedVariables false
set_option linter.unusedSimpArgs false

def esEq : List En → List En → Bool
  | [], [] => true
  | a :: r, b :: s => enEq a b && esEq r s
  | _, _ => false
theorem esEq_iff : ∀ (a b : List En), esEq a b = true ↔ a = b
  | [], [] => by simp [esEq]
  | [], b :: s => by simp [esEq]
  | a :: r, [] => by simp [esEq]
  | a :: r, b :: s => by rw [esEq, Bool.and_eq_true, enEq_iff, esEq_iff r s, List.cons.injEq]
theorem esEq_no {a b : List En} (h : a ≠ b) : esEq a b = false := by
  cases h2 : esEq a b with
  | false => rfl
  | true => exact absurd ((esEq_iff a b).1 h2) h
theorem take_step {α : Type} {a b : List α} {i : Nat} (ha : i < a.length) (hb : i < b.length) (h : a.take i = b.take i) : (a.take (i + 1) = b.take (i + 1)) ↔ a[i] = b[i] := by
  have e1 : a.take (i + 1) = a.take i ++ [a[i]] := by rw [List.take_add_one, List.getElem?_eq_getElem ha]; rfl
  have e2 : b.take (i + 1) = b.take i ++ [b[i]] := by rw [List.take_add_one, List.getElem?_eq_getElem hb]; rfl
  rw [e1, e2, h]
  exact ⟨fun h => (List.cons.inj (List.append_cancel_left h)).1, fun h => by rw [h]⟩
theorem RE.row {w : World} {A : Option Addr} {n c : Nat} {es : List En} (h : RE w (.slice A n c) es) (j : Nat) (hj : j < es.length) : ∃ a dv nv, A = some a ∧ w.cell? (a.add (j * 5)) = some (.int .i64 es[j].ix) ∧ w.cell? ⟨(a.add (j * 5)).block, (a.add (j * 5)).off + 1, none⟩ = some (.int .i64 es[j].tm) ∧ w.cell? ⟨(a.add (j * 5)).block, (a.add (j * 5)).off + 2, none⟩ = some (.int .i64 es[j].kd) ∧ w.cell? ⟨(a.add (j * 5)).block, (a.add (j * 5)).off + 3, none⟩ = some dv ∧ w.cell? ⟨(a.add (j * 5)).block, (a.add (j * 5)).off + 4, none⟩ = some nv ∧ RdC w dv es[j].dt ∧ RI w nv es[j].nd := by
  rcases h with ⟨h, rfl⟩ | ⟨a, c', h, _, _, hc⟩
  · simp at hj
  · injection h with h1
    obtain ⟨dv, nv, r⟩ := hc j _ (List.getElem?_eq_getElem hj)
    exact ⟨a, dv, nv, h1, r⟩
set_option maxRecDepth 100000 in
set_option maxHeartbeats 3200000 in
theorem samees_any (x y : Value) (es fs : List En) (w : World) (hx : RE w x es) (hy : RE w y fs) : Calls Tryd.prog 39 #[x, y] w fun e w' => e = .returned (.bool (esEq es fs)) ∧ Mod (fun _ => False) w w' := by
  obtain ⟨a, c, rfl⟩ := hx.val
  obtain ⟨b, d, rfl⟩ := hy.val
  have HX := Lib.hid hx
  have HY := Lib.hid hy
  have hmx : es.length ≤ 9223372036854775807 := by
    rcases hx with ⟨_, rfl⟩ | ⟨_, _, _, h1, h2, _⟩
    · simp
    · have := maxLen_le; omega
  clear hx hy
  by_cases hl : es.length = fs.length
  · go_enter Tryd.func39, Tryd.ntmps39
    rw [← hl]
    have HL := Lib.hid hl
    clear hl
    go_wp2_with (fail)
    go_loopw [5] (fun v5 wr => ∃ (i : Nat), v5 = .int .i64 (i : Int) ∧ i ≤ es.length ∧ Hid (es.take i = fs.take i) ∧ Hid (Mod (fun _ => False) w wr)) (fun i _ => es.length - (iOf i).toNat)
    case atStart => exact ⟨0, rfl, by omega, Lib.hid rfl, Lib.hid (Mod.refl _ _)⟩
    case round =>
      obtain ⟨i, rfl, hi, hE, hm⟩ := hrel
      by_cases hlt : i < es.length
      · have q1 : (i : Int) < (es.length : Int) := by omega
        have hlt2 : i < fs.length := by rw [← HL.out]; exact hlt
        obtain ⟨ad, dv, nv, ha, x0, x1, x2, x3, x4, hd, hn⟩ := (HX.out.mod hm.out).row i hlt
        obtain ⟨bd, du, nu, hb, y0, y1, y2, y3, y4, hd', hn'⟩ := (HY.out.mod hm.out).row i hlt2
        subst ha hb
        have hst := take_step hlt hlt2 hE.out
        obtain ⟨e, he⟩ : ∃ e, es[i] = e := ⟨_, rfl⟩
        obtain ⟨f, hf⟩ : ∃ f, fs[i] = f := ⟨_, rfl⟩
        rw [he, hf] at hst
        rw [he] at x0 x1 x2 hd hn
        rw [hf] at y0 y1 y2 hd' hn'
        have hc : ∀ x : After wr, Calls Tryd.prog 51 #[.agg #[.int .i64 e.ix, .int .i64 e.tm, .int .i64 e.kd, dv, nv], .agg #[.int .i64 f.ix, .int .i64 f.tm, .int .i64 f.kd, du, nu]] x.w fun en w' => en = .returned (.bool (enEq e f)) ∧ Mod (fun _ => False) x.w w' := fun x => sameen_any _ _ e f x.w ⟨dv, nv, rfl, hd.mod x.m, hn.mod x.m⟩ ⟨du, nu, rfl, hd'.mod x.m, hn'.mod x.m⟩
        have Hc := Lib.hid hc
        have u0 := calm_cell x0
        have u1 := calm_cell x1
        have u2 := calm_cell x2
        have u3 := calm_cell x3
        have u4 := calm_cell x4
        have v0 := calm_cell y0
        have v1 := calm_cell y1
        have v2 := calm_cell y2
        have v3 := calm_cell y3
        have v4 := calm_cell y4
        obtain ⟨q, hq⟩ : ∃ q, enEq e f = q := ⟨_, rfl⟩
        rw [hq] at Hc
        have HS : Hid ((q = true → es.take (i + 1) = fs.take (i + 1)) ∧ (q = false → es ≠ fs)) := Lib.hid ⟨fun h => hst.2 ((enEq_iff e f).1 (by rw [hq]; exact h)), fun h h2 => by
          have := hst.1 (by rw [h2])
          rw [← enEq_iff, hq, h] at this
          cases this⟩
        clear hc hq hst he hf x0 x1 x2 x3 x4 y0 y1 y2 y3 y4 hd hn hd' hn' hE
        go_wp2_with (fail)
        refine region_calm (by kernel_rfl) (by kernel_rfl) ?_
        repeat (go_big_quiet_step (first | (go_at_call 51; exact calm_call (Hc.out _))))
        refine calm_end (fun w9 hm9 => ?_)
        have Hm9 := Lib.hid (md_then hm.out hm9)
        clear hm9 u0 u1 u2 u3 u4 v0 v1 v2 v3 v4 Hc
        cases q with
        | true =>
          go_wp2_with (fail)
          refine ⟨⟨i + 1, by simp, by omega, Lib.hid (HS.out.1 (by first | rfl | trivial)), Hm9⟩, ?_⟩
          simp only [iOf]
          omega
        | false =>
          have hz := esEq_no (HS.out.2 (by first | rfl | trivial))
          have HZ := Lib.hid hz
          clear hz HS
          go_wp2_with (fail)
          go_ret
          exact ⟨by rw [HZ.out]; rfl, Hm9.out⟩
      · have q1 : ¬ (i : Int) < (es.length : Int) := by omega
        have hz : esEq es fs = true := by
          rw [esEq_iff]
          have := hE.out
          rw [List.take_of_length_le (by omega), List.take_of_length_le (by have := HL.out; omega)] at this
          exact this
        have HZ := Lib.hid hz
        clear hz hE
        go_wp2_with (fail)
        go_ret
        exact ⟨by rw [HZ.out]; rfl, hm.out⟩
  · have hl3 : ((es.length : Int) != (fs.length : Int)) = true := by simp; omega
    have hz := esEq_no (a := es) (b := fs) (fun e => hl (by rw [e]))
    have HZ := Lib.hid hz
    clear hl hz
    go_enter Tryd.func39, Tryd.ntmps39
    go_wp2_with (fail)
    go_ret
    exact ⟨by rw [HZ.out]; rfl, Mod.refl _ _⟩
end Go.Proofs.YtknaaaphdjdaoaaDoor
end
