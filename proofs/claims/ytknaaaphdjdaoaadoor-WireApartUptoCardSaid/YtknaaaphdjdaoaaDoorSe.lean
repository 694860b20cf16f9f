/-
  The document's Same: nodes, entries.
-/
import Derived.Test.YtknaaaphdjdaoaaDoorRs
import Derived.Test.YtknaaaphdjdaoaaDoorCalm
namespace Go.Proofs.YtknaaaphdjdaoaaDoor
open Go.RowKit Mem
set_option linter.unusedVariables false
set_option linter.unusedSimpArgs false

theorem take_eq_step {α : Type} [DecidableEq α] {a b : List α} {i : Nat} (ha : i < a.length) (hb : i < b.length) (h : a.take i = b.take i) : (a.take (i + 1) = b.take (i + 1)) ↔ a[i] = b[i] := by
  have e1 : a.take (i + 1) = a.take i ++ [a[i]] := by rw [List.take_add_one, List.getElem?_eq_getElem ha]; rfl
  have e2 : b.take (i + 1) = b.take i ++ [b[i]] := by rw [List.take_add_one, List.getElem?_eq_getElem hb]; rfl
  rw [e1, e2, h]
  exact ⟨fun h => (List.cons.inj (List.append_cancel_left h)).1, fun h => by rw [h]⟩
set_option maxRecDepth 100000 in
set_option maxHeartbeats 1600000 in
theorem samen_any (x y : Value) (zs ys : List Int) (w : World) (hx : RI w x zs) (hy : RI w y ys) : Calls Tryd.prog 52 #[x, y] w fun e w' => e = .returned (.bool (decide (zs = ys))) ∧ ∃ q, w' = w.drewN q := by
  obtain ⟨a, c, rfl⟩ := hx.val
  obtain ⟨b, d, rfl⟩ := hy.val
  have HX := Lib.hid hx
  have HY := Lib.hid hy
  have hmx : zs.length ≤ 9223372036854775807 := by
    rcases hx with ⟨_, rfl⟩ | ⟨_, _, _, h1, h2, _⟩
    · simp
    · have := maxLen_le; omega
  clear hx hy
  by_cases hl : zs.length = ys.length
  · have hl2 : (zs.length : Int) = (ys.length : Int) := by omega
    go_enter Tryd.func52, Tryd.ntmps52
    rw [← hl]
    have HL := Lib.hid hl
    clear hl hl2
    go_wp2_with (fail)
    go_loopw [5] (fun v5 wr => ∃ (i : Nat) (q : Nat), v5 = .int .i64 (i : Int) ∧ i ≤ zs.length ∧ Hid (zs.take i = ys.take i) ∧ wr = w.drewN q) (fun i _ => zs.length - (iOf i).toNat)
    case atStart => exact ⟨0, 0, rfl, by omega, Lib.hid rfl, rfl⟩
    case round =>
      obtain ⟨i, q, rfl, hi, hE, rfl⟩ := hrel
      by_cases hlt : i < zs.length
      · have q1 : (i : Int) < (zs.length : Int) := by omega
        obtain ⟨a', ha, e1⟩ := HX.out.at_ i hlt
        obtain ⟨b', hb, e2⟩ := HY.out.at_ i (by rw [← HL.out]; exact hlt)
        subst ha hb
        have hst := take_eq_step hlt (by rw [← HL.out]; exact hlt) hE.out
        obtain ⟨z, hz⟩ : ∃ z, zs[i] = z := ⟨_, rfl⟩
        obtain ⟨y, hy⟩ : ∃ y, ys[i]'(by rw [← HL.out]; exact hlt) = y := ⟨_, rfl⟩
        rw [hz, hy] at hst
        rw [hz] at e1
        rw [hy] at e2
        clear hz hy
        by_cases hzy : z = y
        · subst hzy
          have HE := Lib.hid (hst.2 rfl)
          clear hst hE
          go_wp2_with (fail)
          go_region
          go_wp2_with (fail)
          all_goals first
            | (exfalso; omega)
            | (refine ⟨⟨i + 1, _, by simp, by omega, HE, rfl⟩, ?_⟩
               simp only [iOf]
               omega)
        · have hne : (z != y) = true := by simpa using hzy
          have hd : zs ≠ ys := fun e => hzy (hst.1 (by rw [e]))
          have HD := Lib.hid hd
          clear hst hE hd hzy
          go_wp2_with (fail)
          go_region
          go_wp2_with (fail)
          all_goals first
            | (exfalso; omega)
            | (go_ret
               exact ⟨by rw [decide_eq_false HD.out]; rfl, _, rfl⟩)
      · have q1 : ¬ (i : Int) < (zs.length : Int) := by omega
        have hd : zs = ys := by
          have := hE.out
          rw [List.take_of_length_le (by omega), List.take_of_length_le (by have := HL.out; omega)] at this
          exact this
        have HD := Lib.hid hd
        clear hd hE
        go_wp2_with (fail)
        go_ret
        exact ⟨by rw [decide_eq_true HD.out]; rfl, _, rfl⟩
  · have hl2 : ¬ (zs.length : Int) = (ys.length : Int) := by omega
    have hl3 : ((zs.length : Int) != (ys.length : Int)) = true := by simp; omega
    have HD := Lib.hid (fun e : zs = ys => hl (by rw [e]))
    clear hl
    go_enter Tryd.func52, Tryd.ntmps52
    go_wp2_with (fail)
    go_ret
    exact ⟨by rw [decide_eq_false HD.out]; rfl, 0, rfl⟩
/-- Are two entries the same? -/
def enEq (a b : En) : Bool := (a.ix == b.ix) && (a.tm == b.tm) && (a.kd == b.kd) && decide (a.dt = b.dt) && decide (a.nd = b.nd)
theorem enEq_iff (a b : En) : enEq a b = true ↔ a = b := by
  obtain ⟨a1, a2, a3, a4, a5⟩ := a
  obtain ⟨b1, b2, b3, b4, b5⟩ := b
  simp [enEq, and_assoc]
set_option maxRecDepth 100000 in
set_option maxHeartbeats 3200000 in
theorem sameen_any (u v : Value) (a b : En) (w : World) (hu : EnV w u a) (hv : EnV w v b) : Calls Tryd.prog 51 #[u, v] w fun e w' => e = .returned (.bool (enEq a b)) ∧ Mod (fun _ => False) w w' := by
  obtain ⟨a1, a2, a3, a4, a5⟩ := a
  obtain ⟨b1, b2, b3, b4, b5⟩ := b
  obtain ⟨du, nu, rfl, hdu, hnu⟩ := hu
  obtain ⟨dv, nv, rfl, hdv, hnv⟩ := hv
  simp only at *
  obtain ⟨_, p1, p3, rfl, _⟩ := id hdu
  obtain ⟨_, p2, p4, rfl, _⟩ := id hdv
  obtain ⟨r1, r3, rfl⟩ := hnu.val
  obtain ⟨r2, r4, rfl⟩ := hnv.val
  have hm : Mod (fun _ => False) w ((w.alloc (Obj.cells #[.int .i64 a1, .int .i64 a2, .int .i64 a3, .slice p1 a4.length p3, .slice r1 a5.length r3] 45)).alloc (Obj.cells #[.int .i64 b1, .int .i64 b2, .int .i64 b3, .slice p2 b4.length p4, .slice r2 b5.length r4] 45)) := ((Mod.refl _ w).alloc _).alloc _
  have hs := samen_any _ _ a5 b5 _ (hnu.mod hm) (hnv.mod hm)
  have HX : Hid (∀ w', Mod (fun _ => False) w w' → (convert 24 9 (.slice p1 a4.length p3)).run Tryd.prog w' = .ok (.string (sv a4)) w' ∧ (convert 24 9 (.slice p2 b4.length p4)).run Tryd.prog w' = .ok (.string (sv b4)) w') := Lib.hid (fun w' h => ⟨(hdu.mod h).1.text, (hdv.mod h).1.text⟩)
  have HM := Lib.hid hm
  have t1 : (sv a4).toList = a4 := sv_toList a4
  have t2 : (sv b4).toList = b4 := sv_toList b4
  obtain ⟨x1, h1⟩ : ∃ x, (a1 == b1) = x := ⟨_, rfl⟩
  obtain ⟨x2, h2⟩ : ∃ x, (a2 == b2) = x := ⟨_, rfl⟩
  obtain ⟨x3, h3⟩ : ∃ x, (a3 == b3) = x := ⟨_, rfl⟩
  obtain ⟨x4, h4⟩ : ∃ x, (a4 == b4) = x := ⟨_, rfl⟩
  obtain ⟨x5, h5⟩ : ∃ x, decide (a5 = b5) = x := ⟨_, rfl⟩
  have hd4 : decide (a4 = b4) = x4 := by rw [← h4, Bool.eq_iff_iff]; simp
  have he : enEq ⟨a1, a2, a3, a4, a5⟩ ⟨b1, b2, b3, b4, b5⟩ = (x1 && x2 && x3 && x4 && x5) := by simp only [enEq, h1, h2, h3, hd4, h5]
  rw [he]
  rw [h5] at hs
  clear he h5 hd4 hm hdu hnu hdv hnv
  go_enter Tryd.func51, Tryd.ntmps51
  go_wp2_with (fail)
  refine hs.mono ?_
  rintro e w2 ⟨rfl, q, rfl⟩
  have HM2 := Lib.hid (HM.out.drewN q)
  obtain ⟨y1, y2⟩ := HX.out _ HM2.out
  clear hs
  go_wp2_with (fail)
  all_goals
    go_ret
    refine ⟨?_, HM2.out⟩
    show Ending.returned (Value.bool _) = Ending.returned (Value.bool _)
    congr 2
    clear HM HM2 HX y1 y2
    simp_all
end Go.Proofs.YtknaaaphdjdaoaaDoor
