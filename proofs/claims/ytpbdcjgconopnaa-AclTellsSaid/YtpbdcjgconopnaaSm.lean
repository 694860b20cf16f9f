/-
  Same, of two rows of grants.
-/
import Derived.Test.YtpbdcjgconopnaaPg
import Derived.Test.YtpbdcjgconopnaaSh
namespace Go.Proofs.Ytpbdcjgconopnaa
open Go.RowKit Mem
set_option linter.unusedVariables false
theorem fields24 : (Try.prog.fieldsOf 24).toList.map (fun f => (f.name, f.type, f.offset)) = [("Tenant", 9, 0), ("Who", 9, 1), ("Right", 3, 2)] := by kernel_rfl
theorem fields24' : ∃ f0 f1 f2 : Field, (Try.prog.fieldsOf 24).toList = [f0, f1, f2] ∧ f0.name = "Tenant" ∧ f0.type = 9 ∧ f0.offset = 0 ∧ f1.name = "Who" ∧ f1.type = 9 ∧ f1.offset = 1 ∧ f2.name = "Right" ∧ f2.type = 3 ∧ f2.offset = 2 := by
  have h := fields24
  match hq : (Try.prog.fieldsOf 24).toList with
  | [f0, f1, f2] =>
    rw [hq] at h
    simp at h
    exact ⟨f0, f1, f2, rfl, by simp [h], by simp [h], by simp [h], by simp [h], by simp [h], by simp [h], by simp [h], by simp [h], by simp [h]⟩
  | [] => rw [hq] at h; simp at h
  | [_] => rw [hq] at h; simp at h
  | [_, _] => rw [hq] at h; simp at h
  | _ :: _ :: _ :: _ :: _ => rw [hq] at h; simp at h
theorem neq_g (f g : Gr) (w : World) : (binOp .neq 24 (gval f) (gval g)).run Try.prog w = .ok (.bool (!decide (f = g))) w := by
  obtain ⟨f0, f1, f2, hf, n0, t0, o0, n1, t1, o1, n2, t2, o2⟩ := fields24'
  have i9 : ∀ w, (isAgg 9).run Try.prog w = .ok false w := fun w => by kernel_rfl
  have i3 : ∀ w, (isAgg 3).run Try.prog w = .ok false w := fun w => by kernel_rfl
  have p0 : ∀ (a b c : Value), (part 9 #[a, b, c] 0).run Try.prog w = .ok a w := fun a b c => by simp [part, i9]
  have p1 : ∀ (a b c : Value), (part 9 #[a, b, c] 1).run Try.prog w = .ok b w := fun a b c => by simp [part, i9]
  have p2 : ∀ (a b c : Value), (part 3 #[a, b, c] 2).run Try.prog w = .ok c w := fun a b c => by simp [part, i3]
  have e1 := sv_beq f.t g.t
  have e2 := sv_beq f.w g.w
  unfold gval
  rw [run_neq_struct, run_equalIn_struct w 9999 24 _ _ Try.underlying24 (by kernel_rfl), hf]
  simp only [Op.eqFields, n0, t0, o0, n1, t1, o1, n2, t2, o2]
  rw [if_pos (by decide), if_pos (by decide), if_pos (by decide)]
  simp only [Sem.run_bind, Sem.run_ite, p0, p1, p2, Result.andThen_ok, run_equalIn_string w 9998 9 _ _ Try.underlying9, run_equalIn_int w 9998 3 _ _ _ _ Try.underlying3, e1, e2, Sem.run_pure]
  have hd : decide (f = g) = (f.t == g.t && f.w == g.w && f.r == g.r) := by
    rw [Bool.eq_iff_iff]
    simp only [decide_eq_true_eq, Bool.and_eq_true, beq_iff_eq]
    constructor
    · rintro rfl; exact ⟨⟨rfl, rfl⟩, rfl⟩
    · rintro ⟨⟨a, b⟩, c⟩; cases f; cases g; simp_all
  rw [hd]
  cases f.t == g.t <;> cases f.w == g.w <;> cases f.r == g.r <;> rfl
theorem neq_b (f g : Gr) (w : World) : (binOp .neq 24 (.agg #[.string (sv f.t), .string (sv f.w), .int .i64 f.r]) (.agg #[.string (sv g.t), .string (sv g.w), .int .i64 g.r])).run Try.prog w = .ok (.bool (!decide (f = g))) w := neq_g f g w

set_option maxRecDepth 100000 in
set_option maxHeartbeats 3200000 in
theorem same_any (v1 v2 : Value) (l1 l2 : List Gr) (w : World) (h1 : Gs w v1 l1) (h2 : Gs w v2 l2) : Calls Try.prog 11 #[v1, v2] w (Same' (decide (l1 = l2)) w) := by
  obtain ⟨A1, c1, rfl, hlc1, hcm1, hA1⟩ := h1.form
  obtain ⟨A2, c2, rfl, hlc2, hcm2, hA2⟩ := h2.form
  unfold maxLen at hcm1 hcm2
  have HA1 := Lib.hid hA1
  have HA2 := Lib.hid hA2
  have HG1 := Lib.hid h1
  have HG2 := Lib.hid h2
  clear hA1 hA2 h1 h2
  have HM0 : Hid (Mod (fun _ => False) w w) := Lib.hid (Mod.refl _ _)
  by_cases hlen : l1.length = l2.length
  · have hl' : (l1.length : Int) = (l2.length : Int) := by omega
    go_enter Try.func11, Try.ntmps11
    go_wp2
    go_loopw [5] (fun i wr => ∃ k : Nat, i = .int .i64 k ∧ k ≤ l1.length ∧ Hid (∀ j, j < k → l1[j]! = l2[j]!) ∧ Hid (Mod (fun _ => False) w wr)) (fun i _ => l1.length - (intOf i).toNat)
    case atStart => exact ⟨0, rfl, by omega, Lib.hid (fun j hj => by omega), HM0⟩
    case round =>
      obtain ⟨k, rfl, hk, hall, hM⟩ := hrel
      by_cases hlt : k < l1.length
      · rcases HA1.out with h | ⟨ad1, rfl⟩
        · omega
        rcases HA2.out with h | ⟨ad2, rfl⟩
        · omega
        have hlt2 : k < l2.length := by omega
        obtain ⟨a0, a1, a2⟩ := (HG1.out.new hM.out).at_ k hlt
        obtain ⟨b0, b1, b2⟩ := (HG2.out.new hM.out).at_ k hlt2
        rw [← getElem!_pos l1 k hlt] at a0 a1 a2
        rw [← getElem!_pos l2 k hlt2] at b0 b1 b2
        have hstep : Hid (l1[k]! = l2[k]! → ∀ j, j < k + 1 → l1[j]! = l2[j]!) := Lib.hid (fun h j hj => by
          rcases Nat.lt_or_ge j k with h1 | h1
          · exact hall.out j h1
          · obtain rfl : j = k := by omega
            exact h)
        have hno : Hid (l1[k]! ≠ l2[k]! → decide (l1 = l2) = false) := Lib.hid (fun h => decide_eq_false (fun he => h (by rw [he])))
        have hneq := neq_b l1[k]! l2[k]!
        generalize l1[k]! = f at *
        generalize l2[k]! = g at *
        have e0 : ∀ x : After wr, _ := calm_cell a0
        have e1 : ∀ x : After wr, _ := calm_cell a1
        have e2 : ∀ x : After wr, _ := calm_cell a2
        have d0 : ∀ x : After wr, _ := calm_cell b0
        have d1 : ∀ x : After wr, _ := calm_cell b1
        have d2 : ∀ x : After wr, _ := calm_cell b2
        have hq1 : (k : Int) < (l1.length : Int) := by omega
        have hq2 : (k : Int) < (l2.length : Int) := by omega
        clear a0 a1 a2 b0 b1 b2
        by_cases hfg : f = g
        · have t1 : decide (f = g) = true := decide_eq_true hfg
          have hs := Lib.hid (hstep.out hfg)
          clear hstep hno hfg
          go_wp2
          refine region_calm (by kernel_rfl) (by kernel_rfl) ?_
          repeat (go_big_quiet_step (fail))
          refine calm_end (fun w9 hm9 => ?_)
          have Hfin : Hid (Mod (fun _ => False) w w9) := Lib.hid (hM.out.trans hm9 (fun _ h => h.elim))
          clear hm9 e0 e1 e2 d0 d1 d2
          go_wp2
          go_roundw
          case rel => exact ⟨k + 1, by go_num, by omega, hs, Hfin⟩
          case measure => simp [intOf]; omega
        · have t1 : decide (f = g) = false := decide_eq_false hfg
          have hs := Lib.hid (hno.out hfg)
          clear hstep hno hfg
          go_wp2
          refine region_calm (by kernel_rfl) (by kernel_rfl) ?_
          repeat (go_big_quiet_step (fail))
          refine calm_end (fun w9 hm9 => ?_)
          have Hfin : Hid (Mod (fun _ => False) w w9) := Lib.hid (hM.out.trans hm9 (fun _ h => h.elim))
          clear hm9 e0 e1 e2 d0 d1 d2
          go_wp2
          go_ret
          exact ⟨ret_bool hs.out.symm, Hfin.out⟩
      · obtain rfl : l1.length = k := by omega
        have hs : Hid (decide (l1 = l2) = true) := Lib.hid (decide_eq_true (List.ext_getElem hlen (fun j h1 h2 => by
          have := hall.out j h1
          rwa [getElem!_pos l1 j h1, getElem!_pos l2 j h2] at this)))
        clear hall
        go_wp2
        go_ret
        exact ⟨ret_bool hs.out.symm, hM.out⟩
  · have hl' : ¬ (l1.length : Int) = (l2.length : Int) := by omega
    have hs : Hid (decide (l1 = l2) = false) := Lib.hid (decide_eq_false (fun h => hlen (by rw [h])))
    clear hlen
    go_enter Try.func11, Try.ntmps11
    go_wp2
    go_ret
    exact ⟨ret_bool hs.out.symm, HM0.out⟩
end Go.Proofs.Ytpbdcjgconopnaa
