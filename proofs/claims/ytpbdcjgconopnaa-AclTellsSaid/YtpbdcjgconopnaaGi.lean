/-
  AclGives' walk.
-/
import Derived.Test.YtpbdcjgconopnaaSm
import Derived.Test.YtpbdcjgconopnaaCalmTail
namespace Go.Proofs.Ytpbdcjgconopnaa
open Go.RowKit Mem
set_option linter.unusedVariables false

theorem set_c {v : Value} {l : List Gr} (t u : Bs) (r : Int) (w : World) (h : Gs w v l) (hg : Goks l) (hk : Gok ⟨t, u, r⟩) : Calls Try.prog 8 #[v, .agg #[.string (sv t), .string (sv u), .int .i64 r]] w (SetPost l ⟨t, u, r⟩ w) := set_any v l ⟨t, u, r⟩ w h hg hk
theorem right_goks {l : List Gr} (h : rightB l = true) : Goks l := by
  intro g hg
  obtain ⟨hf, h1, h2⟩ := (right_parts h).2.2 g hg
  unfold fineB at hf
  rcases hq : who g.w with _ | ⟨a, b⟩
  · rw [hq] at hf; cases hf
  · rw [hq] at hf
    simp only [Bool.and_eq_true] at hf
    have hw : g.w.length ≤ 40 := by
      unfold who at hq
      rcases hc : cut 47 g.w with _ | ⟨a', b'⟩
      · rw [hc] at hq; cases hq
      · rw [hc] at hq
        simp only at hq
        split at hq
        · rename_i hab
          simp only [Bool.and_eq_true] at hab
          rcases cut_index 47 g.w with ⟨_, h⟩ | ⟨n, _, hn, h⟩
          · rw [h] at hc; cases hc
          · rw [h] at hc
            injection hc with hc
            injection hc with e1 e2
            have l1 := nm_le hab.1
            have l2 := nm_le hab.2
            rw [← e1, List.length_take] at l1
            rw [← e2, List.length_drop] at l2
            omega
        · cases hq
    have := nm_le hf.1
    exact ⟨by omega, by omega, by omega, by omega⟩

theorem look_bounds (l : List Gr) (t u : Bs) (hf : Fit l) : 0 ≤ look l t u ∧ look l t u ≤ 3 := by
  unfold look
  rcases hq : l.find? (fun x => decide (same x ⟨t, u, 0⟩)) with _ | x
  · decide
  · have := hf x (List.mem_of_find?_eq_some hq)
    show 0 ≤ x.r ∧ x.r ≤ 3
    omega
theorem may_bounds (l : List Gr) (t u : Bs) : -9223372036854775808 ≤ mayB l t u ∧ mayB l t u ≤ 9223372036854775807 := by
  unfold mayB
  rcases who u with _ | ⟨h, o⟩
  · show -9223372036854775808 ≤ (0 : Int) ∧ (0 : Int) ≤ 9223372036854775807
    decide
  · simp only
    split
    · decide
    · rename_i hn
      split
      · split <;> decide
      · have hr : rightB l = true := by
          cases hr : rightB l
          · rw [hr] at hn; simp at hn
          · rfl
        have := look_bounds l t u (right_parts hr).2.2
        omega

set_option maxRecDepth 100000 in
set_option maxHeartbeats 6400000 in
theorem gives_any (v : Value) (l : List Gr) (g : Gr) (t u : Bs) (w : World) (h : Gs w v l) (hg : Goks l) (hk : Gok g) (hu : u.length ≤ 9223372036854775807) :
    Calls Try.prog 3 #[v, gval g, .string (sv t), .string (sv u)] w (Same' true w) := by
  obtain ⟨A, cp, rfl, hlc, hcm, _⟩ := h.form
  unfold maxLen at hcm
  have hbox := Blk.new w #[.string (sv g.t), .string (sv g.w), .int .i64 g.r] 24
  have hal : Mod (fun _ => False) w (w.alloc (.cells #[.string (sv g.t), .string (sv g.w), .int .i64 g.r] 24)) := (Mod.refl _ _).alloc _
  have HG := Lib.hid (h.new hal)
  have HK := Lib.hid hg
  have Hk := Lib.hid hk
  have HB := Lib.hid hbox
  have HL := Lib.hid hal
  clear h hg hbox hal hk
  unfold gval
  go_enter Try.func3, Try.ntmps3
  go_wp2_with (fail)
  obtain ⟨q, hq⟩ : ∃ q, w.heap.size = q := ⟨_, rfl⟩
  rw [hq] at HB ⊢
  clear hq
  generalize w.alloc (.cells #[.string (sv g.t), .string (sv g.w), .int .i64 g.r] 24) = W at *
  refine (shown_any W).mono ?_
  rintro e w1 ⟨rfl, hm1⟩
  have HM1 : Hid (Mod (fun _ => False) W w1) := Lib.hid hm1
  clear hm1
  by_cases h200 : (200 : Int) < (l.length : Int)
  · have Hfin : Hid (Mod (fun _ => False) w w1) := Lib.hid (HL.out.trans HM1.out (fun _ h => h.elim))
    go_wp2
    go_ret
    exact ⟨rfl, Hfin.out⟩
  have t200 : decide ((200 : Int) < (l.length : Int)) = false := decide_eq_false h200
  have hb1 := HB.out.mod HM1.out (fun h => h)
  have c0 : w1.cell? ⟨q, 0, none⟩ = some (.string (sv g.t)) := hb1.cell 0
  have c1 : w1.cell? ⟨q, 1, none⟩ = some (.string (sv g.w)) := hb1.cell 1
  have c2 : w1.cell? ⟨q, 2, none⟩ = some (.int .i64 g.r) := hb1.cell 2
  clear hb1
  go_wp2_with (fail)
  refine (set_c g.t g.w g.r w1 (HG.out.new HM1.out) HK.out Hk.out).mono ?_
  rintro e w2 ⟨v2, c, x, rfl, hs, hG2, hm2⟩
  have HM2 : Hid (Mod (fun _ => False) W w2) := Lib.hid (HM1.out.trans hm2 (fun _ h => h.elim))
  have HG2 := Lib.hid hG2
  have HS := Lib.hid hs
  clear hm2 hG2 hs HM1 c0 c1 c2
  obtain ⟨A2, cp2, rfl, hlc2, hcm2, _⟩ := HG2.out.form
  unfold maxLen at hcm2
  by_cases hc : c = 0
  case neg =>
    have hx : x = [] := put_none HS.out hc
    subst hx
    have hc' : (c == 0) = false := by rw [beq_eq_false_iff_ne]; exact hc
    have Hfin : Hid (Mod (fun _ => False) w w2) := Lib.hid (HL.out.trans HM2.out (fun _ h => h.elim))
    go_wp2
    go_ret
    exact ⟨rfl, Hfin.out⟩
  subst hc
  have HV := Lib.hid (gave_of HS.out)
  have HK2 := Lib.hid (right_goks HV.out.right)
  have hb2 := HB.out.mod HM2.out (fun h => h)
  have HB2 := Lib.hid hb2
  have b0 : ∀ x : After w2, x.w.cell? ⟨q, 0, none⟩ = some (.string (sv g.t)) := calm_cell (hb2.cell 0)
  have b1 : ∀ x : After w2, x.w.cell? ⟨q, 1, none⟩ = some (.string (sv g.w)) := calm_cell (hb2.cell 1)
  have b2 : ∀ x : After w2, x.w.cell? ⟨q, 2, none⟩ = some (.int .i64 g.r) := calm_cell (hb2.cell 2)
  have Hr : Hid (∀ y : After w2, Calls Try.prog 9 #[.slice A2 x.length cp2] y.w fun e w' => e = .returned (.bool true) ∧ Mod (fun _ => False) y.w w') := Lib.hid (fun y => right_b y.w (HG2.out.new y.m) HK2.out HV.out.right)
  have Hm : Hid (∀ y : After w2, Calls Try.prog 10 #[.slice A2 x.length cp2, .string (sv g.t), .string (sv g.w)] y.w fun e w' => e = .returned (.int .i64 g.r) ∧ Mod (fun _ => False) y.w w') := Lib.hid (fun y => may_b g.t g.w y.w (HG2.out.new y.m) HK2.out Hk.out.2.1 HV.out.own)
  clear hb2
  go_wp2
  refine region_calm (by kernel_rfl) (by kernel_rfl) ?_
  repeat (go_big_quiet_step (first | (go_at_call 9; exact calm_call (Hr.out _)) | (go_at_call 10; exact calm_call (Hm.out _))))
  refine calm_end (fun w3 hm3 => ?_)
  have HM3 : Hid (Mod (fun _ => False) W w3) := Lib.hid (HM2.out.trans hm3 (fun _ h => h.elim))
  have HB3 := Lib.hid (HB2.out.mod hm3 (fun h => h))
  have HG3 := Lib.hid (HG2.out.new hm3)
  clear hm3 b0 b1 b2 Hr Hm HB2
  have H03 : Hid (Mod (fun _ => False) w3 w3) := Lib.hid (Mod.refl _ _)
  go_upto_region 9 with (fail)
  go_cut [75] (fun c wx => c = .bool false ∧ Hid (Mod (fun _ => False) w3 wx))
  case first =>
    have d0 : w3.cell? ⟨q, 0, none⟩ = some (.string (sv g.t)) := HB3.out.cell 0
    have d1 : w3.cell? ⟨q, 1, none⟩ = some (.string (sv g.w)) := HB3.out.cell 1
    have e1 := sv_beq t g.t
    have e2 := sv_beq u g.w
    rcases x1 : t == g.t with _ | _
    · have hne : Hid (¬ (t = g.t ∧ u = g.w)) := Lib.hid (fun h => by rw [h.1] at x1; simp at x1)
      rw [x1] at e1
      clear x1 e2
      go_wp2_with (fail)
      refine (may_b t u w3 HG3.out HK2.out hu (HV.out.other t u hne.out)).mono ?_
      rintro e w4 ⟨rfl, hm4⟩
      have HM4 : Hid (Mod (fun _ => False) w3 w4) := Lib.hid hm4
      clear hm4 d0 d1
      go_wp2_with (fail)
      refine (may_b (x := mayB l t u) t u w4 (HG.out.new (HM3.out.trans HM4.out (fun _ h => h.elim))) HK.out hu rfl).mono ?_
      rintro e w5 ⟨rfl, hm5⟩
      have HM5 : Hid (Mod (fun _ => False) w3 w5) := Lib.hid (HM4.out.trans hm5 (fun _ h => h.elim))
      clear hm5
      go_wp2
      go_meet
      case rel => exact ⟨rfl, HM5⟩
    · rcases x2 : u == g.w with _ | _
      · have hne : Hid (¬ (t = g.t ∧ u = g.w)) := Lib.hid (fun h => by rw [h.2] at x2; simp at x2)
        rw [x1] at e1
        rw [x2] at e2
        clear x1 x2
        go_wp2_with (fail)
        refine (may_b t u w3 HG3.out HK2.out hu (HV.out.other t u hne.out)).mono ?_
        rintro e w4 ⟨rfl, hm4⟩
        have HM4 : Hid (Mod (fun _ => False) w3 w4) := Lib.hid hm4
        clear hm4 d0 d1
        go_wp2_with (fail)
        refine (may_b (x := mayB l t u) t u w4 (HG.out.new (HM3.out.trans HM4.out (fun _ h => h.elim))) HK.out hu rfl).mono ?_
        rintro e w5 ⟨rfl, hm5⟩
        have HM5 : Hid (Mod (fun _ => False) w3 w5) := Lib.hid (HM4.out.trans hm5 (fun _ h => h.elim))
        clear hm5
        go_wp2
        go_meet
        case rel => exact ⟨rfl, HM5⟩
      · rw [x1] at e1
        rw [x2] at e2
        clear x1 x2
        go_wp2
        go_meet
        case rel => exact ⟨rfl, H03⟩
  case rest =>
    obtain ⟨rfl, HMc⟩ := hcut
    have HM4 : Hid (Mod (fun _ => False) W wc) := Lib.hid (HM3.out.trans HMc.out (fun _ h => h.elim))
    have HG4 := Lib.hid (HG3.out.new HMc.out)
    have hb4 := HB3.out.mod HMc.out (fun h => h)
    have d0 : wc.cell? ⟨q, 0, none⟩ = some (.string (sv g.t)) := hb4.cell 0
    have d1 : wc.cell? ⟨q, 1, none⟩ = some (.string (sv g.w)) := hb4.cell 1
    have HB4 := Lib.hid hb4
    clear hb4 HMc HM3 HG3 HB3 H03 HM2 HG2
    go_wp2_with (fail)
    refine (set_c g.t g.w 0 wc HG4.out HK2.out ⟨Hk.out.1, Hk.out.2.1, show -9223372036854775808 ≤ (0 : Int) by decide, show (0 : Int) ≤ 9223372036854775807 by decide⟩).mono ?_
    rintro e w5 ⟨v5, c5, y, rfl, hs5, hG5, hm5⟩
    have HM5 : Hid (Mod (fun _ => False) W w5) := Lib.hid (HM4.out.trans hm5 (fun _ h => h.elim))
    have hb5 := HB4.out.mod hm5 (fun h => h)
    have f0 : w5.cell? ⟨q, 0, none⟩ = some (.string (sv g.t)) := hb5.cell 0
    have f1 : w5.cell? ⟨q, 1, none⟩ = some (.string (sv g.w)) := hb5.cell 1
    have HB5 := Lib.hid hb5
    have HG5 := Lib.hid hG5
    have HX5 := Lib.hid (HG4.out.new hm5)
    have HT := Lib.hid (HV.out.taken c5 y hs5)
    obtain rfl := HT.out.1
    obtain ⟨A5, cp5, rfl, hlc5, hcm5, _⟩ := HG5.out.form
    unfold maxLen at hcm5
    clear d0 d1 hb5 hG5 hs5 hm5 HM4 HG4 HB4
    go_wp2_with (fail)
    refine (may_b (x := mayB l g.t g.w) g.t g.w w5 (HG.out.new HM5.out) HK.out Hk.out.2.1 rfl).mono ?_
    rintro e w6 ⟨rfl, hm6⟩
    have HM6 : Hid (Mod (fun _ => False) W w6) := Lib.hid (HM5.out.trans hm6 (fun _ h => h.elim))
    have HG6 := Lib.hid (HG5.out.new hm6)
    have HX6 := Lib.hid (HX5.out.new hm6)
    have HB6 := Lib.hid (HB5.out.mod hm6 (fun h => h))
    clear hm6 f0 f1 HM5 HG5 HX5 HB5
    by_cases h0 : mayB l g.t g.w = 0
    · have t0 : (mayB l g.t g.w == 0) = true := by rw [h0]; rfl
      have Hyl := Lib.hid (HT.out.2.1 h0)
      go_wp2_with (fail)
      refine (same_any _ _ y l w6 HG6.out (HG.out.new HM6.out)).mono ?_
      rintro e w7 ⟨rfl, hm7⟩
      have Hfin : Hid (Mod (fun _ => False) w w7) := Lib.hid ((HL.out.trans HM6.out (fun _ h => h.elim)).trans hm7 (fun _ h => h.elim))
      clear hm7
      have hd : decide (y = l) = true := decide_eq_true Hyl.out
      go_wp2
      go_ret
      exact ⟨rfl, Hfin.out⟩
    · have t0 : (mayB l g.t g.w == 0) = false := by rw [beq_eq_false_iff_ne]; exact h0
      have Hyl := Lib.hid (HT.out.2.2 h0)
      have b0 : ∀ x : After w6, x.w.cell? ⟨q, 0, none⟩ = some (.string (sv g.t)) := calm_cell (HB6.out.cell 0)
      have b1 : ∀ x : After w6, x.w.cell? ⟨q, 1, none⟩ = some (.string (sv g.w)) := calm_cell (HB6.out.cell 1)
      have Hback := Lib.hid (fun c z => HV.out.back c z h0)
      have Hbd : Hid (-9223372036854775808 ≤ mayB l g.t g.w ∧ mayB l g.t g.w ≤ 9223372036854775807) := Lib.hid (may_bounds l _ _)
      have Hm : Hid (∀ y : After w6, Calls Try.prog 10 #[.slice A l.length cp, .string (sv g.t), .string (sv g.w)] y.w fun e w' => e = .returned (.int .i64 (mayB l g.t g.w)) ∧ Mod (fun _ => False) y.w w') := Lib.hid (fun y => may_b g.t g.w y.w (HG.out.new (HM6.out.trans y.m (fun _ h => h.elim))) HK.out Hk.out.2.1 rfl)
      generalize mayB l g.t g.w = r at *
      go_wp2
      refine region_calm_call 12 _ rfl (by kernel_rfl) (by kernel_rfl) ?_
      simp only [List.take_succ_cons, List.take_zero]
      repeat (go_big_quiet_step (first | (go_at_call 10; exact calm_call (Hm.out _))))
      refine calm_end (fun w7 hm7 => ⟨rfl, fun K hK => ?_⟩)
      have HM7 : Hid (Mod (fun _ => False) W w7) := Lib.hid (HM6.out.trans hm7 (fun _ h => h.elim))
      have HX7 := Lib.hid (HX6.out.new hm7)
      have HKK := Lib.hid hK
      clear hm7 b0 b1 Hm hK
      go_simp
      refine (set_c g.t g.w r w7 HX7.out HK2.out ⟨Hk.out.1, Hk.out.2.1, Hbd.out.1, Hbd.out.2⟩).mono ?_
      rintro e w8 ⟨v8, c8, z, rfl, hs8, hG8, hm8⟩
      have HM8 : Hid (Mod (fun _ => False) W w8) := Lib.hid (HM7.out.trans hm8 (fun _ h => h.elim))
      have HG8 := Lib.hid hG8
      have HZ := Lib.hid (Hback.out c8 z hs8)
      obtain rfl := HZ.out.1
      clear hs8 hG8 hm8
      dsimp only
      refine HKK.out _ _ ?_
      clear HKK
      unfold Mem.Rest
      simp only [List.drop_succ_cons, List.drop_zero]
      repeat (go_big_quiet_step (fail))
      refine wpQuiet_nil ?_
      intro xx hxx
      rw [hxx]
      clear hxx
      go_wp2_with (fail)
      refine (same_any _ _ z l w8 HG8.out (HG.out.new HM8.out)).mono ?_
      rintro e w9 ⟨rfl, hm9⟩
      have Hfin : Hid (Mod (fun _ => False) w w9) := Lib.hid ((HL.out.trans HM8.out (fun _ h => h.elim)).trans hm9 (fun _ h => h.elim))
      clear hm9
      have hd : decide (z = l) = true := decide_eq_true HZ.out.2
      have hyn : (y.length : Int) = (l.length : Int) - 1 := by have := Hyl.out; omega
      go_wp2
      go_ret
      exact ⟨rfl, Hfin.out⟩
end Go.Proofs.Ytpbdcjgconopnaa
