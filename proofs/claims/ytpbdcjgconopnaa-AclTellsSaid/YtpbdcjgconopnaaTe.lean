/-
  AclTells' walk.
-/
import Derived.Test.YtpbdcjgconopnaaTb
namespace Go.Proofs.Ytpbdcjgconopnaa
open Go.RowKit Mem
set_option linter.unusedVariables false

theorem whoV_form (u : Bs) : ∃ a b ok, whoV u = .tuple #[.string (sv a), .string (sv b), .bool ok] := by
  unfold whoV
  rcases who u with _ | ⟨a, b⟩
  · exact ⟨[], [], false, rfl⟩
  · exact ⟨a, b, true, rfl⟩

set_option maxRecDepth 100000 in
set_option maxHeartbeats 6400000 in
theorem tells_any (v va : Value) (l : List Gr) (ss : List Bs) (t u : Bs) (w : World) (h : Gs w v l) (hg : Goks l) (ha : Sr w va ss) (hb : ∀ s ∈ ss, s.length ≤ 9223372036854775807) (ht : t.length ≤ 9223372036854775807) (hu : u.length ≤ 9223372036854775807) :
    Calls Try.prog 6 #[v, va, .string (sv t), .string (sv u)] w (Same' true w) := by
  obtain ⟨A, c, rfl, hlc, hcm, _⟩ := h.form
  obtain ⟨A2, c2, rfl, hlc2, hcm2, _⟩ := ha.form
  unfold maxLen at hcm hcm2
  have HG := Lib.hid h
  have HK := Lib.hid hg
  have HR := Lib.hid ha
  have HB := Lib.hid hb
  clear h hg ha hb
  obtain ⟨a, b, ok, hv⟩ := whoV_form u
  have HW := Lib.hid hv
  clear hv
  go_enter Try.func6, Try.ntmps6
  go_wp2_with (fail)
  refine (shown_any w).mono ?_
  rintro e w1 ⟨rfl, hm1⟩
  have HM1 := Lib.hid hm1
  clear hm1
  by_cases h200 : (200 : Int) < (l.length : Int)
  · have t200 : decide ((200 : Int) < (l.length : Int)) = true := decide_eq_true h200
    go_wp2
    go_ret
    exact ⟨rfl, HM1.out⟩
  by_cases h100 : (100 : Int) < (ss.length : Int)
  · have t200 : decide ((200 : Int) < (l.length : Int)) = false := decide_eq_false h200
    have t100 : decide ((100 : Int) < (ss.length : Int)) = true := decide_eq_true h100
    go_wp2
    go_ret
    exact ⟨rfl, HM1.out⟩
  have t200 : decide ((200 : Int) < (l.length : Int)) = false := decide_eq_false h200
  have t100 : decide ((100 : Int) < (ss.length : Int)) = false := decide_eq_false h100
  have hss : ss.length ≤ 1000 := by omega
  go_wp2_with (fail)
  refine (who_b hu HW.out w1).mono ?_
  rintro e w2 ⟨rfl, hm2⟩
  have HM2 : Hid (Mod (fun _ => False) w w2) := Lib.hid (HM1.out.trans hm2 (fun _ h => h.elim))
  clear hm2 HM1
  go_wp2_with (fail)
  refine (rwho_b hu HW.out w2).mono ?_
  rintro e w3 ⟨rfl, hm3⟩
  have HM3 : Hid (Mod (fun _ => False) w w3) := Lib.hid (HM2.out.trans hm3 (fun _ h => h.elim))
  clear hm3 HM2
  go_wp2_with (fail)
  refine (ten_any _ _ l ss u w3 (HG.out.new HM3.out) HK.out (HR.out.new HM3.out) hss HB.out hu).mono ?_
  rintro e w4 ⟨v4, rfl, ho4, hm4⟩
  have HM4 : Hid (Mod (fun _ => False) w w4) := Lib.hid (HM3.out.trans hm4 (fun _ h => h.elim))
  have HO4 := Lib.hid (own_sr ho4)
  clear hm4 ho4 HM3
  go_wp2_with (fail)
  refine (rten_any _ _ l ss u w4 (HG.out.new HM4.out) HK.out (HR.out.new HM4.out) hss HB.out hu).mono ?_
  rintro e w5 ⟨v5, rfl, ho5, hm5⟩
  have HM5 : Hid (Mod (fun _ => False) w w5) := Lib.hid (HM4.out.trans hm5 (fun _ h => h.elim))
  have HO5 := Lib.hid (HO4.out.new hm5)
  have HP5 := Lib.hid (own_sr ho5)
  clear hm5 ho5 HM4 HO4
  go_wp2_with (fail)
  refine (texts_any _ _ (tl l u ss) (tl l u ss) w5 HO5.out HP5.out).mono ?_
  rintro e w6 ⟨rfl, hm6⟩
  have HM6 : Hid (Mod (fun _ => False) w w6) := Lib.hid (HM5.out.trans hm6 (fun _ h => h.elim))
  clear hm6 HM5 HO5 HP5
  rw [decide_eq_true rfl]
  go_wp2_with (fail)
  refine (right_b (b := rightB l) w6 (HG.out.new HM6.out) HK.out rfl).mono ?_
  rintro e w7 ⟨rfl, hm7⟩
  have HM7 : Hid (Mod (fun _ => False) w w7) := Lib.hid (HM6.out.trans hm7 (fun _ h => h.elim))
  clear hm7 HM6
  go_wp2_with (fail)
  refine (rright_b (b := rightB l) w7 (HG.out.new HM7.out) HK.out rfl).mono ?_
  rintro e w8 ⟨rfl, hm8⟩
  have HM8 : Hid (Mod (fun _ => False) w w8) := Lib.hid (HM7.out.trans hm8 (fun _ h => h.elim))
  clear hm8 HM7
  go_wp2_with (fail)
  refine (may_b t u w8 (HG.out.new HM8.out) HK.out hu (x := mayB l t u) rfl).mono ?_
  rintro e w9 ⟨rfl, hm9⟩
  have HM9 : Hid (Mod (fun _ => False) w w9) := Lib.hid (HM8.out.trans hm9 (fun _ h => h.elim))
  clear hm9 HM8
  go_wp2_with (fail)
  refine (mayc_b t u w9 (HG.out.new HM9.out) HK.out ht hu (x := mayB l t u) rfl).mono ?_
  rintro e w10 ⟨rfl, hm10⟩
  have HM10 : Hid (Mod (fun _ => False) w w10) := Lib.hid (HM9.out.trans hm10 (fun _ h => h.elim))
  clear hm10 HM9
  go_wp2
  go_ret
  exact ⟨rfl, HM10.out⟩
end Go.Proofs.Ytpbdcjgconopnaa
