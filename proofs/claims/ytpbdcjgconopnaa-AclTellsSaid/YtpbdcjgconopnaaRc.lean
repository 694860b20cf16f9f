/-
  The document's may and below.
-/
import Derived.Test.YtpbdcjgconopnaaRb
namespace Go.Proofs.Ytpbdcjgconopnaa
open Go.RowKit Mem
set_option linter.unusedVariables false

theorem rwho_b {l : Bs} {v : Value} (hl : l.length ≤ 9223372036854775807) (hv : whoV l = v) (w : World) : Calls Try.prog 15 #[.string (sv l)] w fun e w' => e = .returned v ∧ Mod (fun _ => False) w w' := by
  rw [← hv]; exact rwho_any l w hl
set_option maxRecDepth 100000 in
set_option maxHeartbeats 3200000 in
theorem rmay_any (g : Gr) (w : World) (hg : Gok g) : Calls Try.prog 31 #[.agg #[.string (sv g.t), .string (sv g.w), .int .i64 g.r]] w fun e w' => e = .returned (.bool (fineB g)) ∧ Mod (fun _ => False) w w' := by
  have hbox := Blk.new w #[.string (sv g.t), .string (sv g.w), .int .i64 g.r] 24
  have hal : Mod (fun _ => False) w (w.alloc (.cells #[.string (sv g.t), .string (sv g.w), .int .i64 g.r] 24)) := (Mod.refl _ _).alloc _
  have HB := Lib.hid hbox
  have HL := Lib.hid hal
  have b0 := hbox.cell 0
  have b0' : (w.alloc (.cells #[.string (sv g.t), .string (sv g.w), .int .i64 g.r] 24)).cell? ⟨w.heap.size, 0, none⟩ = some (.string (sv g.t)) := b0
  clear hbox hal b0
  go_enter Try.func31, Try.ntmps31
  go_wp2_with (fail)
  obtain ⟨q, hq⟩ : ∃ q, w.heap.size = q := ⟨_, rfl⟩
  rw [hq] at HB b0' ⊢
  clear hq
  generalize w.alloc (.cells #[.string (sv g.t), .string (sv g.w), .int .i64 g.r] 24) = W at *
  refine (rname_b hg.1 rfl W).mono ?_
  rintro e w1 ⟨rfl, hm1⟩
  have hb1 := HB.out.mod hm1 (fun h => h)
  have c1 : w1.cell? ⟨q, 1, none⟩ = some (.string (sv g.w)) := hb1.cell 1
  have HB1 := Lib.hid hb1
  have HM1 := Lib.hid hm1
  clear hb1 hm1 b0'
  rcases hq : who g.w with _ | ⟨a, b⟩
  · have hv : whoV g.w = .tuple #[.string (sv []), .string (sv []), .bool false] := by unfold whoV; rw [hq]
    have Hf : Hid (fineB g = false) := Lib.hid (by unfold fineB; rw [hq])
    have HW := Lib.hid (rwho_b hg.2.1 hv)
    clear hv hq
    generalize nm g.t = x at *
    go_wp2_with (fail)
    refine (HW.out w1).mono ?_
    rintro e w2 ⟨rfl, hm2⟩
    have HM2 : Hid (Mod (fun _ => False) w w2) := Lib.hid ((HL.out.trans HM1.out (fun _ h => h.elim)).trans hm2 (fun _ h => h.elim))
    clear hm2
    cases x
    all_goals
      go_wp2
      go_ret
      exact ⟨ret_bool Hf.out.symm, HM2.out⟩
  · have hv : whoV g.w = .tuple #[.string (sv a), .string (sv b), .bool true] := by unfold whoV; rw [hq]
    have Hf : Hid (fineB g = (nm g.t && !(a == g.t))) := Lib.hid (by unfold fineB; rw [hq])
    have HW := Lib.hid (rwho_b hg.2.1 hv)
    have e1 := sv_beq a g.t
    clear hv hq
    generalize nm g.t = x at *
    obtain ⟨y, hy⟩ : ∃ y, (a == g.t) = y := ⟨_, rfl⟩
    rw [hy] at Hf e1
    clear hy
    go_wp2_with (fail)
    refine (HW.out w1).mono ?_
    rintro e w2 ⟨rfl, hm2⟩
    have HM2 : Hid (Mod (fun _ => False) w w2) := Lib.hid ((HL.out.trans HM1.out (fun _ h => h.elim)).trans hm2 (fun _ h => h.elim))
    have hb2 := HB1.out.mod hm2 (fun h => h)
    have d0 : w2.cell? ⟨q, 0, none⟩ = some (.string (sv g.t)) := hb2.cell 0
    clear hm2 hb2
    cases x
    · go_wp2
      go_ret
      exact ⟨ret_bool Hf.out.symm, HM2.out⟩
    · cases y
      all_goals
        go_wp2
        go_ret
        exact ⟨ret_bool Hf.out.symm, HM2.out⟩

theorem less_cb : ∀ a b : Bs, Op.bytesLess a b = decide (Lib.compareBytes a b < 0)
  | [], [] => rfl
  | _ :: _, [] => rfl
  | [], _ :: _ => rfl
  | x :: a, y :: b => by
    unfold Op.bytesLess Lib.compareBytes
    by_cases h1 : x < y
    · rw [decide_eq_true h1, if_pos h1]; rfl
    · rw [decide_eq_false h1, if_neg h1]
      by_cases h2 : y < x
      · have h3 : (x == y) = false := by
          rw [beq_eq_false_iff_ne]
          rintro rfl
          exact UInt8.lt_irrefl _ h2
        rw [if_pos h2, h3]; rfl
      · have h3 : x = y := by
          apply UInt8.toNat_inj.1
          simp only [UInt8.lt_iff_toNat_lt] at h1 h2
          omega
        subst h3
        rw [if_neg h2, less_cb a b]
        simp
set_option maxRecDepth 100000 in
set_option maxHeartbeats 1600000 in
theorem rbelow_any (f g : Gr) (w : World) : Calls Try.prog 32 #[.agg #[.string (sv f.t), .string (sv f.w), .int .i64 f.r], .agg #[.string (sv g.t), .string (sv g.w), .int .i64 g.r]] w fun e w' => e = .returned (.bool (decide (cmpG f g < 0))) ∧ Mod (fun _ => False) w w' := by
  have hal : Mod (fun _ => False) w ((w.alloc (.cells #[.string (sv f.t), .string (sv f.w), .int .i64 f.r] 24)).alloc (.cells #[.string (sv g.t), .string (sv g.w), .int .i64 g.r] 24)) := ((Mod.refl _ _).alloc _).alloc _
  have HL := Lib.hid hal
  have e1 : Op.bytesLess (sv f.t).toList (sv g.t).toList = decide (Lib.compareBytes f.t g.t < 0) := by rw [sv_toList, sv_toList]; exact less_cb _ _
  have e2 : Op.bytesLess (sv f.w).toList (sv g.w).toList = decide (Lib.compareBytes f.w g.w < 0) := by rw [sv_toList, sv_toList]; exact less_cb _ _
  have e3 := sv_beq f.t g.t
  clear hal
  rcases cb_val f.t g.t with h | h | h
  · have Hr : Hid (decide (cmpG f g < 0) = true) := Lib.hid (by unfold cmpG or2; rw [h]; rfl)
    rw [h] at e1
    clear h
    go_enter Try.func32, Try.ntmps32
    go_wp2
    go_ret
    exact ⟨ret_bool Hr.out.symm, HL.out⟩
  · have Hr : Hid (decide (cmpG f g < 0) = decide (Lib.compareBytes f.w g.w < 0)) := Lib.hid (by unfold cmpG or2; rw [h]; rfl)
    have he : (f.t == g.t) = true := by rw [beq_iff_eq]; exact cb_eq h
    rw [h] at e1
    rw [he] at e3
    clear h he
    obtain ⟨y, hy⟩ : ∃ y, decide (Lib.compareBytes f.w g.w < 0) = y := ⟨_, rfl⟩
    rw [hy] at e2 Hr
    clear hy
    cases y
    all_goals
      go_enter Try.func32, Try.ntmps32
      go_wp2
      go_ret
      exact ⟨ret_bool Hr.out.symm, HL.out⟩
  · have Hr : Hid (decide (cmpG f g < 0) = false) := Lib.hid (by unfold cmpG or2; rw [h]; rfl)
    have he : (f.t == g.t) = false := by
      rw [beq_eq_false_iff_ne]
      intro hq
      rw [hq, cb_self] at h
      exact absurd h (by decide)
    rw [h] at e1
    rw [he] at e3
    clear h he
    go_enter Try.func32, Try.ntmps32
    go_wp2
    go_ret
    exact ⟨ret_bool Hr.out.symm, HL.out⟩
end Go.Proofs.Ytpbdcjgconopnaa
