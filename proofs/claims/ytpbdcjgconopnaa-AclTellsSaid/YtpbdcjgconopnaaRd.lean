/-
  The document's Right.
-/
import Derived.Test.YtpbdcjgconopnaaRc
namespace Go.Proofs.Ytpbdcjgconopnaa
open Go.RowKit Mem
set_option linter.unusedVariables false

theorem rmay_b {g : Gr} (hg : Gok g) {b : Bool} (hb : fineB g = b) (w : World) : Calls Try.prog 31 #[.agg #[.string (sv g.t), .string (sv g.w), .int .i64 g.r]] w fun e w' => e = .returned (.bool b) ∧ Mod (fun _ => False) w w' := by
  rw [← hb]; exact rmay_any g w hg
theorem rbelow_b {f g : Gr} {b : Bool} (hb : decide (cmpG f g < 0) = b) (w : World) : Calls Try.prog 32 #[.agg #[.string (sv f.t), .string (sv f.w), .int .i64 f.r], .agg #[.string (sv g.t), .string (sv g.w), .int .i64 g.r]] w fun e w' => e = .returned (.bool b) ∧ Mod (fun _ => False) w w' := by
  rw [← hb]; exact rbelow_any f g w

set_option maxRecDepth 100000 in
set_option maxHeartbeats 6400000 in
theorem rright_any (v : Value) (l : List Gr) (w : World) (h : Gs w v l) (hg : Goks l) : Calls Try.prog 19 #[v] w fun e w' => e = .returned (.bool (rightB l)) ∧ Mod (fun _ => False) w w' := by
  obtain ⟨A, c, rfl, hlc, hcm, hA⟩ := h.form
  unfold maxLen at hcm
  have HA := Lib.hid hA
  have HG := Lib.hid h
  have HK := Lib.hid hg
  clear hA h hg
  have HM0 : Hid (Mod (fun _ => False) w w) := Lib.hid (Mod.refl _ _)
  by_cases h64 : (64 : Int) < (l.length : Int)
  · have Hr : Hid (rightB l = false) := Lib.hid (by unfold rightB; rw [decide_eq_false (show ¬ l.length ≤ 64 by omega)]; simp)
    go_enter Try.func19, Try.ntmps19
    go_wp2
    go_ret
    exact ⟨ret_bool Hr.out.symm, HM0.out⟩
  have Hno : Hid (∀ k, k < l.length → okAt l k = false → rightB l = false) := Lib.hid (fun k hk hf => by
    unfold rightB
    have : (List.range l.length).all (okAt l) = false := by
      rw [List.all_eq_false]
      exact ⟨k, List.mem_range.2 hk, by simp [hf]⟩
    rw [this]; rfl)
  have Hyes : Hid ((∀ k, k < l.length → okAt l k = true) → rightB l = true) := Lib.hid (fun hk => by
    unfold rightB
    have : (List.range l.length).all (okAt l) = true := by
      rw [List.all_eq_true]
      exact fun k hk' => hk k (List.mem_range.1 hk')
    rw [this, decide_eq_true (show l.length ≤ 64 by omega)]; rfl)
  go_enter Try.func19, Try.ntmps19
  go_wp2
  go_loopw [3, 4] (fun i _ wr => ∃ k : Nat, i = .int .i64 k ∧ k ≤ l.length ∧ Hid (∀ j, j < k → okAt l j = true) ∧ Hid (Mod (fun _ => False) w wr)) (fun i _ _ => l.length - (intOf i).toNat)
  case atStart => exact ⟨0, rfl, by omega, Lib.hid (fun j hj => by omega), HM0⟩
  case round =>
    obtain ⟨k, rfl, hk, hall, hM⟩ := hrel
    by_cases hlt : k < l.length
    · rcases HA.out with h | ⟨ad, rfl⟩
      · omega
      have hgk := HK.out _ (List.getElem_mem hlt)
      have hget : l[k]! = l[k] := getElem!_pos l k hlt
      rcases k with _ | k
      · have hok : okAt l 0 = (fineB l[0] && decide ((1 : Int) ≤ l[0].r ∧ l[0].r ≤ (3 : Int))) := by
          unfold okAt
          rw [hget]
          simp
        have HC : Hid (∀ wx, Mod (fun _ => False) w wx → wx.cell? ad = some (.string (sv l[0].t)) ∧ wx.cell? ⟨ad.block, ad.off + 1, none⟩ = some (.string (sv l[0].w)) ∧ wx.cell? ⟨ad.block, ad.off + 2, none⟩ = some (.int .i64 l[0].r)) := Lib.hid (fun wx hm => by
          have := (HG.out.new hm).at_ (0) hlt
          simpa [Addr.add] using this)
        generalize l[0] = g at *
        clear hget
        have c := HC.out wr hM.out
        obtain ⟨c0, c1, c2⟩ := c
        have Hok := Lib.hid hok
        clear hok
        have Hmay := Lib.hid (rmay_b hgk (b := fineB g) rfl)
        have hq1 : ((0 : Nat) : Int) < (l.length : Int) := by omega
        go_wp2_with (fail)
        refine (Hmay.out wr).mono ?_
        rintro e w2 ⟨rfl, hm2⟩
        have HM2 : Hid (Mod (fun _ => False) w w2) := Lib.hid (hM.out.trans hm2 (fun _ h => h.elim))
        clear hm2 c0 c1 c2
        obtain ⟨c0, c1, c2⟩ := HC.out w2 HM2.out
        have e0 : ∀ x : After w2, _ := calm_cell c0
        have e1 : ∀ x : After w2, _ := calm_cell c1
        have e2 : ∀ x : After w2, _ := calm_cell c2
        clear c0 c1 c2
        rcases hf : fineB g with _ | _
        · have Hre := Lib.hid (Hno.out (0) hlt (by rw [Hok.out, hf]; rfl))
          clear Hno Hok hf
          go_wp2
          refine region_calm (by kernel_rfl) (by kernel_rfl) ?_
          repeat (go_big_quiet_step (fail))
          refine calm_end (fun w9 hm9 => ?_)
          have Hfin : Hid (Mod (fun _ => False) w w9) := Lib.hid (HM2.out.trans hm9 (fun _ h => h.elim))
          clear hm9 e0 e1 e2
          go_wp2
          go_ret
          exact ⟨ret_bool Hre.out.symm, Hfin.out⟩
        by_cases x1 : g.r < 1
        · have t1 : decide (g.r < 1) = true := decide_eq_true x1
          have Hre := Lib.hid (Hno.out (0) hlt (by rw [Hok.out, hf, decide_eq_false (show ¬ ((1 : Int) ≤ g.r ∧ g.r ≤ (3 : Int)) by omega)]; simp))
          clear Hno Hok hf
          go_wp2
          refine region_calm (by kernel_rfl) (by kernel_rfl) ?_
          repeat (go_big_quiet_step (fail))
          refine calm_end (fun w9 hm9 => ?_)
          have Hfin : Hid (Mod (fun _ => False) w w9) := Lib.hid (HM2.out.trans hm9 (fun _ h => h.elim))
          clear hm9 e0 e1 e2
          go_wp2
          go_ret
          exact ⟨ret_bool Hre.out.symm, Hfin.out⟩
        by_cases x2 : 3 < g.r
        · have t1 : decide (g.r < 1) = false := decide_eq_false x1
          have t2 : decide (3 < g.r) = true := decide_eq_true x2
          have Hre := Lib.hid (Hno.out (0) hlt (by rw [Hok.out, hf, decide_eq_false (show ¬ ((1 : Int) ≤ g.r ∧ g.r ≤ (3 : Int)) by omega)]; simp))
          clear Hno Hok hf
          go_wp2
          refine region_calm (by kernel_rfl) (by kernel_rfl) ?_
          repeat (go_big_quiet_step (fail))
          refine calm_end (fun w9 hm9 => ?_)
          have Hfin : Hid (Mod (fun _ => False) w w9) := Lib.hid (HM2.out.trans hm9 (fun _ h => h.elim))
          clear hm9 e0 e1 e2
          go_wp2
          go_ret
          exact ⟨ret_bool Hre.out.symm, Hfin.out⟩
        have t1 : decide (g.r < 1) = false := decide_eq_false x1
        have t2 : decide (3 < g.r) = false := decide_eq_false x2
        have Hall : Hid (∀ j, j < 0 + 1 → okAt l j = true) := Lib.hid (fun j hj => by
          rcases Nat.lt_or_ge j (0) with h | h
          · exact hall.out j h
          · obtain rfl : j = 0 := by omega
            rw [Hok.out, hf, decide_eq_true (show (1 : Int) ≤ g.r ∧ g.r ≤ (3 : Int) by omega)]; rfl)
        clear Hno Hok hf
        go_wp2
        refine region_calm (by kernel_rfl) (by kernel_rfl) ?_
        repeat (go_big_quiet_step (fail))
        refine calm_end (fun w9 hm9 => ?_)
        have Hfin : Hid (Mod (fun _ => False) w w9) := Lib.hid (HM2.out.trans hm9 (fun _ h => h.elim))
        clear hm9 e0 e1 e2
        go_wp2
        go_roundw
        case rel => exact ⟨0 + 1, by go_num, by omega, Hall, Hfin⟩
        case measure => simp [intOf]; omega
      · have hlt' : k < l.length := by omega
        have hget' : l[k]! = l[k] := getElem!_pos l k hlt'
        have hok : okAt l (k + 1) = (fineB l[k+1] && decide ((1 : Int) ≤ l[k+1].r ∧ l[k+1].r ≤ (3 : Int)) && decide (cmpG l[k] l[k+1] < 0)) := by
          unfold okAt
          rw [hget]
          simp [hlt']
        have HC : Hid (∀ wx, Mod (fun _ => False) w wx → wx.cell? (ad.add ((k + 1) * 3)) = some (.string (sv l[k+1].t)) ∧ wx.cell? ⟨(ad.add ((k + 1) * 3)).block, (ad.add ((k + 1) * 3)).off + 1, none⟩ = some (.string (sv l[k+1].w)) ∧ wx.cell? ⟨(ad.add ((k + 1) * 3)).block, (ad.add ((k + 1) * 3)).off + 2, none⟩ = some (.int .i64 l[k+1].r)) := Lib.hid (fun wx hm => by
          have := (HG.out.new hm).at_ (k + 1) hlt
          exact this)
        have HD : Hid (∀ wx, Mod (fun _ => False) w wx → wx.cell? (ad.add (k * 3)) = some (.string (sv l[k].t)) ∧ wx.cell? ⟨(ad.add (k * 3)).block, (ad.add (k * 3)).off + 1, none⟩ = some (.string (sv l[k].w)) ∧ wx.cell? ⟨(ad.add (k * 3)).block, (ad.add (k * 3)).off + 2, none⟩ = some (.int .i64 l[k].r)) := Lib.hid (fun wx hm => (HG.out.new hm).at_ k hlt')
        generalize l[k+1] = g at *
        generalize l[k] = f at *
        clear hget hget'
        have c := HC.out wr hM.out
        obtain ⟨c0, c1, c2⟩ := c
        have Hok := Lib.hid hok
        clear hok
        have Hmay := Lib.hid (rmay_b hgk (b := fineB g) rfl)
        have hq1 : ((k + 1 : Nat) : Int) < (l.length : Int) := by omega
        have hq2 : (k : Int) < (l.length : Int) := by omega
        have hq3 : (k : Int) + 1 < (l.length : Int) := by omega
        go_wp2_with (fail)
        refine (Hmay.out wr).mono ?_
        rintro e w2 ⟨rfl, hm2⟩
        have HM2 : Hid (Mod (fun _ => False) w w2) := Lib.hid (hM.out.trans hm2 (fun _ h => h.elim))
        clear hm2 c0 c1 c2
        obtain ⟨c0, c1, c2⟩ := HC.out w2 HM2.out
        have e0 : ∀ x : After w2, _ := calm_cell c0
        have e1 : ∀ x : After w2, _ := calm_cell c1
        have e2 : ∀ x : After w2, _ := calm_cell c2
        clear c0 c1 c2
        obtain ⟨d0, d1, d2⟩ := HD.out w2 HM2.out
        have f0 : ∀ x : After w2, _ := calm_cell d0
        have f1 : ∀ x : After w2, _ := calm_cell d1
        have f2 : ∀ x : After w2, _ := calm_cell d2
        clear d0 d1 d2
        have hk1 : decide ((0 : Int) < ((k + 1 : Nat) : Int)) = true := by rw [decide_eq_true]; omega
        have hk2 : decide ((0 : Int) < (k : Int) + 1) = true := by rw [decide_eq_true]; omega
        rcases hf : fineB g with _ | _
        · have Hre := Lib.hid (Hno.out (k + 1) hlt (by rw [Hok.out, hf]; rfl))
          clear Hno Hok hf
          have Hc := Lib.hid (rbelow_b (f := f) (g := g) rfl)
          go_wp2
          refine region_calm (by kernel_rfl) (by kernel_rfl) ?_
          repeat (go_big_quiet_step (first | (go_at_call 32; exact calm_call (Hc.out _))))
          refine calm_end (fun w9 hm9 => ?_)
          have Hfin : Hid (Mod (fun _ => False) w w9) := Lib.hid (HM2.out.trans hm9 (fun _ h => h.elim))
          clear hm9 e0 e1 e2 f0 f1 f2
          go_wp2
          go_ret
          exact ⟨ret_bool Hre.out.symm, Hfin.out⟩
        by_cases x1 : g.r < 1
        · have t1 : decide (g.r < 1) = true := decide_eq_true x1
          have Hre := Lib.hid (Hno.out (k + 1) hlt (by rw [Hok.out, hf, decide_eq_false (show ¬ ((1 : Int) ≤ g.r ∧ g.r ≤ (3 : Int)) by omega)]; simp))
          clear Hno Hok hf
          have Hc := Lib.hid (rbelow_b (f := f) (g := g) rfl)
          go_wp2
          refine region_calm (by kernel_rfl) (by kernel_rfl) ?_
          repeat (go_big_quiet_step (first | (go_at_call 32; exact calm_call (Hc.out _))))
          refine calm_end (fun w9 hm9 => ?_)
          have Hfin : Hid (Mod (fun _ => False) w w9) := Lib.hid (HM2.out.trans hm9 (fun _ h => h.elim))
          clear hm9 e0 e1 e2 f0 f1 f2
          go_wp2
          go_ret
          exact ⟨ret_bool Hre.out.symm, Hfin.out⟩
        by_cases x2 : 3 < g.r
        · have t1 : decide (g.r < 1) = false := decide_eq_false x1
          have t2 : decide (3 < g.r) = true := decide_eq_true x2
          have Hre := Lib.hid (Hno.out (k + 1) hlt (by rw [Hok.out, hf, decide_eq_false (show ¬ ((1 : Int) ≤ g.r ∧ g.r ≤ (3 : Int)) by omega)]; simp))
          clear Hno Hok hf
          have Hc := Lib.hid (rbelow_b (f := f) (g := g) rfl)
          go_wp2
          refine region_calm (by kernel_rfl) (by kernel_rfl) ?_
          repeat (go_big_quiet_step (first | (go_at_call 32; exact calm_call (Hc.out _))))
          refine calm_end (fun w9 hm9 => ?_)
          have Hfin : Hid (Mod (fun _ => False) w w9) := Lib.hid (HM2.out.trans hm9 (fun _ h => h.elim))
          clear hm9 e0 e1 e2 f0 f1 f2
          go_wp2
          go_ret
          exact ⟨ret_bool Hre.out.symm, Hfin.out⟩
        rcases x3 : decide (cmpG f g < 0) with _ | _
        · have t1 : decide (g.r < 1) = false := decide_eq_false x1
          have t2 : decide (3 < g.r) = false := decide_eq_false x2
          have Hre := Lib.hid (Hno.out (k + 1) hlt (by rw [Hok.out, x3]; simp))
          have Hc := Lib.hid (rbelow_b x3)
          clear Hno Hok hf x3
          go_wp2
          refine region_calm (by kernel_rfl) (by kernel_rfl) ?_
          repeat (go_big_quiet_step (first | (go_at_call 32; exact calm_call (Hc.out _))))
          refine calm_end (fun w9 hm9 => ?_)
          have Hfin : Hid (Mod (fun _ => False) w w9) := Lib.hid (HM2.out.trans hm9 (fun _ h => h.elim))
          clear hm9 e0 e1 e2 f0 f1 f2
          go_wp2
          go_ret
          exact ⟨ret_bool Hre.out.symm, Hfin.out⟩
        · have t1 : decide (g.r < 1) = false := decide_eq_false x1
          have t2 : decide (3 < g.r) = false := decide_eq_false x2
          have Hall : Hid (∀ j, j < k + 1 + 1 → okAt l j = true) := Lib.hid (fun j hj => by
            rcases Nat.lt_or_ge j (k + 1) with h | h
            · exact hall.out j h
            · obtain rfl : j = k + 1 := by omega
              rw [Hok.out, hf, decide_eq_true (show (1 : Int) ≤ g.r ∧ g.r ≤ (3 : Int) by omega), x3]; rfl)
          have Hc := Lib.hid (rbelow_b x3)
          clear Hno Hok hf x3
          go_wp2
          refine region_calm (by kernel_rfl) (by kernel_rfl) ?_
          repeat (go_big_quiet_step (first | (go_at_call 32; exact calm_call (Hc.out _))))
          refine calm_end (fun w9 hm9 => ?_)
          have Hfin : Hid (Mod (fun _ => False) w w9) := Lib.hid (HM2.out.trans hm9 (fun _ h => h.elim))
          clear hm9 e0 e1 e2 f0 f1 f2
          go_wp2
          go_roundw
          case rel => exact ⟨k + 1 + 1, by go_num, by omega, Hall, Hfin⟩
          case measure => simp [intOf]; omega
    · obtain rfl : l.length = k := by omega
      have Hy := Lib.hid (Hyes.out hall.out)
      clear hall
      go_wp2
      go_ret
      exact ⟨ret_bool Hy.out.symm, hM.out⟩
end Go.Proofs.Ytpbdcjgconopnaa
