/-
  A scan's value.
-/
import Derived.Test.YtkmidilaabgooaaDoorCd
namespace Go.Proofs.YtkmidilaabgooaaDoor
open Go.RowKit Mem
set_option linter.unusedVariables false
set_option linter.unusedSimpArgs false

/-- Behind the sign and the gap. -/
def valR : Bs → Option Bs
  | [] => none
  | d :: r' => if d == 39 || d == 34 then (cut d r').map (·.2) else if badV d then none else some ((d :: r').dropWhile fun x => !badV x)
theorem val_no {l : Bs} (h : ([61] : Bs).isPrefixOf (gapF l) = false) : valF l = some l := by
  unfold valF
  cases hg : gapF l with
  | nil => rfl
  | cons c r =>
    rw [hg, pre_cons] at h
    have : (c == 61) = false := by rw [beq_eq_false_iff_ne] at h ⊢; exact fun e => h e.symm
    dsimp only
    rw [this]; rfl
theorem val_yes {l r : Bs} (h : gapF l = 61 :: r) : valF l = valR (gapF r) := by
  unfold valF
  rw [h]
  dsimp only
  rw [if_pos (by rfl)]
  cases gapF r <;> rfl
theorem valR_q {d : UInt8} (h : d = 39 ∨ d = 34) (r : Bs) : valR (d :: r) = (cut d r).map (·.2) := by
  show (if d == 39 || d == 34 then (cut d r).map (·.2) else _) = _
  rw [if_pos (by rcases h with rfl | rfl <;> rfl)]
theorem dw_drop (p : UInt8 → Bool) : ∀ l : Bs, l.dropWhile p = l.drop (l.takeWhile p).length
  | [] => rfl
  | b :: l => by
    rw [List.takeWhile_cons, List.dropWhile_cons]
    split
    · exact dw_drop p l
    · rfl
theorem valR_far {m : Bs} (h1 : ([39] : Bs).isPrefixOf m = false) (h2 : ([34] : Bs).isPrefixOf m = false) : valR m = if (m.takeWhile (fun x => !badV x)).length = 0 then none else some (m.drop (m.takeWhile (fun x => !badV x)).length) := by
  cases m with
  | nil => rfl
  | cons d r =>
    rw [pre_cons] at h1 h2
    have e1 : (d == 39) = false := by rw [beq_eq_false_iff_ne] at h1 ⊢; exact fun e => h1 e.symm
    have e2 : (d == 34) = false := by rw [beq_eq_false_iff_ne] at h2 ⊢; exact fun e => h2 e.symm
    show (if d == 39 || d == 34 then (cut d r).map (·.2) else if badV d then none else some ((d :: r).dropWhile fun x => !badV x)) = _
    rw [e1, e2, if_neg (by decide), dw_drop]
    cases hb : badV d with
    | true => rw [if_pos rfl, List.takeWhile_cons, hb]; rfl
    | false => rw [List.takeWhile_cons, hb]; rfl
theorem iaV_all {m : Bs} (h : m.all (fun x => !badV x) = true) : iaV m = -1 ∧ (m.takeWhile (fun x => !badV x)).length = m.length := by
  refine ⟨by unfold iaV; rw [if_pos h], ?_⟩
  have := (tw_at (fun x => !badV x) m m.length (Nat.le_refl _) (fun j hj _ => List.all_eq_true.1 h _ (List.getElem_mem hj)) (fun h => absurd h (Nat.lt_irrefl _))).1
  exact this
theorem iaV_not {m : Bs} (h : m.all (fun x => !badV x) = false) : iaV m = ((m.takeWhile (fun x => !badV x)).length : Nat) := by
  unfold iaV; rw [h]; rfl
theorem ix55_0 (a b : Value) (w : World) : (Instr.index 55 (.agg #[a, b]) (.int .i64 0)).run Tryd.prog w = .ok a w := by
  simp [Instr.index, run_underlying Tryd.underlying55, asIntOf, go_sem]
theorem ix55_1 (a b : Value) (w : World) : (Instr.index 55 (.agg #[a, b]) (.int .i64 1)).run Tryd.prog w = .ok b w := by
  simp [Instr.index, run_underlying Tryd.underlying55, asIntOf, go_sem]
/-- No quote of the first k kinds stands there. -/
def NoQ (m : Bs) (k : Nat) : Prop := (1 ≤ k → ([39] : Bs).isPrefixOf m = false) ∧ (2 ≤ k → ([34] : Bs).isPrefixOf m = false)
/-- A scan, and how it was. -/
structure DidA (w w' : World) (g : Nat) (m : Bs) (a : Nat) (l : Bs) : Prop where
  d : Did w w' g m
  a : Scn w' a l
theorem DidA.step {w w' w'' : World} {g a : Nat} {m m' l : Bs} (h : DidA w w' g m a l) (k : Did w' w'' g m') (hne : a ≠ g) : DidA w w'' g m' a l := ⟨h.d.trans k, h.a.mod k.m (fun e => hne e)⟩
theorem DidA.new {w w0 : World} {g : Nat} {l : Bs} (h : Did w0 w g l) : DidA w0 (w.alloc (.cells #[.string (sv l)] 49)) g l w.heap.size l :=
  ⟨⟨h.s.mod ((Mod.refl (fun _ => False) w).alloc _) (fun h => h), h.m.alloc _⟩, Scn.new _ _⟩

set_option maxRecDepth 100000 in
set_option maxHeartbeats 2000000 in
theorem value_any (g : Nat) (l : Bs) (w : World) (hS : Scn w g l) (hl : l.length ≤ 4294967280) :
    Calls Tryd.prog 41 #[.pointer (some ⟨g, 0, none⟩)] w fun e w' => ValPost l w g e w' := by
  have hc := hS.cell
  have hf := hS.frozen
  have hne : w.heap.size ≠ g := by have := hS.lt; omega
  have HA := Lib.hid (DidA.new (Did.of hS))
  have hgl := (gap_suffix l).length_le
  have HL : Hid (l.length ≤ 9223372036854775807) := Lib.hid (by omega)
  rcases hp : ([61] : Bs).isPrefixOf (gapF l) with _ | _
  · have HV := Lib.hid (val_no hp)
    have hms : Hid ((if ([61] : Bs).isPrefixOf (gapF l) then (gapF l).drop ([61] : Bs).length else gapF l) = gapF l) := Lib.hid (by rw [hp]; rfl)
    have HP := Lib.hid hp
    clear hp hS
    go_enter Tryd.func41, Tryd.ntmps41
    go_wp2_with (fail)
    refine (gap_n HA.out.d.s HL.out rfl rfl).mono ?_
    rintro e w1 ⟨rfl, hD⟩
    have HD := Lib.hid (HA.out.step hD hne)
    clear hD HA
    go_wp2_with (fail)
    refine (text_b (t := [61]) HD.out.d.s HP.out hms.out).mono ?_
    rintro e w2 ⟨rfl, hD2⟩
    have HD2 := Lib.hid (HD.out.step hD2 hne)
    clear hD2 hms HP HD
    have hc1 := HD2.out.d.s.cell
    have hf1 := HD2.out.d.s.frozen
    have hc2 := HD2.out.a.cell
    go_wp2
    go_ret
    exact ValPost.some HV.out HD2.out.d.set
  · have hsp := pre_split hp
    obtain ⟨r, hr⟩ : ∃ r, (gapF l).drop ([61] : Bs).length = r := ⟨_, rfl⟩
    rw [hr] at hsp
    have hsp' : gapF l = 61 :: r := hsp
    obtain ⟨m, hm⟩ : ∃ m, gapF r = m := ⟨_, rfl⟩
    have hrl : r.length + 1 = (gapF l).length := by rw [hsp']; rfl
    have hml := (gap_suffix r).length_le
    rw [hm] at hml
    have HV : Hid (valF l = valR m) := Lib.hid (by rw [val_yes hsp', hm])
    have hms : Hid ((if ([61] : Bs).isPrefixOf (gapF l) then (gapF l).drop ([61] : Bs).length else gapF l) = r) := Lib.hid (by rw [hp, if_pos rfl, hr])
    have HP := Lib.hid hp
    have HM := Lib.hid hm
    have HL2 : Hid (r.length ≤ 9223372036854775807) := Lib.hid (by omega)
    have hml' : m.length ≤ 4294967280 := by omega
    clear hp hS hsp hsp' hr hm hml hrl hgl hl
    go_enter Tryd.func41, Tryd.ntmps41
    go_wp2_with (fail)
    refine (gap_n HA.out.d.s HL.out rfl rfl).mono ?_
    rintro e w1 ⟨rfl, hD⟩
    have HD := Lib.hid (HA.out.step hD hne)
    clear hD HA
    go_wp2_with (fail)
    refine (text_b (t := [61]) HD.out.d.s HP.out hms.out).mono ?_
    rintro e w2 ⟨rfl, hD2⟩
    have HD2 := Lib.hid (HD.out.step hD2 hne)
    clear hD2 hms HP HD
    go_wp2_with (fail)
    refine (gap_n HD2.out.d.s HL2.out rfl HM.out).mono ?_
    rintro e w3 ⟨rfl, hD3⟩
    have HD3 : Hid (Did w w3 g m) := Lib.hid (HD2.out.step hD3 hne).d
    clear hD3 HD2 HM
    have hsm := sv_size m
    go_wp2
    go_loopw [24] (fun i wr => ∃ k : Nat, i = .int .i64 k ∧ k ≤ 2 ∧ Hid (Did w wr g m) ∧ Hid (NoQ m k)) (fun i _ => 2 - (intOf i).toNat)
    case atStart => exact ⟨0, rfl, by omega, HD3, Lib.hid ⟨fun h => absurd h (by decide), fun h => absurd h (by decide)⟩⟩
    case round =>
      obtain ⟨k, rfl, hk, hD, hno⟩ := hrel
      have hx : k = 0 ∨ k = 1 ∨ k = 2 := by omega
      have hix0 := fun w => ix55_0 (.string ⟨#[39]⟩) (.string ⟨#[34]⟩) w
      have hix1 := fun w => ix55_1 (.string ⟨#[39]⟩) (.string ⟨#[34]⟩) w
      rcases hx with rfl | rfl | rfl
      · rcases hq : ([39] : Bs).isPrefixOf m with _ | _
        · have HQ := Lib.hid hq
          have hno' : Hid (NoQ m 1) := Lib.hid ⟨fun _ => hq, fun h => absurd h (by decide)⟩
          have hmq : Hid ((if ([39] : Bs).isPrefixOf m then m.drop ([39] : Bs).length else m) = m) := Lib.hid (by rw [hq]; rfl)
          clear hq hno
          go_wp2_with (fail)
          refine (text_b (t := [39]) hD.out.s HQ.out hmq.out).mono ?_
          rintro e w4 ⟨rfl, hD4⟩
          have HD4 := Lib.hid (hD.out.trans hD4)
          clear hD4
          go_wp2
          go_roundw
          case rel => exact ⟨1, by go_num, by omega, HD4, hno'⟩
          case measure => simp [intOf]
        · have hsp := pre_split hq
          obtain ⟨s, hs⟩ : ∃ s, m.drop ([39] : Bs).length = s := ⟨_, rfl⟩
          rw [hs] at hsp
          have hsp' : m = 39 :: s := hsp
          have hsl : s.length + 1 = m.length := by rw [hsp']; rfl
          have HQ := Lib.hid hq
          have hmq : Hid ((if ([39] : Bs).isPrefixOf m then m.drop ([39] : Bs).length else m) = s) := Lib.hid (by rw [hq, if_pos rfl, hs])
          have HV2 : Hid (valF l = (cut 39 s).map (·.2)) := Lib.hid (by rw [HV.out, hsp', valR_q (.inl rfl)])
          have HL3 : Hid (s.length ≤ 9223372036854775807) := Lib.hid (by omega)
          clear hq hno hsp hsp' hs hsl
          rcases hcc : cut 39 s with _ | ⟨a, b⟩
          · have hct := fun w => cut_none hcc HL3.out w
            rw [hcc] at HV2
            have HV3 : Hid (valF l = none) := HV2
            clear hcc HV2
            go_wp2_with (fail)
            refine (text_b (t := [39]) hD.out.s HQ.out hmq.out).mono ?_
            rintro e w4 ⟨rfl, hD4⟩
            have HD4 := Lib.hid (hD.out.trans hD4)
            clear hD4
            have hc1 := HD4.out.s.cell
            go_wp2_with (fail)
            refine (hct _).mono ?_
            rintro e w5 ⟨rfl, hd5⟩
            have HD5 := Lib.hid (HD4.out.dr hd5)
            clear hd5 hc1
            have hc1 := HD5.out.s.cell
            have hf1 := HD5.out.s.frozen
            go_wp2
            go_ret
            exact ValPost.none HV3.out (HD5.out.set (m := []))
          · have hct := fun w => cut_some hcc HL3.out w
            rw [hcc] at HV2
            have HV3 : Hid (valF l = some b) := HV2
            clear hcc HV2
            go_wp2_with (fail)
            refine (text_b (t := [39]) hD.out.s HQ.out hmq.out).mono ?_
            rintro e w4 ⟨rfl, hD4⟩
            have HD4 := Lib.hid (hD.out.trans hD4)
            clear hD4
            have hc1 := HD4.out.s.cell
            go_wp2_with (fail)
            refine (hct _).mono ?_
            rintro e w5 ⟨rfl, hd5⟩
            have HD5 := Lib.hid (HD4.out.dr hd5)
            clear hd5 hc1
            have hc1 := HD5.out.s.cell
            have hf1 := HD5.out.s.frozen
            go_wp2
            go_ret
            exact ValPost.some HV3.out HD5.out.set
      · have Hn39 : Hid (([39] : Bs).isPrefixOf m = false) := Lib.hid (hno.out.1 (by decide))
        rcases hq : ([34] : Bs).isPrefixOf m with _ | _
        · have HQ := Lib.hid hq
          have hno' : Hid (NoQ m 2) := Lib.hid ⟨fun _ => Hn39.out, fun h => hq⟩
          have hmq : Hid ((if ([34] : Bs).isPrefixOf m then m.drop ([34] : Bs).length else m) = m) := Lib.hid (by rw [hq]; rfl)
          clear hq hno
          go_wp2_with (fail)
          refine (text_b (t := [34]) hD.out.s HQ.out hmq.out).mono ?_
          rintro e w4 ⟨rfl, hD4⟩
          have HD4 := Lib.hid (hD.out.trans hD4)
          clear hD4
          go_wp2
          go_roundw
          case rel => exact ⟨2, by go_num, by omega, HD4, hno'⟩
          case measure => simp [intOf]
        · have hsp := pre_split hq
          obtain ⟨s, hs⟩ : ∃ s, m.drop ([34] : Bs).length = s := ⟨_, rfl⟩
          rw [hs] at hsp
          have hsp' : m = 34 :: s := hsp
          have hsl : s.length + 1 = m.length := by rw [hsp']; rfl
          have HQ := Lib.hid hq
          have hmq : Hid ((if ([34] : Bs).isPrefixOf m then m.drop ([34] : Bs).length else m) = s) := Lib.hid (by rw [hq, if_pos rfl, hs])
          have HV2 : Hid (valF l = (cut 34 s).map (·.2)) := Lib.hid (by rw [HV.out, hsp', valR_q (.inr rfl)])
          have HL3 : Hid (s.length ≤ 9223372036854775807) := Lib.hid (by omega)
          clear hq hno hsp hsp' hs hsl
          rcases hcc : cut 34 s with _ | ⟨a, b⟩
          · have hct := fun w => cut_none hcc HL3.out w
            rw [hcc] at HV2
            have HV3 : Hid (valF l = none) := HV2
            clear hcc HV2
            go_wp2_with (fail)
            refine (text_b (t := [34]) hD.out.s HQ.out hmq.out).mono ?_
            rintro e w4 ⟨rfl, hD4⟩
            have HD4 := Lib.hid (hD.out.trans hD4)
            clear hD4
            have hc1 := HD4.out.s.cell
            go_wp2_with (fail)
            refine (hct _).mono ?_
            rintro e w5 ⟨rfl, hd5⟩
            have HD5 := Lib.hid (HD4.out.dr hd5)
            clear hd5 hc1
            have hc1 := HD5.out.s.cell
            have hf1 := HD5.out.s.frozen
            go_wp2
            go_ret
            exact ValPost.none HV3.out (HD5.out.set (m := []))
          · have hct := fun w => cut_some hcc HL3.out w
            rw [hcc] at HV2
            have HV3 : Hid (valF l = some b) := HV2
            clear hcc HV2
            go_wp2_with (fail)
            refine (text_b (t := [34]) hD.out.s HQ.out hmq.out).mono ?_
            rintro e w4 ⟨rfl, hD4⟩
            have HD4 := Lib.hid (hD.out.trans hD4)
            clear hD4
            have hc1 := HD4.out.s.cell
            go_wp2_with (fail)
            refine (hct _).mono ?_
            rintro e w5 ⟨rfl, hd5⟩
            have HD5 := Lib.hid (HD4.out.dr hd5)
            clear hd5 hc1
            have hc1 := HD5.out.s.cell
            have hf1 := HD5.out.s.frozen
            go_wp2
            go_ret
            exact ValPost.some HV3.out HD5.out.set
      · have hfar := valR_far (hno.out.1 (by decide)) (hno.out.2 (by decide))
        obtain ⟨n, hn⟩ : ∃ n, (m.takeWhile (fun x => !badV x)).length = n := ⟨_, rfl⟩
        rw [hn] at hfar
        have hnm : n ≤ m.length := by rw [← hn]; exact (List.takeWhile_prefix _).length_le
        have HF : Hid ((n = 0 → valF l = none) ∧ (0 < n → valF l = some (m.drop n))) := Lib.hid (by
          rw [HV.out, hfar]
          exact ⟨fun h => by rw [if_pos h], fun h => by rw [if_neg (by omega)]⟩)
        have hia := fun w => ia_any m hml' w
        have t1 := sv_drop m n m.length rfl
        have hq1 : (n : Int) ≤ (m.length : Int) := by omega
        have hc1 := hD.out.s.cell
        rcases hall : m.all (fun x => !badV x) with _ | _
        · have e1 := iaV_not hall
          rw [hn] at e1
          rw [e1] at hia
          clear e1 hall hn hfar hno
          go_wp2_with (fail)
          refine (hia _).mono ?_
          rintro e w4 ⟨rfl, hd4⟩
          have HD4 := Lib.hid (hD.out.mod0 hd4)
          clear hd4 hc1
          have hc1 := HD4.out.s.cell
          have hf1 := HD4.out.s.frozen
          rcases n with _ | n
          · have HF' := Lib.hid (HF.out.1 rfl)
            clear HF
            go_wp2
            go_ret
            exact ValPost.none HF'.out (HD4.out.set (m := m))
          · have HF' := Lib.hid (HF.out.2 (Nat.succ_pos _))
            clear HF
            go_wp2
            go_ret
            exact ValPost.some HF'.out HD4.out.set
        · have e1 := (iaV_all hall).1
          have e2 := (iaV_all hall).2
          rw [hn] at e2
          rw [e1] at hia
          clear e1 hall hn hfar hno
          subst e2
          go_wp2_with (fail)
          refine (hia _).mono ?_
          rintro e w4 ⟨rfl, hd4⟩
          have HD4 := Lib.hid (hD.out.mod0 hd4)
          clear hd4 hc1
          have hc1 := HD4.out.s.cell
          have hf1 := HD4.out.s.frozen
          have hdl : m.drop m.length = [] := List.drop_length
          rw [hdl] at HF
          have hfin : Hid (Did w (w4.setCell ⟨g, 0, none⟩ (.string ByteArray.empty)) g []) := Lib.hid (HD4.out.set (m := []))
          clear hdl t1
          by_cases hz : 0 < m.length
          · go_wp2
            go_ret
            exact ValPost.some (HF.out.2 hz) hfin.out
          · go_wp2
            go_ret
            exact ValPost.none (HF.out.1 (by omega)) hfin.out
end Go.Proofs.YtkmidilaabgooaaDoor
