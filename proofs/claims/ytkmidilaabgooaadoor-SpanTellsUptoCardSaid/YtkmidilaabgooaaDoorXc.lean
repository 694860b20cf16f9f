/-
  The document's value.
-/
import Derived.Test.YtkmidilaabgooaaDoorXb
namespace Go.Proofs.YtkmidilaabgooaaDoor
open Go.RowKit Mem
set_option linter.unusedVariables false
set_option linter.unusedSimpArgs false

/-- What the document's value tells. -/
def valI (l : Bs) (i : Nat) : Int := match valF (l.drop i) with
  | none => -1
  | some r => ((l.length - r.length : Nat) : Int)
theorem valI_some {l : Bs} {i K : Nat} (h : valF (l.drop i) = some (l.drop K)) (hK : K ≤ l.length) : valI l i = (K : Int) := by
  unfold valI
  rw [h]
  dsimp only
  rw [List.length_drop]
  omega
theorem valI_none {l : Bs} {i : Nat} (h : valF (l.drop i) = none) : valI l i = -1 := by unfold valI; rw [h]
theorem badV_iff (c : UInt8) : badV c = bads.contains c := bads_eq c
theorem cut_step {d c : UInt8} {r : Bs} (h : (c == d) = false) : (cut d (c :: r)).map (·.2) = (cut d r).map (·.2) := by
  show (if c == d then _ else (cut d r).map _).map _ = _
  rw [h, if_neg (by decide), Option.map_map]
  cases cut d r <;> rfl
theorem cut_hit {d : UInt8} {r : Bs} : (cut d (d :: r)).map (·.2) = some r := by
  show (if d == d then _ else _ : Option (Bs × Bs)).map _ = _
  rw [if_pos (by simp)]
  rfl
set_option maxRecDepth 100000 in
set_option maxHeartbeats 2000000 in
theorem rvalue_any (l : Bs) (i : Nat) (w : World) (hi : i ≤ l.length) (hl : l.length ≤ 4294967280) : Calls Tryd.prog 44 #[.string (sv l), .int .i64 (i : Int)] w fun e w' => e = .returned (.int .i64 (valI l i)) ∧ w = w' := by
  have hsz := sv_size l
  obtain ⟨k1, hk1, hik1, hk1l⟩ := suf_at hi (gap_suffix (l.drop i))
  have g1 := fun w => rgap_any l i k1 w hik1 hk1l hl hk1
  by_cases hlt : k1 < l.length
  · have q1 : (k1 : Int) < (l.length : Int) := by omega
    have q1' : ((k1 : Int) == (l.length : Int)) = false := beq_eq_false_iff_ne.2 (by omega)
    obtain ⟨b, hb⟩ : ∃ b, l[k1] = b := ⟨_, rfl⟩
    have hget1 : ∀ h, (sv l)[k1]'h = b := fun _ => hb
    have hd1 := drop_at hlt hb
    rcases e1 : ((b.toNat : Int) == 61) with _ | _
    · have HR : Hid (valI l i = (i : Int)) := Lib.hid (valI_some (val_no (by
        rw [hk1, hd1, pre_cons, beq_eq_false_iff_ne]
        rintro rfl; cases e1)) hi)
      have e1' : ((b.toNat : Int) != 61) = true := by rw [bne, e1]; rfl
      clear hb hd1 hk1 e1
      go_enter Tryd.func44, Tryd.ntmps44
      go_wp2_with (fail)
      refine (g1 _).mono ?_
      rintro e w' ⟨rfl, rfl⟩
      go_wp2
      go_ret
      exact ⟨ret_int (by rw [HR.out]), rfl⟩
    · have hb61 : b = 61 := UInt8.toNat_inj.1 (by rw [beq_iff_eq] at e1; show b.toNat = 61; omega)
      have e1' : ((b.toNat : Int) != 61) = false := by rw [bne, e1]; rfl
      obtain ⟨k2, hk2, hik2, hk2l⟩ := suf_at (show k1 + 1 ≤ l.length by omega) (gap_suffix (l.drop (k1 + 1)))
      have g2 := fun w => rgap_any l (k1 + 1) k2 w hik2 hk2l hl hk2
      have g2' : ∀ w, Calls Tryd.prog 43 #[.string (sv l), .int .i64 ((k1 : Int) + 1)] w fun e w' => e = .returned (.int .i64 (k2 : Nat)) ∧ w = w' := fun w => by
        have := g2 w
        rw [show (((k1 + 1 : Nat)) : Int) = (k1 : Int) + 1 from by omega] at this
        exact this
      have HV : Hid (valF (l.drop i) = valR (l.drop k2)) := Lib.hid (by rw [val_yes (show gapF (l.drop i) = 61 :: l.drop (k1 + 1) by rw [hk1, hd1, hb61]), hk2])
      clear hb hd1 hk1 e1 hk2 g2 hb61
      by_cases hlt2 : k2 < l.length
      · have q2 : (k2 : Int) < (l.length : Int) := by omega
        have q2' : ((k2 : Int) == (l.length : Int)) = false := beq_eq_false_iff_ne.2 (by omega)
        obtain ⟨d, hd⟩ : ∃ d, l[k2] = d := ⟨_, rfl⟩
        have hget2 : ∀ h, (sv l)[k2]'h = d := fun _ => hd
        have hd2 := drop_at hlt2 hd
        have quote : (d = 39 ∨ d = 34) → ((((d.toNat : Int) == 39) = true) ∨ (((d.toNat : Int) == 39) = false ∧ ((d.toNat : Int) == 34) = true)) → Calls Tryd.prog 44 #[.string (sv l), .int .i64 (i : Int)] w fun e w' => e = .returned (.int .i64 (valI l i)) ∧ w = w' := by
          intro hq he
          have HC : Hid (valF (l.drop i) = (cut d (l.drop (k2 + 1))).map (·.2)) := Lib.hid (by rw [HV.out, hd2, valR_q hq])
          clear hd2 hd HV hq
          rcases he with he | ⟨he, he2⟩
          all_goals
            go_enter Tryd.func44, Tryd.ntmps44
            go_wp2_with (fail)
            refine (g1 _).mono ?_
            rintro e w' ⟨rfl, rfl⟩
            go_wp2_with (fail)
            refine (g2' _).mono ?_
            rintro e w' ⟨rfl, rfl⟩
            go_wp2
            go_loop [5] (fun v => ∃ k : Nat, v = .int .i64 k ∧ k2 + 1 ≤ k ∧ k ≤ l.length ∧ Hid (valF (l.drop i) = (cut d (l.drop k)).map (·.2))) (fun v => l.length - (intOf v).toNat)
            case atStart => exact ⟨k2 + 1, by go_num, Nat.le_refl _, by omega, HC⟩
            case round =>
              obtain ⟨k, rfl, hkk, hk, hC⟩ := hrel
              clear g1 g2' hget1 hget2
              by_cases hlt3 : k < l.length
              · have q3 : (k : Int) < (l.length : Int) := by omega
                have q3' : ((k : Int) == (l.length : Int)) = false := beq_eq_false_iff_ne.2 (by omega)
                obtain ⟨c, hc⟩ : ∃ c, l[k] = c := ⟨_, rfl⟩
                have hget3 : ∀ h, (sv l)[k]'h = c := fun _ => hc
                have hdk := drop_at hlt3 hc
                rcases e5 : ((c.toNat : Int) == (d.toNat : Int)) with _ | _
                · have H : Hid (valF (l.drop i) = (cut d (l.drop (k + 1))).map (·.2)) := Lib.hid (by
                    rw [hC.out, hdk, cut_step (by rw [← beq_int]; exact e5)])
                  have e5' : ((c.toNat : Int) != (d.toNat : Int)) = true := by rw [bne, e5]; rfl
                  clear hC hc hdk e5
                  go_wp2
                  go_round
                  case rel => exact ⟨k + 1, by go_num, by omega, by omega, H⟩
                  case measure => simp [intOf]; omega
                · have hcd : c = d := by have := beq_int c d; rw [e5] at this; exact beq_iff_eq.1 this.symm
                  have H : Hid (valI l i = ((k + 1 : Nat) : Int)) := Lib.hid (valI_some (by rw [hC.out, hdk, hcd, cut_hit]) (by omega))
                  have e5' : ((c.toNat : Int) != (d.toNat : Int)) = false := by rw [bne, e5]; rfl
                  clear hC hc hdk e5 hcd
                  go_wp2
                  go_ret
                  exact ⟨ret_int (by rw [H.out]; omega), rfl⟩
              · have hke : k = l.length := by omega
                have H : Hid (valI l i = -1) := Lib.hid (valI_none (by rw [hC.out, hke, List.drop_length]; rfl))
                clear hC
                subst hke
                go_wp2
                go_ret
                exact ⟨ret_int (by rw [H.out]), rfl⟩
        rcases e3 : ((d.toNat : Int) == 39) with _ | _
        · rcases e4 : ((d.toNat : Int) == 34) with _ | _
          · have hn39 : ([39] : Bs).isPrefixOf (l.drop k2) = false := by rw [hd2, pre_cons, beq_eq_false_iff_ne]; rintro rfl; cases e3
            have hn34 : ([34] : Bs).isPrefixOf (l.drop k2) = false := by rw [hd2, pre_cons, beq_eq_false_iff_ne]; rintro rfl; cases e4
            have hfar := valR_far hn39 hn34
            obtain ⟨K, hKd, hKk, hKl⟩ := suf_at hk2l (dw_suffix (fun x => !badV x) (l.drop k2))
            have htw := dw_drop (fun x => !badV x) (l.drop k2)
            rw [hKd, List.drop_drop] at htw
            have htl : ((l.drop k2).takeWhile (fun x => !badV x)).length ≤ (l.drop k2).length := (List.takeWhile_prefix _).length_le
            have hK2 : K = k2 + ((l.drop k2).takeWhile (fun x => !badV x)).length := drop_inj hKl (by rw [List.length_drop] at htl; omega) htw
            have HR : Hid (valI l i = if K = k2 then -1 else (K : Int)) := Lib.hid (by
              by_cases hz : ((l.drop k2).takeWhile (fun x => !badV x)).length = 0
              · rw [if_pos (by omega)]
                exact valI_none (by rw [HV.out, hfar, if_pos hz])
              · rw [if_neg (by omega)]
                exact valI_some (by rw [HV.out, hfar, if_neg hz, List.drop_drop, ← hK2]) hKl)
            have HK := Lib.hid hKd
            clear quote hn39 hn34 hfar hKd htw htl hK2 hd2 hd HV
            go_enter Tryd.func44, Tryd.ntmps44
            go_wp2_with (fail)
            refine (g1 _).mono ?_
            rintro e w' ⟨rfl, rfl⟩
            go_wp2_with (fail)
            refine (g2' _).mono ?_
            rintro e w' ⟨rfl, rfl⟩
            go_wp2
            go_loop [5] (fun v => ∃ k : Nat, v = .int .i64 k ∧ k2 ≤ k ∧ k ≤ l.length ∧ Hid ((l.drop k2).dropWhile (fun x => !badV x) = (l.drop k).dropWhile (fun x => !badV x))) (fun v => l.length - (intOf v).toNat)
            case atStart => exact ⟨k2, rfl, Nat.le_refl _, hk2l, Lib.hid rfl⟩
            case round =>
              obtain ⟨k, rfl, hkk, hk, hC⟩ := hrel
              clear g1 g2' hget1 hget2
              have hend : K = k → Hid (valI l i = if k = k2 then -1 else (k : Int)) := fun h => Lib.hid (by rw [HR.out, h])
              have q6 : ((k : Int) == (k2 : Int)) = decide (k = k2) := by rw [Bool.eq_iff_iff]; simp; omega
              by_cases hlt3 : k < l.length
              · have q3 : (k : Int) < (l.length : Int) := by omega
                obtain ⟨c, hc⟩ : ∃ c, l[k] = c := ⟨_, rfl⟩
                have hget3 : ∀ h, (sv l)[k]'h = c := fun _ => hc
                have hdk := drop_at hlt3 hc
                rcases hB : badV c with _ | _
                · have H : Hid ((l.drop k2).dropWhile (fun x => !badV x) = (l.drop (k + 1)).dropWhile (fun x => !badV x)) := Lib.hid (by
                    rw [hC.out, hdk, List.dropWhile_cons, if_pos (by rw [hB]; rfl)])
                  have h1 := fun w => among_b (c := c) (o := bads) (B := false) ((badV_iff c).symm.trans hB) (by decide) w
                  clear hC hc hdk hB hend
                  go_wp2_with (fail)
                  refine (h1 _).mono ?_
                  rintro e w' ⟨rfl, rfl⟩
                  go_wp2
                  go_round
                  case rel => exact ⟨k + 1, by go_num, by omega, by omega, H⟩
                  case measure => simp [intOf]; omega
                · have H := hend (drop_inj hKl hk (by rw [← HK.out, hC.out, hdk, List.dropWhile_cons, if_neg (by rw [hB]; decide)]))
                  have h1 := fun w => among_b (c := c) (o := bads) (B := true) ((badV_iff c).symm.trans hB) (by decide) w
                  clear hC hc hdk hB hend
                  by_cases hkk2 : k = k2
                  · have H2 : Hid (valI l i = -1) := Lib.hid (by rw [H.out, if_pos hkk2])
                    rw [decide_eq_true hkk2] at q6
                    clear hkk2
                    go_wp2_with (fail)
                    refine (h1 _).mono ?_
                    rintro e w' ⟨rfl, rfl⟩
                    go_wp2
                    go_ret
                    exact ⟨ret_int (by rw [H2.out]), rfl⟩
                  · have H2 : Hid (valI l i = (k : Int)) := Lib.hid (by rw [H.out, if_neg hkk2])
                    rw [decide_eq_false hkk2] at q6
                    clear hkk2
                    go_wp2_with (fail)
                    refine (h1 _).mono ?_
                    rintro e w' ⟨rfl, rfl⟩
                    go_wp2
                    go_ret
                    exact ⟨ret_int (by rw [H2.out]), rfl⟩
              · have hke : k = l.length := by omega
                have H := hend (drop_inj hKl hk (by
                  have hd : l.drop k = [] := List.drop_eq_nil_of_le (by omega)
                  rw [← HK.out, hC.out, hd]; rfl))
                have hkk2 : ¬ k = k2 := by omega
                have H2 : Hid (valI l i = (k : Int)) := Lib.hid (by rw [H.out, if_neg hkk2])
                rw [decide_eq_false hkk2] at q6
                clear hC hend hkk2
                go_wp2
                go_ret
                exact ⟨ret_int (by rw [H2.out]; omega), rfl⟩
          · exact quote (.inr (UInt8.toNat_inj.1 (by rw [beq_iff_eq] at e4; show d.toNat = 34; omega))) (.inr ⟨e3, e4⟩)
        · exact quote (.inl (UInt8.toNat_inj.1 (by rw [beq_iff_eq] at e3; show d.toNat = 39; omega))) (.inl e3)
      · have hke : k2 = l.length := by omega
        have HR : Hid (valI l i = -1) := Lib.hid (valI_none (by rw [HV.out, hke, List.drop_length]; rfl))
        have q2' : ((k2 : Int) == (l.length : Int)) = true := by rw [beq_iff_eq]; omega
        clear HV hlt2 hke
        go_enter Tryd.func44, Tryd.ntmps44
        go_wp2_with (fail)
        refine (g1 _).mono ?_
        rintro e w' ⟨rfl, rfl⟩
        go_wp2_with (fail)
        refine (g2' _).mono ?_
        rintro e w' ⟨rfl, rfl⟩
        go_wp2
        go_ret
        exact ⟨ret_int (by rw [HR.out]), rfl⟩
  · have hke : k1 = l.length := by omega
    have HR : Hid (valI l i = (i : Int)) := Lib.hid (valI_some (val_no (by rw [hk1, hke, List.drop_length]; rfl)) hi)
    have q2' : ((k1 : Int) == (l.length : Int)) = true := by rw [beq_iff_eq]; omega
    clear hlt hke hk1
    go_enter Tryd.func44, Tryd.ntmps44
    go_wp2_with (fail)
    refine (g1 _).mono ?_
    rintro e w' ⟨rfl, rfl⟩
    go_wp2
    go_ret
    exact ⟨ret_int (by rw [HR.out]), rfl⟩
theorem rvalue_n {l : Bs} {i : Nat} {n : Int} (h : valI l i = n) (hi : i ≤ l.length) (hl : l.length ≤ 4294967280) (w : World) : Calls Tryd.prog 44 #[.string (sv l), .int .i64 (i : Int)] w fun e w' => e = .returned (.int .i64 n) ∧ w = w' := by subst h; exact rvalue_any l i w hi hl
end Go.Proofs.YtkmidilaabgooaaDoor
