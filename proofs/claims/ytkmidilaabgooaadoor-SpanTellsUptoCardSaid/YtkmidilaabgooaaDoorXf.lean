/-
  The document's Raw.
-/
import Derived.Test.YtkmidilaabgooaaDoorXe
namespace Go.Proofs.YtkmidilaabgooaaDoor
open Go.RowKit Mem
set_option linter.unusedVariables false
set_option linter.unusedSimpArgs false

theorem begins_n {l t : Bs} {B : Bool} (hB : t.isPrefixOf l = B) (hl : l.length ≤ 4294967280) (ht : t.length ≤ 1000) (w : World) : Calls Tryd.prog 46 #[.string (sv l), .string (sv t)] w fun e w' => e = .returned (.bool B) ∧ w = w' := begins_any l t B w hB hl ht
theorem rtag_n {l : Bs} {n : Nat} (h : tagN l = n) (hl : l.length ≤ 4294967280) (w : World) : Calls Tryd.prog 15 #[.string (sv l)] w fun e w' => e = .returned (.int .i64 (n : Nat)) ∧ w = w' := by subst h; exact rtag_any l w hl
theorem upto_n {l e : Bs} {i n : Nat} (h : took l (uptoF e (l.drop i)) = n) (hi : i ≤ l.length) (he : 0 < e.length) (he2 : e.length ≤ 1000) (hl : l.length ≤ 4294967280) (w : World) : Calls Tryd.prog 47 #[.string (sv l), .int .i64 (i : Int), .string (sv e)] w fun x w' => x = .returned (.int .i64 n) ∧ w = w' := by subst h; exact upto_any l e i w hi he he2 hl
theorem rawN_from {l : Bs} {r : Option Bs} (h0 : tagN l = 0) (h : rawK l = r) : rawN l = took l r := by
  unfold rawN; rw [raw_of_not_tag (tagN_zero h0), h]
theorem ltr1_two {l : Bs} {c : UInt8} (h : 2 < l.length) (hc : l[2] = c) : ltr1 (l.drop 2) = ltr c := by
  rw [drop_at h hc]
  show isB true false [] c = ltr c
  unfold isB; simp
theorem ltr1_short {l : Bs} (h : ¬ 2 < l.length) : ltr1 (l.drop 2) = false := by
  rw [List.drop_eq_nil_of_le (by omega)]; rfl
theorem pre_two {l : Bs} {a b : UInt8} (h : 2 < l.length) (ha : l[0] = a) (hb : l[1] = b) : ([60, 33] : Bs).isPrefixOf l = (((a.toNat : Int) == 60) && ((b.toNat : Int) == 33)) := by
  have h0 := drop_at (l := l) (k := 0) (by omega) ha
  have h1 := drop_at (l := l) (k := 0 + 1) (by omega) hb
  rw [List.drop_zero] at h0
  rw [h1] at h0
  rw [h0]
  have e1 := beq_int a 60
  have e2 := beq_int b 33
  have n1 : (((60 : UInt8).toNat : Nat) : Int) = 60 := rfl
  have n2 : (((33 : UInt8).toNat : Nat) : Int) = 33 := rfl
  rw [n1] at e1; rw [n2] at e2
  rw [e1, e2]
  show ((60 == a) && ((33 == b) && ([] : Bs).isPrefixOf _)) = _
  rw [show ([] : Bs).isPrefixOf (List.drop (0 + 1 + 1) l) = true from rfl, Bool.and_true]
  congr 1
  · rw [Bool.eq_iff_iff, beq_iff_eq, beq_iff_eq]; exact ⟨fun h => h.symm, fun h => h.symm⟩
  · rw [Bool.eq_iff_iff, beq_iff_eq, beq_iff_eq]; exact ⟨fun h => h.symm, fun h => h.symm⟩
theorem upto_three {l : Bs} (h : ltr1 (l.drop 2) = true) : uptoF [62] (l.drop 2) = uptoF [62] (l.drop 3) ∧ 3 ≤ l.length := by
  by_cases hl : 2 < l.length
  · refine ⟨upto_step hl ?_, hl⟩
    rw [drop_at hl rfl] at h ⊢
    rw [pre_cons, beq_eq_false_iff_ne]
    intro e
    rw [← e] at h
    exact absurd (show isB true false [] 62 = true from h) (by decide)
  · rw [ltr1_short hl] at h; cases h
set_option maxRecDepth 100000 in
set_option maxHeartbeats 4000000 in
theorem rraw_any (l : Bs) (w : World) (hl : l.length ≤ 4294967280) : Calls Tryd.prog 17 #[.string (sv l)] w fun e w' => e = .returned (.int .i64 (rawN l : Nat)) ∧ w = w' := by
  have hsz := sv_size l
  obtain ⟨n, hn⟩ : ∃ n, tagN l = n := ⟨_, rfl⟩
  have hT := fun w => rtag_n hn hl w
  by_cases hn0 : n = 0
  · obtain ⟨A, hA⟩ : ∃ A, ([60, 33, 45, 45, 62] : Bs).isPrefixOf l = A := ⟨_, rfl⟩
    obtain ⟨B, hB⟩ : ∃ B, ([60, 33, 45, 45, 45, 62] : Bs).isPrefixOf l = B := ⟨_, rfl⟩
    obtain ⟨C, hC⟩ : ∃ C, ([60, 33, 45, 45] : Bs).isPrefixOf l = C := ⟨_, rfl⟩
    obtain ⟨D, hD⟩ : ∃ D, ([60, 63] : Bs).isPrefixOf l = D := ⟨_, rfl⟩
    obtain ⟨E, hE⟩ : ∃ E, ([60, 33, 91, 67, 68, 65, 84, 65, 91] : Bs).isPrefixOf l = E := ⟨_, rfl⟩
    have cA := fun w => begins_n hA hl (by decide) w
    have cB := fun w => begins_n hB hl (by decide) w
    have cC := fun w => begins_n hC hl (by decide) w
    have cD := fun w => begins_n hD hl (by decide) w
    have cE := fun w => begins_n hE hl (by decide) w
    have q0 : ¬ ((n : Nat) : Int) > 0 := by omega
    have pl : ∀ {t : Bs}, t.isPrefixOf l = true → t.length ≤ l.length := fun h => (List.isPrefixOf_iff_prefix.1 h).length_le
    have HK : ∀ r, rawK l = r → Hid (rawN l = took l r) := fun r h => Lib.hid (rawN_from (hn.trans hn0) h)
    have n4 : ((4 : Nat) : Int) = 4 := rfl
    have n2 : ((2 : Nat) : Int) = 2 := rfl
    have n9 : ((9 : Nat) : Int) = 9 := rfl
    have n3 : ((3 : Nat) : Int) = 3 := rfl
    clear hn hn0
    cases A with
    | true =>
      have hk := HK _ (show rawK l = some (l.drop 5) by unfold rawK; rw [if_pos hA])
      have HR : Hid (rawN l = 5) := Lib.hid (by
        have h5 := pl hA
        rw [hk.out]; show l.length - (l.drop 5).length = 5
        rw [List.length_drop]; simp at h5; omega)
      clear HK hA hB hC hD hE hk pl
      go_enter Tryd.func17, Tryd.ntmps17
      go_wp2_with (fail)
      refine (hT _).mono ?_
      rintro e w' ⟨rfl, rfl⟩
      go_wp2_with (fail)
      refine (cA _).mono ?_
      rintro e w' ⟨rfl, rfl⟩
      go_wp2_with (fail)
      refine (cB _).mono ?_
      rintro e w' ⟨rfl, rfl⟩
      go_wp2_with (fail)
      refine (cC _).mono ?_
      rintro e w' ⟨rfl, rfl⟩
      go_wp2_with (fail)
      refine (cD _).mono ?_
      rintro e w' ⟨rfl, rfl⟩
      go_wp2_with (fail)
      refine (cE _).mono ?_
      rintro e w' ⟨rfl, rfl⟩
      go_wp2
      go_ret
      exact ⟨ret_int (by rw [HR.out]; rfl), rfl⟩
    | false =>
    cases B with
    | true =>
      have hk := HK _ (show rawK l = some (l.drop 6) by unfold rawK; rw [if_neg (by rw [hA]; decide), if_pos hB])
      have HR : Hid (rawN l = 6) := Lib.hid (by
        have h5 := pl hB
        rw [hk.out]; show l.length - (l.drop 6).length = 6
        rw [List.length_drop]; simp at h5; omega)
      clear HK hA hB hC hD hE hk pl
      go_enter Tryd.func17, Tryd.ntmps17
      go_wp2_with (fail)
      refine (hT _).mono ?_
      rintro e w' ⟨rfl, rfl⟩
      go_wp2_with (fail)
      refine (cA _).mono ?_
      rintro e w' ⟨rfl, rfl⟩
      go_wp2_with (fail)
      refine (cB _).mono ?_
      rintro e w' ⟨rfl, rfl⟩
      go_wp2_with (fail)
      refine (cC _).mono ?_
      rintro e w' ⟨rfl, rfl⟩
      go_wp2_with (fail)
      refine (cD _).mono ?_
      rintro e w' ⟨rfl, rfl⟩
      go_wp2_with (fail)
      refine (cE _).mono ?_
      rintro e w' ⟨rfl, rfl⟩
      go_wp2
      go_ret
      exact ⟨ret_int (by rw [HR.out]; rfl), rfl⟩
    | false =>
    cases C with
    | true =>
      have hk := HK _ (show rawK l = uptoF [45, 45, 62] (l.drop 4) by unfold rawK; rw [if_neg (by rw [hA]; decide), if_neg (by rw [hB]; decide), if_pos hC])
      have h5 := pl hC
      have hU := fun w => upto_n (l := l) (e := [45, 45, 62]) (i := 4) hk.out.symm (by simp at h5; omega) (by decide) (by decide) hl w
      rw [n4] at hU
      clear HK hA hB hC hD hE hk pl h5
      go_enter Tryd.func17, Tryd.ntmps17
      go_wp2_with (fail)
      refine (hT _).mono ?_
      rintro e w' ⟨rfl, rfl⟩
      go_wp2_with (fail)
      refine (cA _).mono ?_
      rintro e w' ⟨rfl, rfl⟩
      go_wp2_with (fail)
      refine (cB _).mono ?_
      rintro e w' ⟨rfl, rfl⟩
      go_wp2_with (fail)
      refine (cC _).mono ?_
      rintro e w' ⟨rfl, rfl⟩
      go_wp2_with (fail)
      refine (cD _).mono ?_
      rintro e w' ⟨rfl, rfl⟩
      go_wp2_with (fail)
      refine (cE _).mono ?_
      rintro e w' ⟨rfl, rfl⟩
      go_wp2_with (fail)
      refine (hU _).mono ?_
      rintro e w' ⟨rfl, rfl⟩
      go_wp2
      go_ret
      exact ⟨rfl, rfl⟩
    | false =>
    cases D with
    | true =>
      have hk := HK _ (show rawK l = uptoF [63, 62] (l.drop 2) by unfold rawK; rw [if_neg (by rw [hA]; decide), if_neg (by rw [hB]; decide), if_neg (by rw [hC]; decide), if_pos hD])
      have h5 := pl hD
      have hU := fun w => upto_n (l := l) (e := [63, 62]) (i := 2) hk.out.symm (by simp at h5; omega) (by decide) (by decide) hl w
      rw [n2] at hU
      clear HK hA hB hC hD hE hk pl h5
      go_enter Tryd.func17, Tryd.ntmps17
      go_wp2_with (fail)
      refine (hT _).mono ?_
      rintro e w' ⟨rfl, rfl⟩
      go_wp2_with (fail)
      refine (cA _).mono ?_
      rintro e w' ⟨rfl, rfl⟩
      go_wp2_with (fail)
      refine (cB _).mono ?_
      rintro e w' ⟨rfl, rfl⟩
      go_wp2_with (fail)
      refine (cC _).mono ?_
      rintro e w' ⟨rfl, rfl⟩
      go_wp2_with (fail)
      refine (cD _).mono ?_
      rintro e w' ⟨rfl, rfl⟩
      go_wp2_with (fail)
      refine (cE _).mono ?_
      rintro e w' ⟨rfl, rfl⟩
      go_wp2_with (fail)
      refine (hU _).mono ?_
      rintro e w' ⟨rfl, rfl⟩
      go_wp2
      go_ret
      exact ⟨rfl, rfl⟩
    | false =>
    cases E with
    | true =>
      have hk := HK _ (show rawK l = uptoF [93, 93, 62] (l.drop 9) by unfold rawK; rw [if_neg (by rw [hA]; decide), if_neg (by rw [hB]; decide), if_neg (by rw [hC]; decide), if_neg (by rw [hD]; decide), if_pos hE])
      have h5 := pl hE
      have hU := fun w => upto_n (l := l) (e := [93, 93, 62]) (i := 9) hk.out.symm (by simp at h5; omega) (by decide) (by decide) hl w
      rw [n9] at hU
      clear HK hA hB hC hD hE hk pl h5
      go_enter Tryd.func17, Tryd.ntmps17
      go_wp2_with (fail)
      refine (hT _).mono ?_
      rintro e w' ⟨rfl, rfl⟩
      go_wp2_with (fail)
      refine (cA _).mono ?_
      rintro e w' ⟨rfl, rfl⟩
      go_wp2_with (fail)
      refine (cB _).mono ?_
      rintro e w' ⟨rfl, rfl⟩
      go_wp2_with (fail)
      refine (cC _).mono ?_
      rintro e w' ⟨rfl, rfl⟩
      go_wp2_with (fail)
      refine (cD _).mono ?_
      rintro e w' ⟨rfl, rfl⟩
      go_wp2_with (fail)
      refine (cE _).mono ?_
      rintro e w' ⟨rfl, rfl⟩
      go_wp2_with (fail)
      refine (hU _).mono ?_
      rintro e w' ⟨rfl, rfl⟩
      go_wp2
      go_ret
      exact ⟨rfl, rfl⟩
    | false =>
    have hk := HK _ (show rawK l = (if ([60, 33] : Bs).isPrefixOf l && ltr1 (l.drop 2) then uptoF [62] (l.drop 2) else none) by unfold rawK; rw [if_neg (by rw [hA]; decide), if_neg (by rw [hB]; decide), if_neg (by rw [hC]; decide), if_neg (by rw [hD]; decide), if_neg (by rw [hE]; decide)])
    clear HK hA hB hC hD hE pl
    by_cases h2 : 2 < l.length
    · have z0 : ((l.length : Nat) : Int) > 2 := by omega
      obtain ⟨a, ha⟩ : ∃ a, l[0] = a := ⟨_, rfl⟩
      have hga : ∀ h, (sv l)[0]'h = a := fun _ => ha
      obtain ⟨b, hb⟩ : ∃ b, l[1] = b := ⟨_, rfl⟩
      have hgb : ∀ h, (sv l)[1]'h = b := fun _ => hb
      obtain ⟨c, hc⟩ : ∃ c, l[2] = c := ⟨_, rfl⟩
      have hgc : ∀ h, (sv l)[2]'h = c := fun _ => hc
      have hl3 := ltr1_two h2 hc
      have hp := pre_two h2 ha hb
      clear ha hb hc
      rcases e1 : ((a.toNat : Int) == 60) with _ | _
      · have HR : Hid (rawN l = 0) := Lib.hid (by rw [hk.out, hp, e1]; rfl)
        clear hk hp hl3
        go_enter Tryd.func17, Tryd.ntmps17
        go_wp2_with (fail)
        refine (hT _).mono ?_
        rintro e w' ⟨rfl, rfl⟩
        go_wp2_with (fail)
        refine (cA _).mono ?_
        rintro e w' ⟨rfl, rfl⟩
        go_wp2_with (fail)
        refine (cB _).mono ?_
        rintro e w' ⟨rfl, rfl⟩
        go_wp2_with (fail)
        refine (cC _).mono ?_
        rintro e w' ⟨rfl, rfl⟩
        go_wp2_with (fail)
        refine (cD _).mono ?_
        rintro e w' ⟨rfl, rfl⟩
        go_wp2_with (fail)
        refine (cE _).mono ?_
        rintro e w' ⟨rfl, rfl⟩
        go_wp2
        go_ret
        exact ⟨ret_int (by rw [HR.out]; rfl), rfl⟩
      · rcases e2 : ((b.toNat : Int) == 33) with _ | _
        · have HR : Hid (rawN l = 0) := Lib.hid (by rw [hk.out, hp, e1, e2]; rfl)
          clear hk hp hl3
          go_enter Tryd.func17, Tryd.ntmps17
          go_wp2_with (fail)
          refine (hT _).mono ?_
          rintro e w' ⟨rfl, rfl⟩
          go_wp2_with (fail)
          refine (cA _).mono ?_
          rintro e w' ⟨rfl, rfl⟩
          go_wp2_with (fail)
          refine (cB _).mono ?_
          rintro e w' ⟨rfl, rfl⟩
          go_wp2_with (fail)
          refine (cC _).mono ?_
          rintro e w' ⟨rfl, rfl⟩
          go_wp2_with (fail)
          refine (cD _).mono ?_
          rintro e w' ⟨rfl, rfl⟩
          go_wp2_with (fail)
          refine (cE _).mono ?_
          rintro e w' ⟨rfl, rfl⟩
          go_wp2
          go_ret
          exact ⟨ret_int (by rw [HR.out]; rfl), rfl⟩
        · rcases hL : ltr c with _ | _
          · have HR : Hid (rawN l = 0) := Lib.hid (by rw [hk.out, hl3, hL, Bool.and_false]; rfl)
            have hcl := fun w => letter_b hL w
            clear hk hp hl3
            go_enter Tryd.func17, Tryd.ntmps17
            go_wp2_with (fail)
            refine (hT _).mono ?_
            rintro e w' ⟨rfl, rfl⟩
            go_wp2_with (fail)
            refine (cA _).mono ?_
            rintro e w' ⟨rfl, rfl⟩
            go_wp2_with (fail)
            refine (cB _).mono ?_
            rintro e w' ⟨rfl, rfl⟩
            go_wp2_with (fail)
            refine (cC _).mono ?_
            rintro e w' ⟨rfl, rfl⟩
            go_wp2_with (fail)
            refine (cD _).mono ?_
            rintro e w' ⟨rfl, rfl⟩
            go_wp2_with (fail)
            refine (cE _).mono ?_
            rintro e w' ⟨rfl, rfl⟩
            go_wp2_with (fail)
            refine (hcl _).mono ?_
            rintro e w' ⟨rfl, rfl⟩
            go_wp2
            go_ret
            exact ⟨ret_int (by rw [HR.out]; rfl), rfl⟩
          · have h3 := upto_three (hl3.trans hL)
            have HR : Hid (rawN l = took l (uptoF [62] (l.drop 3))) := Lib.hid (by rw [hk.out, hp, e1, e2, hl3, hL, ← h3.1]; rfl)
            have hU := fun w => upto_n (l := l) (e := [62]) (i := 3) HR.out.symm h3.2 (by decide) (by decide) hl w
            rw [n3] at hU
            have hcl := fun w => letter_b hL w
            clear hk hp hl3 h3
            go_enter Tryd.func17, Tryd.ntmps17
            go_wp2_with (fail)
            refine (hT _).mono ?_
            rintro e w' ⟨rfl, rfl⟩
            go_wp2_with (fail)
            refine (cA _).mono ?_
            rintro e w' ⟨rfl, rfl⟩
            go_wp2_with (fail)
            refine (cB _).mono ?_
            rintro e w' ⟨rfl, rfl⟩
            go_wp2_with (fail)
            refine (cC _).mono ?_
            rintro e w' ⟨rfl, rfl⟩
            go_wp2_with (fail)
            refine (cD _).mono ?_
            rintro e w' ⟨rfl, rfl⟩
            go_wp2_with (fail)
            refine (cE _).mono ?_
            rintro e w' ⟨rfl, rfl⟩
            go_wp2_with (fail)
            refine (hcl _).mono ?_
            rintro e w' ⟨rfl, rfl⟩
            go_wp2_with (fail)
            refine (hU _).mono ?_
            rintro e w' ⟨rfl, rfl⟩
            go_wp2
            go_ret
            exact ⟨rfl, rfl⟩
    · have z0 : ¬ ((l.length : Nat) : Int) > 2 := by omega
      have HR : Hid (rawN l = 0) := Lib.hid (by rw [hk.out, ltr1_short h2, Bool.and_false]; rfl)
      clear hk
      go_enter Tryd.func17, Tryd.ntmps17
      go_wp2_with (fail)
      refine (hT _).mono ?_
      rintro e w' ⟨rfl, rfl⟩
      go_wp2_with (fail)
      refine (cA _).mono ?_
      rintro e w' ⟨rfl, rfl⟩
      go_wp2_with (fail)
      refine (cB _).mono ?_
      rintro e w' ⟨rfl, rfl⟩
      go_wp2_with (fail)
      refine (cC _).mono ?_
      rintro e w' ⟨rfl, rfl⟩
      go_wp2_with (fail)
      refine (cD _).mono ?_
      rintro e w' ⟨rfl, rfl⟩
      go_wp2_with (fail)
      refine (cE _).mono ?_
      rintro e w' ⟨rfl, rfl⟩
      go_wp2
      go_ret
      exact ⟨ret_int (by rw [HR.out]; rfl), rfl⟩
  · have HR : Hid (rawN l = n) := Lib.hid (by rw [rawN_tag (by rw [hn]; exact hn0), hn])
    have q0 : ((n : Nat) : Int) > 0 := by omega
    clear hn
    go_enter Tryd.func17, Tryd.ntmps17
    go_wp2_with (fail)
    refine (hT _).mono ?_
    rintro e w' ⟨rfl, rfl⟩
    go_wp2
    go_ret
    exact ⟨ret_int (by rw [HR.out]), rfl⟩
end Go.Proofs.YtkmidilaabgooaaDoor
