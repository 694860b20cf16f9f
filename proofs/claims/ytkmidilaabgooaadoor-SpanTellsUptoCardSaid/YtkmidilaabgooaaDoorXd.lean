/-
  The document's Tag.
-/
import Derived.Test.YtkmidilaabgooaaDoorXc
namespace Go.Proofs.YtkmidilaabgooaaDoor
open Go.RowKit Mem
set_option linter.unusedVariables false
set_option linter.unusedSimpArgs false

theorem ieq {c n : UInt8} {b : Bool} (h : ((c.toNat : Int) == (n.toNat : Int)) = b) : (c == n) = b := by rw [← beq_int]; exact h
theorem i47 {c : UInt8} {b : Bool} (h : ((c.toNat : Int) == 47) = b) : (c == 47) = b := ieq (n := 47) h
theorem i62 {c : UInt8} {b : Bool} (h : ((c.toNat : Int) == 62) = b) : (c == 62) = b := ieq (n := 62) h
theorem slash_at (c : UInt8) (r : Bs) : slash (c :: r) = if c == 47 then r else c :: r := rfl
theorem end_at (c : UInt8) (r : Bs) : endF (c :: r) = if c == 62 then some r else none := rfl
theorem tagN_none {l : Bs} (h : tagF l = none) : tagN l = 0 := by unfold tagN; rw [h]; rfl
theorem tagN_some {l : Bs} {k : Nat} (h : tagF l = some (l.drop k)) (hk : k ≤ l.length) : tagN l = k := by
  unfold tagN; rw [h]; show l.length - (l.drop k).length = k; rw [List.length_drop]; omega
theorem tls0 {l : Bs} {K : Nat} (h : ¬ K < l.length) : endF (slash (l.drop K)) = none := by rw [List.drop_eq_nil_of_le (by omega)]; rfl
theorem tle0 {l : Bs} {K : Nat} (h : ¬ K < l.length) : endF (l.drop K) = none := by rw [List.drop_eq_nil_of_le (by omega)]; rfl
theorem tleN {l : Bs} {K : Nat} {x : UInt8} (h : K < l.length) (hx : l[K] = x) (y2 : ((x.toNat : Int) == 62) = false) : endF (l.drop K) = none := by
  rw [drop_at h hx, end_at, i62 y2]; rfl
theorem tleY {l : Bs} {K : Nat} {x : UInt8} (h : K < l.length) (hx : l[K] = x) (y2 : ((x.toNat : Int) == 62) = true) : endF (l.drop K) = some (l.drop (K + 1)) := by
  rw [drop_at h hx, end_at, i62 y2]; rfl
theorem tlxN {l : Bs} {K : Nat} {x : UInt8} (h : K < l.length) (hx : l[K] = x) (y1 : ((x.toNat : Int) == 47) = false) (y2 : ((x.toNat : Int) == 62) = false) : endF (slash (l.drop K)) = none := by
  rw [drop_at h hx, slash_at, i47 y1, if_neg (by decide), end_at, i62 y2]; rfl
theorem tlxY {l : Bs} {K : Nat} {x : UInt8} (h : K < l.length) (hx : l[K] = x) (y1 : ((x.toNat : Int) == 47) = false) (y2 : ((x.toNat : Int) == 62) = true) : endF (slash (l.drop K)) = some (l.drop (K + 1)) := by
  rw [drop_at h hx, slash_at, i47 y1, if_neg (by decide), end_at, i62 y2]; rfl
theorem tls1 {l : Bs} {K : Nat} {x : UInt8} (h : K < l.length) (hx : l[K] = x) (y1 : ((x.toNat : Int) == 47) = true) (h2 : ¬ K + 1 < l.length) : endF (slash (l.drop K)) = none := by
  rw [drop_at h hx, slash_at, i47 y1, if_pos rfl, tle0 h2]
theorem tlzN {l : Bs} {K : Nat} {x z : UInt8} (h : K < l.length) (hx : l[K] = x) (y1 : ((x.toNat : Int) == 47) = true) (h2 : K + 1 < l.length) (hz : l[K + 1] = z) (y2 : ((z.toNat : Int) == 62) = false) : endF (slash (l.drop K)) = none := by
  rw [drop_at h hx, slash_at, i47 y1, if_pos rfl, tleN h2 hz y2]
theorem tlzY {l : Bs} {K : Nat} {x z : UInt8} (h : K < l.length) (hx : l[K] = x) (y1 : ((x.toNat : Int) == 47) = true) (h2 : K + 1 < l.length) (hz : l[K + 1] = z) (y2 : ((z.toNat : Int) == 62) = true) : endF (slash (l.drop K)) = some (l.drop (K + 2)) := by
  rw [drop_at h hx, slash_at, i47 y1, if_pos rfl, tleY h2 hz y2]
theorem name_at {l r : Bs} {i : Nat} (hi : i ≤ l.length) (h : nameF (l.drop i) = some r) : ∃ K, r = l.drop K ∧ i < K ∧ K ≤ l.length ∧ nameI l i = K := by
  obtain ⟨K, hK, hiK, hKl⟩ := suf_at hi (name_suffix h)
  have hne : i ≠ K := by
    rintro rfl
    rw [hK] at h
    unfold nameF at h
    split at h
    · cases h
    · rename_i c r' he
      split at h
      · rename_i hc
        injection h with h
        rw [List.dropWhile_cons, if_pos (nameB_of hc)] at h
        have := (dw_suffix nameB r').length_le
        have h2 := congrArg List.length he
        rw [h] at this
        simp at this h2
        omega
      · cases h
  refine ⟨K, hK, by omega, hKl, ?_⟩
  unfold nameI
  rw [h, hK]
  show l.length - (l.drop K).length = K
  rw [List.length_drop]; omega
theorem nameI_none {l : Bs} {i : Nat} (h : nameF (l.drop i) = none) : nameI l i = i := by unfold nameI; rw [h]
theorem tag_short {l : Bs} (h : l.length < 3) : tagF l = none := by
  match l with
  | [] => rfl
  | [c] =>
    by_cases hc : c = 60
    · subst hc; rfl
    · exact tag_no (by rw [pre_cons, beq_eq_false_iff_ne]; exact fun e => hc e.symm)
  | [c, d] =>
    by_cases hc : c = 60
    · subst hc
      by_cases hd : d = 47
      · subst hd; rfl
      · rw [tag_B (by rw [pre_cons, beq_eq_false_iff_ne]; exact fun e => hd e.symm)]
        have : nameF [d] = if isB true false [] d then some ([d].dropWhile nameB) else none := rfl
        rw [this]
        split
        · rfl
        · rename_i m hm
          split at hm
          · rename_i hc
            injection hm with hm
            rw [List.dropWhile_cons, if_pos (nameB_of hc)] at hm
            subst hm
            have : attrs [] = some [] := attrs_stop0 rfl
            rw [show List.dropWhile nameB [] = [] from rfl, this]; rfl
          · cases hm
    · exact tag_no (by rw [pre_cons, beq_eq_false_iff_ne]; exact fun e => hc e.symm)
  | _ :: _ :: _ :: _ => simp at h; omega
/-- What is left of a tag behind some attributes. -/
def Rest (l : Bs) (i : Nat) : Prop := tagF l = (match attrs (l.drop i) with | none => none | some q => endF (slash (gapF q)))
theorem rest_stop {l : Bs} {i K : Nat} (hi : i ≤ l.length) (hKl : K ≤ l.length) (hR : Rest l i) (hK : gapF (l.drop i) = l.drop K) (h : K = i ∨ ¬ K < l.length ∨ (∃ (c : UInt8) (hh : K < l.length), l[K] = c ∧ isB true false [95, 58] c = false)) : tagF l = endF (slash (l.drop K)) := by
  have ha : attrs (l.drop i) = some (l.drop i) := by
    by_cases hlt : K < l.length
    · have hd := drop_at hlt rfl
      rw [hd] at hK
      refine attrs_stop hK ?_
      rcases h with h | h | ⟨c, hh, h1, h2⟩
      · refine .inl ?_
        unfold gapN
        rw [hK, ← drop_at hlt rfl, h]; omega
      · exact absurd hlt h
      · refine .inr ?_
        rw [h1]; exact h2
    · rw [List.drop_eq_nil_of_le (show l.length ≤ K by omega)] at hK
      exact attrs_stop0 hK
  unfold Rest at hR
  rw [ha] at hR
  dsimp only at hR
  rw [hR, hK]
theorem rest_bad {l : Bs} {i K K2 : Nat} {c : UInt8} (hR : Rest l i) (hK : gapF (l.drop i) = l.drop K) (hlt : K < l.length) (hc : l[K] = c) (hi : i < K) (hb : isB true false [95, 58] c = true) (h2 : (l.drop K).dropWhile attrB = l.drop K2) (hv : valF (l.drop K2) = none) : tagF l = none := by
  have hd := drop_at hlt hc
  have ha := attrs_bad (l := l.drop i) (by rw [hK]; exact hd) (by unfold gapN; rw [hK, List.length_drop, List.length_drop]; omega) hb (by rw [← hd, h2]; exact hv)
  unfold Rest at hR
  rw [ha] at hR
  exact hR
theorem rest_go {l : Bs} {i K K2 K3 : Nat} {c : UInt8} (hR : Rest l i) (hK : gapF (l.drop i) = l.drop K) (hlt : K < l.length) (hc : l[K] = c) (hi : i < K) (hb : isB true false [95, 58] c = true) (h2 : (l.drop K).dropWhile attrB = l.drop K2) (hv : valF (l.drop K2) = some (l.drop K3)) (hK3 : K3 ≤ l.length) : Rest l K3 ∧ i < K3 := by
  have hd := drop_at hlt hc
  have ha := attrs_go (l := l.drop i) (by rw [hK]; exact hd) (by unfold gapN; rw [hK, List.length_drop, List.length_drop]; omega) hb (by rw [← hd, h2]; exact hv)
  constructor
  · unfold Rest at hR ⊢
    rw [ha.1] at hR
    exact hR
  · have := ha.2
    rw [List.length_drop, List.length_drop] at this
    omega
theorem isA (c : UInt8) : isB true false [95, 58] c = (ltr c || ((c.toNat : Int) == 95) || ((c.toNat : Int) == 58)) := by
  have h1 := beq_int c 95
  have h2 := beq_int c 58
  have e1 : (((95 : UInt8).toNat : Nat) : Int) = 95 := rfl
  have e2 : (((58 : UInt8).toNat : Nat) : Int) = 58 := rfl
  rw [e1] at h1; rw [e2] at h2
  rw [h1, h2]
  unfold isB
  rw [Bool.true_and, Bool.false_and, Bool.or_false, List.contains_cons, List.contains_cons, List.contains_nil, Bool.or_false, Bool.or_assoc]
theorem attrB_iff (c : UInt8) : attrB c = (ltr c || dig c || ([95, 46, 58, 45] : Bs).contains c) := by
  unfold attrB isB; simp
theorem head_at {l : Bs} (h : 3 ≤ l.length) (h0 : l[0] = 60) : l = 60 :: l.drop 1 := by
  have := drop_at (l := l) (k := 0) (by omega) h0
  simpa using this
set_option maxRecDepth 100000 in
set_option maxHeartbeats 4000000 in
theorem rtag_any (l : Bs) (w : World) (hl : l.length ≤ 4294967280) : Calls Tryd.prog 15 #[.string (sv l)] w fun e w' => e = .returned (.int .i64 (tagN l : Nat)) ∧ w = w' := by
  have hsz := sv_size l
  by_cases hs : l.length < 3
  · have HR : Hid (tagN l = 0) := Lib.hid (tagN_none (tag_short hs))
    have z0 : (l.length : Int) < 3 := by omega
    go_enter Tryd.func15, Tryd.ntmps15
    go_wp2
    go_ret
    exact ⟨ret_int (by rw [HR.out]; rfl), rfl⟩
  · have z0 : ¬ (l.length : Int) < 3 := by omega
    have hl0 : 0 < l.length := by omega
    have hl1 : 1 < l.length := by omega
    obtain ⟨a, ha⟩ : ∃ a, l[0] = a := ⟨_, rfl⟩
    have hga : ∀ h, (sv l)[0]'h = a := fun _ => ha
    obtain ⟨b, hb⟩ : ∃ b, l[1] = b := ⟨_, rfl⟩
    have hgb : ∀ h, (sv l)[1]'h = b := fun _ => hb
    rcases e0 : ((a.toNat : Int) == 60) with _ | _
    · have HR : Hid (tagN l = 0) := Lib.hid (tagN_none (tag_no (by
        have hd := drop_at (l := l) (k := 0) hl0 ha
        rw [List.drop_zero] at hd
        rw [hd, pre_cons, beq_eq_false_iff_ne]
        rintro rfl; cases e0)))
      have e0' : ((a.toNat : Int) != 60) = true := by rw [bne, e0]; rfl
      clear e0 ha hb
      go_enter Tryd.func15, Tryd.ntmps15
      go_wp2
      go_ret
      exact ⟨ret_int (by rw [HR.out]; rfl), rfl⟩
    · have ha60 : a = 60 := UInt8.toNat_inj.1 (by rw [beq_iff_eq] at e0; show a.toNat = 60; omega)
      have e0' : ((a.toNat : Int) != 60) = false := by rw [bne, e0]; rfl
      have hcons := head_at (l := l) (by omega) (ha.trans ha60)
      have hd1 := drop_at (l := l) (k := 1) hl1 hb
      rcases e1 : ((b.toNat : Int) == 47) with _ | _
      · have HT : Hid (tagF l = match nameF (l.drop 1) with | none => none | some m => (match attrs m with | none => none | some q => endF (slash (gapF q)))) := Lib.hid (by
          have := tag_B (l := l.drop 1) (by
            rw [hd1, pre_cons, beq_eq_false_iff_ne]
            rintro rfl; cases e1)
          rw [← hcons] at this
          exact this)
        clear hcons hd1 ha hb ha60 e0
        rcases hn : nameF (l.drop 1) with _ | r
        · have HR : Hid (tagN l = 0) := Lib.hid (tagN_none (by rw [HT.out, hn]))
          have hN := fun w => rname_n (l := l) (i := 1) (n := 1) (nameI_none hn) (by omega) hl w
          have n1 : ((1 : Nat) : Int) = 1 := rfl
          rw [n1] at hN
          clear hn HT
          go_enter Tryd.func15, Tryd.ntmps15
          go_wp2_with (fail)
          refine (hN _).mono ?_
          rintro e w' ⟨rfl, rfl⟩
          go_wp2
          go_ret
          exact ⟨ret_int (by rw [HR.out]; rfl), rfl⟩
        · obtain ⟨K0, hr, hK0, hK0l, hNI⟩ := name_at (by omega) hn
          have hR0 : Hid (Rest l K0) := Lib.hid (by unfold Rest; rw [HT.out, hn, hr])
          have hN := fun w => rname_n (l := l) (i := 1) (n := K0) hNI (by omega) hl w
          have n1 : ((1 : Nat) : Int) = 1 := rfl
          rw [n1] at hN
          have q0 : ((K0 : Int) == 1) = false := beq_eq_false_iff_ne.2 (by omega)
          clear hn HT hr hNI
          go_enter Tryd.func15, Tryd.ntmps15
          go_wp2_with (fail)
          refine (hN _).mono ?_
          rintro e w' ⟨rfl, rfl⟩
          go_wp2
          clear hN hga hgb e0' e1 q0
          go_loop [4, 5] (fun v _ => ∃ i : Nat, v = .int .i64 i ∧ i ≤ l.length ∧ Hid (Rest l i)) (fun v _ => l.length - (intOf v).toNat)
          case atStart => exact ⟨K0, rfl, hK0l, hR0⟩
          case round =>
            obtain ⟨i, rfl, hi, hRi⟩ := hrel
            clear hR0
            obtain ⟨K, hK, hiK, hKl⟩ := suf_at hi (gap_suffix (l.drop i))
            have g1 := fun w => rgap_any l i K w hiK hKl hl hK
            by_cases hKi : K = i
            · have HT2 : Hid (tagF l = endF (slash (l.drop K))) := Lib.hid (rest_stop hi hKl hRi.out hK (.inl hKi))
              have w1 : ((K : Int) == (i : Int)) = true := by rw [beq_iff_eq]; omega
              clear hRi hK hKi
              by_cases hz1 : K < l.length
              · obtain ⟨x, hx⟩ : ∃ x, l[K] = x := ⟨_, rfl⟩
                have hgx : ∀ h, (sv l)[K]'h = x := fun _ => hx
                have z1 : (K : Int) < (l.length : Int) := by omega
                rcases y1 : ((x.toNat : Int) == 47) with _ | _
                · rcases y2 : ((x.toNat : Int) == 62) with _ | _
                  · have HR : Hid (tagN l = 0) := Lib.hid (tagN_none (by rw [HT2.out, tlxN hz1 hx y1 y2]))
                    clear HT2 hx
                    go_wp2_with (fail)
                    refine (g1 _).mono ?_
                    rintro e w' ⟨rfl, rfl⟩
                    go_wp2_with (fail)
                    refine (g1 _).mono ?_
                    rintro e w' ⟨rfl, rfl⟩
                    go_wp2
                    go_ret
                    exact ⟨ret_int (by rw [HR.out]; rfl), rfl⟩
                  · have HR : Hid (tagN l = K + 1) := Lib.hid (tagN_some (by rw [HT2.out, tlxY hz1 hx y1 y2]) (by omega))
                    clear HT2 hx
                    go_wp2_with (fail)
                    refine (g1 _).mono ?_
                    rintro e w' ⟨rfl, rfl⟩
                    go_wp2_with (fail)
                    refine (g1 _).mono ?_
                    rintro e w' ⟨rfl, rfl⟩
                    go_wp2
                    go_ret
                    exact ⟨ret_int (by rw [HR.out]; omega), rfl⟩
                · by_cases hz2 : K + 1 < l.length
                  · obtain ⟨z, hzz⟩ : ∃ z, l[K + 1] = z := ⟨_, rfl⟩
                    have hgz : ∀ h, (sv l)[K + 1]'h = z := fun _ => hzz
                    have z2 : (K : Int) + 1 < (l.length : Int) := by omega
                    rcases y2 : ((z.toNat : Int) == 62) with _ | _
                    · have HR : Hid (tagN l = 0) := Lib.hid (tagN_none (by rw [HT2.out, tlzN hz1 hx y1 hz2 hzz y2]))
                      clear HT2 hx hzz
                      go_wp2_with (fail)
                      refine (g1 _).mono ?_
                      rintro e w' ⟨rfl, rfl⟩
                      go_wp2_with (fail)
                      refine (g1 _).mono ?_
                      rintro e w' ⟨rfl, rfl⟩
                      go_wp2
                      go_ret
                      exact ⟨ret_int (by rw [HR.out]; rfl), rfl⟩
                    · have HR : Hid (tagN l = K + 2) := Lib.hid (tagN_some (by rw [HT2.out, tlzY hz1 hx y1 hz2 hzz y2]) (by omega))
                      clear HT2 hx hzz
                      go_wp2_with (fail)
                      refine (g1 _).mono ?_
                      rintro e w' ⟨rfl, rfl⟩
                      go_wp2_with (fail)
                      refine (g1 _).mono ?_
                      rintro e w' ⟨rfl, rfl⟩
                      go_wp2
                      go_ret
                      exact ⟨ret_int (by rw [HR.out]; omega), rfl⟩
                  · have HR : Hid (tagN l = 0) := Lib.hid (tagN_none (by rw [HT2.out, tls1 hz1 hx y1 hz2]))
                    have z2 : ¬ (K : Int) + 1 < (l.length : Int) := by omega
                    clear HT2 hx
                    go_wp2_with (fail)
                    refine (g1 _).mono ?_
                    rintro e w' ⟨rfl, rfl⟩
                    go_wp2_with (fail)
                    refine (g1 _).mono ?_
                    rintro e w' ⟨rfl, rfl⟩
                    go_wp2
                    go_ret
                    exact ⟨ret_int (by rw [HR.out]; rfl), rfl⟩
              · have HR : Hid (tagN l = 0) := Lib.hid (tagN_none (by rw [HT2.out, tls0 hz1]))
                have z1 : ¬ (K : Int) < (l.length : Int) := by omega
                clear HT2
                go_wp2_with (fail)
                refine (g1 _).mono ?_
                rintro e w' ⟨rfl, rfl⟩
                go_wp2_with (fail)
                refine (g1 _).mono ?_
                rintro e w' ⟨rfl, rfl⟩
                go_wp2
                go_ret
                exact ⟨ret_int (by rw [HR.out]; rfl), rfl⟩
            · have w1 : ((K : Int) == (i : Int)) = false := beq_eq_false_iff_ne.2 (by omega)
              by_cases hKt : K < l.length
              · have w2 : ((K : Int) == (l.length : Int)) = false := beq_eq_false_iff_ne.2 (by omega)
                obtain ⟨c, hc⟩ : ∃ c, l[K] = c := ⟨_, rfl⟩
                have hgc : ∀ h, (sv l)[K]'h = c := fun _ => hc
                have hA := isA c
                rcases hL : ltr c with _ | _
                · have hcl := fun w => letter_b hL w
                  rcases f1 : ((c.toNat : Int) == 95) with _ | _
                  · have f1' : ((c.toNat : Int) != 95) = true := by rw [bne, f1]; rfl
                    rcases f2 : ((c.toNat : Int) == 58) with _ | _
                    · have f2' : ((c.toNat : Int) != 58) = true := by rw [bne, f2]; rfl
                      have HT2 : Hid (tagF l = endF (slash (l.drop K))) := Lib.hid (rest_stop hi hKl hRi.out hK (.inr (.inr ⟨c, hKt, hc, by rw [hA, hL, f1, f2]; rfl⟩)))
                      clear hRi hK hKi hA hL f1 f2
                      by_cases hz1 : K < l.length
                      · obtain ⟨x, rfl, hx⟩ : ∃ x, x = c ∧ l[K] = x := ⟨c, rfl, hc⟩
                        have hgx : ∀ h, (sv l)[K]'h = x := fun _ => hx
                        have z1 : (K : Int) < (l.length : Int) := by omega
                        rcases y1 : ((x.toNat : Int) == 47) with _ | _
                        · rcases y2 : ((x.toNat : Int) == 62) with _ | _
                          · have HR : Hid (tagN l = 0) := Lib.hid (tagN_none (by rw [HT2.out, tlxN hz1 hx y1 y2]))
                            clear HT2 hx
                            go_wp2_with (fail)
                            refine (g1 _).mono ?_
                            rintro e w' ⟨rfl, rfl⟩
                            go_wp2_with (fail)
                            refine (hcl _).mono ?_
                            rintro e w' ⟨rfl, rfl⟩
                            go_wp2_with (fail)
                            refine (g1 _).mono ?_
                            rintro e w' ⟨rfl, rfl⟩
                            go_wp2
                            go_ret
                            exact ⟨ret_int (by rw [HR.out]; rfl), rfl⟩
                          · have HR : Hid (tagN l = K + 1) := Lib.hid (tagN_some (by rw [HT2.out, tlxY hz1 hx y1 y2]) (by omega))
                            clear HT2 hx
                            go_wp2_with (fail)
                            refine (g1 _).mono ?_
                            rintro e w' ⟨rfl, rfl⟩
                            go_wp2_with (fail)
                            refine (hcl _).mono ?_
                            rintro e w' ⟨rfl, rfl⟩
                            go_wp2_with (fail)
                            refine (g1 _).mono ?_
                            rintro e w' ⟨rfl, rfl⟩
                            go_wp2
                            go_ret
                            exact ⟨ret_int (by rw [HR.out]; omega), rfl⟩
                        · by_cases hz2 : K + 1 < l.length
                          · obtain ⟨z, hzz⟩ : ∃ z, l[K + 1] = z := ⟨_, rfl⟩
                            have hgz : ∀ h, (sv l)[K + 1]'h = z := fun _ => hzz
                            have z2 : (K : Int) + 1 < (l.length : Int) := by omega
                            rcases y2 : ((z.toNat : Int) == 62) with _ | _
                            · have HR : Hid (tagN l = 0) := Lib.hid (tagN_none (by rw [HT2.out, tlzN hz1 hx y1 hz2 hzz y2]))
                              clear HT2 hx hzz
                              go_wp2_with (fail)
                              refine (g1 _).mono ?_
                              rintro e w' ⟨rfl, rfl⟩
                              go_wp2_with (fail)
                              refine (hcl _).mono ?_
                              rintro e w' ⟨rfl, rfl⟩
                              go_wp2_with (fail)
                              refine (g1 _).mono ?_
                              rintro e w' ⟨rfl, rfl⟩
                              go_wp2
                              go_ret
                              exact ⟨ret_int (by rw [HR.out]; rfl), rfl⟩
                            · have HR : Hid (tagN l = K + 2) := Lib.hid (tagN_some (by rw [HT2.out, tlzY hz1 hx y1 hz2 hzz y2]) (by omega))
                              clear HT2 hx hzz
                              go_wp2_with (fail)
                              refine (g1 _).mono ?_
                              rintro e w' ⟨rfl, rfl⟩
                              go_wp2_with (fail)
                              refine (hcl _).mono ?_
                              rintro e w' ⟨rfl, rfl⟩
                              go_wp2_with (fail)
                              refine (g1 _).mono ?_
                              rintro e w' ⟨rfl, rfl⟩
                              go_wp2
                              go_ret
                              exact ⟨ret_int (by rw [HR.out]; omega), rfl⟩
                          · have HR : Hid (tagN l = 0) := Lib.hid (tagN_none (by rw [HT2.out, tls1 hz1 hx y1 hz2]))
                            have z2 : ¬ (K : Int) + 1 < (l.length : Int) := by omega
                            clear HT2 hx
                            go_wp2_with (fail)
                            refine (g1 _).mono ?_
                            rintro e w' ⟨rfl, rfl⟩
                            go_wp2_with (fail)
                            refine (hcl _).mono ?_
                            rintro e w' ⟨rfl, rfl⟩
                            go_wp2_with (fail)
                            refine (g1 _).mono ?_
                            rintro e w' ⟨rfl, rfl⟩
                            go_wp2
                            go_ret
                            exact ⟨ret_int (by rw [HR.out]; rfl), rfl⟩
                      · exact absurd hKt hz1
                    · have f2' : ((c.toNat : Int) != 58) = false := by rw [bne, f2]; rfl
                      have hB : Hid (isB true false [95, 58] c = true) := Lib.hid (by rw [hA, hL, f1, f2]; rfl)
                      clear hA
                      obtain ⟨K2, hK2, hKK2, hK2l⟩ := suf_at hKl (dw_suffix attrB (l.drop K))
                      have HG : Hid (∀ K3, K3 ≤ l.length → valF (l.drop K2) = some (l.drop K3) → Rest l K3 ∧ i < K3) := Lib.hid (fun K3 h3 hv => rest_go hRi.out hK hKt hc (by omega) hB.out hK2 hv h3)
                      have HBd : Hid (valF (l.drop K2) = none → tagN l = 0) := Lib.hid (fun hv => tagN_none (rest_bad hRi.out hK hKt hc (by omega) hB.out hK2 hv))
                      have HK2 := Lib.hid hK2
                      clear hRi hK hc hB hK2 hKi
                      go_wp2_with (fail)
                      refine (g1 _).mono ?_
                      rintro e w' ⟨rfl, rfl⟩
                      go_wp2_with (fail)
                      refine (hcl _).mono ?_
                      rintro e w' ⟨rfl, rfl⟩
                      go_wp2
                      go_loop [5] (fun v => ∃ k : Nat, v = .int .i64 k ∧ K ≤ k ∧ k ≤ l.length ∧ Hid ((l.drop K).dropWhile attrB = (l.drop k).dropWhile attrB)) (fun v => l.length - (intOf v).toNat)
                      case atStart => exact ⟨K, rfl, Nat.le_refl _, hKl, Lib.hid rfl⟩
                      case round =>
                        obtain ⟨k, rfl, hKk, hk, hD⟩ := hrel
                        clear hgc hcl g1 w1 w2
                        by_cases hkt : k < l.length
                        · have q1 : (k : Int) < (l.length : Int) := by omega
                          obtain ⟨d, hd⟩ : ∃ d, l[k] = d := ⟨_, rfl⟩
                          have hgd : ∀ h, (sv l)[k]'h = d := fun _ => hd
                          have hdd := drop_at hkt hd
                          have hn := attrB_iff d
                          have hgo : attrB d = true → Hid ((l.drop K).dropWhile attrB = (l.drop (k + 1)).dropWhile attrB) := fun h => Lib.hid (by rw [hD.out, hdd, List.dropWhile_cons, if_pos h])
                          have hstop : attrB d = false → Hid (K2 = k) := fun h => Lib.hid (drop_inj hK2l hk (by rw [← HK2.out, hD.out, hdd, List.dropWhile_cons, if_neg (by rw [h]; decide)]))
                          rcases hL : ltr d with _ | _
                          · rcases hG : dig d with _ | _
                            · rcases hM : ([95, 46, 58, 45] : Bs).contains d with _ | _
                              · have H := hstop (by rw [hn, hL, hG, hM]; rfl)
                                have h1 := fun w => letter_b hL w
                                have h2 := fun w => digit_b hG w
                                have h3 := fun w => among_b (c := d) (o := [95, 46, 58, 45]) (B := false) hM (by decide) w
                                clear hd hL hG hM hn hgo hstop hdd hD
                                have hke : K2 = k := H.out
                                subst hke
                                rcases hv : valF (l.drop K2) with _ | v
                                · have HR : Hid (tagN l = 0) := Lib.hid (HBd.out hv)
                                  have hV := fun w => rvalue_n (l := l) (i := K2) (n := -1) (valI_none hv) hK2l hl w
                                  clear H hv HBd HG
                                  go_wp2_with (fail)
                                  refine (h1 _).mono ?_
                                  rintro e w' ⟨rfl, rfl⟩
                                  go_wp2_with (fail)
                                  refine (h2 _).mono ?_
                                  rintro e w' ⟨rfl, rfl⟩
                                  go_wp2_with (fail)
                                  refine (h3 _).mono ?_
                                  rintro e w' ⟨rfl, rfl⟩
                                  go_wp2_with (fail)
                                  refine (hV _).mono ?_
                                  rintro e w' ⟨rfl, rfl⟩
                                  go_wp2
                                  go_ret
                                  exact ⟨ret_int (by rw [HR.out]; rfl), rfl⟩
                                · obtain ⟨K3, hv3, hKK3, hK3l⟩ := suf_at hK2l (val_suffix hv)
                                  have hgo3 := HG.out K3 hK3l (by rw [hv, hv3])
                                  have hR3 := Lib.hid hgo3.1
                                  have hi3 := hgo3.2
                                  have hV := fun w => rvalue_n (l := l) (i := K2) (n := (K3 : Int)) (valI_some (by rw [hv, hv3]) hK3l) hK2l hl w
                                  have q3 : ¬ (K3 : Int) < 0 := by omega
                                  clear H hv hv3 HBd HG hgo3
                                  go_wp2_with (fail)
                                  refine (h1 _).mono ?_
                                  rintro e w' ⟨rfl, rfl⟩
                                  go_wp2_with (fail)
                                  refine (h2 _).mono ?_
                                  rintro e w' ⟨rfl, rfl⟩
                                  go_wp2_with (fail)
                                  refine (h3 _).mono ?_
                                  rintro e w' ⟨rfl, rfl⟩
                                  go_wp2_with (fail)
                                  refine (hV _).mono ?_
                                  rintro e w' ⟨rfl, rfl⟩
                                  go_wp2
                                  go_round
                                  case rel => exact ⟨K3, rfl, hK3l, hR3⟩
                                  case measure => simp [intOf]; omega
                              · have H := hgo (by rw [hn, hL, hG, hM]; rfl)
                                have h1 := fun w => letter_b hL w
                                have h2 := fun w => digit_b hG w
                                have h3 := fun w => among_b (c := d) (o := [95, 46, 58, 45]) (B := true) hM (by decide) w
                                clear hd hL hG hM hn hgo hstop hdd hD
                                go_wp2_with (fail)
                                refine (h1 _).mono ?_
                                rintro e w' ⟨rfl, rfl⟩
                                go_wp2_with (fail)
                                refine (h2 _).mono ?_
                                rintro e w' ⟨rfl, rfl⟩
                                go_wp2_with (fail)
                                refine (h3 _).mono ?_
                                rintro e w' ⟨rfl, rfl⟩
                                go_wp2
                                go_round
                                case rel => exact ⟨k + 1, by go_num, by omega, by omega, H⟩
                                case measure => simp [intOf]; omega
                            · have H := hgo (by rw [hn, hL, hG]; rfl)
                              have h1 := fun w => letter_b hL w
                              have h2 := fun w => digit_b hG w
                              clear hd hL hG hn hgo hstop hdd hD
                              go_wp2_with (fail)
                              refine (h1 _).mono ?_
                              rintro e w' ⟨rfl, rfl⟩
                              go_wp2_with (fail)
                              refine (h2 _).mono ?_
                              rintro e w' ⟨rfl, rfl⟩
                              go_wp2
                              go_round
                              case rel => exact ⟨k + 1, by go_num, by omega, by omega, H⟩
                              case measure => simp [intOf]; omega
                          · have H := hgo (by rw [hn, hL]; rfl)
                            have h1 := fun w => letter_b hL w
                            clear hd hL hn hgo hstop hdd hD
                            go_wp2_with (fail)
                            refine (h1 _).mono ?_
                            rintro e w' ⟨rfl, rfl⟩
                            go_wp2
                            go_round
                            case rel => exact ⟨k + 1, by go_num, by omega, by omega, H⟩
                            case measure => simp [intOf]; omega
                        · have q1 : ¬ (k : Int) < (l.length : Int) := by omega
                          have H : Hid (K2 = k) := Lib.hid (drop_inj hK2l hk (by
                            have hdn : l.drop k = [] := List.drop_eq_nil_of_le (by omega)
                            rw [← HK2.out, hD.out, hdn]; rfl))
                          clear hD
                          have hke : K2 = k := H.out
                          subst hke
                          rcases hv : valF (l.drop K2) with _ | v
                          · have HR : Hid (tagN l = 0) := Lib.hid (HBd.out hv)
                            have hV := fun w => rvalue_n (l := l) (i := K2) (n := -1) (valI_none hv) hK2l hl w
                            clear H hv HBd HG
                            go_wp2_with (fail)
                            refine (hV _).mono ?_
                            rintro e w' ⟨rfl, rfl⟩
                            go_wp2
                            go_ret
                            exact ⟨ret_int (by rw [HR.out]; rfl), rfl⟩
                          · obtain ⟨K3, hv3, hKK3, hK3l⟩ := suf_at hK2l (val_suffix hv)
                            have hgo3 := HG.out K3 hK3l (by rw [hv, hv3])
                            have hR3 := Lib.hid hgo3.1
                            have hi3 := hgo3.2
                            have hV := fun w => rvalue_n (l := l) (i := K2) (n := (K3 : Int)) (valI_some (by rw [hv, hv3]) hK3l) hK2l hl w
                            have q3 : ¬ (K3 : Int) < 0 := by omega
                            clear H hv hv3 HBd HG hgo3
                            go_wp2_with (fail)
                            refine (hV _).mono ?_
                            rintro e w' ⟨rfl, rfl⟩
                            go_wp2
                            go_round
                            case rel => exact ⟨K3, rfl, hK3l, hR3⟩
                            case measure => simp [intOf]; omega
                  · have f1' : ((c.toNat : Int) != 95) = false := by rw [bne, f1]; rfl
                    have hB : Hid (isB true false [95, 58] c = true) := Lib.hid (by rw [hA, hL, f1]; rfl)
                    clear hA
                    obtain ⟨K2, hK2, hKK2, hK2l⟩ := suf_at hKl (dw_suffix attrB (l.drop K))
                    have HG : Hid (∀ K3, K3 ≤ l.length → valF (l.drop K2) = some (l.drop K3) → Rest l K3 ∧ i < K3) := Lib.hid (fun K3 h3 hv => rest_go hRi.out hK hKt hc (by omega) hB.out hK2 hv h3)
                    have HBd : Hid (valF (l.drop K2) = none → tagN l = 0) := Lib.hid (fun hv => tagN_none (rest_bad hRi.out hK hKt hc (by omega) hB.out hK2 hv))
                    have HK2 := Lib.hid hK2
                    clear hRi hK hc hB hK2 hKi
                    go_wp2_with (fail)
                    refine (g1 _).mono ?_
                    rintro e w' ⟨rfl, rfl⟩
                    go_wp2_with (fail)
                    refine (hcl _).mono ?_
                    rintro e w' ⟨rfl, rfl⟩
                    go_wp2
                    go_loop [5] (fun v => ∃ k : Nat, v = .int .i64 k ∧ K ≤ k ∧ k ≤ l.length ∧ Hid ((l.drop K).dropWhile attrB = (l.drop k).dropWhile attrB)) (fun v => l.length - (intOf v).toNat)
                    case atStart => exact ⟨K, rfl, Nat.le_refl _, hKl, Lib.hid rfl⟩
                    case round =>
                      obtain ⟨k, rfl, hKk, hk, hD⟩ := hrel
                      clear hgc hcl g1 w1 w2
                      by_cases hkt : k < l.length
                      · have q1 : (k : Int) < (l.length : Int) := by omega
                        obtain ⟨d, hd⟩ : ∃ d, l[k] = d := ⟨_, rfl⟩
                        have hgd : ∀ h, (sv l)[k]'h = d := fun _ => hd
                        have hdd := drop_at hkt hd
                        have hn := attrB_iff d
                        have hgo : attrB d = true → Hid ((l.drop K).dropWhile attrB = (l.drop (k + 1)).dropWhile attrB) := fun h => Lib.hid (by rw [hD.out, hdd, List.dropWhile_cons, if_pos h])
                        have hstop : attrB d = false → Hid (K2 = k) := fun h => Lib.hid (drop_inj hK2l hk (by rw [← HK2.out, hD.out, hdd, List.dropWhile_cons, if_neg (by rw [h]; decide)]))
                        rcases hL : ltr d with _ | _
                        · rcases hG : dig d with _ | _
                          · rcases hM : ([95, 46, 58, 45] : Bs).contains d with _ | _
                            · have H := hstop (by rw [hn, hL, hG, hM]; rfl)
                              have h1 := fun w => letter_b hL w
                              have h2 := fun w => digit_b hG w
                              have h3 := fun w => among_b (c := d) (o := [95, 46, 58, 45]) (B := false) hM (by decide) w
                              clear hd hL hG hM hn hgo hstop hdd hD
                              have hke : K2 = k := H.out
                              subst hke
                              rcases hv : valF (l.drop K2) with _ | v
                              · have HR : Hid (tagN l = 0) := Lib.hid (HBd.out hv)
                                have hV := fun w => rvalue_n (l := l) (i := K2) (n := -1) (valI_none hv) hK2l hl w
                                clear H hv HBd HG
                                go_wp2_with (fail)
                                refine (h1 _).mono ?_
                                rintro e w' ⟨rfl, rfl⟩
                                go_wp2_with (fail)
                                refine (h2 _).mono ?_
                                rintro e w' ⟨rfl, rfl⟩
                                go_wp2_with (fail)
                                refine (h3 _).mono ?_
                                rintro e w' ⟨rfl, rfl⟩
                                go_wp2_with (fail)
                                refine (hV _).mono ?_
                                rintro e w' ⟨rfl, rfl⟩
                                go_wp2
                                go_ret
                                exact ⟨ret_int (by rw [HR.out]; rfl), rfl⟩
                              · obtain ⟨K3, hv3, hKK3, hK3l⟩ := suf_at hK2l (val_suffix hv)
                                have hgo3 := HG.out K3 hK3l (by rw [hv, hv3])
                                have hR3 := Lib.hid hgo3.1
                                have hi3 := hgo3.2
                                have hV := fun w => rvalue_n (l := l) (i := K2) (n := (K3 : Int)) (valI_some (by rw [hv, hv3]) hK3l) hK2l hl w
                                have q3 : ¬ (K3 : Int) < 0 := by omega
                                clear H hv hv3 HBd HG hgo3
                                go_wp2_with (fail)
                                refine (h1 _).mono ?_
                                rintro e w' ⟨rfl, rfl⟩
                                go_wp2_with (fail)
                                refine (h2 _).mono ?_
                                rintro e w' ⟨rfl, rfl⟩
                                go_wp2_with (fail)
                                refine (h3 _).mono ?_
                                rintro e w' ⟨rfl, rfl⟩
                                go_wp2_with (fail)
                                refine (hV _).mono ?_
                                rintro e w' ⟨rfl, rfl⟩
                                go_wp2
                                go_round
                                case rel => exact ⟨K3, rfl, hK3l, hR3⟩
                                case measure => simp [intOf]; omega
                            · have H := hgo (by rw [hn, hL, hG, hM]; rfl)
                              have h1 := fun w => letter_b hL w
                              have h2 := fun w => digit_b hG w
                              have h3 := fun w => among_b (c := d) (o := [95, 46, 58, 45]) (B := true) hM (by decide) w
                              clear hd hL hG hM hn hgo hstop hdd hD
                              go_wp2_with (fail)
                              refine (h1 _).mono ?_
                              rintro e w' ⟨rfl, rfl⟩
                              go_wp2_with (fail)
                              refine (h2 _).mono ?_
                              rintro e w' ⟨rfl, rfl⟩
                              go_wp2_with (fail)
                              refine (h3 _).mono ?_
                              rintro e w' ⟨rfl, rfl⟩
                              go_wp2
                              go_round
                              case rel => exact ⟨k + 1, by go_num, by omega, by omega, H⟩
                              case measure => simp [intOf]; omega
                          · have H := hgo (by rw [hn, hL, hG]; rfl)
                            have h1 := fun w => letter_b hL w
                            have h2 := fun w => digit_b hG w
                            clear hd hL hG hn hgo hstop hdd hD
                            go_wp2_with (fail)
                            refine (h1 _).mono ?_
                            rintro e w' ⟨rfl, rfl⟩
                            go_wp2_with (fail)
                            refine (h2 _).mono ?_
                            rintro e w' ⟨rfl, rfl⟩
                            go_wp2
                            go_round
                            case rel => exact ⟨k + 1, by go_num, by omega, by omega, H⟩
                            case measure => simp [intOf]; omega
                        · have H := hgo (by rw [hn, hL]; rfl)
                          have h1 := fun w => letter_b hL w
                          clear hd hL hn hgo hstop hdd hD
                          go_wp2_with (fail)
                          refine (h1 _).mono ?_
                          rintro e w' ⟨rfl, rfl⟩
                          go_wp2
                          go_round
                          case rel => exact ⟨k + 1, by go_num, by omega, by omega, H⟩
                          case measure => simp [intOf]; omega
                      · have q1 : ¬ (k : Int) < (l.length : Int) := by omega
                        have H : Hid (K2 = k) := Lib.hid (drop_inj hK2l hk (by
                          have hdn : l.drop k = [] := List.drop_eq_nil_of_le (by omega)
                          rw [← HK2.out, hD.out, hdn]; rfl))
                        clear hD
                        have hke : K2 = k := H.out
                        subst hke
                        rcases hv : valF (l.drop K2) with _ | v
                        · have HR : Hid (tagN l = 0) := Lib.hid (HBd.out hv)
                          have hV := fun w => rvalue_n (l := l) (i := K2) (n := -1) (valI_none hv) hK2l hl w
                          clear H hv HBd HG
                          go_wp2_with (fail)
                          refine (hV _).mono ?_
                          rintro e w' ⟨rfl, rfl⟩
                          go_wp2
                          go_ret
                          exact ⟨ret_int (by rw [HR.out]; rfl), rfl⟩
                        · obtain ⟨K3, hv3, hKK3, hK3l⟩ := suf_at hK2l (val_suffix hv)
                          have hgo3 := HG.out K3 hK3l (by rw [hv, hv3])
                          have hR3 := Lib.hid hgo3.1
                          have hi3 := hgo3.2
                          have hV := fun w => rvalue_n (l := l) (i := K2) (n := (K3 : Int)) (valI_some (by rw [hv, hv3]) hK3l) hK2l hl w
                          have q3 : ¬ (K3 : Int) < 0 := by omega
                          clear H hv hv3 HBd HG hgo3
                          go_wp2_with (fail)
                          refine (hV _).mono ?_
                          rintro e w' ⟨rfl, rfl⟩
                          go_wp2
                          go_round
                          case rel => exact ⟨K3, rfl, hK3l, hR3⟩
                          case measure => simp [intOf]; omega
                · have hcl := fun w => letter_b hL w
                  have hB : Hid (isB true false [95, 58] c = true) := Lib.hid (by rw [hA, hL]; rfl)
                  clear hA
                  obtain ⟨K2, hK2, hKK2, hK2l⟩ := suf_at hKl (dw_suffix attrB (l.drop K))
                  have HG : Hid (∀ K3, K3 ≤ l.length → valF (l.drop K2) = some (l.drop K3) → Rest l K3 ∧ i < K3) := Lib.hid (fun K3 h3 hv => rest_go hRi.out hK hKt hc (by omega) hB.out hK2 hv h3)
                  have HBd : Hid (valF (l.drop K2) = none → tagN l = 0) := Lib.hid (fun hv => tagN_none (rest_bad hRi.out hK hKt hc (by omega) hB.out hK2 hv))
                  have HK2 := Lib.hid hK2
                  clear hRi hK hc hB hK2 hKi
                  go_wp2_with (fail)
                  refine (g1 _).mono ?_
                  rintro e w' ⟨rfl, rfl⟩
                  go_wp2_with (fail)
                  refine (hcl _).mono ?_
                  rintro e w' ⟨rfl, rfl⟩
                  go_wp2
                  go_loop [5] (fun v => ∃ k : Nat, v = .int .i64 k ∧ K ≤ k ∧ k ≤ l.length ∧ Hid ((l.drop K).dropWhile attrB = (l.drop k).dropWhile attrB)) (fun v => l.length - (intOf v).toNat)
                  case atStart => exact ⟨K, rfl, Nat.le_refl _, hKl, Lib.hid rfl⟩
                  case round =>
                    obtain ⟨k, rfl, hKk, hk, hD⟩ := hrel
                    clear hgc hcl g1 w1 w2
                    by_cases hkt : k < l.length
                    · have q1 : (k : Int) < (l.length : Int) := by omega
                      obtain ⟨d, hd⟩ : ∃ d, l[k] = d := ⟨_, rfl⟩
                      have hgd : ∀ h, (sv l)[k]'h = d := fun _ => hd
                      have hdd := drop_at hkt hd
                      have hn := attrB_iff d
                      have hgo : attrB d = true → Hid ((l.drop K).dropWhile attrB = (l.drop (k + 1)).dropWhile attrB) := fun h => Lib.hid (by rw [hD.out, hdd, List.dropWhile_cons, if_pos h])
                      have hstop : attrB d = false → Hid (K2 = k) := fun h => Lib.hid (drop_inj hK2l hk (by rw [← HK2.out, hD.out, hdd, List.dropWhile_cons, if_neg (by rw [h]; decide)]))
                      rcases hL : ltr d with _ | _
                      · rcases hG : dig d with _ | _
                        · rcases hM : ([95, 46, 58, 45] : Bs).contains d with _ | _
                          · have H := hstop (by rw [hn, hL, hG, hM]; rfl)
                            have h1 := fun w => letter_b hL w
                            have h2 := fun w => digit_b hG w
                            have h3 := fun w => among_b (c := d) (o := [95, 46, 58, 45]) (B := false) hM (by decide) w
                            clear hd hL hG hM hn hgo hstop hdd hD
                            have hke : K2 = k := H.out
                            subst hke
                            rcases hv : valF (l.drop K2) with _ | v
                            · have HR : Hid (tagN l = 0) := Lib.hid (HBd.out hv)
                              have hV := fun w => rvalue_n (l := l) (i := K2) (n := -1) (valI_none hv) hK2l hl w
                              clear H hv HBd HG
                              go_wp2_with (fail)
                              refine (h1 _).mono ?_
                              rintro e w' ⟨rfl, rfl⟩
                              go_wp2_with (fail)
                              refine (h2 _).mono ?_
                              rintro e w' ⟨rfl, rfl⟩
                              go_wp2_with (fail)
                              refine (h3 _).mono ?_
                              rintro e w' ⟨rfl, rfl⟩
                              go_wp2_with (fail)
                              refine (hV _).mono ?_
                              rintro e w' ⟨rfl, rfl⟩
                              go_wp2
                              go_ret
                              exact ⟨ret_int (by rw [HR.out]; rfl), rfl⟩
                            · obtain ⟨K3, hv3, hKK3, hK3l⟩ := suf_at hK2l (val_suffix hv)
                              have hgo3 := HG.out K3 hK3l (by rw [hv, hv3])
                              have hR3 := Lib.hid hgo3.1
                              have hi3 := hgo3.2
                              have hV := fun w => rvalue_n (l := l) (i := K2) (n := (K3 : Int)) (valI_some (by rw [hv, hv3]) hK3l) hK2l hl w
                              have q3 : ¬ (K3 : Int) < 0 := by omega
                              clear H hv hv3 HBd HG hgo3
                              go_wp2_with (fail)
                              refine (h1 _).mono ?_
                              rintro e w' ⟨rfl, rfl⟩
                              go_wp2_with (fail)
                              refine (h2 _).mono ?_
                              rintro e w' ⟨rfl, rfl⟩
                              go_wp2_with (fail)
                              refine (h3 _).mono ?_
                              rintro e w' ⟨rfl, rfl⟩
                              go_wp2_with (fail)
                              refine (hV _).mono ?_
                              rintro e w' ⟨rfl, rfl⟩
                              go_wp2
                              go_round
                              case rel => exact ⟨K3, rfl, hK3l, hR3⟩
                              case measure => simp [intOf]; omega
                          · have H := hgo (by rw [hn, hL, hG, hM]; rfl)
                            have h1 := fun w => letter_b hL w
                            have h2 := fun w => digit_b hG w
                            have h3 := fun w => among_b (c := d) (o := [95, 46, 58, 45]) (B := true) hM (by decide) w
                            clear hd hL hG hM hn hgo hstop hdd hD
                            go_wp2_with (fail)
                            refine (h1 _).mono ?_
                            rintro e w' ⟨rfl, rfl⟩
                            go_wp2_with (fail)
                            refine (h2 _).mono ?_
                            rintro e w' ⟨rfl, rfl⟩
                            go_wp2_with (fail)
                            refine (h3 _).mono ?_
                            rintro e w' ⟨rfl, rfl⟩
                            go_wp2
                            go_round
                            case rel => exact ⟨k + 1, by go_num, by omega, by omega, H⟩
                            case measure => simp [intOf]; omega
                        · have H := hgo (by rw [hn, hL, hG]; rfl)
                          have h1 := fun w => letter_b hL w
                          have h2 := fun w => digit_b hG w
                          clear hd hL hG hn hgo hstop hdd hD
                          go_wp2_with (fail)
                          refine (h1 _).mono ?_
                          rintro e w' ⟨rfl, rfl⟩
                          go_wp2_with (fail)
                          refine (h2 _).mono ?_
                          rintro e w' ⟨rfl, rfl⟩
                          go_wp2
                          go_round
                          case rel => exact ⟨k + 1, by go_num, by omega, by omega, H⟩
                          case measure => simp [intOf]; omega
                      · have H := hgo (by rw [hn, hL]; rfl)
                        have h1 := fun w => letter_b hL w
                        clear hd hL hn hgo hstop hdd hD
                        go_wp2_with (fail)
                        refine (h1 _).mono ?_
                        rintro e w' ⟨rfl, rfl⟩
                        go_wp2
                        go_round
                        case rel => exact ⟨k + 1, by go_num, by omega, by omega, H⟩
                        case measure => simp [intOf]; omega
                    · have q1 : ¬ (k : Int) < (l.length : Int) := by omega
                      have H : Hid (K2 = k) := Lib.hid (drop_inj hK2l hk (by
                        have hdn : l.drop k = [] := List.drop_eq_nil_of_le (by omega)
                        rw [← HK2.out, hD.out, hdn]; rfl))
                      clear hD
                      have hke : K2 = k := H.out
                      subst hke
                      rcases hv : valF (l.drop K2) with _ | v
                      · have HR : Hid (tagN l = 0) := Lib.hid (HBd.out hv)
                        have hV := fun w => rvalue_n (l := l) (i := K2) (n := -1) (valI_none hv) hK2l hl w
                        clear H hv HBd HG
                        go_wp2_with (fail)
                        refine (hV _).mono ?_
                        rintro e w' ⟨rfl, rfl⟩
                        go_wp2
                        go_ret
                        exact ⟨ret_int (by rw [HR.out]; rfl), rfl⟩
                      · obtain ⟨K3, hv3, hKK3, hK3l⟩ := suf_at hK2l (val_suffix hv)
                        have hgo3 := HG.out K3 hK3l (by rw [hv, hv3])
                        have hR3 := Lib.hid hgo3.1
                        have hi3 := hgo3.2
                        have hV := fun w => rvalue_n (l := l) (i := K2) (n := (K3 : Int)) (valI_some (by rw [hv, hv3]) hK3l) hK2l hl w
                        have q3 : ¬ (K3 : Int) < 0 := by omega
                        clear H hv hv3 HBd HG hgo3
                        go_wp2_with (fail)
                        refine (hV _).mono ?_
                        rintro e w' ⟨rfl, rfl⟩
                        go_wp2
                        go_round
                        case rel => exact ⟨K3, rfl, hK3l, hR3⟩
                        case measure => simp [intOf]; omega
              · have HT2 : Hid (tagF l = endF (slash (l.drop K))) := Lib.hid (rest_stop hi hKl hRi.out hK (.inr (.inl hKt)))
                have w2 : ((K : Int) == (l.length : Int)) = true := by rw [beq_iff_eq]; omega
                have HR : Hid (tagN l = 0) := Lib.hid (tagN_none (by rw [HT2.out, tls0 hKt]))
                have z1 : ¬ (K : Int) < (l.length : Int) := by omega
                clear HT2 hRi hK hKi hKt
                go_wp2_with (fail)
                refine (g1 _).mono ?_
                rintro e w' ⟨rfl, rfl⟩
                go_wp2_with (fail)
                refine (g1 _).mono ?_
                rintro e w' ⟨rfl, rfl⟩
                go_wp2
                go_ret
                exact ⟨ret_int (by rw [HR.out]; rfl), rfl⟩
      · have hb47 : b = 47 := UInt8.toNat_inj.1 (by rw [beq_iff_eq] at e1; show b.toNat = 47; omega)
        have HT : Hid (tagF l = match nameF (l.drop 2) with | none => none | some m => endF (gapF m)) := Lib.hid (by
          have := tag_A (r := l.drop 2)
          rw [hd1, hb47] at hcons
          rw [← hcons] at this
          exact this)
        have n1 : ((2 : Nat) : Int) = 2 := rfl
        clear hcons hd1 ha hb ha60 e0 hb47
        rcases hn : nameF (l.drop 2) with _ | r
        · have HR : Hid (tagN l = 0) := Lib.hid (tagN_none (by rw [HT.out, hn]))
          have hN := fun w => rname_n (l := l) (i := 2) (n := 2) (nameI_none hn) (by omega) hl w
          rw [n1] at hN
          clear hn HT
          go_enter Tryd.func15, Tryd.ntmps15
          go_wp2_with (fail)
          refine (hN _).mono ?_
          rintro e w' ⟨rfl, rfl⟩
          go_wp2
          go_ret
          exact ⟨ret_int (by rw [HR.out]; rfl), rfl⟩
        · obtain ⟨K0, hr, hK0, hK0l, hNI⟩ := name_at (by omega) hn
          obtain ⟨K, hK, hK0K, hKl⟩ := suf_at hK0l (gap_suffix (l.drop K0))
          have g1 := fun w => rgap_any l K0 K w hK0K hKl hl hK
          have HT2 : Hid (tagF l = endF (l.drop K)) := Lib.hid (by rw [HT.out, hn, hr]; dsimp only; rw [hK])
          have hN := fun w => rname_n (l := l) (i := 2) (n := K0) hNI (by omega) hl w
          rw [n1] at hN
          have q0 : ((K0 : Int) == 2) = false := beq_eq_false_iff_ne.2 (by omega)
          clear hn HT hr hNI hK
          by_cases hz1 : K < l.length
          · obtain ⟨x, hx⟩ : ∃ x, l[K] = x := ⟨_, rfl⟩
            have hgx : ∀ h, (sv l)[K]'h = x := fun _ => hx
            have z1 : (K : Int) < (l.length : Int) := by omega
            rcases y2 : ((x.toNat : Int) == 62) with _ | _
            · have HR : Hid (tagN l = 0) := Lib.hid (tagN_none (by rw [HT2.out, tleN hz1 hx y2]))
              clear HT2 hx
              go_enter Tryd.func15, Tryd.ntmps15
              go_wp2_with (fail)
              refine (hN _).mono ?_
              rintro e w' ⟨rfl, rfl⟩
              go_wp2_with (fail)
              refine (g1 _).mono ?_
              rintro e w' ⟨rfl, rfl⟩
              go_wp2
              go_ret
              exact ⟨ret_int (by rw [HR.out]; rfl), rfl⟩
            · have HR : Hid (tagN l = K + 1) := Lib.hid (tagN_some (by rw [HT2.out, tleY hz1 hx y2]) (by omega))
              clear HT2 hx
              go_enter Tryd.func15, Tryd.ntmps15
              go_wp2_with (fail)
              refine (hN _).mono ?_
              rintro e w' ⟨rfl, rfl⟩
              go_wp2_with (fail)
              refine (g1 _).mono ?_
              rintro e w' ⟨rfl, rfl⟩
              go_wp2
              go_ret
              exact ⟨ret_int (by rw [HR.out]; omega), rfl⟩
          · have HR : Hid (tagN l = 0) := Lib.hid (tagN_none (by rw [HT2.out, tle0 hz1]))
            have z1 : ¬ (K : Int) < (l.length : Int) := by omega
            clear HT2
            go_enter Tryd.func15, Tryd.ntmps15
            go_wp2_with (fail)
            refine (hN _).mono ?_
            rintro e w' ⟨rfl, rfl⟩
            go_wp2_with (fail)
            refine (g1 _).mono ?_
            rintro e w' ⟨rfl, rfl⟩
            go_wp2
            go_ret
            exact ⟨ret_int (by rw [HR.out]; rfl), rfl⟩
end Go.Proofs.YtkmidilaabgooaaDoor
