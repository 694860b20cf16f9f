/-
  The document's Code, and what SpanTells' walk shows.
-/
import Derived.Test.YtkmidilaabgooaaDoorXi
import Derived.Test.YtkmidilaabgooaaDoorWf
namespace Go.Proofs.YtkmidilaabgooaaDoor
open Go.RowKit Mem
set_option linter.unusedVariables false
set_option linter.unusedSimpArgs false

theorem inner_b {l t : Bs} (h : strip l = t) (hl : l.length ≤ 4294967280) (w : World) : Calls Tryd.prog 25 #[.string (sv l)] w fun e w' => e = .returned (.string (sv t)) ∧ Mod (fun _ => False) w w' := by subst h; exact inner_any l w hl
set_option maxRecDepth 100000 in
set_option maxHeartbeats 2000000 in
theorem rcode_any (l : Bs) (w : World) (hl : l.length ≤ 4294967280) : Calls Tryd.prog 11 #[.string (sv l)] w fun e w' => e = .returned (codeV l) ∧ Mod (fun _ => False) w w' := by
  have hsz := sv_size l
  obtain ⟨k, hk⟩ : ∃ k, ticks l = k := ⟨_, rfl⟩
  have hr0 := fun w => run_n (l := l) (i := 0) (n := k) (by rw [List.drop_zero]; exact hk) (by omega) hl w
  have n0 : ((0 : Nat) : Int) = 0 := rfl
  rw [n0] at hr0
  have hkl : k ≤ l.length := by rw [← hk]; exact ticks_le l
  by_cases hz : k = 0
  · have HR : Hid (codeV l = .tuple #[.string (sv []), .int .i64 0]) := Lib.hid (code_zero (hk.trans hz))
    have z0 : ((k : Int) == 0) = true := by rw [beq_iff_eq]; omega
    clear hz hk
    go_enter Tryd.func11, Tryd.ntmps11
    go_wp2_with (fail)
    refine (hr0 _).mono ?_
    rintro e w' ⟨rfl, rfl⟩
    go_wp2
    go_ret2
    exact ⟨ret_val (by rw [HR.out]; rfl), Mod.refl _ _⟩
  · have z0 : ((k : Int) == 0) = false := beq_eq_false_iff_ne.2 (by omega)
    have hk1 : 0 < k := by omega
    have HK := Lib.hid hk
    have HA0 := Lib.hid (CodeAt.start l k)
    clear hz hk
    go_enter Tryd.func11, Tryd.ntmps11
    go_wp2_with (fail)
    refine (hr0 _).mono ?_
    rintro e w' ⟨rfl, rfl⟩
    go_wp2
    clear hr0 z0
    go_loop [5, 6] (fun v _ => ∃ i : Nat, v = .int .i64 i ∧ k ≤ i ∧ i ≤ l.length ∧ Hid (CodeAt l k i)) (fun v _ => l.length - (intOf v).toNat)
    case atStart => exact ⟨k, rfl, Nat.le_refl _, hkl, HA0⟩
    case round =>
      obtain ⟨i, rfl, hki, hi, hA⟩ := hrel
      clear HA0
      by_cases hlt : i < l.length
      · have q1 : (i : Int) < (l.length : Int) := by omega
        obtain ⟨n, hn⟩ : ∃ n, ticks (l.drop i) = n := ⟨_, rfl⟩
        have hnl : i + n ≤ l.length := by
          have := ticks_le (l.drop i)
          rw [hn, List.length_drop] at this
          omega
        have hr1 := fun w => run_n (l := l) (i := i) (n := n) hn hi hl w
        by_cases hnk : n = k
        · have z1 : ((n : Int) == (k : Int)) = true := by rw [beq_iff_eq]; omega
          obtain ⟨t, ht⟩ : ∃ t, (l.take i).drop k = t := ⟨_, rfl⟩
          have hex : (sv l).extract k i = sv t := by rw [sv_cut, ht]
          have htl : t.length ≤ 4294967280 := by rw [← ht, List.length_drop, List.length_take]; omega
          obtain ⟨u, hu⟩ : ∃ u, strip t = u := ⟨_, rfl⟩
          have HR : Hid (codeV l = .tuple #[.string (sv u), .int .i64 ((i : Int) + (n : Int))]) := Lib.hid (by
            have := hA.out.hit HK.out hk1 hki (hn.trans hnk)
            rw [this, ht, hu, hnk]
            rfl)
          have hin := fun w => inner_b hu htl w
          have s1 : (k : Int) ≤ (i : Int) := by omega
          clear hA HK hn hnk ht hu
          go_wp2_with (fail)
          refine (hr1 _).mono ?_
          rintro e w' ⟨rfl, rfl⟩
          go_wp2_with (fail)
          refine (hin _).mono ?_
          rintro e w2 ⟨rfl, hm⟩
          have HM := Lib.hid hm
          clear hm
          go_wp2
          go_ret2
          exact ⟨ret_val (by rw [HR.out]; rfl), HM.out⟩
        · have z1 : ((n : Int) == (k : Int)) = false := beq_eq_false_iff_ne.2 (by omega)
          by_cases hn0 : n = 0
          · have z2 : ((n : Int) == 0) = true := by rw [beq_iff_eq]; omega
            obtain ⟨c, hc⟩ : ∃ c, l[i] = c := ⟨_, rfl⟩
            have hd := drop_at hlt hc
            have H : Hid (CodeAt l k (i + 1)) := Lib.hid (hA.out.step hki (by
              have hc96 : (c == 96) = false := by
                rw [beq_eq_false_iff_ne]
                rintro rfl
                rw [hd] at hn
                have : ticks (96 :: l.drop (i + 1)) = ticks (l.drop (i + 1)) + 1 := by unfold ticks; rw [List.takeWhile_cons, if_pos (by rfl)]; rfl
                omega
              rw [hd, close_cons hc96]
              rfl))
            clear hA HK hn hn0 hnk hd hc
            go_wp2_with (fail)
            refine (hr1 _).mono ?_
            rintro e w' ⟨rfl, rfl⟩
            go_wp2
            go_round
            case rel => exact ⟨i + 1, by go_num, by omega, by omega, H⟩
            case measure => simp [intOf]; omega
          · have z2 : ((n : Int) == 0) = false := beq_eq_false_iff_ne.2 (by omega)
            have H : Hid (CodeAt l k (i + n)) := Lib.hid (hA.out.step hki (by
              have := close_skip (k := k) (l := l.drop i) (by omega) (by omega)
              rw [hn, List.drop_drop] at this
              exact this))
            have hn1 : 0 < n := by omega
            clear hA HK hn hn0 hnk
            go_wp2_with (fail)
            refine (hr1 _).mono ?_
            rintro e w' ⟨rfl, rfl⟩
            go_wp2
            go_round
            case rel => exact ⟨i + n, by go_num, by omega, by omega, H⟩
            case measure => simp [intOf]; omega
      · have q1 : ¬ (i : Int) < (l.length : Int) := by omega
        have HR : Hid (codeV l = .tuple #[.string (sv []), .int .i64 0]) := Lib.hid (hA.out.miss HK.out (by
          rw [List.drop_eq_nil_of_le (by omega), close]))
        clear hA HK
        go_wp2
        go_ret2
        exact ⟨ret_val (by rw [HR.out]; rfl), Mod.refl _ _⟩
theorem rcode_v {l : Bs} {v : Value} (h : codeV l = v) (hl : l.length ≤ 4294967280) (w : World) : Calls Tryd.prog 11 #[.string (sv l)] w fun e w' => e = .returned v ∧ Mod (fun _ => False) w w' := by subst h; exact rcode_any l w hl
theorem rraw_n {l : Bs} {n : Nat} (h : rawN l = n) (hl : l.length ≤ 4294967280) (w : World) : Calls Tryd.prog 17 #[.string (sv l)] w fun e w' => e = .returned (.int .i64 n) ∧ w = w' := by subst h; exact rraw_any l w hl
theorem auto_pair (o : Option (Bs × Bs)) : ∃ (d u : Bs) (k : Int), autoV o = .tuple #[.string (sv d), .string (sv u), .int .i64 k] := by
  cases o with
  | none => exact ⟨[], [], 0, rfl⟩
  | some p => exact ⟨p.1, p.2, _, rfl⟩
theorem shown_b (m : Int) (w : World) (hm : w.cell? ⟨0, 0, none⟩ = some (.int .i64 m)) : Calls Tryd.prog 9 #[] w fun e w' => e = .returned (.bool true) ∧ Mod (fun _ => False) w w' := shown_any m w hm

set_option maxRecDepth 100000 in
set_option maxHeartbeats 1600000 in
theorem spanTells_walk (l : Bs) (m : Int) (w : World) (hl : l.length ≤ 1048576) (hm : w.cell? ⟨0, 0, none⟩ = some (.int .i64 m)) :
    Calls Tryd.prog 3 #[.string (sv l)] w fun e w' => e = .returned (.bool true) ∧ Mod (fun _ => False) w w' := by
  have HM := Lib.hid hm
  clear hm
  obtain ⟨t, n, hc, _, _⟩ := code_facts l []
  obtain ⟨d, u, k, ha⟩ := auto_pair (autoF l)
  obtain ⟨a, hta⟩ : ∃ a, tagN l = a := ⟨_, rfl⟩
  obtain ⟨b, htb⟩ : ∃ b, rawN l = b := ⟨_, rfl⟩
  have hl2 : l.length ≤ 4294967280 := by omega
  have hl3 : l.length ≤ 4194304 := by omega
  go_enter Tryd.func3, Tryd.ntmps3
  go_wp2_with (fail)
  refine (shown_b m _ HM.out).mono ?_
  rintro e w1 ⟨rfl, h1⟩
  have H1 := Lib.hid h1
  clear h1
  go_wp2_with (fail)
  refine (code_v hc m hl2 _ (mod_cell H1.out HM.out)).mono ?_
  rintro e w2 ⟨rfl, h2⟩
  have H2 := Lib.hid (H1.out.trans h2 (fun _ h => h.elim))
  clear h2
  go_wp2_with (fail)
  refine (rcode_v hc hl2 _).mono ?_
  rintro e w3 ⟨rfl, h3⟩
  have H3 := Lib.hid (H2.out.trans h3 (fun _ h => h.elim))
  clear h3
  go_wp2_with (fail)
  refine (auto_v ha m hl3 _ (mod_cell H3.out HM.out)).mono ?_
  rintro e w4 ⟨rfl, h4⟩
  have H4 := Lib.hid (H3.out.trans h4 (fun _ h => h.elim))
  clear h4
  go_wp2_with (fail)
  refine (rauto_v ha hl3 _).mono ?_
  rintro e w5 ⟨rfl, rfl⟩
  go_wp2_with (fail)
  refine (tag_n hta hl2 _).mono ?_
  rintro e w6 ⟨rfl, h6⟩
  have H6 := Lib.hid (H4.out.trans h6 (fun _ h => h.elim))
  clear h6
  go_wp2_with (fail)
  refine (rtag_n hta hl2 _).mono ?_
  rintro e w7 ⟨rfl, rfl⟩
  go_wp2_with (fail)
  refine (raw_n htb m hl2 _ (mod_cell H6.out HM.out)).mono ?_
  rintro e w8 ⟨rfl, h8⟩
  have H8 := Lib.hid (H6.out.trans h8 (fun _ h => h.elim))
  clear h8
  go_wp2_with (fail)
  refine (rraw_n htb hl2 _).mono ?_
  rintro e w9 ⟨rfl, rfl⟩
  go_wp2
  go_ret
  exact ⟨rfl, H8.out⟩
end Go.Proofs.YtkmidilaabgooaaDoor
