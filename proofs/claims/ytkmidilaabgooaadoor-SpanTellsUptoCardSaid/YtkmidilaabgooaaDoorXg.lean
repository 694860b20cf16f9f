/-
  The document's mail.
-/
import Derived.Test.YtkmidilaabgooaaDoorXf
import Derived.Test.YtkmidilaabgooaaDoorCh
namespace Go.Proofs.YtkmidilaabgooaaDoor
open Go.RowKit Mem
set_option linter.unusedVariables false
set_option linter.unusedSimpArgs false

/-- The piece so far. -/
def pend (t : Bs) (fr i : Nat) : Bs := (t.drop fr).take (i - fr)
/-- Are the pieces from here on parts? -/
def PS (t : Bs) (fr i : Nat) : Bool := match pieces 46 (t.drop i) with
  | [] => false
  | h :: r => partB (pend t fr i ++ h) && r.all partB
theorem pieces_cons (c b : UInt8) (l : Bs) : pieces c (b :: l) = if b == c then [] :: pieces c l else match pieces c l with | [] => [[b]] | p :: ps => (b :: p) :: ps := rfl
theorem pieces_ne (c : UInt8) (l : Bs) : ∃ p ps, pieces c l = p :: ps := by
  cases l with
  | nil => exact ⟨[], [], rfl⟩
  | cons b l =>
    rw [pieces_cons]
    split
    · exact ⟨_, _, rfl⟩
    · split
      · exact ⟨_, _, rfl⟩
      · exact ⟨_, _, rfl⟩
theorem pend_nil (t : Bs) (i : Nat) : pend t i i = [] := by unfold pend; simp
theorem pend_len {t : Bs} {fr i : Nat} (h : i ≤ t.length) (hf : fr ≤ i) : (pend t fr i).length = i - fr := by unfold pend; simp; omega
theorem pend_step {t : Bs} {fr i : Nat} {c : UInt8} (h : i < t.length) (hf : fr ≤ i) (hc : t[i] = c) : pend t fr (i + 1) = pend t fr i ++ [c] := by
  unfold pend
  have e : i + 1 - fr = (i - fr) + 1 := by omega
  rw [e, List.take_add_one, List.getElem?_drop]
  have : fr + (i - fr) = i := by omega
  rw [this, List.getElem?_eq_getElem h, hc]
  rfl
theorem ps_start (t : Bs) (i : Nat) : PS t i i = (pieces 46 (t.drop i)).all partB := by
  unfold PS
  obtain ⟨p, ps, h⟩ := pieces_ne 46 (t.drop i)
  rw [h, pend_nil]; rfl
theorem ps_char {t : Bs} {fr i : Nat} {c : UInt8} (hi : i < t.length) (hf : fr ≤ i) (hc : t[i] = c) (h : (c == 46) = false) : PS t fr i = PS t fr (i + 1) := by
  unfold PS
  rw [drop_at hi hc, pieces_cons, h]
  obtain ⟨p, ps, hp⟩ := pieces_ne 46 (t.drop (i + 1))
  rw [hp, if_neg (by decide)]
  dsimp only
  rw [pend_step hi hf hc]
  simp
theorem ps_bad {t : Bs} {fr i : Nat} {c : UInt8} (hi : i < t.length) (hf : fr ≤ i) (hc : t[i] = c) (h : (c == 46) = false) (hn : nameB c = false) : PS t fr i = false := by
  unfold PS
  rw [drop_at hi hc, pieces_cons, h]
  obtain ⟨p, ps, hp⟩ := pieces_ne 46 (t.drop (i + 1))
  rw [hp, if_neg (by decide)]
  dsimp only
  unfold partB
  have : (pend t fr i ++ c :: p).all nameB = false := by rw [List.all_append, List.all_cons, hn]; simp
  rw [this]; simp
theorem ps_dot {t : Bs} {fr i : Nat} {c : UInt8} (hi : i < t.length) (hc : t[i] = c) (h : (c == 46) = true) : PS t fr i = (partB (pend t fr i) && PS t (i + 1) (i + 1)) := by
  rw [ps_start]
  unfold PS
  rw [drop_at hi hc, pieces_cons, h, if_pos rfl]
  dsimp only
  rw [List.append_nil]
theorem ps_end {t : Bs} {fr i : Nat} (hi : ¬ i < t.length) : PS t fr i = partB (pend t fr i) := by
  unfold PS
  rw [List.drop_eq_nil_of_le (by omega)]
  show (partB (pend t fr i ++ []) && true) = _
  rw [List.append_nil, Bool.and_true]
theorem pend_head {t : Bs} {fr i : Nat} {a : UInt8} (h : fr < i) (hf : fr < t.length) (ha : t[fr] = a) : (pend t fr i).head? = some a := by
  unfold pend
  rw [drop_at hf ha]
  have e : i - fr = (i - fr - 1) + 1 := by omega
  rw [e]; rfl
theorem pend_last {t : Bs} {fr j : Nat} {z : UInt8} (h : fr ≤ j) (hj : j < t.length) (hz : t[j] = z) : (pend t fr (j + 1)).getLast? = some z := by
  rw [pend_step hj h hz]; simp
/-- Is the piece a part? -/
theorem part_pend {t : Bs} {fr j : Nat} {a z : UInt8} (h : fr ≤ j) (hj : j < t.length) (hfl : fr < t.length) (ha : t[fr] = a) (hz : t[j] = z) (hall : (pend t fr (j + 1)).all nameB = true) :
    partB (pend t fr (j + 1)) = (decide (j + 1 - fr ≤ 63) && !(a == 45) && !(z == 45)) := by
  unfold partB
  rw [hall, pend_len (by omega) (by omega), pend_head (by omega) hfl ha, pend_last h hj hz, decide_eq_true (show 1 ≤ j + 1 - fr by omega), Bool.true_and, Bool.and_true]
  rfl
theorem part_none (t : Bs) (i : Nat) : partB (pend t i i) = false := by rw [pend_nil]; rfl
theorem mailB_iff (c : UInt8) : mailB c = (ltr c || dig c || ([46, 33, 35, 36, 37, 38, 39, 42, 43, 47, 61, 63, 94, 95, 123, 124, 125, 126, 45, 96] : Bs).contains c) := by
  unfold mailB isB; simp
theorem tw_len {p : UInt8 → Bool} {t : Bs} {K : Nat} (hK : K ≤ t.length) (h : t.dropWhile p = t.drop K) : (t.takeWhile p).length = K := by
  have e := List.takeWhile_append_dropWhile (p := p) (l := t)
  have := congrArg List.length e
  rw [h] at this
  simp at this
  omega
theorem i64 {c : UInt8} {b : Bool} (h : ((c.toNat : Int) == 64) = b) : (c == 64) = b := ieq (n := 64) h
theorem i46 {c : UInt8} {b : Bool} (h : ((c.toNat : Int) == 46) = b) : (c == 46) = b := ieq (n := 46) h
theorem i45 {c : UInt8} {b : Bool} (h : ((c.toNat : Int) == 45) = b) : (c == 45) = b := ieq (n := 45) h
set_option maxRecDepth 100000 in
set_option maxHeartbeats 4000000 in
theorem rmail_any (t : Bs) (w : World) (hl : t.length ≤ 4294967280) : Calls Tryd.prog 37 #[.string (sv t)] w fun e w' => e = .returned (.bool (mailF t)) ∧ w = w' := by
  have hsz := sv_size t
  obtain ⟨K, hK, _, hKl⟩ := suf_at (l := t) (i := 0) (by omega) (dw_suffix mailB t)
  have HK := Lib.hid hK
  clear hK
  go_enter Tryd.func37, Tryd.ntmps37
  go_wp2
  go_loop [3] (fun v => ∃ k : Nat, v = .int .i64 k ∧ k ≤ t.length ∧ Hid (t.dropWhile mailB = (t.drop k).dropWhile mailB)) (fun v => t.length - (intOf v).toNat)
  case atStart => exact ⟨0, rfl, by omega, Lib.hid rfl⟩
  case round =>
    obtain ⟨k, rfl, hk, hD⟩ := hrel
    by_cases hkt : k < t.length
    · have q1 : (k : Int) < (t.length : Int) := by omega
      obtain ⟨d, hd⟩ : ∃ d, t[k] = d := ⟨_, rfl⟩
      have hgd : ∀ h, (sv t)[k]'h = d := fun _ => hd
      have hdd := drop_at hkt hd
      have hn := mailB_iff d
      have hgo : mailB d = true → Hid (t.dropWhile mailB = (t.drop (k + 1)).dropWhile mailB) := fun h => Lib.hid (by rw [hD.out, hdd, List.dropWhile_cons, if_pos h])
      have hstop : mailB d = false → Hid (t.dropWhile mailB = t.drop k) := fun h => Lib.hid (by rw [hD.out, hdd, List.dropWhile_cons, if_neg (by rw [h]; decide)])
      rcases hL : ltr d with _ | _
      · rcases hG : dig d with _ | _
        · rcases hM : ([46, 33, 35, 36, 37, 38, 39, 42, 43, 47, 61, 63, 94, 95, 123, 124, 125, 126, 45, 96] : Bs).contains d with _ | _
          · have HE := hstop (by rw [hn, hL, hG, hM]; rfl)
            have h1 := fun w => letter_b hL w
            have h2 := fun w => digit_b hG w
            have h3 := fun w => among_b (c := d) (o := [46, 33, 35, 36, 37, 38, 39, 42, 43, 47, 61, 63, 94, 95, 123, 124, 125, 126, 45, 96]) (B := false) hM (by decide) w
            clear hL hG hM hn hgo hstop hdd hD
            have hk0 : (t.takeWhile mailB).length = k := tw_len hk HE.out
            by_cases hz : k = 0
            · have HR : Hid (mailF t = false) := Lib.hid (mail_zero (by omega))
              have z0 : ((k : Int) == 0) = true := by rw [beq_iff_eq]; omega
              clear hk0 hz HE hd
              go_wp2_with (fail)
              refine (h1 _).mono ?_
              rintro e w' ⟨rfl, rfl⟩
              go_wp2_with (fail)
              refine (h2 _).mono ?_
              rintro e w' ⟨rfl, rfl⟩
              go_wp2_with (fail)
              refine (h3 _).mono ?_
              rintro e w' ⟨rfl, rfl⟩
              go_wp2
              go_ret
              exact ⟨ret_bool (by rw [HR.out]), rfl⟩
            · have z0 : ((k : Int) == 0) = false := beq_eq_false_iff_ne.2 (by omega)
              have zk : ((k : Int) == (t.length : Int)) = false := beq_eq_false_iff_ne.2 (by omega)
              rcases y0 : ((d.toNat : Int) == 64) with _ | _
              · have HR : Hid (mailF t = false) := Lib.hid (mail_no HE.out (by
                  rw [drop_at hkt hd, pre_cons, beq_eq_false_iff_ne]
                  rintro rfl; cases y0))
                have y0' : ((d.toNat : Int) != 64) = true := by rw [bne, y0]; rfl
                clear hk0 hz HE hd y0
                go_wp2_with (fail)
                refine (h1 _).mono ?_
                rintro e w' ⟨rfl, rfl⟩
                go_wp2_with (fail)
                refine (h2 _).mono ?_
                rintro e w' ⟨rfl, rfl⟩
                go_wp2_with (fail)
                refine (h3 _).mono ?_
                rintro e w' ⟨rfl, rfl⟩
                go_wp2
                go_ret
                exact ⟨ret_bool (by rw [HR.out]), rfl⟩
              · have hd64 : d = 64 := UInt8.toNat_inj.1 (by rw [beq_iff_eq] at y0; show d.toNat = 64; omega)
                have y0' : ((d.toNat : Int) != 64) = false := by rw [bne, y0]; rfl
                clear y0
                have HS : Hid (mailF t = PS t (k + 1) (k + 1)) := Lib.hid (by
                  rw [ps_start]
                  exact mail_is (by rw [HE.out, drop_at hkt hd, hd64]) (by omega))
                clear HE hd hd64 hk0 hz HK
                go_wp2_with (fail)
                refine (h1 _).mono ?_
                rintro e w' ⟨rfl, rfl⟩
                go_wp2_with (fail)
                refine (h2 _).mono ?_
                rintro e w' ⟨rfl, rfl⟩
                go_wp2_with (fail)
                refine (h3 _).mono ?_
                rintro e w' ⟨rfl, rfl⟩
                go_wp2
                clear z0 h1 h2 h3 y0' hgd zk
                go_loop [4, 5] (fun v u => ∃ fr i : Nat, v = .int .i64 fr ∧ u = .int .i64 i ∧ ((i = t.length + 1 ∧ Hid (mailF t = true)) ∨ (fr ≤ i ∧ i ≤ t.length ∧ Hid (mailF t = PS t fr i) ∧ Hid ((pend t fr i).all nameB = true)))) (fun _ u => t.length + 1 - (intOf u).toNat)
                case atStart => exact ⟨k + 1, k + 1, by go_num, by go_num, .inr ⟨Nat.le_refl _, by omega, HS, Lib.hid (by rw [pend_nil]; rfl)⟩⟩
                case round =>
                  obtain ⟨fr, i, rfl, rfl, hcase⟩ := hrel
                  clear HS
                  rcases hcase with ⟨hi, HT⟩ | ⟨hfi, hi, HP, HA⟩
                  · have q1 : ¬ (i : Int) ≤ (t.length : Int) := by omega
                    clear hi
                    go_wp2
                    go_ret
                    exact ⟨ret_bool (by rw [HT.out]), rfl⟩
                  · have q1 : (i : Int) ≤ (t.length : Int) := by omega
                    by_cases hit : i < t.length
                    · have q2 : (i : Int) < (t.length : Int) := by omega
                      obtain ⟨x, hx⟩ : ∃ x, t[i] = x := ⟨_, rfl⟩
                      have hgx : ∀ h, (sv t)[i]'h = x := fun _ => hx
                      rcases y1 : ((x.toNat : Int) == 46) with _ | _
                      · have y1' : ((x.toNat : Int) != 46) = true := by rw [bne, y1]; rfl
                        have hn := nameB_iff x
                        have hbad : nameB x = false → Hid (mailF t = false) := fun h => Lib.hid (by rw [HP.out]; exact ps_bad hit hfi hx (i46 y1) h)
                        have hgood : Hid (mailF t = PS t fr (i + 1)) := Lib.hid (by rw [HP.out]; exact ps_char hit hfi hx (i46 y1))
                        have hall : nameB x = true → Hid ((pend t fr (i + 1)).all nameB = true) := fun h => Lib.hid (by rw [pend_step hit hfi hx, List.all_append, HA.out, List.all_cons, h]; rfl)
                        rcases hL : ltr x with _ | _
                        · rcases hG : dig x with _ | _
                          · rcases e3 : ((x.toNat : Int) == 45) with _ | _
                            · have HR := hbad (by rw [hn, hL, hG, e3]; rfl)
                              have e3' : ((x.toNat : Int) != 45) = true := by rw [bne, e3]; rfl
                              have h1 := fun w => letter_b hL w
                              have h2 := fun w => digit_b hG w
                              clear hx y1 hn hbad hgood hall hL hG e3 HP HA
                              go_wp2_with (fail)
                              refine (h1 _).mono ?_
                              rintro e w' ⟨rfl, rfl⟩
                              go_wp2_with (fail)
                              refine (h2 _).mono ?_
                              rintro e w' ⟨rfl, rfl⟩
                              go_wp2
                              go_ret
                              exact ⟨ret_bool (by rw [HR.out]), rfl⟩
                            · have HA2 := hall (by rw [hn, hL, hG, e3]; rfl)
                              have e3' : ((x.toNat : Int) != 45) = false := by rw [bne, e3]; rfl
                              have h1 := fun w => letter_b hL w
                              have h2 := fun w => digit_b hG w
                              clear hx y1 hn hbad hall hL hG e3 HP HA
                              go_wp2_with (fail)
                              refine (h1 _).mono ?_
                              rintro e w' ⟨rfl, rfl⟩
                              go_wp2_with (fail)
                              refine (h2 _).mono ?_
                              rintro e w' ⟨rfl, rfl⟩
                              go_wp2
                              go_round
                              case rel => exact ⟨fr, i + 1, rfl, by go_num, .inr ⟨by omega, by omega, hgood, HA2⟩⟩
                              case measure => simp [intOf]; omega
                          · have HA2 := hall (by rw [hn, hL, hG]; rfl)
                            have h1 := fun w => letter_b hL w
                            have h2 := fun w => digit_b hG w
                            clear hx y1 hn hbad hall hL hG HP HA
                            go_wp2_with (fail)
                            refine (h1 _).mono ?_
                            rintro e w' ⟨rfl, rfl⟩
                            go_wp2_with (fail)
                            refine (h2 _).mono ?_
                            rintro e w' ⟨rfl, rfl⟩
                            go_wp2
                            go_round
                            case rel => exact ⟨fr, i + 1, rfl, by go_num, .inr ⟨by omega, by omega, hgood, HA2⟩⟩
                            case measure => simp [intOf]; omega
                        · have HA2 := hall (by rw [hn, hL]; rfl)
                          have h1 := fun w => letter_b hL w
                          clear hx y1 hn hbad hall hL HP HA
                          go_wp2_with (fail)
                          refine (h1 _).mono ?_
                          rintro e w' ⟨rfl, rfl⟩
                          go_wp2
                          go_round
                          case rel => exact ⟨fr, i + 1, rfl, by go_num, .inr ⟨by omega, by omega, hgood, HA2⟩⟩
                          case measure => simp [intOf]; omega
                      · have y1' : ((x.toNat : Int) != 46) = false := by rw [bne, y1]; rfl
                        have HQ : Hid (mailF t = (partB (pend t fr i) && PS t (i + 1) (i + 1))) := Lib.hid (by rw [HP.out]; exact ps_dot hit hx (i46 y1))
                        clear HP hx y1
                        by_cases hfe : i = fr
                        · have HR : Hid (mailF t = false) := Lib.hid (by rw [HQ.out, hfe, part_none]; rfl)
                          have q4 : ((i : Int) == (fr : Int)) = true := by rw [beq_iff_eq]; omega
                          clear HQ HA hfe
                          go_wp2
                          go_ret
                          exact ⟨ret_bool (by rw [HR.out]), rfl⟩
                        · have q4 : ((i : Int) == (fr : Int)) = false := beq_eq_false_iff_ne.2 (by omega)
                          obtain ⟨j, hj⟩ : ∃ j, i = j + 1 := ⟨i - 1, by omega⟩
                          obtain ⟨a, ha⟩ : ∃ a, t[fr] = a := ⟨_, rfl⟩
                          have hga : ∀ h, (sv t)[fr]'h = a := fun _ => ha
                          obtain ⟨z, hzz⟩ : ∃ z, t[j] = z := ⟨_, rfl⟩
                          have hgz : ∀ h, (sv t)[j]'h = z := fun _ => hzz
                          have HB : Hid (partB (pend t fr i) = (decide (i - fr ≤ 63) && !(a == 45) && !(z == 45))) := Lib.hid (by rw [hj]; exact part_pend (by omega) (by omega) (by omega) ha hzz (by rw [← hj]; exact HA.out))
                          have q8 : (i : Int) - 1 = (j : Int) := by omega
                          have q9 : j < t.length := by omega
                          clear ha hzz HA hj
                          by_cases h63 : i - fr ≤ 63
                          · have q5 : ¬ ((i : Int) - (fr : Int) > 63) := by omega
                            rcases y3 : ((a.toNat : Int) == 45) with _ | _
                            · rcases y4 : ((z.toNat : Int) == 45) with _ | _
                              · have HT : Hid (mailF t = PS t (i + 1) (i + 1)) := Lib.hid (by rw [HQ.out, HB.out, decide_eq_true h63, i45 y3, i45 y4]; rfl)
                                clear HQ HB
                                go_wp2
                                go_round
                                case rel => exact ⟨i + 1, i + 1, by go_num, by go_num, .inr ⟨Nat.le_refl _, by omega, HT, Lib.hid (by rw [pend_nil]; rfl)⟩⟩
                                case measure => simp [intOf]; omega
                              · have HR : Hid (mailF t = false) := Lib.hid (by rw [HQ.out, HB.out, i45 y4, Bool.not_true, Bool.and_false]; rfl)
                                clear HQ HB
                                go_wp2
                                go_ret
                                exact ⟨ret_bool (by rw [HR.out]), rfl⟩
                            · have HR : Hid (mailF t = false) := Lib.hid (by rw [HQ.out, HB.out, i45 y3, Bool.not_true, Bool.and_false, Bool.false_and]; rfl)
                              clear HQ HB
                              go_wp2
                              go_ret
                              exact ⟨ret_bool (by rw [HR.out]), rfl⟩
                          · have q5 : (i : Int) - (fr : Int) > 63 := by omega
                            have HR : Hid (mailF t = false) := Lib.hid (by rw [HQ.out, HB.out, decide_eq_false h63, Bool.false_and, Bool.false_and]; rfl)
                            clear HQ HB
                            go_wp2
                            go_ret
                            exact ⟨ret_bool (by rw [HR.out]), rfl⟩
                    · have q2 : ¬ (i : Int) < (t.length : Int) := by omega
                      have HQ : Hid (mailF t = (partB (pend t fr i) && true)) := Lib.hid (by rw [HP.out, Bool.and_true]; exact ps_end hit)
                      clear HP
                      by_cases hfe : i = fr
                      · have HR : Hid (mailF t = false) := Lib.hid (by rw [HQ.out, hfe, part_none]; rfl)
                        have q4 : ((i : Int) == (fr : Int)) = true := by rw [beq_iff_eq]; omega
                        clear HQ HA hfe
                        go_wp2
                        go_ret
                        exact ⟨ret_bool (by rw [HR.out]), rfl⟩
                      · have q4 : ((i : Int) == (fr : Int)) = false := beq_eq_false_iff_ne.2 (by omega)
                        obtain ⟨j, hj⟩ : ∃ j, i = j + 1 := ⟨i - 1, by omega⟩
                        obtain ⟨a, ha⟩ : ∃ a, t[fr] = a := ⟨_, rfl⟩
                        have hga : ∀ h, (sv t)[fr]'h = a := fun _ => ha
                        obtain ⟨z, hzz⟩ : ∃ z, t[j] = z := ⟨_, rfl⟩
                        have hgz : ∀ h, (sv t)[j]'h = z := fun _ => hzz
                        have HB : Hid (partB (pend t fr i) = (decide (i - fr ≤ 63) && !(a == 45) && !(z == 45))) := Lib.hid (by rw [hj]; exact part_pend (by omega) (by omega) (by omega) ha hzz (by rw [← hj]; exact HA.out))
                        have q8 : (i : Int) - 1 = (j : Int) := by omega
                        have q9 : j < t.length := by omega
                        clear ha hzz HA hj
                        by_cases h63 : i - fr ≤ 63
                        · have q5 : ¬ ((i : Int) - (fr : Int) > 63) := by omega
                          rcases y3 : ((a.toNat : Int) == 45) with _ | _
                          · rcases y4 : ((z.toNat : Int) == 45) with _ | _
                            · have HT : Hid (mailF t = true) := Lib.hid (by rw [HQ.out, HB.out, decide_eq_true h63, i45 y3, i45 y4]; rfl)
                              clear HQ HB
                              go_wp2
                              go_round
                              case rel => exact ⟨i + 1, i + 1, by go_num, by go_num, .inl ⟨by omega, HT⟩⟩
                              case measure => simp [intOf]; omega
                            · have HR : Hid (mailF t = false) := Lib.hid (by rw [HQ.out, HB.out, i45 y4, Bool.not_true, Bool.and_false]; rfl)
                              clear HQ HB
                              go_wp2
                              go_ret
                              exact ⟨ret_bool (by rw [HR.out]), rfl⟩
                          · have HR : Hid (mailF t = false) := Lib.hid (by rw [HQ.out, HB.out, i45 y3, Bool.not_true, Bool.and_false, Bool.false_and]; rfl)
                            clear HQ HB
                            go_wp2
                            go_ret
                            exact ⟨ret_bool (by rw [HR.out]), rfl⟩
                        · have q5 : (i : Int) - (fr : Int) > 63 := by omega
                          have HR : Hid (mailF t = false) := Lib.hid (by rw [HQ.out, HB.out, decide_eq_false h63, Bool.false_and, Bool.false_and]; rfl)
                          clear HQ HB
                          go_wp2
                          go_ret
                          exact ⟨ret_bool (by rw [HR.out]), rfl⟩
          · have H := hgo (by rw [hn, hL, hG, hM]; rfl)
            have h1 := fun w => letter_b hL w
            have h2 := fun w => digit_b hG w
            have h3 := fun w => among_b (c := d) (o := [46, 33, 35, 36, 37, 38, 39, 42, 43, 47, 61, 63, 94, 95, 123, 124, 125, 126, 45, 96]) (B := true) hM (by decide) w
            clear hd hL hG hM hn hgo hstop hdd hD
            go_wp2_with (fail)
            refine (h1 _).mono ?_
            rintro e w' ⟨rfl, rfl⟩
            go_wp2_with (fail)
            refine (h2 _).mono ?_
            rintro e w' ⟨rfl, rfl⟩
            go_wp2_with (fail)
            refine (h3 _).mono ?_
            rintro e w' ⟨rfl, rfl⟩
            go_wp2
            go_round
            case rel => exact ⟨k + 1, by go_num, by omega, H⟩
            case measure => simp [intOf]; omega
        · have H := hgo (by rw [hn, hL, hG]; rfl)
          have h1 := fun w => letter_b hL w
          have h2 := fun w => digit_b hG w
          clear hd hL hG hn hgo hstop hdd hD
          go_wp2_with (fail)
          refine (h1 _).mono ?_
          rintro e w' ⟨rfl, rfl⟩
          go_wp2_with (fail)
          refine (h2 _).mono ?_
          rintro e w' ⟨rfl, rfl⟩
          go_wp2
          go_round
          case rel => exact ⟨k + 1, by go_num, by omega, H⟩
          case measure => simp [intOf]; omega
      · have H := hgo (by rw [hn, hL]; rfl)
        have h1 := fun w => letter_b hL w
        clear hd hL hn hgo hstop hdd hD
        go_wp2_with (fail)
        refine (h1 _).mono ?_
        rintro e w' ⟨rfl, rfl⟩
        go_wp2
        go_round
        case rel => exact ⟨k + 1, by go_num, by omega, H⟩
        case measure => simp [intOf]; omega
    · have q1 : ¬ (k : Int) < (t.length : Int) := by omega
      have HE : Hid (t.dropWhile mailB = t.drop k) := Lib.hid (by
        have hdn : t.drop k = [] := List.drop_eq_nil_of_le (by omega)
        rw [hD.out, hdn]; rfl)
      clear hD
      have hk0 : (t.takeWhile mailB).length = k := tw_len hk HE.out
      by_cases hz : k = 0
      · have HR : Hid (mailF t = false) := Lib.hid (mail_zero (by omega))
        have z0 : ((k : Int) == 0) = true := by rw [beq_iff_eq]; omega
        clear hk0 hz HE
        go_wp2
        go_ret
        exact ⟨ret_bool (by rw [HR.out]), rfl⟩
      · have z0 : ((k : Int) == 0) = false := beq_eq_false_iff_ne.2 (by omega)
        have zk : ((k : Int) == (t.length : Int)) = true := by rw [beq_iff_eq]; omega
        have HR : Hid (mailF t = false) := Lib.hid (mail_no HE.out (by
          have hdn : t.drop k = [] := List.drop_eq_nil_of_le (by omega)
          rw [hdn]; rfl))
        clear hk0 hz HE
        go_wp2
        go_ret
        exact ⟨ret_bool (by rw [HR.out]), rfl⟩
theorem rmail_n {t : Bs} {b : Bool} (h : mailF t = b) (hl : t.length ≤ 4294967280) (w : World) : Calls Tryd.prog 37 #[.string (sv t)] w fun e w' => e = .returned (.bool b) ∧ w = w' := by subst h; exact rmail_any t w hl
end Go.Proofs.YtkmidilaabgooaaDoor
