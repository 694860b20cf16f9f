/-
  The document's letter, digit, among, run, gap, name.
-/
import Derived.Test.YtkmidilaabgooaaDoorCl
namespace Go.Proofs.YtkmidilaabgooaaDoor
open Go.RowKit Mem
set_option linter.unusedVariables false
set_option linter.unusedSimpArgs false

theorem ltr_int (c : UInt8) : ltr c = ((decide ((97 : Int) ≤ c.toNat) && decide ((c.toNat : Int) ≤ 122)) || (decide ((65 : Int) ≤ c.toNat) && decide ((c.toNat : Int) ≤ 90))) := by
  rw [ltr_nat]
  have e1 : decide (97 ≤ c.toNat) = decide ((97 : Int) ≤ c.toNat) := by rw [decide_eq_decide]; omega
  have e2 : decide (c.toNat ≤ 122) = decide ((c.toNat : Int) ≤ 122) := by rw [decide_eq_decide]; omega
  have e3 : decide (65 ≤ c.toNat) = decide ((65 : Int) ≤ c.toNat) := by rw [decide_eq_decide]; omega
  have e4 : decide (c.toNat ≤ 90) = decide ((c.toNat : Int) ≤ 90) := by rw [decide_eq_decide]; omega
  rw [e1, e2, e3, e4]
theorem letter_any (c : UInt8) (w : World) : Calls Tryd.prog 34 #[.int .u8 (c.toNat : Int)] w fun e w' => e = .returned (.bool (ltr c)) ∧ w = w' := by
  have HL := Lib.hid (ltr_int c)
  by_cases h1 : (97 : Int) ≤ c.toNat
  · by_cases h2 : (c.toNat : Int) ≤ 122
    · go_enter Tryd.func34, Tryd.ntmps34
      go_wp2
      go_ret
      exact ⟨ret_bool (by rw [HL.out, decide_eq_true h1, decide_eq_true h2]; rfl), rfl⟩
    · have h3 : (65 : Int) ≤ c.toNat := by omega
      have h4 : ¬ (c.toNat : Int) ≤ 90 := by omega
      go_enter Tryd.func34, Tryd.ntmps34
      go_wp2
      go_ret
      exact ⟨ret_bool (by rw [HL.out]; simp <;> omega), rfl⟩
  · by_cases h3 : (65 : Int) ≤ c.toNat
    · by_cases h4 : (c.toNat : Int) ≤ 90
      all_goals
        go_enter Tryd.func34, Tryd.ntmps34
        go_wp2
        go_ret
        exact ⟨ret_bool (by rw [HL.out]; simp <;> omega), rfl⟩
    · go_enter Tryd.func34, Tryd.ntmps34
      go_wp2
      go_ret
      exact ⟨ret_bool (by rw [HL.out]; simp <;> omega), rfl⟩
theorem letter_b {c : UInt8} {b : Bool} (h : ltr c = b) (w : World) : Calls Tryd.prog 34 #[.int .u8 (c.toNat : Int)] w fun e w' => e = .returned (.bool b) ∧ w = w' := by subst h; exact letter_any c w
theorem digit_any (c : UInt8) (w : World) : Calls Tryd.prog 35 #[.int .u8 (c.toNat : Int)] w fun e w' => e = .returned (.bool (dig c)) ∧ w = w' := by
  have hd : dig c = (decide ((48 : Int) ≤ c.toNat) && decide ((c.toNat : Int) ≤ 57)) := by
    rw [dig_nat]
    have e3 : decide (48 ≤ c.toNat) = decide ((48 : Int) ≤ c.toNat) := by rw [decide_eq_decide]; omega
    have e4 : decide (c.toNat ≤ 57) = decide ((c.toNat : Int) ≤ 57) := by rw [decide_eq_decide]; omega
    rw [e3, e4]
  have HL := Lib.hid hd
  clear hd
  by_cases h3 : (48 : Int) ≤ c.toNat
  · by_cases h4 : (c.toNat : Int) ≤ 57
    all_goals
      go_enter Tryd.func35, Tryd.ntmps35
      go_wp2
      go_ret
      exact ⟨ret_bool (by rw [HL.out]; simp <;> omega), rfl⟩
  · go_enter Tryd.func35, Tryd.ntmps35
    go_wp2
    go_ret
    exact ⟨ret_bool (by rw [HL.out]; simp <;> omega), rfl⟩
theorem digit_b {c : UInt8} {b : Bool} (h : dig c = b) (w : World) : Calls Tryd.prog 35 #[.int .u8 (c.toNat : Int)] w fun e w' => e = .returned (.bool b) ∧ w = w' := by subst h; exact digit_any c w
theorem has_iff {o : Bs} {c : UInt8} : o.contains c = true ↔ ∃ (j : Nat) (hj : j < o.length), o[j] = c := by
  rw [List.contains_iff_mem, List.mem_iff_getElem]
set_option maxHeartbeats 800000 in
theorem among_b {c : UInt8} {o : Bs} {B : Bool} (hB : o.contains c = B) (ho : o.length ≤ 1000) (w : World) : Calls Tryd.prog 36 #[.int .u8 (c.toNat : Int), .string (sv o)] w fun e w' => e = .returned (.bool B) ∧ w = w' := by
  have hoz := sv_size o
  have HB := Lib.hid hB
  clear hB
  go_enter Tryd.func36, Tryd.ntmps36
  go_wp2
  go_loop [5] (fun i => ∃ k : Nat, i = .int .i64 k ∧ k ≤ o.length ∧ Hid (∀ j (hj : j < o.length), j < k → o[j] ≠ c)) (fun i => o.length - (intOf i).toNat)
  case atStart => exact ⟨0, rfl, by omega, Lib.hid (fun j hj h => by omega)⟩
  case round =>
    obtain ⟨k, rfl, hk, hall⟩ := hrel
    by_cases hlt : k < o.length
    · have q1 : (k : Int) < (o.length : Int) := by omega
      obtain ⟨b, hb⟩ : ∃ b, o[k] = b := ⟨_, rfl⟩
      have hget : ∀ h, (sv o)[k]'h = b := fun _ => hb
      rcases e1 : ((b.toNat : Int) == (c.toNat : Int)) with _ | _
      · have Hall : Hid (∀ j (hj : j < o.length), j < k + 1 → o[j] ≠ c) := Lib.hid (fun j hj hjk => by
          rcases Nat.lt_or_ge j k with h1 | h1
          · exact hall.out j hj h1
          · obtain rfl : j = k := by omega
            intro h
            have : b = c := hb.symm.trans h
            rw [this] at e1
            simp at e1)
        clear hall hb
        go_wp2
        go_round
        case rel => exact ⟨k + 1, by go_num, by omega, Hall⟩
        case measure => simp [intOf]; omega
      · have HR : Hid (B = true) := Lib.hid (HB.out.symm.trans <| has_iff.2 ⟨k, hlt, hb.trans (UInt8.toNat_inj.1 (by rw [beq_iff_eq] at e1; omega))⟩)
        clear hall hb
        go_wp2
        go_ret
        exact ⟨ret_bool HR.out.symm, rfl⟩
    · have HR : Hid (B = false) := Lib.hid (by
        rw [← HB.out]
        cases hq : o.contains c with
        | false => rfl
        | true =>
          obtain ⟨j, hj, h⟩ := has_iff.1 hq
          exact absurd h (hall.out j hj (by omega)))
      clear hall
      go_wp2
      go_ret
      exact ⟨ret_bool HR.out.symm, rfl⟩
/-- Where an end of a text begins. -/
theorem suf_at {l r : Bs} {i : Nat} (hi : i ≤ l.length) (h : r <:+ l.drop i) : ∃ k, r = l.drop k ∧ i ≤ k ∧ k ≤ l.length := by
  obtain ⟨p, hp⟩ := h
  refine ⟨i + p.length, ?_, by omega, ?_⟩
  · rw [← List.drop_drop, ← hp]
    simp
  · have := congrArg List.length hp
    simp at this
    omega
theorem drop_inj {l : Bs} {i k : Nat} (hi : i ≤ l.length) (hk : k ≤ l.length) (h : l.drop i = l.drop k) : i = k := by
  have := congrArg List.length h
  simp at this
  omega
theorem drop_at {l : Bs} {k : Nat} {b : UInt8} (hk : k < l.length) (hb : l[k] = b) : l.drop k = b :: l.drop (k + 1) := by
  rw [List.drop_eq_getElem_cons hk, hb]

set_option maxHeartbeats 800000 in
/-- run: how many grave accents stand at a place. -/
theorem run_any (l : Bs) (i : Nat) (w : World) (hi : i ≤ l.length) (hl : l.length ≤ 4294967280) : Calls Tryd.prog 24 #[.string (sv l), .int .i64 (i : Int)] w fun e w' => e = .returned (.int .i64 (ticks (l.drop i) : Nat)) ∧ w = w' := by
  have hsz := sv_size l
  go_enter Tryd.func24, Tryd.ntmps24
  go_wp2
  go_loop [5] (fun v => ∃ k : Nat, v = .int .i64 k ∧ i ≤ k ∧ k ≤ l.length ∧ Hid (ticks (l.drop i) = (k - i) + ticks (l.drop k))) (fun v => l.length - (intOf v).toNat)
  case atStart => exact ⟨i, rfl, Nat.le_refl _, hi, Lib.hid (by omega)⟩
  case round =>
    obtain ⟨k, rfl, hik, hk, hT⟩ := hrel
    by_cases hlt : k < l.length
    · have q1 : (k : Int) < (l.length : Int) := by omega
      obtain ⟨b, hb⟩ : ∃ b, l[k] = b := ⟨_, rfl⟩
      have hget : ∀ h, (sv l)[k]'h = b := fun _ => hb
      have hd := drop_at hlt hb
      rcases e1 : ((b.toNat : Int) == 96) with _ | _
      · have HR : Hid (ticks (l.drop i) = k - i) := Lib.hid (by
          rw [hT.out, hd, ticks_cons (by rw [beq_eq_false_iff_ne]; rintro rfl; cases e1)]; rfl)
        clear hT hb hd
        go_wp2
        go_ret
        exact ⟨ret_int (by rw [HR.out]; omega), rfl⟩
      · have HT : Hid (ticks (l.drop i) = (k + 1 - i) + ticks (l.drop (k + 1))) := Lib.hid (by
          have : b = 96 := UInt8.toNat_inj.1 (by rw [beq_iff_eq] at e1; show b.toNat = 96; omega)
          rw [hT.out, hd, this]
          have e : ticks (96 :: l.drop (k + 1)) = ticks (l.drop (k + 1)) + 1 := by unfold ticks; rw [List.takeWhile_cons, if_pos (by rfl)]; rfl
          rw [e]; omega)
        clear hT hb hd
        go_wp2
        go_round
        case rel => exact ⟨k + 1, by go_num, by omega, by omega, HT⟩
        case measure => simp [intOf]; omega
    · have HR : Hid (ticks (l.drop i) = k - i) := Lib.hid (by
        have : l.drop k = [] := List.drop_eq_nil_of_le (by omega)
        rw [hT.out, this]; rfl)
      clear hT
      go_wp2
      go_ret
      exact ⟨ret_int (by rw [HR.out]; omega), rfl⟩
theorem run_n {l : Bs} {i n : Nat} (h : ticks (l.drop i) = n) (hi : i ≤ l.length) (hl : l.length ≤ 4294967280) (w : World) : Calls Tryd.prog 24 #[.string (sv l), .int .i64 (i : Int)] w fun e w' => e = .returned (.int .i64 n) ∧ w = w' := by subst h; exact run_any l i w hi hl

/-- How far a gap has been read. -/
def GapS (l : Bs) (i k ln : Nat) : Prop := (ln = 0 ∧ gapF (l.drop i) = gapF (l.drop k)) ∨ (ln = 1 ∧ gapF (l.drop i) = (l.drop k).dropWhile bt)
theorem gapF_bt {c : UInt8} {r : Bs} (h : bt c = true) : gapF (c :: r) = gapF r := by
  unfold gapF; rw [List.dropWhile_cons, if_pos h]
theorem gapF_lf {r : Bs} : gapF (10 :: r) = r.dropWhile bt := by
  unfold gapF; rw [List.dropWhile_cons, if_neg (by decide)]; rfl
theorem gapF_else {c : UInt8} {r : Bs} (h : bt c = false) (h2 : c ≠ 10) : gapF (c :: r) = c :: r := by
  unfold gapF; rw [List.dropWhile_cons, if_neg (by rw [h]; decide)]
  dsimp only
  rw [if_neg (by rw [beq_iff_eq]; exact h2)]
theorem bt_iff (c : UInt8) : bt c = (((c.toNat : Int) == 32) || ((c.toNat : Int) == 9)) := by
  have e : ∀ n : UInt8, (c == n) = ((c.toNat : Int) == (n.toNat : Int)) := fun n => by
    rw [Bool.eq_iff_iff, beq_iff_eq, beq_iff_eq]
    exact ⟨fun h => by rw [h], fun h => UInt8.toNat_inj.1 (by omega)⟩
  unfold bt isB
  rw [Bool.false_and, Bool.false_and, Bool.false_or, Bool.false_or, List.contains_cons, List.contains_cons, e, e]
  simp

set_option maxHeartbeats 1600000 in
theorem rgap_any (l : Bs) (i K : Nat) (w : World) (hiK : i ≤ K) (hK : K ≤ l.length) (hl : l.length ≤ 4294967280) (h : gapF (l.drop i) = l.drop K) : Calls Tryd.prog 43 #[.string (sv l), .int .i64 (i : Int)] w fun e w' => e = .returned (.int .i64 (K : Nat)) ∧ w = w' := by
  have hsz := sv_size l
  have H := Lib.hid h
  clear h
  go_enter Tryd.func43, Tryd.ntmps43
  go_wp2
  go_loop [1, 5] (fun v n => ∃ k ln : Nat, v = .int .i64 k ∧ n = .int .i64 ln ∧ i ≤ k ∧ k ≤ l.length ∧ ln ≤ 1 ∧ Hid (GapS l i k ln)) (fun v _ => l.length - (intOf v).toNat)
  case atStart => exact ⟨i, 0, rfl, rfl, Nat.le_refl _, by omega, by omega, Lib.hid (.inl ⟨rfl, rfl⟩)⟩
  case round =>
    obtain ⟨k, ln, rfl, rfl, hik, hk, hln, hS⟩ := hrel
    by_cases hlt : k < l.length
    · have q1 : (k : Int) < (l.length : Int) := by omega
      obtain ⟨b, hb⟩ : ∃ b, l[k] = b := ⟨_, rfl⟩
      have hget : ∀ h, (sv l)[k]'h = b := fun _ => hb
      have hd := drop_at hlt hb
      have hbt := bt_iff b
      have hgo : bt b = true → Hid (GapS l i (k + 1) ln) := fun hbt => Lib.hid (by
        rcases hS.out with ⟨h1, h2⟩ | ⟨h1, h2⟩
        · exact .inl ⟨h1, by rw [h2, hd, gapF_bt hbt]⟩
        · exact .inr ⟨h1, by rw [h2, hd, List.dropWhile_cons, if_pos hbt]⟩)
      have hstop : bt b = false → (b = 10 → ln ≠ 0) → Hid (K = k) := fun hbt h10 => Lib.hid (by
        refine drop_inj hK hk ?_
        rw [← H.out]
        rcases hS.out with ⟨h1, h2⟩ | ⟨h1, h2⟩
        · rw [h2, hd, gapF_else hbt (fun h => h10 h h1)]
        · rw [h2, hd, List.dropWhile_cons, if_neg (by rw [hbt]; decide)])
      have hlf : b = 10 → ln = 0 → Hid (GapS l i (k + 1) 1) := fun h10 h0 => Lib.hid (by
        rcases hS.out with ⟨h1, h2⟩ | ⟨h1, h2⟩
        · exact .inr ⟨rfl, by rw [h2, hd, h10, gapF_lf]⟩
        · omega)
      rcases e1 : ((b.toNat : Int) == 32) with _ | _
      · rcases e2 : ((b.toNat : Int) == 9) with _ | _
        · rw [e1, e2] at hbt
          rcases e3 : ((b.toNat : Int) == 10) with _ | _
          · have HK := hstop hbt (fun h => by rw [h] at e3; cases e3)
            clear hgo hstop hlf hbt hb hd hS
            go_wp2
            go_ret
            exact ⟨ret_int (by rw [HK.out]), rfl⟩
          · have hb10 : b = 10 := UInt8.toNat_inj.1 (by rw [beq_iff_eq] at e3; show b.toNat = 10; omega)
            have hx : ln = 0 ∨ ln = 1 := by omega
            rcases hx with rfl | rfl
            · have HS := hlf hb10 rfl
              clear hgo hstop hlf hbt hb hd hS hb10
              go_wp2
              go_round
              case rel => exact ⟨k + 1, 1, by go_num, by go_num, by omega, by omega, by omega, HS⟩
              case measure => simp [intOf]; omega
            · have HK := hstop hbt (fun _ => by decide)
              clear hgo hstop hlf hbt hb hd hS hb10
              go_wp2
              go_ret
              exact ⟨ret_int (by rw [HK.out]), rfl⟩
        · have HS := hgo (by rw [hbt, e1, e2]; rfl)
          have e3 : ((b.toNat : Int) == 10) = false := by rw [beq_iff_eq] at e2; rw [e2]; rfl
          clear hgo hstop hlf hbt hb hd hS
          go_wp2
          go_round
          case rel => exact ⟨k + 1, ln, by go_num, rfl, by omega, by omega, hln, HS⟩
          case measure => simp [intOf]; omega
      · have HS := hgo (by rw [hbt, e1]; rfl)
        have e3 : ((b.toNat : Int) == 10) = false := by rw [beq_iff_eq] at e1; rw [e1]; rfl
        clear hgo hstop hlf hbt hb hd hS
        go_wp2
        go_round
        case rel => exact ⟨k + 1, ln, by go_num, rfl, by omega, by omega, hln, HS⟩
        case measure => simp [intOf]; omega
    · have HK : Hid (K = k) := Lib.hid (by
        refine drop_inj hK hk ?_
        have hd : l.drop k = [] := List.drop_eq_nil_of_le (by omega)
        rw [← H.out]
        rcases hS.out with ⟨h1, h2⟩ | ⟨h1, h2⟩
        · rw [h2, hd]; rfl
        · rw [h2, hd]; rfl)
      clear hS
      go_wp2
      go_ret
      exact ⟨ret_int (by rw [HK.out]), rfl⟩
end Go.Proofs.YtkmidilaabgooaaDoor
