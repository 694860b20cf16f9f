/-
  The document's name.
-/
import Derived.Test.YtkmidilaabgooaaDoorXa
import Derived.Test.YtkmidilaabgooaaDoorCf
namespace Go.Proofs.YtkmidilaabgooaaDoor
open Go.RowKit Mem
set_option linter.unusedVariables false
set_option linter.unusedSimpArgs false

theorem beq_int (c n : UInt8) : ((c.toNat : Int) == (n.toNat : Int)) = (c == n) := by
  rw [Bool.eq_iff_iff, beq_iff_eq, beq_iff_eq]
  exact ⟨fun h => UInt8.toNat_inj.1 (by omega), fun h => by rw [h]⟩
theorem nameB_iff (c : UInt8) : nameB c = (ltr c || dig c || ((c.toNat : Int) == 45)) := by
  have := beq_int c 45
  have e : (((45 : UInt8).toNat : Nat) : Int) = 45 := rfl
  rw [e] at this
  rw [this]
  unfold nameB isB
  rw [Bool.true_and, Bool.true_and, List.contains_cons]
  simp
theorem nameF_none {l : Bs} {i : Nat} (hi : i < l.length) {b : UInt8} (hb : l[i] = b) (h : ltr b = false) : nameF (l.drop i) = none := by
  rw [drop_at hi hb]
  show (if isB true false [] b then _ else none) = none
  have : isB true false [] b = false := by unfold isB; rw [h]; rfl
  rw [this]; rfl
theorem nameF_some {l : Bs} {i : Nat} (hi : i < l.length) {b : UInt8} (hb : l[i] = b) (h : ltr b = true) : nameF (l.drop i) = some ((l.drop i).dropWhile nameB) := by
  rw [drop_at hi hb]
  show (if isB true false [] b then _ else none) = _
  have : isB true false [] b = true := by unfold isB; rw [h]; rfl
  rw [this]; rfl
/-- What the document's name tells. -/
def nameI (l : Bs) (i : Nat) : Nat := match nameF (l.drop i) with
  | none => i
  | some r => l.length - r.length
set_option maxHeartbeats 1600000 in
theorem rname_any (l : Bs) (i : Nat) (w : World) (hi : i ≤ l.length) (hl : l.length ≤ 4294967280) : Calls Tryd.prog 42 #[.string (sv l), .int .i64 (i : Int)] w fun e w' => e = .returned (.int .i64 (nameI l i : Nat)) ∧ w = w' := by
  have hsz := sv_size l
  by_cases hlt : i < l.length
  · have q1 : (i : Int) < (l.length : Int) := by omega
    have q0 : ¬ l.length ≤ i := by omega
    obtain ⟨b, hb⟩ : ∃ b, l[i] = b := ⟨_, rfl⟩
    have hget : ∀ h, (sv l)[i]'h = b := fun _ => hb
    rcases hL : ltr b with _ | _
    · have HR : Hid (nameI l i = i) := Lib.hid (by unfold nameI; rw [nameF_none hlt hb hL])
      have HL := fun w => letter_b hL w
      clear hb hL
      go_enter Tryd.func42, Tryd.ntmps42
      go_wp2_with (fail)
      refine (HL _).mono ?_
      rintro e w' ⟨rfl, rfl⟩
      go_wp2
      go_ret
      exact ⟨ret_int (by rw [HR.out]), rfl⟩
    · obtain ⟨K, hK, hiK, hKl⟩ := suf_at hi (dw_suffix nameB (l.drop i))
      have HR : Hid (nameI l i = K) := Lib.hid (by
        unfold nameI
        rw [nameF_some hlt hb hL, hK]
        show l.length - (l.drop K).length = K
        rw [List.length_drop]; omega)
      have HK := Lib.hid hK
      have HL := fun w => letter_b hL w
      clear hb hL hK
      go_enter Tryd.func42, Tryd.ntmps42
      go_wp2_with (fail)
      refine (HL _).mono ?_
      rintro e w' ⟨rfl, rfl⟩
      go_wp2
      go_loop [1] (fun v => ∃ k : Nat, v = .int .i64 k ∧ i ≤ k ∧ k ≤ l.length ∧ Hid ((l.drop i).dropWhile nameB = (l.drop k).dropWhile nameB)) (fun v => l.length - (intOf v).toNat)
      case atStart => exact ⟨i, rfl, Nat.le_refl _, hi, Lib.hid rfl⟩
      case round =>
        obtain ⟨k, rfl, hik, hk, hD⟩ := hrel
        clear HL hget
        by_cases hlt2 : k < l.length
        · have q1 : (k : Int) < (l.length : Int) := by omega
          obtain ⟨c, hc⟩ : ∃ c, l[k] = c := ⟨_, rfl⟩
          have hget : ∀ h, (sv l)[k]'h = c := fun _ => hc
          have hd := drop_at hlt2 hc
          have hn := nameB_iff c
          have hgo : nameB c = true → Hid ((l.drop i).dropWhile nameB = (l.drop (k + 1)).dropWhile nameB) := fun h => Lib.hid (by rw [hD.out, hd, List.dropWhile_cons, if_pos h])
          have hstop : nameB c = false → Hid (K = k) := fun h => Lib.hid (by
            refine drop_inj hKl hk ?_
            rw [← HK.out, hD.out, hd, List.dropWhile_cons, if_neg (by rw [h]; decide)])
          rcases hL : ltr c with _ | _
          · rcases hG : dig c with _ | _
            · rcases e3 : ((c.toNat : Int) == 45) with _ | _
              · have H := hstop (by rw [hn, hL, hG, e3]; rfl)
                have h1 := fun w => letter_b hL w
                have h2 := fun w => digit_b hG w
                clear hc hL hG hn hgo hstop hd hD
                go_wp2_with (fail)
                refine (h1 _).mono ?_
                rintro e w' ⟨rfl, rfl⟩
                go_wp2_with (fail)
                refine (h2 _).mono ?_
                rintro e w' ⟨rfl, rfl⟩
                go_wp2
                go_ret
                exact ⟨ret_int (by rw [HR.out, H.out]), rfl⟩
              · have H := hgo (by rw [hn, hL, hG, e3]; rfl)
                have h1 := fun w => letter_b hL w
                have h2 := fun w => digit_b hG w
                clear hc hL hG hn hgo hstop hd hD
                go_wp2_with (fail)
                refine (h1 _).mono ?_
                rintro e w' ⟨rfl, rfl⟩
                go_wp2_with (fail)
                refine (h2 _).mono ?_
                rintro e w' ⟨rfl, rfl⟩
                go_wp2
                go_round
                case rel => exact ⟨k + 1, by go_num, by omega, by omega, H⟩
                case measure => simp [intOf]; omega
            · have H := hgo (by rw [hn, hL, hG]; rfl)
              have h1 := fun w => letter_b hL w
              have h2 := fun w => digit_b hG w
              clear hc hL hG hn hgo hstop hd hD
              go_wp2_with (fail)
              refine (h1 _).mono ?_
              rintro e w' ⟨rfl, rfl⟩
              go_wp2_with (fail)
              refine (h2 _).mono ?_
              rintro e w' ⟨rfl, rfl⟩
              go_wp2
              go_round
              case rel => exact ⟨k + 1, by go_num, by omega, by omega, H⟩
              case measure => simp [intOf]; omega
          · have H := hgo (by rw [hn, hL]; rfl)
            have h1 := fun w => letter_b hL w
            clear hc hL hn hgo hstop hd hD
            go_wp2_with (fail)
            refine (h1 _).mono ?_
            rintro e w' ⟨rfl, rfl⟩
            go_wp2
            go_round
            case rel => exact ⟨k + 1, by go_num, by omega, by omega, H⟩
            case measure => simp [intOf]; omega
        · have H : Hid (K = k) := Lib.hid (by
            refine drop_inj hKl hk ?_
            have hd : l.drop k = [] := List.drop_eq_nil_of_le (by omega)
            rw [← HK.out, hD.out, hd]; rfl)
          clear hD
          go_wp2
          go_ret
          exact ⟨ret_int (by rw [HR.out, H.out]), rfl⟩
  · have HR : Hid (nameI l i = i) := Lib.hid (by
      unfold nameI
      rw [List.drop_eq_nil_of_le (by omega)]; rfl)
    have q1 : ¬ ((i : Int) < (l.length : Int)) := by omega
    go_enter Tryd.func42, Tryd.ntmps42
    go_wp2
    go_ret
    exact ⟨ret_int (by rw [HR.out]), rfl⟩
theorem rname_n {l : Bs} {i n : Nat} (h : nameI l i = n) (hi : i ≤ l.length) (hl : l.length ≤ 4294967280) (w : World) : Calls Tryd.prog 42 #[.string (sv l), .int .i64 (i : Int)] w fun e w' => e = .returned (.int .i64 n) ∧ w = w' := by subst h; exact rname_any l i w hi hl

end Go.Proofs.YtkmidilaabgooaaDoor
