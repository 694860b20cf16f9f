/-
  span's small functions: is, and a scan's some, text, gap, name.
-/
import Derived.Test.YtkmidilaabgooaaDoorProg
import Derived.Test.YtkmidilaabgooaaDoorCalmTail
import Derived.Test.YtkmidilaabgooaaDoorShelf
import Derived.Test.YtkmidilaabgooaaDoorFront
import Derived.WalkKit
import Derived.Tactics2
import Derived.Outline
import Derived.KernelRfl
import Derived.Deep.QuietTactic
import Derived.BigQuiet
import Derived.LoopTactic
import Derived.Deep.LoopGhost
import Derived.Deep.DeepCutAuto
import Derived.Deep.CutBlock
import Derived.Deep.RegionHeld3
import Derived.Deep.RegionWith
import Derived.Deep.RegionLaw
import Derived.StillTailTactics
import Derived.Laws.BitsLemmas
import Derived.WalkSpells
import Derived.IntWalk
namespace Go.Proofs.YtkmidilaabgooaaDoor
open Go.RowKit Mem
set_option linter.unusedVariables false
set_option linter.unusedSimpArgs false

theorem ret_int {k : IntKind} {a b : Int} (h : a = b) : Ending.returned (.int k a) = .returned (.int k b) := by rw [h]
theorem ret_bool {a b : Bool} (h : a = b) : Ending.returned (.bool a) = .returned (.bool b) := by rw [h]
theorem ret_val {a b : Value} (h : a = b) : Ending.returned a = .returned b := by rw [h]
theorem or32_small : ∀ n : Fin 256, (decide (97 ≤ (n.val ||| 32)) && decide ((n.val ||| 32) ≤ 122)) = (decide (97 ≤ n.val) && decide (n.val ≤ 122) || decide (65 ≤ n.val) && decide (n.val ≤ 90)) := by decide +kernel
theorem ltr_nat (c : UInt8) : ltr c = (decide (97 ≤ c.toNat) && decide (c.toNat ≤ 122) || decide (65 ≤ c.toNat) && decide (c.toNat ≤ 90)) := by
  unfold ltr
  simp only [UInt8.le_iff_toNat_le]
  rfl
theorem dig_nat (c : UInt8) : dig c = (decide (48 ≤ c.toNat) && decide (c.toNat ≤ 57)) := by
  unfold dig
  simp only [UInt8.le_iff_toNat_le]
  rfl
theorem or32 (c : UInt8) : ∃ m : Nat, Go.bits .or .u8 (c.toNat : Int) 32 = (m : Int) ∧ ltr c = (decide (97 ≤ m) && decide (m ≤ 122)) := by
  have h1 := (bits_nat .u8 8 (by decide) (fun n h0 h1 => by rw [IntKind.wrap_u8]; omega) c.toNat 32 (by have := c.toNat_lt; omega) (by omega)).2
  refine ⟨_, h1, ?_⟩
  rw [ltr_nat]
  exact (or32_small ⟨c.toNat, c.toNat_lt⟩).symm
theorem has_idx (c : UInt8) : ∀ o : Bs, -1 ≤ Lib.indexByte o c ∧ decide (0 ≤ Lib.indexByte o c) = o.contains c
  | [] => by simp [Lib.indexByte]
  | x :: o => by
    have ih := has_idx c o
    unfold Lib.indexByte
    by_cases hx : (x == c) = true
    · rw [if_pos hx]
      simp at hx
      simp [hx]
    · have hx' : (c == x) = false := by
        rw [beq_eq_false_iff_ne]; rintro rfl; simp at hx
      rw [if_neg hx, List.contains_cons, hx', Bool.false_or, ← ih.2]
      by_cases h1 : Lib.indexByte o c = -1
      · rw [h1]; simp
      · have h2 : ¬ (Lib.indexByte o c == -1) = true := by simpa using h1
        rw [if_neg h2]
        refine ⟨by omega, ?_⟩
        rw [decide_eq_decide]
        omega
theorem idx_any (o : Bs) (c : UInt8) (w : World) : Calls Tryd.prog 21 #[.string (sv o), .int .u8 (c.toNat : Int)] w fun e w' => e = .returned (.int .i64 (Lib.indexByte o c)) ∧ w' = w := by
  have := Tryd.strings_IndexByte (sv o) (c.toNat : Int) w
  rw [sv_list, Int.toNat_natCast, Nat.toUInt8_eq, UInt8.ofNat_toNat] at this
  exact this

set_option maxHeartbeats 1000000 in
theorem is_any (c : UInt8) (p q : Bool) (o : Bs) (w : World) : Calls Tryd.prog 30 #[.int .u8 (c.toNat : Int), .bool p, .bool q, .string (sv o)] w fun e w' => e = .returned (.bool (isB p q o c)) ∧ w = w' := by
  obtain ⟨m, hm, hl⟩ := or32 c
  have hd := dig_nat c
  have hi := fun w => idx_any o c w
  obtain ⟨h1, h2⟩ := has_idx c o
  obtain ⟨i, hii⟩ : ∃ i, Lib.indexByte o c = i := ⟨_, rfl⟩
  rw [hii] at hi h1 h2
  have hB : isB p q o c = ((p && (decide ((97 : Int) ≤ m) && decide ((m : Int) ≤ 122))) || (q && (decide ((48 : Int) ≤ c.toNat) && decide ((c.toNat : Int) ≤ 57))) || decide (0 ≤ i)) := by
    unfold isB
    rw [hl, hd, ← h2]
    have e1 : decide (97 ≤ m) = decide ((97 : Int) ≤ m) := by rw [decide_eq_decide]; omega
    have e2 : decide (m ≤ 122) = decide ((m : Int) ≤ 122) := by rw [decide_eq_decide]; omega
    have e3 : decide (48 ≤ c.toNat) = decide ((48 : Int) ≤ c.toNat) := by rw [decide_eq_decide]; omega
    have e4 : decide (c.toNat ≤ 57) = decide ((c.toNat : Int) ≤ 57) := by rw [decide_eq_decide]; omega
    rw [e1, e2, e3, e4]
  have HB := Lib.hid hB
  clear hB hl hd h2 hii
  cases p
  · skip
    cases q
    · skip
      go_enter Tryd.func30, Tryd.ntmps30
      go_wp2_with (go_at_call 21; refine (hi _).mono ?_; rintro e w' ⟨rfl, rfl⟩)
      go_ret
      exact ⟨ret_bool (by rw [HB.out]; simp), rfl⟩
    · by_cases d1 : (48 : Int) ≤ c.toNat
      · by_cases d2 : (c.toNat : Int) ≤ 57
        · skip
          go_enter Tryd.func30, Tryd.ntmps30
          go_wp2
          go_ret
          exact ⟨ret_bool (by rw [HB.out]; simp <;> omega), rfl⟩
        · skip
          go_enter Tryd.func30, Tryd.ntmps30
          go_wp2_with (go_at_call 21; refine (hi _).mono ?_; rintro e w' ⟨rfl, rfl⟩)
          go_ret
          exact ⟨ret_bool (by rw [HB.out]; simp <;> omega), rfl⟩
      · skip
        go_enter Tryd.func30, Tryd.ntmps30
        go_wp2_with (go_at_call 21; refine (hi _).mono ?_; rintro e w' ⟨rfl, rfl⟩)
        go_ret
        exact ⟨ret_bool (by rw [HB.out]; simp <;> omega), rfl⟩
  · by_cases l1 : (97 : Int) ≤ m
    · by_cases l2 : (m : Int) ≤ 122
      · skip
        go_enter Tryd.func30, Tryd.ntmps30
        go_wp2
        go_ret
        exact ⟨ret_bool (by rw [HB.out]; simp <;> omega), rfl⟩
      · skip
        cases q
        · skip
          go_enter Tryd.func30, Tryd.ntmps30
          go_wp2_with (go_at_call 21; refine (hi _).mono ?_; rintro e w' ⟨rfl, rfl⟩)
          go_ret
          exact ⟨ret_bool (by rw [HB.out]; simp <;> omega), rfl⟩
        · by_cases d1 : (48 : Int) ≤ c.toNat
          · by_cases d2 : (c.toNat : Int) ≤ 57
            · skip
              go_enter Tryd.func30, Tryd.ntmps30
              go_wp2
              go_ret
              exact ⟨ret_bool (by rw [HB.out]; simp <;> omega), rfl⟩
            · skip
              go_enter Tryd.func30, Tryd.ntmps30
              go_wp2_with (go_at_call 21; refine (hi _).mono ?_; rintro e w' ⟨rfl, rfl⟩)
              go_ret
              exact ⟨ret_bool (by rw [HB.out]; simp <;> omega), rfl⟩
          · skip
            go_enter Tryd.func30, Tryd.ntmps30
            go_wp2_with (go_at_call 21; refine (hi _).mono ?_; rintro e w' ⟨rfl, rfl⟩)
            go_ret
            exact ⟨ret_bool (by rw [HB.out]; simp <;> omega), rfl⟩
    · skip
      cases q
      · skip
        go_enter Tryd.func30, Tryd.ntmps30
        go_wp2_with (go_at_call 21; refine (hi _).mono ?_; rintro e w' ⟨rfl, rfl⟩)
        go_ret
        exact ⟨ret_bool (by rw [HB.out]; simp <;> omega), rfl⟩
      · by_cases d1 : (48 : Int) ≤ c.toNat
        · by_cases d2 : (c.toNat : Int) ≤ 57
          · skip
            go_enter Tryd.func30, Tryd.ntmps30
            go_wp2
            go_ret
            exact ⟨ret_bool (by rw [HB.out]; simp <;> omega), rfl⟩
          · skip
            go_enter Tryd.func30, Tryd.ntmps30
            go_wp2_with (go_at_call 21; refine (hi _).mono ?_; rintro e w' ⟨rfl, rfl⟩)
            go_ret
            exact ⟨ret_bool (by rw [HB.out]; simp <;> omega), rfl⟩
        · skip
          go_enter Tryd.func30, Tryd.ntmps30
          go_wp2_with (go_at_call 21; refine (hi _).mono ?_; rintro e w' ⟨rfl, rfl⟩)
          go_ret
          exact ⟨ret_bool (by rw [HB.out]; simp <;> omega), rfl⟩
end Go.Proofs.YtkmidilaabgooaaDoor
