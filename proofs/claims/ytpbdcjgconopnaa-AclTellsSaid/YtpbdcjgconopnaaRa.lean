/-
  The document's Name.
-/
import Derived.Test.YtpbdcjgconopnaaSh
namespace Go.Proofs.Ytpbdcjgconopnaa
open Go.RowKit Mem
set_option linter.unusedVariables false

/-- May the byte stand there? -/
def okP (j : Nat) (b : UInt8) : Bool := (97 ≤ b && b ≤ 122) || (j != 0 && okb b)
theorem okb_of_letter {b : UInt8} (h : (97 ≤ b && b ≤ 122) = true) : okb b = true := by
  simp only [okb, h, Bool.true_or]
theorem okP_true {b : UInt8} {j : Nat} (h : okP j b = true) : okb b = true := by
  unfold okP at h
  rw [Bool.or_eq_true] at h
  rcases h with h | h
  · exact okb_of_letter h
  · rw [Bool.and_eq_true] at h
    exact h.2
theorem nm_false {l : Bs} {k : Nat} (hk : k < l.length) (h : okP k l[k] = false) : nm l = false := by
  cases hn : nm l with
  | false => rfl
  | true =>
    cases l with
    | nil => simp at hk
    | cons b l =>
      unfold nm at hn
      rw [Bool.and_eq_true, Bool.and_eq_true, List.all_eq_true] at hn
      unfold okP at h
      rw [Bool.or_eq_false_iff] at h
      have h2 := hn.2 _ (List.getElem_mem hk)
      rcases k with _ | k
      · have h3 : (97 ≤ b && b ≤ 122) = false := h.1
        rw [h3] at hn; exact absurd hn.1.2 (by decide)
      · rw [h2] at h; simp at h
theorem nm_of {l : Bs} (h : ∀ j (hj : j < l.length), okP j l[j] = true) : nm l = (decide (1 ≤ l.length) && decide (l.length ≤ 16)) := by
  cases l with
  | nil => rfl
  | cons b l =>
    have h0 := h 0 (Nat.succ_pos _)
    have hb : (97 ≤ b && b ≤ 122) = true := by
      unfold okP at h0
      simpa using h0
    have hall : (b :: l).all okb = true := by
      rw [List.all_eq_true]
      intro x hx
      obtain ⟨j, hj, rfl⟩ := List.getElem_of_mem hx
      exact okP_true (h j hj)
    have e : nm (b :: l) = (decide ((b :: l).length ≤ 16) && (97 ≤ b && b ≤ 122) && (b :: l).all okb) := rfl
    rw [e, hb, hall]
    simp

set_option maxRecDepth 100000 in
set_option maxHeartbeats 3200000 in
theorem rname_any (l : Bs) (w : World) (hl : l.length ≤ 9223372036854775807) : Calls Try.prog 30 #[.string (sv l)] w fun e w' => e = .returned (.bool (nm l)) ∧ Mod (fun _ => False) w w' := by
  have hsz := sv_size l
  go_enter Try.func30, Try.ntmps30
  go_wp2
  go_loop [3, 4] (fun i _ => ∃ k : Nat, i = .int .i64 k ∧ k ≤ l.length ∧ Hid (∀ j (hj : j < l.length), j < k → okP j l[j] = true)) (fun i _ => l.length - (intOf i).toNat)
  case atStart => exact ⟨0, rfl, by omega, Lib.hid (fun j hj h => by omega)⟩
  case round =>
    obtain ⟨k, rfl, hk, hall⟩ := hrel
    by_cases hlt : k < l.length
    · have hq : (k : Int) < (l.length : Int) := by omega
      obtain ⟨b, hb⟩ : ∃ b, l[k] = b := ⟨_, rfl⟩
      have hget : ∀ h, (sv l)[k]'h = b := fun _ => hb
      have Hno : Hid (okP k b = false → nm l = false) := Lib.hid (fun h => nm_false hlt (by rw [hb]; exact h))
      have Hyes : Hid (okP k b = true → ∀ j (hj : j < l.length), j < k + 1 → okP j l[j] = true) := Lib.hid (fun h j hj hjk => by
        rcases Nat.lt_or_ge j k with h1 | h1
        · exact hall.out j hj h1
        · obtain rfl : j = k := by omega
          rw [hb]; exact h)
      have Hok : Hid (okP k b = ((decide ((97 : Int) ≤ b.toNat) && decide ((b.toNat : Int) ≤ 122)) || (!decide (k = 0) && ((decide ((97 : Int) ≤ b.toNat) && decide ((b.toNat : Int) ≤ 122)) || (decide ((48 : Int) ≤ b.toNat) && decide ((b.toNat : Int) ≤ 57)) || decide ((b.toNat : Int) = 45))))) := Lib.hid (by
        have e1 : decide ((97 : UInt8) ≤ b) = decide ((97 : Int) ≤ b.toNat) := by rw [Bool.eq_iff_iff]; simp [UInt8.le_iff_toNat_le]; omega
        have e2 : decide (b ≤ (122 : UInt8)) = decide ((b.toNat : Int) ≤ 122) := by rw [Bool.eq_iff_iff]; simp [UInt8.le_iff_toNat_le]; omega
        have e3 : decide ((48 : UInt8) ≤ b) = decide ((48 : Int) ≤ b.toNat) := by rw [Bool.eq_iff_iff]; simp [UInt8.le_iff_toNat_le]; omega
        have e4 : decide (b ≤ (57 : UInt8)) = decide ((b.toNat : Int) ≤ 57) := by rw [Bool.eq_iff_iff]; simp [UInt8.le_iff_toNat_le]; omega
        have e5 : (b == 45) = decide ((b.toNat : Int) = 45) := by
          rw [Bool.eq_iff_iff]; simp only [beq_iff_eq, decide_eq_true_eq]
          exact ⟨fun h => by rw [h]; rfl, fun h => UInt8.toNat_inj.1 (by show b.toNat = 45; omega)⟩
        have e6 : (k != 0) = !decide (k = 0) := by cases k <;> rfl
        unfold okP okb
        rw [e1, e2, e3, e4, e5, e6])
      clear hb hall
      have hx : ((b.toNat : Int) < 45) ∨ ((b.toNat : Int) = 45) ∨ ((45 : Int) < b.toNat ∧ (b.toNat : Int) < 48) ∨ ((48 : Int) ≤ b.toNat ∧ (b.toNat : Int) ≤ 57) ∨ ((57 : Int) < b.toNat ∧ (b.toNat : Int) < 97) ∨ ((97 : Int) ≤ b.toNat ∧ (b.toNat : Int) ≤ 122) ∨ ((122 : Int) < b.toNat) := by omega
      rcases hx with hx | hx | hx | hx | hx | hx | hx
      · have p0 : ¬ ((97 : Int) ≤ b.toNat) := by omega
        have a0 : decide ((97 : Int) ≤ b.toNat) = false := decide_eq_false p0
        have p1 : (b.toNat : Int) ≤ 122 := by omega
        have a1 : decide ((b.toNat : Int) ≤ 122) = true := decide_eq_true p1
        have p2 : ¬ ((48 : Int) ≤ b.toNat) := by omega
        have a2 : decide ((48 : Int) ≤ b.toNat) = false := decide_eq_false p2
        have p3 : (b.toNat : Int) ≤ 57 := by omega
        have a3 : decide ((b.toNat : Int) ≤ 57) = true := decide_eq_true p3
        have a4 : decide ((b.toNat : Int) = 45) = false := decide_eq_false (by omega)
        have a5 : ((b.toNat : Int) == 45) = false := by rw [beq_eq_false_iff_ne]; omega
        by_cases hk0 : k = 0
        · have Hd := Lib.hid (Hno.out (by rw [Hok.out, a0, a1, decide_eq_true hk0]; rfl))
          clear Hno Hyes Hok
          subst hk0
          go_wp2
          go_ret
          exact ⟨ret_bool Hd.out.symm, Mod.refl _ _⟩
        · have k0 : ((k : Int) == 0) = false := by rw [beq_eq_false_iff_ne]; omega
          have Hd := Lib.hid (Hno.out (by rw [Hok.out, a0, a1, a2, a3, a4, decide_eq_false hk0]; rfl))
          clear Hno Hyes Hok
          go_wp2
          go_ret
          exact ⟨ret_bool Hd.out.symm, Mod.refl _ _⟩
      · have p0 : ¬ ((97 : Int) ≤ b.toNat) := by omega
        have a0 : decide ((97 : Int) ≤ b.toNat) = false := decide_eq_false p0
        have p1 : (b.toNat : Int) ≤ 122 := by omega
        have a1 : decide ((b.toNat : Int) ≤ 122) = true := decide_eq_true p1
        have p2 : ¬ ((48 : Int) ≤ b.toNat) := by omega
        have a2 : decide ((48 : Int) ≤ b.toNat) = false := decide_eq_false p2
        have p3 : (b.toNat : Int) ≤ 57 := by omega
        have a3 : decide ((b.toNat : Int) ≤ 57) = true := decide_eq_true p3
        have a4 : decide ((b.toNat : Int) = 45) = true := decide_eq_true hx
        have a5 : ((b.toNat : Int) == 45) = true := by rw [beq_iff_eq]; exact hx
        by_cases hk0 : k = 0
        · have Hd := Lib.hid (Hno.out (by rw [Hok.out, a0, a1, decide_eq_true hk0]; rfl))
          clear Hno Hyes Hok
          subst hk0
          go_wp2
          go_ret
          exact ⟨ret_bool Hd.out.symm, Mod.refl _ _⟩
        · have k0 : ((k : Int) == 0) = false := by rw [beq_eq_false_iff_ne]; omega
          have Hd := Lib.hid (Hyes.out (by rw [Hok.out, a0, a1, a2, a3, a4, decide_eq_false hk0]; rfl))
          clear Hno Hyes Hok
          go_wp2
          go_round
          case rel => exact ⟨k + 1, by go_num, by omega, Hd⟩
          case measure => simp [intOf]; omega
      · have p0 : ¬ ((97 : Int) ≤ b.toNat) := by omega
        have a0 : decide ((97 : Int) ≤ b.toNat) = false := decide_eq_false p0
        have p1 : (b.toNat : Int) ≤ 122 := by omega
        have a1 : decide ((b.toNat : Int) ≤ 122) = true := decide_eq_true p1
        have p2 : ¬ ((48 : Int) ≤ b.toNat) := by omega
        have a2 : decide ((48 : Int) ≤ b.toNat) = false := decide_eq_false p2
        have p3 : (b.toNat : Int) ≤ 57 := by omega
        have a3 : decide ((b.toNat : Int) ≤ 57) = true := decide_eq_true p3
        have a4 : decide ((b.toNat : Int) = 45) = false := decide_eq_false (by omega)
        have a5 : ((b.toNat : Int) == 45) = false := by rw [beq_eq_false_iff_ne]; omega
        by_cases hk0 : k = 0
        · have Hd := Lib.hid (Hno.out (by rw [Hok.out, a0, a1, decide_eq_true hk0]; rfl))
          clear Hno Hyes Hok
          subst hk0
          go_wp2
          go_ret
          exact ⟨ret_bool Hd.out.symm, Mod.refl _ _⟩
        · have k0 : ((k : Int) == 0) = false := by rw [beq_eq_false_iff_ne]; omega
          have Hd := Lib.hid (Hno.out (by rw [Hok.out, a0, a1, a2, a3, a4, decide_eq_false hk0]; rfl))
          clear Hno Hyes Hok
          go_wp2
          go_ret
          exact ⟨ret_bool Hd.out.symm, Mod.refl _ _⟩
      · have p0 : ¬ ((97 : Int) ≤ b.toNat) := by omega
        have a0 : decide ((97 : Int) ≤ b.toNat) = false := decide_eq_false p0
        have p1 : (b.toNat : Int) ≤ 122 := by omega
        have a1 : decide ((b.toNat : Int) ≤ 122) = true := decide_eq_true p1
        have p2 : (48 : Int) ≤ b.toNat := by omega
        have a2 : decide ((48 : Int) ≤ b.toNat) = true := decide_eq_true p2
        have p3 : (b.toNat : Int) ≤ 57 := by omega
        have a3 : decide ((b.toNat : Int) ≤ 57) = true := decide_eq_true p3
        have a4 : decide ((b.toNat : Int) = 45) = false := decide_eq_false (by omega)
        have a5 : ((b.toNat : Int) == 45) = false := by rw [beq_eq_false_iff_ne]; omega
        by_cases hk0 : k = 0
        · have Hd := Lib.hid (Hno.out (by rw [Hok.out, a0, a1, decide_eq_true hk0]; rfl))
          clear Hno Hyes Hok
          subst hk0
          go_wp2
          go_ret
          exact ⟨ret_bool Hd.out.symm, Mod.refl _ _⟩
        · have k0 : ((k : Int) == 0) = false := by rw [beq_eq_false_iff_ne]; omega
          have Hd := Lib.hid (Hyes.out (by rw [Hok.out, a0, a1, a2, a3, a4, decide_eq_false hk0]; rfl))
          clear Hno Hyes Hok
          go_wp2
          go_round
          case rel => exact ⟨k + 1, by go_num, by omega, Hd⟩
          case measure => simp [intOf]; omega
      · have p0 : ¬ ((97 : Int) ≤ b.toNat) := by omega
        have a0 : decide ((97 : Int) ≤ b.toNat) = false := decide_eq_false p0
        have p1 : (b.toNat : Int) ≤ 122 := by omega
        have a1 : decide ((b.toNat : Int) ≤ 122) = true := decide_eq_true p1
        have p2 : (48 : Int) ≤ b.toNat := by omega
        have a2 : decide ((48 : Int) ≤ b.toNat) = true := decide_eq_true p2
        have p3 : ¬ ((b.toNat : Int) ≤ 57) := by omega
        have a3 : decide ((b.toNat : Int) ≤ 57) = false := decide_eq_false p3
        have a4 : decide ((b.toNat : Int) = 45) = false := decide_eq_false (by omega)
        have a5 : ((b.toNat : Int) == 45) = false := by rw [beq_eq_false_iff_ne]; omega
        by_cases hk0 : k = 0
        · have Hd := Lib.hid (Hno.out (by rw [Hok.out, a0, a1, decide_eq_true hk0]; rfl))
          clear Hno Hyes Hok
          subst hk0
          go_wp2
          go_ret
          exact ⟨ret_bool Hd.out.symm, Mod.refl _ _⟩
        · have k0 : ((k : Int) == 0) = false := by rw [beq_eq_false_iff_ne]; omega
          have Hd := Lib.hid (Hno.out (by rw [Hok.out, a0, a1, a2, a3, a4, decide_eq_false hk0]; rfl))
          clear Hno Hyes Hok
          go_wp2
          go_ret
          exact ⟨ret_bool Hd.out.symm, Mod.refl _ _⟩
      · have p0 : (97 : Int) ≤ b.toNat := by omega
        have a0 : decide ((97 : Int) ≤ b.toNat) = true := decide_eq_true p0
        have p1 : (b.toNat : Int) ≤ 122 := by omega
        have a1 : decide ((b.toNat : Int) ≤ 122) = true := decide_eq_true p1
        have p2 : (48 : Int) ≤ b.toNat := by omega
        have a2 : decide ((48 : Int) ≤ b.toNat) = true := decide_eq_true p2
        have p3 : ¬ ((b.toNat : Int) ≤ 57) := by omega
        have a3 : decide ((b.toNat : Int) ≤ 57) = false := decide_eq_false p3
        have a4 : decide ((b.toNat : Int) = 45) = false := decide_eq_false (by omega)
        have a5 : ((b.toNat : Int) == 45) = false := by rw [beq_eq_false_iff_ne]; omega
        have Hd := Lib.hid (Hyes.out (by rw [Hok.out, a0, a1]; rfl))
        clear Hno Hyes Hok
        go_wp2
        go_round
        case rel => exact ⟨k + 1, by go_num, by omega, Hd⟩
        case measure => simp [intOf]; omega
      · have p0 : (97 : Int) ≤ b.toNat := by omega
        have a0 : decide ((97 : Int) ≤ b.toNat) = true := decide_eq_true p0
        have p1 : ¬ ((b.toNat : Int) ≤ 122) := by omega
        have a1 : decide ((b.toNat : Int) ≤ 122) = false := decide_eq_false p1
        have p2 : (48 : Int) ≤ b.toNat := by omega
        have a2 : decide ((48 : Int) ≤ b.toNat) = true := decide_eq_true p2
        have p3 : ¬ ((b.toNat : Int) ≤ 57) := by omega
        have a3 : decide ((b.toNat : Int) ≤ 57) = false := decide_eq_false p3
        have a4 : decide ((b.toNat : Int) = 45) = false := decide_eq_false (by omega)
        have a5 : ((b.toNat : Int) == 45) = false := by rw [beq_eq_false_iff_ne]; omega
        by_cases hk0 : k = 0
        · have Hd := Lib.hid (Hno.out (by rw [Hok.out, a0, a1, decide_eq_true hk0]; rfl))
          clear Hno Hyes Hok
          subst hk0
          go_wp2
          go_ret
          exact ⟨ret_bool Hd.out.symm, Mod.refl _ _⟩
        · have k0 : ((k : Int) == 0) = false := by rw [beq_eq_false_iff_ne]; omega
          have Hd := Lib.hid (Hno.out (by rw [Hok.out, a0, a1, a2, a3, a4, decide_eq_false hk0]; rfl))
          clear Hno Hyes Hok
          go_wp2
          go_ret
          exact ⟨ret_bool Hd.out.symm, Mod.refl _ _⟩
    · obtain rfl : l.length = k := by omega
      have Hn : Hid (nm l = (decide (1 ≤ l.length) && decide (l.length ≤ 16))) := Lib.hid (nm_of (fun j hj => hall.out j hj hj))
      clear hall
      by_cases h1 : (1 : Int) ≤ (l.length : Int)
      · by_cases h2 : (l.length : Int) ≤ 16
        · go_wp2
          go_ret
          exact ⟨ret_bool (by rw [Hn.out, decide_eq_true (show 1 ≤ l.length by omega), decide_eq_true (show l.length ≤ 16 by omega)]; rfl), Mod.refl _ _⟩
        · go_wp2
          go_ret
          exact ⟨ret_bool (by rw [Hn.out, decide_eq_false (show ¬ l.length ≤ 16 by omega)]; simp), Mod.refl _ _⟩
      · go_wp2
        go_ret
        exact ⟨ret_bool (by rw [Hn.out, decide_eq_false (show ¬ 1 ≤ l.length by omega)]; rfl), Mod.refl _ _⟩
end Go.Proofs.Ytpbdcjgconopnaa
