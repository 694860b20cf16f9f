/-
  The document's Who.
-/
import Derived.Test.YtpbdcjgconopnaaRa
namespace Go.Proofs.Ytpbdcjgconopnaa
open Go.RowKit Mem
set_option linter.unusedVariables false

theorem cut_find : ∀ (l : Bs) (k : Nat) (hk : k < l.length), l[k] = 47 → (∀ j (hj : j < l.length), j < k → l[j] ≠ 47) → cut 47 l = some (l.take k, l.drop (k + 1))
  | b :: l, 0, _, h, _ => by
    have hb : b = 47 := h
    simp [cut, hb]
  | b :: l, k + 1, hk, h, hn => by
    have h0 : b ≠ 47 := hn 0 (Nat.succ_pos _) (Nat.succ_pos _)
    have := cut_find l k (by simpa using hk) h (fun j hj hjk => hn (j + 1) (by simpa using hj) (by omega))
    simp [cut, h0, this]
theorem cut_absent : ∀ (l : Bs), (∀ j (hj : j < l.length), l[j] ≠ 47) → cut 47 l = none
  | [], _ => rfl
  | b :: l, h => by
    have h0 : b ≠ 47 := h 0 (Nat.succ_pos _)
    have := cut_absent l (fun j hj => h (j + 1) (by simpa using hj))
    simp [cut, h0, this]
theorem sv_take (l : Bs) (k : Nat) : (sv l).extract 0 k = sv (l.take k) := by
  apply ByteArray.ext; apply Array.toList_inj.1
  simp [sv]
theorem sv_drop (l : Bs) (k n : Nat) (hn : n = l.length) : (sv l).extract k n = sv (l.drop k) := by
  subst hn
  apply ByteArray.ext; apply Array.toList_inj.1
  simp [sv]
  exact List.take_of_length_le (by simp)
theorem rname_b {l : Bs} {b : Bool} (hl : l.length ≤ 9223372036854775807) (hb : nm l = b) (w : World) : Calls Try.prog 30 #[.string (sv l)] w fun e w' => e = .returned (.bool b) ∧ Mod (fun _ => False) w w' := by
  rw [← hb]; exact rname_any l w hl

set_option maxRecDepth 100000 in
set_option maxHeartbeats 3200000 in
theorem rwho_any (l : Bs) (w : World) (hl : l.length ≤ 9223372036854775807) : Calls Try.prog 15 #[.string (sv l)] w fun e w' => e = .returned (whoV l) ∧ Mod (fun _ => False) w w' := by
  have hsz := sv_size l
  have HL := Lib.hid hl
  go_enter Try.func15, Try.ntmps15
  go_wp2
  go_loop [5] (fun i => ∃ k : Nat, i = .int .i64 k ∧ k ≤ l.length ∧ Hid (∀ j (hj : j < l.length), j < k → l[j] ≠ 47)) (fun i => l.length - (intOf i).toNat)
  case atStart => exact ⟨0, rfl, by omega, Lib.hid (fun j hj h => by omega)⟩
  case round =>
    obtain ⟨k, rfl, hk, hall⟩ := hrel
    by_cases hlt : k < l.length
    · have hq : (k : Int) < (l.length : Int) := by omega
      obtain ⟨b, hb⟩ : ∃ b, l[k] = b := ⟨_, rfl⟩
      have hget : ∀ h, (sv l)[k]'h = b := fun _ => hb
      by_cases h47 : b = 47
      · have hc : cut 47 l = some (l.take k, l.drop (k + 1)) := cut_find l k hlt (by rw [hb, h47]) hall.out
        have HW := Lib.hid (whoV_cut hc)
        have e0 : ((b.toNat : Int) == 47) = true := by rw [h47]; rfl
        have t1 := sv_take l k
        have t2 := sv_drop l (k + 1) l.length rfl
        have L1 : Hid ((l.take k).length ≤ 9223372036854775807) := Lib.hid (by rw [List.length_take]; omega)
        have L2 : Hid ((l.drop (k + 1)).length ≤ 9223372036854775807) := Lib.hid (by rw [List.length_drop]; omega)
        clear hc hall
        have hq1 : (k : Int) ≤ (l.length : Int) := by omega
        have hq2 : (k : Int) + 1 ≤ (l.length : Int) := by omega
        have hq3 : ((k : Int) + 1).toNat = k + 1 := by omega
        have hq4 : (0 : Int) ≤ (k : Int) + 1 := by omega
        go_wp2_with (fail)
        refine (rname_b L1.out rfl w).mono ?_
        rintro e w2 ⟨rfl, hm2⟩
        have HM2 := Lib.hid hm2
        clear hm2
        go_wp2_with (fail)
        refine (rname_b L2.out rfl w2).mono ?_
        rintro e w3 ⟨rfl, hm3⟩
        have HM3 : Hid (Mod (fun _ => False) w w3) := Lib.hid (HM2.out.trans hm3 (fun _ h => h.elim))
        clear hm3
        rcases n1 : nm (l.take k) with _ | _
        · have Hr := Lib.hid (show whoV l = .tuple #[.string (sv []), .string (sv []), .bool false] by rw [HW.out, n1]; rfl)
          clear n1
          go_wp2
          go_ret3
          exact ⟨ret_val Hr.out.symm, HM3.out⟩
        · rcases n2 : nm (l.drop (k + 1)) with _ | _
          · have Hr := Lib.hid (show whoV l = .tuple #[.string (sv []), .string (sv []), .bool false] by rw [HW.out, n1, n2]; rfl)
            clear n1 n2
            go_wp2
            go_ret3
            exact ⟨ret_val Hr.out.symm, HM3.out⟩
          · have Hr := Lib.hid (show whoV l = .tuple #[.string (sv (l.take k)), .string (sv (l.drop (k + 1))), .bool true] by rw [HW.out, n1, n2]; rfl)
            clear n1 n2
            go_wp2
            refine region_calm (by kernel_rfl) (by kernel_rfl) ?_
            repeat (go_big_quiet_step (fail))
            refine calm_end (fun w9 hm9 => ?_)
            have Hfin : Hid (Mod (fun _ => False) w w9) := Lib.hid (HM3.out.trans hm9 (fun _ h => h.elim))
            clear hm9
            go_wp2
            go_ret3
            exact ⟨ret_val Hr.out.symm, Hfin.out⟩
      · have e0 : ((b.toNat : Int) == 47) = false := by
          rw [beq_eq_false_iff_ne]
          intro h
          exact h47 (UInt8.toNat_inj.1 (by show b.toNat = 47; omega))
        have Hd : Hid (∀ j (hj : j < l.length), j < k + 1 → l[j] ≠ 47) := Lib.hid (fun j hj hjk => by
          rcases Nat.lt_or_ge j k with h1 | h1
          · exact hall.out j hj h1
          · obtain rfl : j = k := by omega
            rw [hb]; exact h47)
        clear hall hb
        go_wp2
        go_round
        case rel => exact ⟨k + 1, by go_num, by omega, Hd⟩
        case measure => simp [intOf]; omega
    · obtain rfl : l.length = k := by omega
      have Hr := Lib.hid (whoV_none (cut_absent l (fun j hj => hall.out j hj hj)))
      clear hall
      go_wp2
      go_ret3
      exact ⟨ret_val Hr.out.symm, Mod.refl _ _⟩
end Go.Proofs.Ytpbdcjgconopnaa
