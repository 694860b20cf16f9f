/-
  The document's begins and upto.
-/
import Derived.Test.YtkmidilaabgooaaDoorXd
import Derived.Test.YtkmidilaabgooaaDoorCg
namespace Go.Proofs.YtkmidilaabgooaaDoor
open Go.RowKit Mem
set_option linter.unusedVariables false
set_option linter.unusedSimpArgs false

theorem pre_take (t l : Bs) : t.isPrefixOf l = (l.take t.length == t) := by
  rw [Bool.eq_iff_iff, List.isPrefixOf_iff_prefix, beq_iff_eq, List.prefix_iff_eq_take]
  exact ⟨fun h => h.symm, fun h => h.symm⟩
theorem sv_cut (l : Bs) (i k : Nat) : (sv l).extract i k = sv ((l.take k).drop i) := by
  apply ByteArray.ext; apply Array.toList_inj.1
  simp [sv, List.drop_take]
set_option maxHeartbeats 800000 in
theorem begins_any (l t : Bs) (B : Bool) (w : World) (hB : t.isPrefixOf l = B) (hl : l.length ≤ 4294967280) (ht : t.length ≤ 1000) : Calls Tryd.prog 46 #[.string (sv l), .string (sv t)] w fun e w' => e = .returned (.bool B) ∧ w = w' := by
  have hsz := sv_size l
  have htz := sv_size t
  by_cases hlt : t.length ≤ l.length
  · have q1 : (t.length : Int) ≤ (l.length : Int) := by omega
    obtain ⟨m, hm⟩ : ∃ m, l.take t.length = m := ⟨_, rfl⟩
    have hex : (sv l).extract 0 t.length = sv m := by rw [sv_take, hm]
    have HB : Hid ((m == t) = B) := Lib.hid (by rw [← hB, pre_take, hm])
    have hbe := sv_beq m t
    rw [HB.out] at hbe
    clear hm hB
    go_enter Tryd.func46, Tryd.ntmps46
    go_wp2
    go_ret
    exact ⟨rfl, rfl⟩
  · have q1 : ¬ (t.length : Int) ≤ (l.length : Int) := by omega
    have HR : Hid (B = false) := Lib.hid (by
      rw [← hB, pre_take, beq_eq_false_iff_ne]
      intro h
      have := congrArg List.length h
      rw [List.length_take] at this
      omega)
    clear hB
    go_enter Tryd.func46, Tryd.ntmps46
    go_wp2
    go_ret
    exact ⟨ret_bool (by rw [HR.out]), rfl⟩
theorem upto_short (e : Bs) : ∀ l : Bs, l.length < e.length → uptoF e l = none
  | [], h => by
    unfold uptoF
    rw [if_neg]
    intro hp
    rw [List.isPrefixOf_iff_prefix] at hp
    have := hp.length_le
    omega
  | b :: l, h => by
    unfold uptoF
    rw [if_neg, upto_short e l (by simp at h; omega)]
    intro hp
    rw [List.isPrefixOf_iff_prefix] at hp
    have := hp.length_le
    omega
theorem upto_hit {e l : Bs} {k : Nat} (h : e.isPrefixOf (l.drop k) = true) : uptoF e (l.drop k) = some (l.drop (k + e.length)) := by
  rw [← List.drop_drop]
  cases hd : l.drop k with
  | nil =>
    rw [hd] at h
    unfold uptoF
    rw [if_pos h]; simp
  | cons b r =>
    rw [hd] at h
    unfold uptoF
    rw [if_pos h]
theorem upto_step {e l : Bs} {k : Nat} (hk : k < l.length) (h : e.isPrefixOf (l.drop k) = false) : uptoF e (l.drop k) = uptoF e (l.drop (k + 1)) := by
  have hd := drop_at hk rfl
  rw [hd] at h ⊢
  rw [uptoF, if_neg (by rw [h]; decide)]
set_option maxHeartbeats 1600000 in
theorem upto_any (l e : Bs) (i : Nat) (w : World) (hi : i ≤ l.length) (he : 0 < e.length) (he2 : e.length ≤ 1000) (hl : l.length ≤ 4294967280) : Calls Tryd.prog 47 #[.string (sv l), .int .i64 (i : Int), .string (sv e)] w fun x w' => x = .returned (.int .i64 (took l (uptoF e (l.drop i)) : Nat)) ∧ w = w' := by
  have hsz := sv_size l
  have hez := sv_size e
  go_enter Tryd.func47, Tryd.ntmps47
  go_wp2
  go_loop [7] (fun v => ∃ k : Nat, v = .int .i64 k ∧ i ≤ k ∧ k ≤ l.length ∧ Hid (uptoF e (l.drop i) = uptoF e (l.drop k))) (fun v => l.length - (intOf v).toNat)
  case atStart => exact ⟨i, rfl, Nat.le_refl _, hi, Lib.hid rfl⟩
  case round =>
    obtain ⟨k, rfl, hik, hk, hU⟩ := hrel
    by_cases hlt : k + e.length ≤ l.length
    · have q1 : (k : Int) + (e.length : Int) ≤ (l.length : Int) := by omega
      obtain ⟨m, hm⟩ : ∃ m, (l.take (k + e.length)).drop k = m := ⟨_, rfl⟩
      have hex : (sv l).extract k (k + e.length) = sv m := by rw [sv_cut, hm]
      have hme : e.isPrefixOf (l.drop k) = (m == e) := by
        rw [pre_take, ← hm, List.drop_take]
        simp
      have hbe := sv_beq m e
      rcases hB : (m == e) with _ | _
      · rw [hB] at hbe
        have H : Hid (uptoF e (l.drop i) = uptoF e (l.drop (k + 1))) := Lib.hid (by rw [hU.out]; exact upto_step (by omega) (hme.trans hB))
        clear hU hm hme hB
        go_wp2
        go_round
        case rel => exact ⟨k + 1, by go_num, by omega, by omega, H⟩
        case measure => simp [intOf]; omega
      · rw [hB] at hbe
        have HR : Hid (took l (uptoF e (l.drop i)) = k + e.length) := Lib.hid (by
          rw [hU.out, upto_hit (hme.trans hB)]
          show l.length - (l.drop _).length = _
          rw [List.length_drop]; omega)
        clear hU hm hme hB
        go_wp2
        go_ret
        exact ⟨ret_int (by rw [HR.out]; omega), rfl⟩
    · have q1 : ¬ (k : Int) + (e.length : Int) ≤ (l.length : Int) := by omega
      have HR : Hid (took l (uptoF e (l.drop i)) = 0) := Lib.hid (by rw [hU.out, upto_short e _ (by rw [List.length_drop]; omega)]; rfl)
      clear hU
      go_wp2
      go_ret
      exact ⟨ret_int (by rw [HR.out]; rfl), rfl⟩
end Go.Proofs.YtkmidilaabgooaaDoor
