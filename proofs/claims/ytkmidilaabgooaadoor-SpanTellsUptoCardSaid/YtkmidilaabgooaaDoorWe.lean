/-
  without: a text without some bytes.
-/
import Derived.Test.YtkmidilaabgooaaDoorWd
namespace Go.Proofs.YtkmidilaabgooaaDoor
open Go.RowKit Mem
set_option linter.unusedVariables false
set_option linter.unusedSimpArgs false

theorem Grow.mod0 {w wr wx : World} {v : Value} {acc : Bs} (h : Grow w wr v acc) (hm : Mod (fun _ => False) wr wx) : Grow w wx v acc := ⟨h.b.mod hm (fun _ _ h => h), h.m.trans hm (fun _ h => h.elim)⟩
abbrev notB (bad : Bs) (c : UInt8) : Bool := !bad.contains c
theorem take_has {bad : Bs} {j : Nat} (hj : j < bad.length) (b : UInt8) : (bad.take (j + 1)).contains b = ((bad.take j).contains b || b == bad[j]) := by
  rw [List.take_add_one, List.getElem?_eq_getElem hj, Option.toList_some, List.contains_eq_any_beq, List.contains_eq_any_beq, List.any_append]
  simp

set_option maxRecDepth 100000 in
set_option maxHeartbeats 2000000 in
theorem without_any (s bad : Bs) (most : Nat) (w : World) (hm : most ≤ 100000) (hs : s.length ≤ 1048576) (hbl : bad.length ≤ 100) :
    Calls Tryd.prog 19 #[.string (sv s), .string (sv bad), .int .i64 (most : Int)] w fun e w' => e = .returned (.string (sv (takeF (notB bad) most [] s))) ∧ Mod (fun _ => False) w w' := by
  have hsz := sv_size s
  have hbz := sv_size bad
  have HG0 : Hid (Grow w w (.slice none 0 0) []) := Lib.hid ⟨Byt.nil _ _, Mod.refl _ _⟩
  go_enter Tryd.func19, Tryd.ntmps19
  go_wp2
  go_loopw [7, 8] (fun v i wr => ∃ (k : Nat) (acc : Bs) (A : Option Addr) (c : Nat), v = .slice A acc.length c ∧ i = .int .i64 k ∧ k ≤ s.length ∧ acc.length ≤ 100000 ∧ Hid (Grow w wr (.slice A acc.length c) acc) ∧ Hid (takeF (notB bad) most [] s = takeF (notB bad) most acc (s.drop k))) (fun _ i _ => s.length - (intOf i).toNat)
  case atStart => exact ⟨0, [], none, 0, rfl, rfl, by omega, by decide, HG0, Lib.hid rfl⟩
  case round =>
    obtain ⟨k, acc, A, c, rfl, rfl, hk, hal, hG, hT⟩ := hrel
    by_cases hlt : k < s.length ∧ acc.length < most
    · obtain ⟨h1, h2⟩ := hlt
      have q1 : (k : Int) < (s.length : Int) := by omega
      have q2 : (acc.length : Int) < (most : Int) := by omega
      obtain ⟨b, hb⟩ : ∃ b, s[k] = b := ⟨_, rfl⟩
      have hget : ∀ h, (sv s)[k]'h = b := fun _ => hb
      have hdk : s.drop k = b :: s.drop (k + 1) := by rw [List.drop_eq_getElem_cons h1, hb]
      have HY : Hid (bad.contains b = false → takeF (notB bad) most [] s = takeF (notB bad) most (acc ++ [b]) (s.drop (k + 1))) := Lib.hid (fun h => by rw [hT.out, hdk, takeF_yes h2 (by unfold notB; rw [h]; rfl)])
      have HN : Hid (bad.contains b = true → takeF (notB bad) most [] s = takeF (notB bad) most acc (s.drop (k + 1))) := Lib.hid (fun h => by rw [hT.out, hdk, takeF_no h2 (by unfold notB; rw [h]; rfl)])
      clear hdk hb hT
      go_wp2
      go_loopw [9, 10] (fun o i wx => ∃ (j : Nat) (t : Bool), o = .bool t ∧ i = .int .i64 j ∧ j ≤ bad.length ∧ Hid (t = !(bad.take j).contains b) ∧ Hid (Grow w wx (.slice A acc.length c) acc)) (fun _ i _ => bad.length - (intOf i).toNat)
      case atStart => exact ⟨0, true, rfl, rfl, by omega, Lib.hid (by simp), hG⟩
      case round =>
        obtain ⟨j, t, rfl, rfl, hj, ht, hG2⟩ := hrel
        by_cases hjl : j < bad.length
        · have q3 : (j : Int) < (bad.length : Int) := by omega
          obtain ⟨d, hd⟩ : ∃ d, bad[j] = d := ⟨_, rfl⟩
          have hget2 : ∀ h, (sv bad)[j]'h = d := fun _ => hd
          have hth := take_has hjl b
          rw [hd] at hth
          have HTH := Lib.hid hth
          clear hth hd
          cases t with
          | false =>
            have HT2 : Hid (false = !(bad.take (j + 1)).contains b) := Lib.hid (by
              have := ht.out
              rw [HTH.out]
              cases hq : (bad.take j).contains b with
              | true => rfl
              | false => rw [hq] at this; cases this)
            clear ht HTH
            go_wp2_with (fail)
            refine region_calm (by kernel_rfl) (by kernel_rfl) ?_
            repeat (go_big_quiet_step (fail))
            refine calm_end (fun w9 hm9 => ?_)
            have HG9 := Lib.hid (hG2.out.mod0 hm9)
            clear hm9 hG2
            go_wp2
            go_roundw
            case rel => exact ⟨j + 1, false, rfl, by go_num, by omega, HT2, HG9⟩
            case measure => simp [intOf]; omega
          | true =>
            have hne : ((b.toNat : Int) != (d.toNat : Int)) = !(b == d) := by
              rw [bne, Bool.not_eq_eq_eq_not, Bool.not_not, Bool.eq_iff_iff, beq_iff_eq, beq_iff_eq]
              exact ⟨fun h => UInt8.toNat_inj.1 (by omega), fun h => by rw [h]⟩
            cases hbd : b == d with
            | true =>
              have HT2 : Hid (false = !(bad.take (j + 1)).contains b) := Lib.hid (by rw [HTH.out, hbd]; simp)
              rw [hbd] at hne
              have hne' : ((b.toNat : Int) != (d.toNat : Int)) = false := hne
              clear ht HTH hbd hne
              go_wp2_with (fail)
              refine region_calm (by kernel_rfl) (by kernel_rfl) ?_
              repeat (go_big_quiet_step (fail))
              refine calm_end (fun w9 hm9 => ?_)
              have HG9 := Lib.hid (hG2.out.mod0 hm9)
              clear hm9 hG2
              go_wp2
              go_roundw
              case rel => exact ⟨j + 1, false, rfl, by go_num, by omega, HT2, HG9⟩
              case measure => simp [intOf]; omega
            | false =>
              have HT2 : Hid (true = !(bad.take (j + 1)).contains b) := Lib.hid (by rw [HTH.out, hbd, Bool.or_false]; exact ht.out)
              rw [hbd] at hne
              have hne' : ((b.toNat : Int) != (d.toNat : Int)) = true := hne
              clear ht HTH hbd hne
              go_wp2_with (fail)
              refine region_calm (by kernel_rfl) (by kernel_rfl) ?_
              repeat (go_big_quiet_step (fail))
              refine calm_end (fun w9 hm9 => ?_)
              have HG9 := Lib.hid (hG2.out.mod0 hm9)
              clear hm9 hG2
              go_wp2
              go_roundw
              case rel => exact ⟨j + 1, true, rfl, by go_num, by omega, HT2, HG9⟩
              case measure => simp [intOf]; omega
        · have hje : j = bad.length := by omega
          have hte := ht.out
          rw [hje, List.take_length] at hte
          cases t with
          | true =>
            have HY2 := Lib.hid (HY.out (by cases hq : bad.contains b with | false => rfl | true => rw [hq] at hte; cases hte))
            obtain ⟨A2, c2, w2, hr, hG3⟩ := hG2.out.push b (by omega)
            have HG3 := Lib.hid hG3
            clear hG3 HY HN ht hte hje hG
            go_wp2_with (at_builtin; refine wpList_append_run rfl _ _ 30 30 rfl _ _ rfl rfl hr ?_)
            go_roundw
            case rel => exact ⟨k + 1, acc ++ [b], A2, c2, by rw [List.length_append]; rfl, by go_num, by omega, by rw [List.length_append]; simp; omega, by rw [List.length_append]; exact HG3, HY2⟩
            case measure => simp [intOf]; omega
          | false =>
            have HN2 := Lib.hid (HN.out (by cases hq : bad.contains b with | true => rfl | false => rw [hq] at hte; cases hte))
            clear HY HN ht hte hje hG
            go_wp2
            go_roundw
            case rel => exact ⟨k + 1, acc, A, c, rfl, by go_num, by omega, hal, hG2, HN2⟩
            case measure => simp [intOf]; omega
    · have hx : k = s.length ∨ (k < s.length ∧ ¬ acc.length < most) := by omega
      have HR : Hid (takeF (notB bad) most [] s = acc) := Lib.hid (by
        rw [hT.out]
        by_cases hm2 : acc.length < most
        · have : k = s.length := by omega
          rw [this, List.drop_length]; rfl
        · exact takeF_stop hm2)
      have hct := hG.out.b.text (P := Tryd.prog) (T := 30) (S := 9) Tryd.underlying30 Tryd.underlying5 Tryd.underlying9
      clear hlt hT
      rcases hx with hx | ⟨hx1, hx2⟩
      · have q1 : ¬ ((k : Int) < (s.length : Int)) := by omega
        go_wp2
        go_ret
        exact ⟨ret_val (by rw [HR.out]; rfl), hG.out.m⟩
      · have q1 : (k : Int) < (s.length : Int) := by omega
        have q2 : ¬ ((acc.length : Int) < (most : Int)) := by omega
        go_wp2
        go_ret
        exact ⟨ret_val (by rw [HR.out]; rfl), hG.out.m⟩
end Go.Proofs.YtkmidilaabgooaaDoor
