/-
  RunesClean's walk.
-/
import Derived.Test.YtokojeiiobhciaaGreatDoorRc
import Derived.Test.YtokojeiiobhciaaGreatDoorBi
namespace Go.Proofs.YtokojeiiobhciaaGreatDoor
open Go.RowKit Mem
set_option linter.unusedVariables false
set_option linter.unusedSimpArgs false

set_option maxRecDepth 100000 in
set_option maxHeartbeats 3200000 in
theorem runesClean_walk (A : Option Addr) (n c : Nat) (l : Bs) (w : World) (hl : l.length ≤ 1048576) (hnl : l.length = n) (hin : Rd w (.slice A n c) l) (hT : Lib.Utf8Tabs 0 1 w) :
    Calls Tryz.prog 3 #[.slice A n c] w fun e w' => e = .returned (.bool true) ∧ Mod (fun _ => False) w w' := by
  obtain ⟨S, hS⟩ : ∃ S, cleanM (rs l) = S := ⟨_, rfl⟩
  have hSl : S.length ≤ 4 * 1048576 := by rw [← hS]; have := cleanM_len l; omega
  have hS2 : clB (sv l) l.length 0 = S := by rw [clB_eq, hS]
  have hS3 : clB (sv S) S.length 0 = S := by rw [clB_eq, ← hS, clean_again]
  have hSE : ∃ L : List Nat, S = L.flatMap enc ∧ ∀ r ∈ L, vr r ∧ r ≠ 0 := ⟨(rs l).map clN, by rw [← hS, cleanM_map], fun r hr => by obtain ⟨x, hx, rfl⟩ := List.mem_map.1 hr; exact clN_good x (rs_vr _ l (Nat.le_refl _) x hx)⟩
  have t1 : (sv S).toList = S := sv_toList S
  have t2 : (sv l).toList = l := sv_toList l
  have hsz : ((sv S).size : Int) = (S.length : Int) := rfl
  go_enter Tryz.func3, Tryz.ntmps3
  go_wp2_with (fail)
  refine (shown_any w hT).mono ?_
  rintro e w1 ⟨rfl, hm1⟩
  have hin1 := hin.mod hm1
  obtain ⟨A2, c2, w2, hr, hR2, hm2⟩ := copy_any w1 _ l hin1 hl
  rw [hnl] at hr hR2
  have HM2 := Lib.hid (hm1.trans hm2 (fun _ h => h.elim))
  have HR2 := Lib.hid (And.intro hR2 (hin1.mod hm2))
  clear hm1 hm2 hin1 hR2 hin
  go_wp2_with (at_builtin; refine wpList_append_run rfl _ _ 22 22 rfl _ _ rfl rfl hr ?_)
  have hcl := clean_any A2 n c2 l w2 (by omega) (fun w' hm => by have := (HR2.out.1.mod hm).text; exact this)
  rw [hS2] at hcl
  refine hcl.mono ?_
  rintro e w3 ⟨rfl, hm3⟩
  have HM3 := Lib.hid (HM2.out.trans hm3 (fun _ h => h.elim))
  have HR3 := Lib.hid (And.intro (HR2.out.1.mod hm3) (HR2.out.2.mod hm3))
  have HSE := Lib.hid hSE
  clear hm3 hcl HR2 HM2 hr hSE
  go_wp2_with (fail)
  go_loopw [6] (fun v6 wr => ∃ k : Nat, v6 = .int .i64 (k : Int) ∧ k ≤ S.length ∧ Hid (∃ L : List Nat, S.drop k = L.flatMap enc ∧ ∀ r ∈ L, vr r ∧ r ≠ 0) ∧ wr = w3) (fun i _ => S.length - (iOf i).toNat)
  case atStart => exact ⟨0, rfl, by omega, by rw [List.drop_zero]; exact HSE, rfl⟩
  case round =>
    obtain ⟨k, rfl, hk, hL, rfl⟩ := hrel
    by_cases hlt : k < S.length
    · have q1 : (k : Int) < (S.length : Int) := by omega
      obtain ⟨L, hL1, hL2⟩ := hL.out
      obtain ⟨R, hR⟩ : ∃ R, S.drop k = R := ⟨_, rfl⟩
      have hRl : R.length = S.length - k := by rw [← hR, List.length_drop]
      have hne : R ≠ [] := by intro e; rw [e] at hRl; simp at hRl; omega
      have hx2 : (sv S).extract k (sv S).size = sv R := by rw [sv_size, sv_ext, List.take_length, hR]
      have hx3 : (sv S).extract k S.length = sv R := by rw [sv_ext, List.take_length, hR]
      have hfi := fun w => first_any R hne w (by omega)
      rw [hR] at hL1
      cases L with
      | nil => exact absurd hL1 hne
      | cons r L =>
        rw [List.flatMap_cons] at hL1
        have hr := hL2 r (by simp)
        have hd := dec_enc r hr.1 (L.flatMap enc)
        rw [← hL1] at hd
        simp only [hd] at hfi
        have hel := enc_len r
        have hkl : k + (enc r).length ≤ S.length := by
          have := congrArg List.length hL1
          rw [List.length_append] at this
          omega
        have hL3 : Hid (∃ L : List Nat, S.drop (k + (enc r).length) = L.flatMap enc ∧ ∀ r ∈ L, vr r ∧ r ≠ 0) := Lib.hid ⟨L, by rw [← List.drop_drop, hR, hL1, List.drop_left], fun x hx => hL2 x (by simp [hx])⟩
        obtain ⟨q, hq⟩ : ∃ q, (enc r).length = q := ⟨_, rfl⟩
        have hnb : ¬ ((r : Int) = 65533 ∧ (q : Int) = 1) := by
          rintro ⟨e1, e2⟩
          have e1' : r = 65533 := by omega
          rw [e1', show (enc 65533).length = 3 by decide] at hq
          omega
        have hr0 : ((r : Int) == 0) = false := by have := hr.2; simp; omega
        have hr1 : ¬ r = 0 := hr.2
        rw [hq] at hfi hel hkl hL3
        clear hL hL1 hL2 hd hq hR hRl
        go_wp2_with (fail)
        refine (hfi _).mono ?_
        rintro e w4 ⟨rfl, rfl⟩
        by_cases h6 : (r : Int) = 65533
        · have h7 : ¬ (q : Int) = 1 := fun e => hnb ⟨h6, e⟩
          go_wp2_with (fail)
          refine ⟨⟨k + q, by simp, by omega, hL3, trivial⟩, ?_⟩
          show S.length - ((k : Int) + (q : Int)).toNat < S.length - (k : Int).toNat
          omega
        · go_wp2_with (fail)
          refine ⟨⟨k + q, by simp, by omega, hL3, trivial⟩, ?_⟩
          show S.length - ((k : Int) + (q : Int)).toNat < S.length - (k : Int).toNat
          omega
    · have q1 : ¬ (k : Int) < (S.length : Int) := by omega
      clear hL
      go_wp2_with (fail)
      have hrc := rclean_any A n c l wr (by omega) (fun w' hm => (HR3.out.2.mod hm).text)
      rw [hS] at hrc
      refine hrc.mono ?_
      rintro e w4 ⟨rfl, hm4⟩
      have HM4 := Lib.hid (HM3.out.trans hm4 (fun _ h => h.elim))
      have HR4 := Lib.hid (And.intro (HR3.out.1.mod hm4) (HR3.out.2.mod hm4))
      have hcv := fun w s => run_bytes_of_string (P := Tryz.prog) w 9 22 5 s Tryz.underlying9 Tryz.underlying22 Tryz.underlying5
      clear hrc hm4 HR3 HM3
      go_wp2_with (fail)
      refine (clean_text S (by omega) w4 _ _).mono ?_
      rintro e w5 ⟨rfl, hm5⟩
      rw [hS3]
      have HM5 := Lib.hid (HM4.out.trans hm5 (fun _ h => h.elim))
      have x1 := (HR4.out.1.mod hm5).text
      have x2 := (HR4.out.2.mod hm5).text
      clear hm5 HR4 HM4 hcv
      go_wp2_with (fail)
      go_ret
      exact ⟨rfl, HM5.out⟩
end Go.Proofs.YtokojeiiobhciaaGreatDoor
