/-
  Fold: the document's.
-/
import Derived.Test.YtokojeiiobhciaaGreatDoorRs
namespace Go.Proofs.YtokojeiiobhciaaGreatDoor
open Go.RowKit Mem
set_option linter.unusedVariables false
set_option linter.unusedSimpArgs false

/-- Behind some bytes (none: nothing was put yet), with a gap or none: what comes of the rest. -/
def fR (acc : Bs) (g : Bool) (L : List Nat) : Bs := acc ++ (fw spN (!acc.isEmpty) g L).flatMap sm
theorem fR_nil (acc : Bs) (g : Bool) : fR acc g [] = acc := by unfold fR; simp [fw]
theorem fR_space (acc : Bs) (g : Bool) (r : Nat) (L : List Nat) (h : spN r = true) : fR acc g (r :: L) = fR acc true L := by
  unfold fR
  simp only [fw, h, if_true]
theorem sm_ne (r : Nat) : sm r ≠ [] := by
  unfold sm sz2
  split
  · simp
  · exact enc_ne _
theorem sm_len (r : Nat) : (sm r).length ≤ 4 := by
  unfold sm sz2
  split
  · simp
  · exact (enc_len _).2
theorem sm32 : sm 32 = [32] := by decide +kernel
theorem fR_gap (acc : Bs) (r : Nat) (L : List Nat) (h : spN r = false) (ha : acc ≠ []) : fR acc true (r :: L) = fR ((acc ++ [32]) ++ sm r) false L := by
  have h1 : acc.isEmpty = false := by rw [List.isEmpty_eq_false_iff]; exact ha
  have h2 : ((acc ++ [32]) ++ sm r).isEmpty = false := by rw [List.isEmpty_eq_false_iff]; simp
  unfold fR
  rw [h1, h2]
  simp [fw, h, List.flatMap_cons, sm32]
theorem fR_word (acc : Bs) (g : Bool) (r : Nat) (L : List Nat) (h : spN r = false) (ha : g = false ∨ acc = []) : fR acc g (r :: L) = fR (acc ++ sm r) false L := by
  have h2 : (acc ++ sm r).isEmpty = false := by rw [List.isEmpty_eq_false_iff]; simp [sm_ne]
  have h3 : (g && !acc.isEmpty) = false := by
    rcases ha with h | h
    · rw [h]; rfl
    · rw [h]; simp
  unfold fR
  simp only [fw, h, h2, h3, Bool.false_eq_true, if_false, Bool.not_false, List.nil_append, List.flatMap_cons, List.append_assoc]
set_option maxRecDepth 100000 in
set_option maxHeartbeats 3200000 in
theorem rfold_any (s : Bs) (w : World) (hs : s.length ≤ 1000000000) :
    Calls Tryz.prog 11 #[.string (sv s)] w fun e w' => e = .returned (.string (sv (foldM (rs s)))) ∧ Mod (fun _ => False) w w' := by
  have hsz : ((sv s).size : Int) = (s.length : Int) := rfl
  have H0 : Hid (Ob w w (.slice none 0 0) []) := Lib.hid (.inl ⟨rfl, rfl⟩)
  go_enter Tryz.func11, Tryz.ntmps11
  go_wp2_with (fail)
  go_loopw [3, 4, 5] (fun v3 v4 v5 wr => ∃ (k : Nat) (acc : Bs) (B : Option Addr) (cb : Nat) (g : Bool), v3 = .slice B acc.length cb ∧ v4 = .bool g ∧ v5 = .int .i64 (k : Int) ∧ k ≤ s.length ∧ acc.length ≤ 5 * k ∧ Hid (Ob w wr (.slice B acc.length cb) acc) ∧ Hid (fR acc g (rs (s.drop k)) = foldM (rs s)) ∧ Hid (Mod (fun _ => False) w wr)) (fun _ _ i _ => s.length - (iOf i).toNat)
  case atStart => exact ⟨0, [], none, 0, false, rfl, rfl, rfl, by omega, by simp, H0, Lib.hid rfl, Lib.hid (Mod.refl _ _)⟩
  case round =>
    obtain ⟨k, acc, B, cb, g, rfl, rfl, rfl, hk, hal, hO, hE, hm⟩ := hrel
    by_cases hlt : k < s.length
    · have q1 : (k : Int) < (s.length : Int) := by omega
      obtain ⟨R, hR⟩ : ∃ R, s.drop k = R := ⟨_, rfl⟩
      have hRl : R.length = s.length - k := by rw [← hR, List.length_drop]
      have hne : R ≠ [] := by intro e; rw [e] at hRl; simp at hRl; omega
      have hx2 : (sv s).extract k (sv s).size = sv R := by rw [sv_size, sv_ext, List.take_length, hR]
      have hx3 : (sv s).extract k s.length = sv R := by rw [sv_ext, List.take_length, hR]
      have hfi := fun w => first_any R hne w (by omega)
      have hvd := decL_shape R hne
      have hle := Lib.decodeL_le R hne
      have hw1 := Lib.decodeL_width R
      have hstep := rs_step R hne
      obtain ⟨d, hd⟩ : ∃ d, (Lib.decodeL R).1 = d := ⟨_, rfl⟩
      obtain ⟨q, hq⟩ : ∃ q, (Lib.decodeL R).2 = q := ⟨_, rfl⟩
      rw [hd] at hvd
      rw [hq] at hle hw1
      rw [hd, hq, ← hR, List.drop_drop] at hstep
      simp only [hd, hq] at hfi
      have hE1 := hE.out
      rw [hstep] at hE1
      have hsp := fun w => rspace_any (d : Int) w
      have hsm := fun w => rsmall_any d hvd w
      have hd0 : 0 ≤ d := Nat.zero_le _
      cases hspd : spN d with
      | true =>
        rw [fR_space _ _ _ _ hspd] at hE1
        have HE1 := Lib.hid hE1
        have e1 : spaceI (d : Int) = true := hspd
        rw [e1] at hsp
        clear hE hE1 hstep hvd hd hq hR hspd e1 hsm
        go_wp2_with (fail)
        refine (hfi _).mono ?_
        rintro e w2 ⟨rfl, rfl⟩
        go_wp2_with (fail)
        refine (hsp _).mono ?_
        rintro e w3 ⟨rfl, q3, rfl⟩
        go_wp2_with (fail)
        refine ⟨⟨k + q, acc, B, cb, true, rfl, rfl, by simp, by omega, by omega, Lib.hid (hO.out.mod ((Mod.refl _ _).drewN _)), HE1, Lib.hid (hm.out.drewN _)⟩, ?_⟩
        show s.length - ((k : Int) + (q : Int)).toNat < s.length - (k : Int).toNat
        omega
      | false =>
        have e1 : spaceI (d : Int) = false := hspd
        rw [e1] at hsp
        have hel := sm_len d
        have hene := sm_ne d
        by_cases hg : g = true ∧ acc ≠ []
        · obtain ⟨rfl, hne2⟩ := hg
          rw [fR_gap _ _ _ hspd hne2] at hE1
          obtain ⟨E, hEE⟩ : ∃ E, sm d = E := ⟨_, rfl⟩
          simp only [hEE] at hsm
          rw [hEE] at hel hene hE1
          have hE2 := Lib.hid hE1
          have ha1 : (0 : Int) < (acc.length : Int) := by have := List.length_pos_iff.2 hne2; omega
          clear hE hE1 hstep hvd hd hq hR hspd e1 hne2
          go_wp2_with (fail)
          refine (hfi _).mono ?_
          rintro e w2 ⟨rfl, rfl⟩
          go_wp2_with (fail)
          refine (hsp _).mono ?_
          rintro e w3 ⟨rfl, q3, rfl⟩
          obtain ⟨B5, c5, w5, hr5, hO5, hM5⟩ := (hO.out.mod ((Mod.refl _ w2).drewN q3)).app1 32 (hm.out.drewN q3) (by omega)
          have hl5 : (acc ++ [32]).length = acc.length + 1 := List.length_append ..
          rw [show ((32 : UInt8).toNat : Int) = 32 from rfl] at hr5
          rw [← hl5] at hr5 hO5
          obtain ⟨Z, hZ⟩ : ∃ Z, acc ++ [32] = Z := ⟨_, rfl⟩
          rw [hZ] at hl5 hr5 hO5 hE2
          have HO5 := Lib.hid (And.intro hO5 hM5)
          have hl6 : Z.length ≤ acc.length + 1 := Nat.le_of_eq hl5
          clear hO5 hM5 hl5 hZ
          go_wp2_with (at_builtin; refine wpList_append_run rfl _ _ 22 22 rfl _ _ rfl rfl hr5 ?_)
          obtain ⟨hO5, hM5⟩ := HO5.out
          refine (hsm _).mono ?_
          rintro e w3 ⟨rfl, hm3⟩
          have hM3 := hM5.trans hm3 (fun _ h => h.elim)
          obtain ⟨B2, c2, w4, hr, hO4, hM4⟩ := (hO5.mod hm3).app hM3 hene (by omega)
          have HH := Lib.hid (And.intro hO4 hM4)
          clear hO hm hm3 hM3 hO4 hM4 hsm hfi hsp
          go_wp2_with (at_builtin; refine wpList_append_run rfl _ _ 22 9 rfl _ _ rfl rfl hr ?_)
          refine ⟨⟨k + q, Z ++ E, B2, c2, false, by rw [List.length_append], rfl, by simp, by omega, by rw [List.length_append]; omega, Lib.hid (by rw [List.length_append]; exact HH.out.1), hE2, Lib.hid HH.out.2⟩, ?_⟩
          show s.length - ((k : Int) + (q : Int)).toNat < s.length - (k : Int).toNat
          omega
        · have hor : g = false ∨ acc = [] := by
            cases g with
            | false => exact .inl rfl
            | true =>
              by_cases h : acc = []
              · exact .inr h
              · exact absurd ⟨rfl, h⟩ hg
          rw [fR_word _ _ _ _ hspd hor] at hE1
          obtain ⟨E, hEE⟩ : ∃ E, sm d = E := ⟨_, rfl⟩
          simp only [hEE] at hsm
          rw [hEE] at hel hene hE1
          have hE2 := Lib.hid hE1
          have ha1 : g = true → ¬ (0 : Int) < (acc.length : Int) := by
            rintro rfl
            rcases hor with h | h
            · cases h
            · rw [h]; simp
          clear hE hE1 hstep hvd hd hq hR hspd e1 hg
          go_wp2_with (fail)
          refine (hfi _).mono ?_
          rintro e w2 ⟨rfl, rfl⟩
          go_wp2_with (fail)
          refine (hsp _).mono ?_
          rintro e w9 ⟨rfl, q3, rfl⟩
          have hO9 := Lib.hid (hO.out.mod ((Mod.refl _ w2).drewN q3))
          have hm9 := Lib.hid (hm.out.drewN q3)
          clear hO hm
          have hO := hO9
          have hm := hm9
          cases g with
          | false =>
            go_wp2_with (fail)
            refine (hsm _).mono ?_
            rintro e w3 ⟨rfl, hm3⟩
            have hM3 := hm.out.trans hm3 (fun _ h => h.elim)
            obtain ⟨B2, c2, w4, hr, hO4, hM4⟩ := (hO.out.mod hm3).app hM3 hene (by omega)
            have HH := Lib.hid (And.intro hO4 hM4)
            clear hO hm hm3 hM3 hO4 hM4 hsm hfi hsp
            go_wp2_with (at_builtin; refine wpList_append_run rfl _ _ 22 9 rfl _ _ rfl rfl hr ?_)
            refine ⟨⟨k + q, acc ++ E, B2, c2, false, by rw [List.length_append], rfl, by simp, by omega, by rw [List.length_append]; omega, Lib.hid (by rw [List.length_append]; exact HH.out.1), hE2, Lib.hid HH.out.2⟩, ?_⟩
            show s.length - ((k : Int) + (q : Int)).toNat < s.length - (k : Int).toNat
            omega
          | true =>
            have ha2 := ha1 rfl
            clear hor ha1
            go_wp2_with (fail)
            refine (hsm _).mono ?_
            rintro e w3 ⟨rfl, hm3⟩
            have hM3 := hm.out.trans hm3 (fun _ h => h.elim)
            obtain ⟨B2, c2, w4, hr, hO4, hM4⟩ := (hO.out.mod hm3).app hM3 hene (by omega)
            have HH := Lib.hid (And.intro hO4 hM4)
            clear hO hm hm3 hM3 hO4 hM4 hsm hfi hsp
            go_wp2_with (at_builtin; refine wpList_append_run rfl _ _ 22 9 rfl _ _ rfl rfl hr ?_)
            refine ⟨⟨k + q, acc ++ E, B2, c2, false, by rw [List.length_append], rfl, by simp, by omega, by rw [List.length_append]; omega, Lib.hid (by rw [List.length_append]; exact HH.out.1), hE2, Lib.hid HH.out.2⟩, ?_⟩
            show s.length - ((k : Int) + (q : Int)).toNat < s.length - (k : Int).toNat
            omega
    · have hkl : k = s.length := by omega
      have q1 : ¬ (k : Int) < (s.length : Int) := by omega
      have e : acc = foldM (rs s) := by have := hE.out; rwa [hkl, List.drop_length, rs_nil, fR_nil] at this
      have htx := hO.out.text
      have HM := Lib.hid hm.out
      have HE := Lib.hid e
      clear hO hm e hkl hE
      go_wp2_with (fail)
      go_ret
      exact ⟨by rw [← HE.out]; rfl, HM.out⟩
end Go.Proofs.YtokojeiiobhciaaGreatDoor
