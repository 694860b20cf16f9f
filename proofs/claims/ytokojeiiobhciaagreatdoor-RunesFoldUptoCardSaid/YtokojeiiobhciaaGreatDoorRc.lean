/-
  Clean, small, Fold: the document's.
-/
import Derived.Test.YtokojeiiobhciaaGreatDoorFi
import Derived.Test.YtokojeiiobhciaaGreatDoorBw
namespace Go.Proofs.YtokojeiiobhciaaGreatDoor
open Go.RowKit Mem
set_option linter.unusedVariables false
set_option linter.unusedSimpArgs false

def iOf : Value → Int | .int _ n => n | _ => 0
theorem enc_len (r : Nat) : 1 ≤ (enc r).length ∧ (enc r).length ≤ 4 := by
  have := Lib.encodeRuneZ_length (r : Int)
  unfold enc Lib.encodeRune
  rw [List.length_map]
  exact this
set_option maxRecDepth 100000 in
set_option maxHeartbeats 3200000 in
theorem rclean_any (A : Option Addr) (n c : Nat) (s : Bs) (w : World) (hs : s.length ≤ 1000000000000) (hcv : ∀ w' : World, Mod (fun _ => False) w w' → (convert 22 9 (.slice A n c)).run Tryz.prog w' = .ok (.string (sv s)) w') :
    Calls Tryz.prog 9 #[.slice A n c] w fun e w' => e = .returned (.string (sv (cleanM (rs s)))) ∧ Mod (fun _ => False) w w' := by
  have hcv0 := hcv w (Mod.refl _ w)
  clear hcv
  have hsz : ((sv s).size : Int) = (s.length : Int) := rfl
  have H0 : Hid (Ob w w (.slice none 0 0) []) := Lib.hid (.inl ⟨rfl, rfl⟩)
  go_enter Tryz.func9, Tryz.ntmps9
  go_wp2_with (fail)
  go_loopw [3, 5] (fun v3 v5 wr => ∃ (k : Nat) (acc : Bs) (B : Option Addr) (cb : Nat), v3 = .slice B acc.length cb ∧ v5 = .int .i64 (k : Int) ∧ k ≤ s.length ∧ acc.length ≤ 4 * k ∧ Hid (Ob w wr (.slice B acc.length cb) acc) ∧ Hid (acc ++ cleanM (rs (s.drop k)) = cleanM (rs s)) ∧ Hid (Mod (fun _ => False) w wr)) (fun _ i _ => s.length - (iOf i).toNat)
  case atStart => exact ⟨0, [], none, 0, rfl, rfl, by omega, by simp, H0, Lib.hid rfl, Lib.hid (Mod.refl _ _)⟩
  case round =>
    obtain ⟨k, acc, B, cb, rfl, rfl, hk, hal, hO, hE, hm⟩ := hrel
    by_cases hlt : k < s.length
    · have q1 : (k : Int) < (s.length : Int) := by omega
      obtain ⟨R, hR⟩ : ∃ R, s.drop k = R := ⟨_, rfl⟩
      have hRl : R.length = s.length - k := by rw [← hR, List.length_drop]
      have hne : R ≠ [] := by intro e; rw [e] at hRl; simp at hRl; omega
      have hx2 : (sv s).extract k (sv s).size = sv R := by rw [sv_size, sv_ext, List.take_length, hR]
      have hx3 : (sv s).extract k s.length = sv R := by rw [sv_ext, List.take_length, hR]
      have hfi := fun w => first_any R hne w (by omega)
      have hvd := decL_shape R hne
      have hle := Lib.decodeL_le R hne
      have hw1 := Lib.decodeL_width R
      have hstep : acc ++ cleanM (rs R) = acc ++ (enc (clN (Lib.decodeL R).1) ++ cleanM (rs (R.drop (Lib.decodeL R).2))) := by rw [rs_step R hne]; rfl
      obtain ⟨d, hd⟩ : ∃ d, (Lib.decodeL R).1 = d := ⟨_, rfl⟩
      obtain ⟨q, hq⟩ : ∃ q, (Lib.decodeL R).2 = q := ⟨_, rfl⟩
      rw [hd] at hvd
      rw [hq] at hle hw1
      rw [hd, hq, ← hR, List.drop_drop] at hstep
      simp only [hd, hq] at hfi
      have hE2 : Hid ((acc ++ enc (clN d)) ++ cleanM (rs (s.drop (k + q))) = cleanM (rs s)) := Lib.hid (by rw [← hE.out, hstep, List.append_assoc])
      have hcv2 := (clN_good d hvd).1
      obtain ⟨E, hEE⟩ : ∃ E, enc (clN d) = E := ⟨_, rfl⟩
      have hel := enc_len (clN d)
      have hene := enc_ne (clN d)
      have hput := put_any (clN d) hcv2
      simp only [hEE] at hput
      rw [hEE] at hel hene hE2
      have hal2 : (acc ++ E).length = acc.length + E.length := List.length_append ..
      clear hE hstep hvd hcv2 hd hq hR
      by_cases hd0 : d = 0
      · have hc0 : clN d = 65533 := by rw [hd0]; rfl
        have hd1 : ((d : Int) == 0) = true := by rw [hd0]; rfl
        have hd2 : (d : Int) = 0 := by rw [hd0]; rfl
        rw [hc0] at hput
        clear hd0 hc0
        go_wp2_with (fail)
        refine (hfi _).mono ?_
        rintro e w2 ⟨rfl, rfl⟩
        go_wp2_with (fail)
        refine (hput _).mono ?_
        rintro e w3 ⟨rfl, hm3⟩
        have hM3 := hm.out.trans hm3 (fun _ h => h.elim)
        obtain ⟨B2, c2, w4, hr, hO4, hM4⟩ := (hO.out.mod hm3).app hM3 hene (by omega)
        have HH := Lib.hid (And.intro hO4 hM4)
        clear hO hm hm3 hM3 hO4 hM4 hput hfi
        go_wp2_with (at_builtin; refine wpList_append_run rfl _ _ 22 9 rfl _ _ rfl rfl hr ?_)
        refine ⟨⟨k + q, acc ++ E, B2, c2, by rw [hal2], by simp, by omega, by omega, Lib.hid (by rw [hal2]; exact HH.out.1), hE2, Lib.hid HH.out.2⟩, ?_⟩
        show s.length - ((k : Int) + (q : Int)).toNat < s.length - (k : Int).toNat
        omega
      · have hc0 : clN d = d := by unfold clN; rw [if_neg hd0]
        have hd1 : ((d : Int) == 0) = false := by simp; omega
        have hd2 : ¬ (d : Int) = 0 := by omega
        rw [hc0] at hput
        clear hc0
        go_wp2_with (fail)
        refine (hfi _).mono ?_
        rintro e w2 ⟨rfl, rfl⟩
        go_wp2_with (fail)
        refine (hput _).mono ?_
        rintro e w3 ⟨rfl, hm3⟩
        have hM3 := hm.out.trans hm3 (fun _ h => h.elim)
        obtain ⟨B2, c2, w4, hr, hO4, hM4⟩ := (hO.out.mod hm3).app hM3 hene (by omega)
        have HH := Lib.hid (And.intro hO4 hM4)
        clear hO hm hm3 hM3 hO4 hM4 hput hfi
        go_wp2_with (at_builtin; refine wpList_append_run rfl _ _ 22 9 rfl _ _ rfl rfl hr ?_)
        refine ⟨⟨k + q, acc ++ E, B2, c2, by rw [hal2], by simp, by omega, by omega, Lib.hid (by rw [hal2]; exact HH.out.1), hE2, Lib.hid HH.out.2⟩, ?_⟩
        show s.length - ((k : Int) + (q : Int)).toNat < s.length - (k : Int).toNat
        omega
    · have hkl : k = s.length := by omega
      have q1 : ¬ (k : Int) < (s.length : Int) := by omega
      have e : acc = cleanM (rs s) := by have := hE.out; rw [hkl, List.drop_length, rs_nil] at this; rw [← this]; simp [cleanM]
      have htx := hO.out.text
      have HM := Lib.hid hm.out
      have HE := Lib.hid e
      clear hO hm e hkl hE
      go_wp2_with (fail)
      go_ret
      exact ⟨by rw [← HE.out]; rfl, HM.out⟩
end Go.Proofs.YtokojeiiobhciaaGreatDoor
