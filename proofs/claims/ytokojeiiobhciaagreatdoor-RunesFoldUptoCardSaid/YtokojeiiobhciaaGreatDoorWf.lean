/-
  RunesFold's walk.
-/
import Derived.Test.YtokojeiiobhciaaGreatDoorRf
namespace Go.Proofs.YtokojeiiobhciaaGreatDoor
open Go.RowKit Mem
set_option linter.unusedVariables false
set_option linter.unusedSimpArgs false

theorem fld_size (p : Nat → Bool) : ∀ (f : Nat) (cur l : Bs), ((fldP p f cur l).map (·.length + 1)).sum ≤ 2 * cur.length + 2 * l.length
  | 0, cur, l => by
    unfold fldP
    split
    · simp
    · next h => have := List.length_pos_iff.2 h; simp; omega
  | f + 1, cur, l => by
    unfold fldP
    by_cases hl : l = []
    · rw [if_pos hl]
      split
      · simp
      · next h => have := List.length_pos_iff.2 h; simp; omega
    · rw [if_neg hl]
      have hk := Lib.decodeL_le l hl
      split
      · have ih := fld_size p f [] (l.drop (Lib.decodeL l).2)
        rw [List.length_drop, List.length_nil] at ih
        split
        · simp only [List.nil_append]; omega
        · next h =>
          have := List.length_pos_iff.2 h
          simp only [List.cons_append, List.nil_append, List.map_cons, List.sum_cons]
          omega
      · have ih := fld_size p f (cur ++ l.take (Lib.decodeL l).2) (l.drop (Lib.decodeL l).2)
        rw [List.length_append, List.length_drop, List.length_take] at ih
        omega
theorem len_sum : ∀ fs : List Bs, fs.length ≤ (fs.map (·.length + 1)).sum ∧ (Lib.joinTail [32] fs).length ≤ (fs.map (·.length + 1)).sum
  | [] => ⟨Nat.le_refl _, Nat.le_refl _⟩
  | f :: fs => by
    obtain ⟨h1, h2⟩ := len_sum fs
    rw [tail_cons]
    simp only [List.length_cons, List.map_cons, List.sum_cons, List.length_append]
    omega
theorem join_len (fs : List Bs) : (Lib.join fs [32]).length ≤ (fs.map (·.length + 1)).sum := by
  cases fs with
  | nil => exact Nat.le_refl _
  | cons f fs =>
    have h := (len_sum fs).2
    rw [Lib.join_cons]
    simp only [List.map_cons, List.sum_cons, List.length_append]
    omega
theorem fold_eq (l : Bs) (hl : l.length ≤ 16777216) (w : World) (hT : Lib.Utf8Tabs 0 1 w) :
    Calls Tryz.prog 10 #[.string (sv l)] w fun e w' => e = .returned (.string (sv (foldM (rs l)))) ∧ Mod (fun _ => False) w w' := by
  have hF : (Lib.goFieldsP (fun x => spaceI (x : Int)) (sv l)).map (·.data.toList) = fldP spN l.length [] l := goFieldsP_eq spN (sv l)
  have hsz := fld_size spN l.length [] l
  have hn := (len_sum (fldP spN l.length [] l)).1
  have hj := join_len (fldP spN l.length [] l)
  have hlen : (Lib.goFieldsP (fun x => spaceI (x : Int)) (sv l)).length = (fldP spN l.length [] l).length := by rw [← hF, List.length_map]
  rw [List.length_nil] at hsz
  have hm : (Lib.mapD smallI (Lib.join (fldP spN l.length [] l) [32])).length ≤ 4 * (Lib.join (fldP spN l.length [] l) [32]).length := by
    rw [mapD_rs _ _ (Nat.le_refl _), ← List.flatMap_map (f := smN) (g := enc)]
    have h1 := encs_len ((rs (Lib.join (fldP spN l.length [] l) [32])).map smN)
    have h2 := rs_len _ (Lib.join (fldP spN l.length [] l) [32]) (Nat.le_refl _)
    rw [List.length_map] at h1
    omega
  have h := fold_any (sv l) w (by rw [sv_size]; omega) hT (by rw [hlen]; omega) (by rw [hF]; omega) (by rw [hF]; omega)
  refine h.mono fun e w' ⟨he, hmm⟩ => ⟨he.trans ?_, hmm⟩
  have := foldB_eq l
  unfold foldB at this
  rw [this]
theorem fw_len (p : Nat → Bool) : ∀ (L : List Nat) (st g : Bool), (fw p st g L).length ≤ 2 * L.length
  | [], _, _ => Nat.le_refl _
  | r :: L, st, g => by
    unfold fw
    split
    · have := fw_len p L st true
      simp only [List.length_cons]; omega
    · have := fw_len p L true false
      split <;> simp only [List.length_cons, List.length_append, List.length_nil] <;> omega
theorem sms_len : ∀ L : List Nat, (L.flatMap sm).length ≤ 4 * L.length
  | [] => Nat.le_refl _
  | r :: L => by
    have h1 := sms_len L
    have h2 := sm_len r
    rw [List.flatMap_cons, List.length_append, List.length_cons]
    omega
theorem foldM_len (l : Bs) : (foldM (rs l)).length ≤ 8 * l.length := by
  unfold foldM
  have h1 := sms_len (fw spN false false (rs l))
  have h2 := fw_len spN (rs l) false false
  have h3 := rs_len _ l (Nat.le_refl _)
  omega
theorem sv_plus (a b : Bs) : sv a ++ sv b = sv (a ++ b) := by
  apply ByteArray.ext
  simp [sv]
set_option maxRecDepth 100000 in
set_option maxHeartbeats 3200000 in
theorem runesFold_walk (l : Bs) (hl : l.length ≤ 1048576) (w : World) (hT : Lib.Utf8Tabs 0 1 w) :
    Calls Tryz.prog 4 #[.string (sv l)] w fun e w' => e = .returned (.bool true) ∧ Mod (fun _ => False) w w' := by
  have h1 := fun w hT => fold_eq l (by omega) w hT
  have h2 := fun w => rfold_any l w (by omega)
  have hfl := foldM_len l
  have h3 := fun w hT => fold_eq (foldM (rs l)) (by omega) w hT
  rw [foldM_again (rs l) (rs_vr _ l (Nat.le_refl _))] at h3
  obtain ⟨C, hC⟩ : ∃ C, 32 :: 9 :: (l ++ [10, 32]) = C := ⟨_, rfl⟩
  obtain ⟨B, hB⟩ : ∃ B, 32 :: 9 :: l = B := ⟨_, rfl⟩
  have hBC : B ++ [10, 32] = C := by rw [← hB, ← hC]; rfl
  have c1 : (⟨#[32, 9]⟩ : ByteArray) ++ sv l = sv B := by rw [← hB]; exact sv_plus [32, 9] l
  have c2 : sv B ++ (⟨#[10, 32]⟩ : ByteArray) = sv C := by rw [← hBC]; exact sv_plus B [10, 32]
  have zB : B.length = l.length + 2 := by rw [← hB]; simp
  have zC : C.length = l.length + 4 := by rw [← hC]; simp
  have s1 : ((sv l).size : Int) ≤ 8388608 := by rw [sv_size]; omega
  have s2 : ((sv B).size : Int) ≤ 8388608 := by rw [sv_size]; omega
  have s3 : ((sv C).size : Int) ≤ 8388608 := by rw [sv_size]; omega
  have h4 := fun w hT => fold_eq C (by omega) w hT
  rw [← hC, foldM_ends l, hC] at h4
  obtain ⟨F, hF⟩ : ∃ F, foldM (rs l) = F := ⟨_, rfl⟩
  simp only [hF] at h1 h2 h3 h4
  have t1 : (sv F).toList = F := sv_toList F
  clear hfl hF hC hB hBC zB zC
  go_enter Tryz.func4, Tryz.ntmps4
  go_wp2_with (fail)
  refine (shown_any w hT).mono ?_
  rintro e w1 ⟨rfl, hm1⟩
  go_wp2_with (fail)
  refine (h1 w1 (tabs_mod hT hm1 (fun h => h) (fun h => h))).mono ?_
  rintro e w2 ⟨rfl, hm2⟩
  have HM2 := Lib.hid (hm1.trans hm2 (fun _ h => h.elim))
  clear hm1 hm2
  go_wp2_with (fail)
  refine (h2 w2).mono ?_
  rintro e w3 ⟨rfl, hm3⟩
  have HM3 := Lib.hid (HM2.out.trans hm3 (fun _ h => h.elim))
  clear hm3
  go_wp2_with (fail)
  refine (h3 w3 (tabs_mod hT HM3.out (fun h => h) (fun h => h))).mono ?_
  rintro e w4 ⟨rfl, hm4⟩
  have HM4 := Lib.hid (HM3.out.trans hm4 (fun _ h => h.elim))
  clear hm4
  go_wp2_with (fail)
  refine (h4 w4 (tabs_mod hT HM4.out (fun h => h) (fun h => h))).mono ?_
  rintro e w5 ⟨rfl, hm5⟩
  have HM5 := Lib.hid (HM4.out.trans hm5 (fun _ h => h.elim))
  clear hm5
  go_wp2_with (fail)
  go_ret
  exact ⟨rfl, HM5.out⟩
theorem runesFold_str (a : ByteArray) (hs : a.data.toList.length ≤ 1048576) (w : World) (hT : Lib.Utf8Tabs 0 1 w) :
    Calls Tryz.prog 4 #[.string a] w fun e w' => e = .returned (.bool true) ∧ Mod (fun _ => False) w w' := by
  have h := runesFold_walk a.data.toList hs w hT
  rw [show sv a.data.toList = a by cases a; simp [sv]] at h
  exact h
end Go.Proofs.YtokojeiiobhciaaGreatDoor
