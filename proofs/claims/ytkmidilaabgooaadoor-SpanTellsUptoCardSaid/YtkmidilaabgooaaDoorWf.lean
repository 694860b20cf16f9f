/-
  What SpanFront's walk shows.
-/
import Derived.Test.YtkmidilaabgooaaDoorSh
namespace Go.Proofs.YtkmidilaabgooaaDoor
open Go.RowKit Mem
set_option linter.unusedVariables false
set_option linter.unusedSimpArgs false

theorem code_facts (l b : Bs) : ∃ (t : Bs) (n : Nat), codeV l = .tuple #[.string (sv t), .int .i64 n] ∧ n ≤ l.length ∧
    (n ≠ 0 → codeV (l.take n) = .tuple #[.string (sv t), .int .i64 n] ∧ codeV (l.take n ++ 120 :: b) = .tuple #[.string (sv t), .int .i64 n]) := by
  cases hc : codeF l with
  | none => exact ⟨[], 0, by unfold codeV; rw [hc]; rfl, Nat.zero_le _, fun h => absurd rfl h⟩
  | some p =>
    obtain ⟨a, h1, h2, h3⟩ := code_front (show codeF l = some (p.1, p.2) from hc)
    have hn : l.length - p.2.length = a.length := by rw [h1, List.length_append]; omega
    have ht : l.take a.length = a := by rw [h1]; simp
    refine ⟨p.1, a.length, by unfold codeV; rw [hc]; dsimp only; rw [hn], by rw [h1]; simp, fun _ => ?_⟩
    rw [ht]
    constructor
    · have := h3 [] (by simp)
      rw [List.append_nil] at this
      unfold codeV
      rw [this]
      rfl
    · have := h3 (120 :: b) (by simp)
      unfold codeV
      rw [this]
      dsimp only
      rw [List.length_append, Nat.add_sub_cancel]
theorem raw_facts (l b : Bs) : (rawN l = 0 ∧ tagN l = 0) ∨ ∃ r : Nat, rawN l = r + 1 ∧ r + 1 ≤ l.length ∧ rawN (l.take (r + 1)) = r + 1 ∧ rawN (l.take (r + 1) ++ b) = r + 1 ∧ l[0]? = some 60 ∧ l[r]? = some 62 ∧
    (tagN l = 0 ∨ (tagN l = r + 1 ∧ tagN (l.take (r + 1)) = r + 1 ∧ tagN (l.take (r + 1) ++ b) = r + 1)) := by
  cases hr : rawF l with
  | none =>
    refine .inl ⟨by unfold rawN; rw [hr]; rfl, ?_⟩
    unfold rawF at hr
    cases ht : tagF l with
    | none => unfold tagN; rw [ht]; rfl
    | some x => rw [ht] at hr; cases hr
  | some z =>
    obtain ⟨p, hp, hb⟩ := raw_front hr
    have hl : l.length = p.length + 2 + z.length := by rw [hp]; simp; omega
    have htk : l.take (p.length + 2) = 60 :: p ++ [62] := by
      rw [hp, show (60 :: p ++ 62 :: z : Bs) = (60 :: p ++ [62]) ++ z by simp]
      rw [List.take_append_of_le_length (by simp), List.take_of_length_le (by simp)]
    refine .inr ⟨p.length + 1, by unfold rawN; rw [hr]; show l.length - z.length = _; omega, by omega, ?_, ?_, by rw [hp]; rfl, ?_, ?_⟩
    · rw [show p.length + 1 + 1 = p.length + 2 from rfl, htk]
      unfold rawN
      rw [hb []]
      simp [took]
    · rw [show p.length + 1 + 1 = p.length + 2 from rfl, htk, show (60 :: p ++ [62] ++ b : Bs) = 60 :: p ++ 62 :: b by simp]
      unfold rawN
      rw [hb b]
      simp [took]
      omega
    · rw [hp]
      rw [List.getElem?_append_right (by simp)]
      simp
    · rw [show p.length + 1 + 1 = p.length + 2 from rfl, htk]
      cases ht : tagF l with
      | none => left; unfold tagN; rw [ht]; rfl
      | some x =>
        right
        unfold rawF at hr
        rw [ht] at hr
        injection hr with hr
        subst hr
        obtain ⟨q, hq, hqt⟩ := tag_front ht
        have e : 60 :: p = q := by
          rw [hp] at hq
          exact List.append_cancel_right hq
        rw [← e] at hqt
        refine ⟨by unfold tagN; rw [ht]; show l.length - x.length = _; omega, ?_, ?_⟩
        · unfold tagN
          rw [tag_of hqt]
          simp [took]
        · rw [show (60 :: p ++ [62] ++ b : Bs) = 60 :: p ++ 62 :: b by simp]
          unfold tagN
          rw [tag_of hqt]
          simp [took]
          omega
theorem auto_facts (l b : Bs) : autoF l = none ∨ ∃ (d u : Bs), autoV (autoF l) = .tuple #[.string (sv d), .string (sv u), .int .i64 ((u.length + 2 : Nat) : Int)] ∧ u.length + 2 ≤ l.length ∧
    autoV (autoF (l.take (u.length + 2) ++ b)) = .tuple #[.string (sv d), .string (sv u), .int .i64 ((u.length + 2 : Nat) : Int)] ∧ (l.take (u.length + 1)).drop 1 = u := by
  cases ha : autoF l with
  | none => exact .inl rfl
  | some p =>
    obtain ⟨z, h1, h2⟩ := auto_front (show autoF l = some (p.1, p.2) from ha)
    refine .inr ⟨p.1, p.2, rfl, by rw [h1]; simp, ?_, ?_⟩
    · have e : l.take (p.2.length + 2) ++ b = 60 :: p.2 ++ 62 :: b := by
        rw [h1, show (60 :: p.2 ++ 62 :: z : Bs) = (60 :: p.2 ++ [62]) ++ z by simp, List.take_append_of_le_length (by simp), List.take_of_length_le (by simp)]
        simp
      rw [e, h2 b]
      rfl
    · rw [h1]
      simp
theorem auto_none {l : Bs} (h : autoF l = none) : autoV (autoF l) = .tuple #[.string (sv []), .string (sv []), .int .i64 0] := by rw [h]; rfl
theorem sv_add (a b : Bs) : sv a ++ sv b = sv (a ++ b) := by
  apply ByteArray.ext
  apply Array.toList_inj.1
  rw [ByteArray.data_append, Array.toList_append]
  rfl

set_option maxRecDepth 100000 in
set_option maxHeartbeats 4000000 in
theorem spanFront_walk (l b : Bs) (m : Int) (w : World) (hb : l.length + b.length ≤ 1048576) (hm : w.cell? ⟨0, 0, none⟩ = some (.int .i64 m)) :
    Calls Tryd.prog 4 #[.string (sv l), .string (sv b)] w fun e w' => e = .returned (.bool true) ∧ Mod (fun _ => False) w w' := by
  have HM := Lib.hid hm
  have hsz := sv_size l
  have hs2 : ((sv l).size : Int) ≤ 8388608 := by rw [sv_size]; omega
  have hs3 : ((sv b).size : Int) ≤ 8388608 := by rw [sv_size]; omega
  have HL : Hid (l.length ≤ 1048576 ∧ b.length ≤ 1048576) := Lib.hid (by omega)
  clear hm hs2
  obtain ⟨t, n, hcv, hnl, hcf⟩ := code_facts l b
  have HC := Lib.hid hcv
  have HCF := Lib.hid hcf
  clear hcv hcf
  have hn0 : (0 : Int) ≤ (n : Int) := by omega
  have hnl' : (n : Int) ≤ (l.length : Int) := by omega
  go_enter Tryd.func4, Tryd.ntmps4
  go_wp2_with (fail)
  refine (shown_any m _ HM.out).mono ?_
  rintro e w1 ⟨rfl, h1⟩
  have H1 := Lib.hid h1
  clear h1
  go_wp2_with (fail)
  refine (code_v HC.out m (by have := HL.out; omega) _ (mod_cell H1.out HM.out)).mono ?_
  rintro e w2 ⟨rfl, h2⟩
  have H2 := Lib.hid (H1.out.trans h2 (fun _ h => h.elim))
  clear h2 H1
  go_upto_if 39 with (fail)
  go_cut [8] (fun _ wx => Hid (Mod (fun _ => False) w wx))
  case first =>
    by_cases hn : n = 0
    · subst hn
      go_wp2
      go_meet
      case rel => exact H2
    · have hq : (0 : Int) < (n : Int) := by omega
      have HF := Lib.hid (HCF.out hn)
      have htt : (sv t).toList = t := sv_toList t
      have t1 := sv_take l n
      have t2 : sv (l.take n) ++ ⟨#[120]⟩ = sv (l.take n ++ [120]) := sv_add (l.take n) [120]
      have t3 : sv (l.take n ++ [120]) ++ sv b = sv (l.take n ++ 120 :: b) := by rw [sv_add]; simp
      have s1 : ((sv (l.take n)).size : Int) ≤ 8388608 := by rw [sv_size, List.length_take]; omega
      have s2 : ((sv (l.take n ++ [120])).size : Int) ≤ 8388608 := by rw [sv_size, List.length_append, List.length_take]; simp; omega
      have s3 : (((⟨#[120]⟩ : ByteArray).size : Nat) : Int) ≤ 8388608 := by show ((1 : Nat) : Int) ≤ 8388608; omega
      have L1 : Hid ((l.take n).length ≤ 4294967280 ∧ (l.take n ++ 120 :: b).length ≤ 4294967280) := Lib.hid (by rw [List.length_append, List.length_take]; simp; omega)
      clear hn HCF
      go_wp2_with (fail)
      refine (code_v HF.out.1 m L1.out.1 _ (mod_cell H2.out HM.out)).mono ?_
      rintro e w3 ⟨rfl, h3⟩
      have H3 := Lib.hid (H2.out.trans h3 (fun _ h => h.elim))
      clear h3 H2
      go_wp2_with (fail)
      refine (code_v HF.out.2 m L1.out.2 _ (mod_cell H3.out HM.out)).mono ?_
      rintro e w4 ⟨rfl, h4⟩
      have H4 := Lib.hid (H3.out.trans h4 (fun _ h => h.elim))
      clear h4 H3
      go_wp2
      go_meet
      case rel => exact H4
  case rest =>
    have H4 := hcut
    clear hcut H2 HCF HC
    rcases raw_facts l b with ⟨hr, ht⟩ | ⟨r, hr, hrl, hr2, hr3, h60, h62, ht⟩
    · have HR := Lib.hid hr
      have HT := Lib.hid ht
      clear hr ht
      go_wp2_with (fail)
      refine (tag_n HT.out (by have := HL.out; omega) _).mono ?_
      rintro e w5 ⟨rfl, h5⟩
      have H5 := Lib.hid (H4.out.trans h5 (fun _ h => h.elim))
      clear h5 H4
      go_wp2_with (fail)
      refine (raw_n HR.out m (by have := HL.out; omega) _ (mod_cell H5.out HM.out)).mono ?_
      rintro e w6 ⟨rfl, h6⟩
      have H6 := Lib.hid (H5.out.trans h6 (fun _ h => h.elim))
      clear h6 H5
      rcases auto_facts l b with ha | ⟨d, u, ha, hul, ha2, hud⟩
      · have HA := Lib.hid (auto_none ha)
        have hnil : (sv ([] : Bs)).toList = [] := sv_toList _
        clear ha
        go_wp2_with (fail)
        refine (auto_v HA.out m (by have := HL.out; omega) _ (mod_cell H6.out HM.out)).mono ?_
        rintro e w8 ⟨rfl, h8⟩
        have H8 := Lib.hid (Mod.trans H6.out h8 (fun _ h => h.elim))
        clear h8
        go_wp2
        go_ret
        exact ⟨rfl, H8.out⟩
      · have HA := Lib.hid ha
        have HA2 := Lib.hid ha2
        have hk0 : (((u.length + 2 : Nat) : Int) == 0) = false := beq_eq_false_iff_ne.2 (by omega)
        obtain ⟨k, hk⟩ : ∃ k, u.length + 2 = k := ⟨_, rfl⟩
        have e1 : u.length + 1 = k - 1 := by omega
        rw [hk] at hk0 HA HA2 hul
        rw [e1] at hud
        have hdt := sv_toList d
        have hut := sv_toList u
        have t1 := sv_take l k
        have t2 : sv (l.take k) ++ sv b = sv (l.take k ++ b) := sv_add _ _
        have s1 : ((sv (l.take k)).size : Int) ≤ 8388608 := by rw [sv_size, List.length_take]; omega
        have L1 : Hid ((l.take k ++ b).length ≤ 4194304) := Lib.hid (by rw [List.length_append, List.length_take]; have := HL.out; omega)
        have q1 : (k : Int) ≤ (l.length : Int) := by omega
        have q2 : (2 : Int) ≤ (k : Int) := by omega
        have q3 : ((k : Int) - 1).toNat = k - 1 := by omega
        have t3 : (sv l).extract 1 (k - 1) = sv u := by rw [sv_ext, hud]
        clear ha ha2 hud hk e1
        go_wp2_with (fail)
        refine (auto_v HA.out m (by have := HL.out; omega) _ (mod_cell H6.out HM.out)).mono ?_
        rintro e w8 ⟨rfl, h8⟩
        have H8 := Lib.hid (Mod.trans H6.out h8 (fun _ h => h.elim))
        clear h8
        go_wp2_with (fail)
        refine (auto_v HA2.out m L1.out _ (mod_cell H8.out HM.out)).mono ?_
        rintro e w9 ⟨rfl, h9⟩
        have H9 := Lib.hid (H8.out.trans h9 (fun _ h => h.elim))
        clear h9
        go_wp2
        go_ret
        exact ⟨rfl, H9.out⟩
    · rcases ht with ht | ⟨ht, ht2, ht3⟩
      · have HT := Lib.hid ht
        have HR := Lib.hid hr
        have HR2 := Lib.hid hr2
        have HR3 := Lib.hid hr3
        have hrl0 : 0 < l.length := by omega
        have b60 : ∀ h, (sv l)[0]'h = 60 := fun h => by
          have e := List.getElem?_eq_getElem (l := l) h
          rw [h60] at e
          injection e with e
          exact e.symm
        have b62 : ∀ h, (sv l)[r]'h = 62 := fun h => by
          have e := List.getElem?_eq_getElem (l := l) h
          rw [h62] at e
          injection e with e
          exact e.symm
        have r1 := sv_take l (r + 1)
        have r2 : sv (l.take (r + 1)) ++ sv b = sv (l.take (r + 1) ++ b) := sv_add _ _
        have rs1 : ((sv (l.take (r + 1))).size : Int) ≤ 8388608 := by rw [sv_size, List.length_take]; omega
        have LR : Hid ((l.take (r + 1)).length ≤ 4294967280 ∧ (l.take (r + 1) ++ b).length ≤ 4294967280) := Lib.hid (by rw [List.length_append, List.length_take]; have := HL.out; omega)
        have q1 : ((r : Int) + 1) ≤ (l.length : Int) := by omega
        have q2 : (0 : Int) < (r : Int) + 1 := by omega
        have q3 : ((r : Int) + 1).toNat = r + 1 := by omega
        clear hr hr2 hr3 h60 h62 ht
        go_wp2_with (fail)
        refine (tag_n HT.out (by have := HL.out; omega) _).mono ?_
        rintro e w5 ⟨rfl, h5⟩
        have H5 := Lib.hid (H4.out.trans h5 (fun _ h => h.elim))
        clear h5 H4
        go_wp2_with (fail)
        refine (raw_n HR.out m (by have := HL.out; omega) _ (mod_cell H5.out HM.out)).mono ?_
        rintro e w6 ⟨rfl, h6⟩
        have HX := Lib.hid (H5.out.trans h6 (fun _ h => h.elim))
        clear h6 H5
        go_wp2_with (fail)
        refine (raw_n HR2.out m LR.out.1 _ (mod_cell HX.out HM.out)).mono ?_
        rintro e wa ⟨rfl, ha⟩
        have HY := Lib.hid (HX.out.trans ha (fun _ h => h.elim))
        clear ha HX
        go_wp2_with (fail)
        refine (raw_n HR3.out m LR.out.2 _ (mod_cell HY.out HM.out)).mono ?_
        rintro e wb ⟨rfl, hbb⟩
        have HZ := Lib.hid (HY.out.trans hbb (fun _ h => h.elim))
        clear hbb HY
        rcases auto_facts l b with ha | ⟨d, u, ha, hul, ha2, hud⟩
        · have HA := Lib.hid (auto_none ha)
          have hnil : (sv ([] : Bs)).toList = [] := sv_toList _
          clear ha
          go_wp2_with (fail)
          refine (auto_v HA.out m (by have := HL.out; omega) _ (mod_cell HZ.out HM.out)).mono ?_
          rintro e w8 ⟨rfl, h8⟩
          have H8 := Lib.hid (Mod.trans HZ.out h8 (fun _ h => h.elim))
          clear h8
          go_wp2
          go_ret
          exact ⟨rfl, H8.out⟩
        · have HA := Lib.hid ha
          have HA2 := Lib.hid ha2
          have hk0 : (((u.length + 2 : Nat) : Int) == 0) = false := beq_eq_false_iff_ne.2 (by omega)
          obtain ⟨k, hk⟩ : ∃ k, u.length + 2 = k := ⟨_, rfl⟩
          have e1 : u.length + 1 = k - 1 := by omega
          rw [hk] at hk0 HA HA2 hul
          rw [e1] at hud
          have hdt := sv_toList d
          have hut := sv_toList u
          have t1 := sv_take l k
          have t2 : sv (l.take k) ++ sv b = sv (l.take k ++ b) := sv_add _ _
          have s1 : ((sv (l.take k)).size : Int) ≤ 8388608 := by rw [sv_size, List.length_take]; omega
          have L1 : Hid ((l.take k ++ b).length ≤ 4194304) := Lib.hid (by rw [List.length_append, List.length_take]; have := HL.out; omega)
          have q1 : (k : Int) ≤ (l.length : Int) := by omega
          have q2 : (2 : Int) ≤ (k : Int) := by omega
          have q3 : ((k : Int) - 1).toNat = k - 1 := by omega
          have t3 : (sv l).extract 1 (k - 1) = sv u := by rw [sv_ext, hud]
          clear ha ha2 hud hk e1
          go_wp2_with (fail)
          refine (auto_v HA.out m (by have := HL.out; omega) _ (mod_cell HZ.out HM.out)).mono ?_
          rintro e w8 ⟨rfl, h8⟩
          have H8 := Lib.hid (Mod.trans HZ.out h8 (fun _ h => h.elim))
          clear h8
          go_wp2_with (fail)
          refine (auto_v HA2.out m L1.out _ (mod_cell H8.out HM.out)).mono ?_
          rintro e w9 ⟨rfl, h9⟩
          have H9 := Lib.hid (H8.out.trans h9 (fun _ h => h.elim))
          clear h9
          go_wp2
          go_ret
          exact ⟨rfl, H9.out⟩
      · have HT := Lib.hid ht
        have HT2 := Lib.hid ht2
        have HT3 := Lib.hid ht3
        have HR := Lib.hid hr
        have HR2 := Lib.hid hr2
        have HR3 := Lib.hid hr3
        have hrl0 : 0 < l.length := by omega
        have b60 : ∀ h, (sv l)[0]'h = 60 := fun h => by
          have e := List.getElem?_eq_getElem (l := l) h
          rw [h60] at e
          injection e with e
          exact e.symm
        have b62 : ∀ h, (sv l)[r]'h = 62 := fun h => by
          have e := List.getElem?_eq_getElem (l := l) h
          rw [h62] at e
          injection e with e
          exact e.symm
        have r1 := sv_take l (r + 1)
        have r2 : sv (l.take (r + 1)) ++ sv b = sv (l.take (r + 1) ++ b) := sv_add _ _
        have rs1 : ((sv (l.take (r + 1))).size : Int) ≤ 8388608 := by rw [sv_size, List.length_take]; omega
        have LR : Hid ((l.take (r + 1)).length ≤ 4294967280 ∧ (l.take (r + 1) ++ b).length ≤ 4294967280) := Lib.hid (by rw [List.length_append, List.length_take]; have := HL.out; omega)
        have q1 : ((r : Int) + 1) ≤ (l.length : Int) := by omega
        have q2 : (0 : Int) < (r : Int) + 1 := by omega
        have q3 : ((r : Int) + 1).toNat = r + 1 := by omega
        clear hr hr2 hr3 h60 h62 ht ht2 ht3
        go_wp2_with (fail)
        refine (tag_n HT.out (by have := HL.out; omega) _).mono ?_
        rintro e w5 ⟨rfl, h5⟩
        have H5 := Lib.hid (H4.out.trans h5 (fun _ h => h.elim))
        clear h5 H4
        go_wp2_with (fail)
        refine (raw_n HR.out m (by have := HL.out; omega) _ (mod_cell H5.out HM.out)).mono ?_
        rintro e w6 ⟨rfl, h6⟩
        have H6 := Lib.hid (H5.out.trans h6 (fun _ h => h.elim))
        clear h6 H5
        go_wp2_with (fail)
        refine (tag_n HT2.out LR.out.1 _).mono ?_
        rintro e wc ⟨rfl, h7⟩
        have H7 := Lib.hid (H6.out.trans h7 (fun _ h => h.elim))
        clear h7 H6
        go_wp2_with (fail)
        refine (tag_n HT3.out LR.out.2 _).mono ?_
        rintro e wd ⟨rfl, h7⟩
        have HX := Lib.hid (H7.out.trans h7 (fun _ h => h.elim))
        clear h7 H7
        go_wp2_with (fail)
        refine (raw_n HR2.out m LR.out.1 _ (mod_cell HX.out HM.out)).mono ?_
        rintro e wa ⟨rfl, ha⟩
        have HY := Lib.hid (HX.out.trans ha (fun _ h => h.elim))
        clear ha HX
        go_wp2_with (fail)
        refine (raw_n HR3.out m LR.out.2 _ (mod_cell HY.out HM.out)).mono ?_
        rintro e wb ⟨rfl, hbb⟩
        have HZ := Lib.hid (HY.out.trans hbb (fun _ h => h.elim))
        clear hbb HY
        rcases auto_facts l b with ha | ⟨d, u, ha, hul, ha2, hud⟩
        · have HA := Lib.hid (auto_none ha)
          have hnil : (sv ([] : Bs)).toList = [] := sv_toList _
          clear ha
          go_wp2_with (fail)
          refine (auto_v HA.out m (by have := HL.out; omega) _ (mod_cell HZ.out HM.out)).mono ?_
          rintro e w8 ⟨rfl, h8⟩
          have H8 := Lib.hid (Mod.trans HZ.out h8 (fun _ h => h.elim))
          clear h8
          go_wp2
          go_ret
          exact ⟨rfl, H8.out⟩
        · have HA := Lib.hid ha
          have HA2 := Lib.hid ha2
          have hk0 : (((u.length + 2 : Nat) : Int) == 0) = false := beq_eq_false_iff_ne.2 (by omega)
          obtain ⟨k, hk⟩ : ∃ k, u.length + 2 = k := ⟨_, rfl⟩
          have e1 : u.length + 1 = k - 1 := by omega
          rw [hk] at hk0 HA HA2 hul
          rw [e1] at hud
          have hdt := sv_toList d
          have hut := sv_toList u
          have t1 := sv_take l k
          have t2 : sv (l.take k) ++ sv b = sv (l.take k ++ b) := sv_add _ _
          have s1 : ((sv (l.take k)).size : Int) ≤ 8388608 := by rw [sv_size, List.length_take]; omega
          have L1 : Hid ((l.take k ++ b).length ≤ 4194304) := Lib.hid (by rw [List.length_append, List.length_take]; have := HL.out; omega)
          have q1 : (k : Int) ≤ (l.length : Int) := by omega
          have q2 : (2 : Int) ≤ (k : Int) := by omega
          have q3 : ((k : Int) - 1).toNat = k - 1 := by omega
          have t3 : (sv l).extract 1 (k - 1) = sv u := by rw [sv_ext, hud]
          clear ha ha2 hud hk e1
          go_wp2_with (fail)
          refine (auto_v HA.out m (by have := HL.out; omega) _ (mod_cell HZ.out HM.out)).mono ?_
          rintro e w8 ⟨rfl, h8⟩
          have H8 := Lib.hid (Mod.trans HZ.out h8 (fun _ h => h.elim))
          clear h8
          go_wp2_with (fail)
          refine (auto_v HA2.out m L1.out _ (mod_cell H8.out HM.out)).mono ?_
          rintro e w9 ⟨rfl, h9⟩
          have H9 := Lib.hid (H8.out.trans h9 (fun _ h => h.elim))
          clear h9
          go_wp2
          go_ret
          exact ⟨rfl, H9.out⟩
end Go.Proofs.YtkmidilaabgooaaDoor
