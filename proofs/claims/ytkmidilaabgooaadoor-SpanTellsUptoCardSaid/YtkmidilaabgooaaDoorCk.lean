/-
  Auto.
-/
import Derived.Test.YtkmidilaabgooaaDoorCh
namespace Go.Proofs.YtkmidilaabgooaaDoor
open Go.RowKit Mem
set_option linter.unusedVariables false
set_option linter.unusedSimpArgs false

/-- May a rune not stand in an address? -/
def badR (x : Nat) : Bool := decide (x ≤ 32) || x == 127 || x == 60
theorem badR_byte (c : UInt8) : badR c.toNat = badA c := by
  have e : ∀ n : UInt8, (c.toNat == n.toNat) = (c == n) := fun n => by
    rw [Bool.eq_iff_iff, beq_iff_eq, beq_iff_eq, UInt8.toNat_inj]
  unfold badR badA
  rw [show (127 : Nat) = (127 : UInt8).toNat from rfl, show (60 : Nat) = (60 : UInt8).toNat from rfl, e, e]
  simp [UInt8.le_iff_toNat_le]
theorem badR_high {x : Nat} (h : 128 ≤ x) : badR x = false := by
  unfold badR
  rw [decide_eq_false (by omega), beq_eq_false_iff_ne.2 (by omega), beq_eq_false_iff_ne.2 (by omega)]; rfl
theorem skip_high (l : Bs) (p : UInt8 → Bool) (pos : Nat) : ∀ k, pos + k ≤ l.length → (∀ j, j < k → p ((sv l).get! (pos + j)) = false) → (l.drop pos).any p = (l.drop (pos + k)).any p
  | 0, _, _ => rfl
  | k + 1, hk, h => by
    rw [skip_high l p pos k (by omega) (fun j hj => h j (by omega)), List.drop_eq_getElem_cons (show pos + k < l.length by omega), List.any_cons]
    have := h k (Nat.lt_succ_self _)
    have e : p l[pos + k] = false := by rw [get_sv l _ (by omega)] at this; exact this
    rw [e]; rfl
theorem idx_low (l : Bs) : ∀ f pos, l.length ≤ pos + f → decide (0 ≤ Lib.idxFuncFrom badR true (sv l) f pos) = (l.drop pos).any badA
  | 0, pos, h => by rw [List.drop_eq_nil_of_le (by omega)]; rfl
  | f + 1, pos, h => by
    unfold Lib.idxFuncFrom
    by_cases hlt : pos < l.length
    · rw [if_pos (by exact hlt)]
      by_cases hb : ((sv l).get! pos).toNat < 128
      · rw [decode_low (sv l) pos hb]
        dsimp only
        have hg := get_sv l pos hlt
        rw [List.drop_eq_getElem_cons hlt, List.any_cons, hg, badR_byte]
        by_cases hx : badA l[pos] = true
        · rw [if_pos hx, hx]; simp
        · rw [if_neg hx, idx_low l f (pos + 1) (by omega)]
          have : badA l[pos] = false := by simpa using hx
          rw [this]; simp
      · obtain ⟨s1, s2, s3⟩ := dec_span (sv l) pos hlt (by omega)
        rw [if_neg (by rw [badR_high (decode_high (sv l) pos hb)]; exact Bool.false_ne_true), idx_low l f _ (by omega)]
        refine (skip_high l badA pos _ s2 (fun j hj => ?_)).symm
        have := s3 j hj
        rw [← badR_byte]
        exact badR_high this
    · rw [if_neg (by exact hlt), List.drop_eq_nil_of_le (by omega)]
      rfl
theorem contains_bad (l : Bs) : decide (0 ≤ Lib.idxFunc badR true (sv l)) = l.any badA := by
  unfold Lib.idxFunc
  exact idx_low l _ 0 (by rw [sv_size]; omega)
theorem bad_any (r : Nat) (W : World) : Calls Tryd.prog 29 #[.int .i32 (r : Int)] W fun e w' => e = .returned (.bool (badR r)) ∧ W = w' := by
  have hr : badR r = (decide ((r : Int) ≤ 32) || ((r : Int) == 127) || ((r : Int) == 60)) := by
    unfold badR
    have e1 : decide (r ≤ 32) = decide ((r : Int) ≤ 32) := by congr 1; apply propext; omega
    have e2 : (r == 127) = ((r : Int) == 127) := by rw [Bool.eq_iff_iff]; simp; omega
    have e3 : (r == 60) = ((r : Int) == 60) := by rw [Bool.eq_iff_iff]; simp; omega
    rw [e1, e2, e3]
  have HR := Lib.hid hr
  clear hr
  by_cases h1 : (r : Int) ≤ 32
  · go_enter Tryd.func29, Tryd.ntmps29
    go_wp2
    go_ret
    exact ⟨ret_bool (by rw [HR.out, decide_eq_true h1]; rfl), rfl⟩
  · have a1 : decide ((r : Int) ≤ 32) = false := decide_eq_false h1
    rcases a2 : ((r : Int) == 127) with _ | _
    · go_enter Tryd.func29, Tryd.ntmps29
      go_wp2
      go_ret
      exact ⟨ret_bool (by rw [HR.out, a1, a2]; rfl), rfl⟩
    · have HA := Lib.hid a1
      have HB := Lib.hid a2
      go_enter Tryd.func29, Tryd.ntmps29
      go_wp2
      go_ret
      exact ⟨ret_bool (by rw [HR.out, HA.out, HB.out]; rfl), rfl⟩
theorem bad_at (w : World) : PredAt Tryd.prog 29 #[] encR badR w := fun W x _ => (bad_any x W).mono fun e w' ⟨he, hw⟩ => ⟨he, 0, hw.symm⟩
theorem enter29 : ∀ args w, (callFunc 29 args).run Tryd.prog w = .ok (.enter 29 args) w := enters_of Tryd.func29 (by kernel_rfl) rfl
theorem cf_b {l : Bs} {b : Bool} (h : l.any badA = b) (w : World) : Calls Tryd.prog 28 #[.string (sv l), .func (.func 29) #[] #[]] w fun e w' => e = .returned (.bool b) ∧ Mod (fun _ => False) w w' := by
  subst h
  rw [← contains_bad]
  exact (Tryd.strings_ContainsFunc 29 #[] enter29 badR (sv l) w (bad_at w)).mono fun e w' ⟨h1, h2⟩ => ⟨h1, mod_of_below h2⟩
theorem mail_b {t : Bs} {b : Bool} (h : mailF t = b) (m : Int) (hl : t.length ≤ 4294967280) (w : World) (hm : w.cell? ⟨0, 0, none⟩ = some (.int .i64 m)) :
    Calls Tryd.prog 33 #[.string (sv t)] w fun e w' => e = .returned (.bool b) ∧ Mod (fun _ => False) w w' := by
  subst h; exact mail_any t m w hl hm
theorem hp_b {t l : Bs} {b : Bool} (h : t.isPrefixOf l = b) (w : World) : Calls Tryd.prog 32 #[.string (sv l), .string (sv t)] w fun e w' => e = .returned (.bool b) ∧ w = w' := by
  have h2 := Tryd.strings_HasPrefix (sv l) (sv t) w
  rw [sv_list, sv_list] at h2
  subst h
  exact h2.mono fun _ _ ⟨h1, h2⟩ => ⟨h1, h2.symm⟩
/-- What Auto tells. -/
def autoV (o : Option (Bs × Bs)) : Value := match o with
  | some (d, u) => .tuple #[.string (sv d), .string (sv u), .int .i64 ((u.length : Int) + 2)]
  | none => .tuple #[.string (sv []), .string (sv []), .int .i64 0]
theorem cut_tuple (l : Bs) (c : UInt8) : ∃ (a b : Bs) (f : Bool), cutV l c = .tuple #[.string (sv a), .string (sv b), .bool f] := by
  unfold cutV
  cases cut c l with
  | none => exact ⟨l, [], false, rfl⟩
  | some p => exact ⟨p.1, p.2, true, rfl⟩
theorem auto_no60 {l : Bs} (h : ([60] : Bs).isPrefixOf l = false) : autoF l = none := by
  cases l with
  | nil => rfl
  | cons c r =>
    rw [pre_cons] at h
    have : (c == 60) = false := by rw [beq_eq_false_iff_ne] at h ⊢; exact fun e => h e.symm
    unfold autoF
    dsimp only
    rw [this]; rfl
theorem auto_nocut {r : Bs} (h : cut 62 r = none) : autoF (60 :: r) = none := by
  show (if (60 == 60 : Bool) then (match cut 62 r with
    | none => none
    | some (t, _) => if t.any badA then none else if schemeF t then some (t, t) else if mailF t then some (mailto ++ t, t) else none) else none) = _
  rw [if_pos (by rfl), h]
theorem link_bad {t : Bs} (h : t.any badA = true) : linkF t = none := by unfold linkF; rw [if_pos h]
theorem link_scheme {t : Bs} (h : t.any badA = false) (h2 : schemeF t = true) : linkF t = some (t, t) := by
  unfold linkF; rw [h, if_neg Bool.false_ne_true, if_pos h2]
theorem link_mail {t : Bs} (h : t.any badA = false) (h2 : schemeF t = false) : linkF t = if mailF t then some (mailto ++ t, t) else none := by
  unfold linkF; rw [h, h2, if_neg Bool.false_ne_true, if_neg Bool.false_ne_true]
theorem pre_head (c : UInt8) (l : Bs) : ([c] : Bs).isPrefixOf l = (l.head? == some c) := by
  cases l with
  | nil => rfl
  | cons b l =>
    rw [pre_cons, Bool.eq_iff_iff, beq_iff_eq, beq_iff_eq, List.head?_cons]
    exact ⟨fun h => by rw [h], fun h => by injection h with h; exact h.symm⟩
abbrev schB : UInt8 → Bool := isB true true [43, 46, 45]
theorem scheme_cons (c : UInt8) (q : Bs) : schemeF (c :: q) = (isB true false [] c && decide (2 ≤ ((c :: q).takeWhile schB).length) && decide (((c :: q).takeWhile schB).length ≤ 32) && ([58] : Bs).isPrefixOf ((c :: q).dropWhile schB)) := by
  rw [pre_head]; rfl

set_option maxRecDepth 100000 in
set_option maxHeartbeats 4000000 in
theorem auto_any (l : Bs) (m : Int) (w : World) (hl : l.length ≤ 4194304) (hm : w.cell? ⟨0, 0, none⟩ = some (.int .i64 m)) :
    Calls Tryd.prog 12 #[.string (sv l)] w fun e w' => e = .returned (autoV (autoF l)) ∧ Mod (fun _ => False) w w' := by
  have HM := Lib.hid hm
  clear hm
  rcases hp : ([60] : Bs).isPrefixOf l with _ | _
  · have HP := Lib.hid hp
    have hmp : Hid ((if ([60] : Bs).isPrefixOf l then l.drop ([60] : Bs).length else l) = l) := Lib.hid (by rw [hp]; rfl)
    have HF : Hid (autoV (autoF l) = autoV none) := Lib.hid (by rw [auto_no60 hp])
    obtain ⟨a, b, f, hcv⟩ := cut_tuple l 62
    have hct := fun w => cut_any l 62 w (by omega)
    rw [hcv] at hct
    clear hp hcv
    go_enter Tryd.func12, Tryd.ntmps12
    go_wp2_with (fail)
    refine (cp_b (t := [60]) HP.out hmp.out _).mono ?_
    rintro e w1 ⟨rfl, rfl⟩
    go_wp2_with (fail)
    refine (hct _).mono ?_
    rintro e w2 ⟨rfl, hd⟩
    have Hd : Hid (Mod (fun _ => False) w w2) := Lib.hid hd.mod
    clear hd
    go_wp2
    go_ret3
    exact ⟨ret_val (by rw [HF.out]; rfl), Hd.out⟩
  · have hsp := pre_split hp
    obtain ⟨r, hr⟩ : ∃ r, l.drop ([60] : Bs).length = r := ⟨_, rfl⟩
    rw [hr] at hsp
    have hsp' : l = 60 :: r := hsp
    have hrl : l.length = r.length + 1 := by rw [hsp']; rfl
    have HP := Lib.hid hp
    have hmp : Hid ((if ([60] : Bs).isPrefixOf l then l.drop ([60] : Bs).length else l) = r) := Lib.hid (by rw [hp, if_pos rfl, hr])
    have HV : Hid (autoV (autoF l) = autoV (autoF (60 :: r))) := Lib.hid (by rw [hsp'])
    clear hp hsp hsp' hr
    rcases hcc : cut 62 r with _ | ⟨t, x⟩
    · have hct := fun w => cut_none hcc (by omega) w
      have HF : Hid (autoV (autoF l) = autoV none) := Lib.hid (by rw [HV.out, auto_nocut hcc])
      clear hcc HV
      go_enter Tryd.func12, Tryd.ntmps12
      go_wp2_with (fail)
      refine (cp_b (t := [60]) HP.out hmp.out _).mono ?_
      rintro e w1 ⟨rfl, rfl⟩
      go_wp2_with (fail)
      refine (hct _).mono ?_
      rintro e w2 ⟨rfl, hd⟩
      have Hd : Hid (Mod (fun _ => False) w w2) := Lib.hid hd.mod
      clear hd
      go_wp2
      go_ret3
      exact ⟨ret_val (by rw [HF.out]; rfl), Hd.out⟩
    · have hct := fun w => cut_some hcc (by omega) w
      have HV2 : Hid (autoV (autoF l) = autoV (linkF t)) := Lib.hid (by rw [HV.out, auto_cut hcc])
      have htl : t.length ≤ 4194304 := by
        have := congrArg List.length (cut_suffix 62 r t x hcc)
        simp at this; omega
      have HTL : Hid (t.length ≤ 4294967280 ∧ t.length ≤ 9223372036854775807) := Lib.hid (by omega)
      have htz := sv_size t
      have htt := sv_toList t
      clear hcc HV
      rcases hb : t.any badA with _ | _
      · have HB := Lib.hid hb
        clear hb
        cases t with
        | nil =>
          have HSH : Hid (schemeF ([] : Bs) = false) := Lib.hid (by rfl)
          rcases hmb : mailF ([] : Bs) with _ | _
          · have HMb := Lib.hid hmb
            have HF : Hid (autoV (autoF l) = autoV none) := Lib.hid (by rw [HV2.out, link_mail HB.out HSH.out, hmb]; rfl)
            clear hmb HV2
            go_enter Tryd.func12, Tryd.ntmps12
            go_wp2_with (fail)
            refine (cp_b (t := [60]) HP.out hmp.out _).mono ?_
            rintro e w1 ⟨rfl, rfl⟩
            go_wp2_with (fail)
            refine (hct _).mono ?_
            rintro e w2 ⟨rfl, hd⟩
            have Hd : Hid (Mod (fun _ => False) w w2) := Lib.hid hd.mod
            clear hd
            go_wp2_with (fail)
            refine (cf_b HB.out _).mono ?_
            rintro e w3 ⟨rfl, hd⟩
            have Hd3 := Lib.hid (Hd.out.trans hd (fun _ h => h.elim))
            clear hd Hd
            go_wp2_with (fail)
            refine (mail_b HMb.out m HTL.out.1 _ (mod_cell ((Hd3.out.alloc _)) HM.out)).mono ?_
            rintro e w9 ⟨rfl, hd⟩
            have Hd9 := Lib.hid (Mod.trans ((Hd3.out.alloc _)) hd (fun _ h => h.elim))
            clear hd
            go_wp2
            go_ret3
            exact ⟨ret_val (by rw [HF.out]; rfl), Hd9.out⟩
          · have HMb := Lib.hid hmb
            have HF : Hid (autoV (autoF l) = autoV (some (mailto ++ ([] : Bs), ([] : Bs)))) := Lib.hid (by rw [HV2.out, link_mail HB.out HSH.out, hmb]; rfl)
            have HADD : Hid ((⟨#[109, 97, 105, 108, 116, 111, 58]⟩ : ByteArray) ++ sv ([] : Bs) = sv (mailto ++ ([] : Bs)) ∧ ((sv ([] : Bs)).size : Int) ≤ 8388608 ∧ (((⟨#[109, 97, 105, 108, 116, 111, 58]⟩ : ByteArray).size : Nat) : Int) ≤ 8388608) := Lib.hid (by
              refine ⟨?_, by rw [sv_size]; omega, by show ((7 : Nat) : Int) ≤ 8388608; omega⟩
              apply ByteArray.ext
              apply Array.toList_inj.1
              rw [ByteArray.data_append, Array.toList_append]
              rfl)
            clear hmb HV2
            go_enter Tryd.func12, Tryd.ntmps12
            go_wp2_with (fail)
            refine (cp_b (t := [60]) HP.out hmp.out _).mono ?_
            rintro e w1 ⟨rfl, rfl⟩
            go_wp2_with (fail)
            refine (hct _).mono ?_
            rintro e w2 ⟨rfl, hd⟩
            have Hd : Hid (Mod (fun _ => False) w w2) := Lib.hid hd.mod
            clear hd
            go_wp2_with (fail)
            refine (cf_b HB.out _).mono ?_
            rintro e w3 ⟨rfl, hd⟩
            have Hd3 := Lib.hid (Hd.out.trans hd (fun _ h => h.elim))
            clear hd Hd
            go_wp2_with (fail)
            refine (mail_b HMb.out m HTL.out.1 _ (mod_cell ((Hd3.out.alloc _)) HM.out)).mono ?_
            rintro e w9 ⟨rfl, hd⟩
            have Hd9 := Lib.hid (Mod.trans ((Hd3.out.alloc _)) hd (fun _ h => h.elim))
            clear hd
            obtain ⟨hadd, hs2, hs1⟩ := HADD.out
            go_wp2
            go_ret3
            exact ⟨ret_val (by rw [HF.out]; rfl), Hd9.out⟩
        | cons c q =>
          have hb0 : ∀ h, (sv (c :: q))[0]'h = c := fun _ => rfl
          have hsc := scheme_cons c q
          have hql : q.length + 1 ≤ 4194304 := htl
          rcases hB : isB true false [] c with _ | _
          · have hi := fun w => is_any c true false [] w
            rw [hB] at hi hsc
            have HSH : Hid (schemeF (c :: q) = false) := Lib.hid (by rw [hsc]; rfl)
            rcases hmb : mailF (c :: q) with _ | _
            · have HMb := Lib.hid hmb
              have HF : Hid (autoV (autoF l) = autoV none) := Lib.hid (by rw [HV2.out, link_mail HB.out HSH.out, hmb]; rfl)
              clear hmb HV2 hB hsc
              go_enter Tryd.func12, Tryd.ntmps12
              go_wp2_with (fail)
              refine (cp_b (t := [60]) HP.out hmp.out _).mono ?_
              rintro e w1 ⟨rfl, rfl⟩
              go_wp2_with (fail)
              refine (hct _).mono ?_
              rintro e w2 ⟨rfl, hd⟩
              have Hd : Hid (Mod (fun _ => False) w w2) := Lib.hid hd.mod
              clear hd
              go_wp2_with (fail)
              refine (cf_b HB.out _).mono ?_
              rintro e w3 ⟨rfl, hd⟩
              have Hd3 := Lib.hid (Hd.out.trans hd (fun _ h => h.elim))
              clear hd Hd
              go_wp2_with (fail)
              refine (hi _).mono ?_
              rintro e w5 ⟨rfl, rfl⟩
              go_wp2_with (fail)
              refine (mail_b HMb.out m HTL.out.1 _ (mod_cell (Hd3.out.alloc _) HM.out)).mono ?_
              rintro e w9 ⟨rfl, hd⟩
              have Hd9 := Lib.hid (Mod.trans (Hd3.out.alloc _) hd (fun _ h => h.elim))
              clear hd
              go_wp2
              go_ret3
              exact ⟨ret_val (by rw [HF.out]; rfl), Hd9.out⟩
            · have HMb := Lib.hid hmb
              have HF : Hid (autoV (autoF l) = autoV (some (mailto ++ (c :: q), (c :: q)))) := Lib.hid (by rw [HV2.out, link_mail HB.out HSH.out, hmb]; rfl)
              have HADD : Hid ((⟨#[109, 97, 105, 108, 116, 111, 58]⟩ : ByteArray) ++ sv (c :: q) = sv (mailto ++ (c :: q)) ∧ ((sv (c :: q)).size : Int) ≤ 8388608 ∧ (((⟨#[109, 97, 105, 108, 116, 111, 58]⟩ : ByteArray).size : Nat) : Int) ≤ 8388608) := Lib.hid (by
                refine ⟨?_, by rw [sv_size]; omega, by show ((7 : Nat) : Int) ≤ 8388608; omega⟩
                apply ByteArray.ext
                apply Array.toList_inj.1
                rw [ByteArray.data_append, Array.toList_append]
                rfl)
              clear hmb HV2 hB hsc
              go_enter Tryd.func12, Tryd.ntmps12
              go_wp2_with (fail)
              refine (cp_b (t := [60]) HP.out hmp.out _).mono ?_
              rintro e w1 ⟨rfl, rfl⟩
              go_wp2_with (fail)
              refine (hct _).mono ?_
              rintro e w2 ⟨rfl, hd⟩
              have Hd : Hid (Mod (fun _ => False) w w2) := Lib.hid hd.mod
              clear hd
              go_wp2_with (fail)
              refine (cf_b HB.out _).mono ?_
              rintro e w3 ⟨rfl, hd⟩
              have Hd3 := Lib.hid (Hd.out.trans hd (fun _ h => h.elim))
              clear hd Hd
              go_wp2_with (fail)
              refine (hi _).mono ?_
              rintro e w5 ⟨rfl, rfl⟩
              go_wp2_with (fail)
              refine (mail_b HMb.out m HTL.out.1 _ (mod_cell (Hd3.out.alloc _) HM.out)).mono ?_
              rintro e w9 ⟨rfl, hd⟩
              have Hd9 := Lib.hid (Mod.trans (Hd3.out.alloc _) hd (fun _ h => h.elim))
              clear hd
              obtain ⟨hadd, hs2, hs1⟩ := HADD.out
              go_wp2
              go_ret3
              exact ⟨ret_val (by rw [HF.out]; rfl), Hd9.out⟩
          · have hi := fun w => is_any c true false [] w
            rw [hB] at hi hsc
            obtain ⟨k, hk⟩ : ∃ k, ((c :: q).takeWhile schB).length = k := ⟨_, rfl⟩
            obtain ⟨z, hz⟩ : ∃ z, (c :: q).dropWhile schB = z := ⟨_, rfl⟩
            have HKZ : Hid (((c :: q).takeWhile (isB true true [43, 46, 45])).length = k ∧ (c :: q).dropWhile (isB true true [43, 46, 45]) = z) := Lib.hid ⟨hk, hz⟩
            rw [hk, hz] at hsc
            have hkl : k ≤ (c :: q).length := by rw [← hk]; exact (List.takeWhile_prefix _).length_le
            clear hB hk hz
            by_cases k2 : (2 : Int) ≤ (k : Int)
            · by_cases k32 : (k : Int) ≤ 32
              · rw [decide_eq_true (show 2 ≤ k by omega), decide_eq_true (show k ≤ 32 by omega)] at hsc
                rcases h58 : ([58] : Bs).isPrefixOf z with _ | _
                · have H58 := Lib.hid h58
                  rw [h58] at hsc
                  clear h58
                  have HSH : Hid (schemeF (c :: q) = false) := Lib.hid (by rw [hsc]; rfl)
                  rcases hmb : mailF (c :: q) with _ | _
                  · have HMb := Lib.hid hmb
                    have HF : Hid (autoV (autoF l) = autoV none) := Lib.hid (by rw [HV2.out, link_mail HB.out HSH.out, hmb]; rfl)
                    clear hmb HV2 hsc
                    go_enter Tryd.func12, Tryd.ntmps12
                    go_wp2_with (fail)
                    refine (cp_b (t := [60]) HP.out hmp.out _).mono ?_
                    rintro e w1 ⟨rfl, rfl⟩
                    go_wp2_with (fail)
                    refine (hct _).mono ?_
                    rintro e w2 ⟨rfl, hd⟩
                    have Hd : Hid (Mod (fun _ => False) w w2) := Lib.hid hd.mod
                    clear hd
                    go_wp2_with (fail)
                    refine (cf_b HB.out _).mono ?_
                    rintro e w3 ⟨rfl, hd⟩
                    have Hd3 := Lib.hid (Hd.out.trans hd (fun _ h => h.elim))
                    clear hd Hd
                    go_wp2_with (fail)
                    refine (hi _).mono ?_
                    rintro e w5 ⟨rfl, rfl⟩
                    go_wp2_with (fail)
                    refine (some_n (o := [43, 46, 45]) (Scn.new _ _) HTL.out.2 HKZ.out.1 HKZ.out.2).mono ?_
                    rintro e w6 ⟨rfl, hd⟩
                    have HO6 := Lib.hid ((Own.new w3 (c :: q)).step hd)
                    clear hd
                    have hc6 := HO6.out.s.cell
                    go_wp2_with (fail)
                    refine (hp_b (t := [58]) H58.out _).mono ?_
                    rintro e w7 ⟨rfl, rfl⟩
                    go_wp2_with (fail)
                    refine (mail_b HMb.out m HTL.out.1 _ (mod_cell (Mod.trans Hd3.out HO6.out.m (fun _ h => h.elim)) HM.out)).mono ?_
                    rintro e w9 ⟨rfl, hd⟩
                    have Hd9 := Lib.hid (Mod.trans (Mod.trans Hd3.out HO6.out.m (fun _ h => h.elim)) hd (fun _ h => h.elim))
                    clear hd
                    go_wp2
                    go_ret3
                    exact ⟨ret_val (by rw [HF.out]; rfl), Hd9.out⟩
                  · have HMb := Lib.hid hmb
                    have HF : Hid (autoV (autoF l) = autoV (some (mailto ++ (c :: q), (c :: q)))) := Lib.hid (by rw [HV2.out, link_mail HB.out HSH.out, hmb]; rfl)
                    have HADD : Hid ((⟨#[109, 97, 105, 108, 116, 111, 58]⟩ : ByteArray) ++ sv (c :: q) = sv (mailto ++ (c :: q)) ∧ ((sv (c :: q)).size : Int) ≤ 8388608 ∧ (((⟨#[109, 97, 105, 108, 116, 111, 58]⟩ : ByteArray).size : Nat) : Int) ≤ 8388608) := Lib.hid (by
                      refine ⟨?_, by rw [sv_size]; omega, by show ((7 : Nat) : Int) ≤ 8388608; omega⟩
                      apply ByteArray.ext
                      apply Array.toList_inj.1
                      rw [ByteArray.data_append, Array.toList_append]
                      rfl)
                    clear hmb HV2 hsc
                    go_enter Tryd.func12, Tryd.ntmps12
                    go_wp2_with (fail)
                    refine (cp_b (t := [60]) HP.out hmp.out _).mono ?_
                    rintro e w1 ⟨rfl, rfl⟩
                    go_wp2_with (fail)
                    refine (hct _).mono ?_
                    rintro e w2 ⟨rfl, hd⟩
                    have Hd : Hid (Mod (fun _ => False) w w2) := Lib.hid hd.mod
                    clear hd
                    go_wp2_with (fail)
                    refine (cf_b HB.out _).mono ?_
                    rintro e w3 ⟨rfl, hd⟩
                    have Hd3 := Lib.hid (Hd.out.trans hd (fun _ h => h.elim))
                    clear hd Hd
                    go_wp2_with (fail)
                    refine (hi _).mono ?_
                    rintro e w5 ⟨rfl, rfl⟩
                    go_wp2_with (fail)
                    refine (some_n (o := [43, 46, 45]) (Scn.new _ _) HTL.out.2 HKZ.out.1 HKZ.out.2).mono ?_
                    rintro e w6 ⟨rfl, hd⟩
                    have HO6 := Lib.hid ((Own.new w3 (c :: q)).step hd)
                    clear hd
                    have hc6 := HO6.out.s.cell
                    go_wp2_with (fail)
                    refine (hp_b (t := [58]) H58.out _).mono ?_
                    rintro e w7 ⟨rfl, rfl⟩
                    go_wp2_with (fail)
                    refine (mail_b HMb.out m HTL.out.1 _ (mod_cell (Mod.trans Hd3.out HO6.out.m (fun _ h => h.elim)) HM.out)).mono ?_
                    rintro e w9 ⟨rfl, hd⟩
                    have Hd9 := Lib.hid (Mod.trans (Mod.trans Hd3.out HO6.out.m (fun _ h => h.elim)) hd (fun _ h => h.elim))
                    clear hd
                    obtain ⟨hadd, hs2, hs1⟩ := HADD.out
                    go_wp2
                    go_ret3
                    exact ⟨ret_val (by rw [HF.out]; rfl), Hd9.out⟩
                · have H58 := Lib.hid h58
                  rw [h58] at hsc
                  have HF : Hid (autoV (autoF l) = autoV (some (c :: q, c :: q))) := Lib.hid (by rw [HV2.out, link_scheme HB.out (by rw [hsc]; rfl)])
                  clear h58 hsc HV2
                  go_enter Tryd.func12, Tryd.ntmps12
                  go_wp2_with (fail)
                  refine (cp_b (t := [60]) HP.out hmp.out _).mono ?_
                  rintro e w1 ⟨rfl, rfl⟩
                  go_wp2_with (fail)
                  refine (hct _).mono ?_
                  rintro e w2 ⟨rfl, hd⟩
                  have Hd : Hid (Mod (fun _ => False) w w2) := Lib.hid hd.mod
                  clear hd
                  go_wp2_with (fail)
                  refine (cf_b HB.out _).mono ?_
                  rintro e w3 ⟨rfl, hd⟩
                  have Hd3 := Lib.hid (Hd.out.trans hd (fun _ h => h.elim))
                  clear hd Hd
                  go_wp2_with (fail)
                  refine (hi _).mono ?_
                  rintro e w5 ⟨rfl, rfl⟩
                  go_wp2_with (fail)
                  refine (some_n (o := [43, 46, 45]) (Scn.new _ _) HTL.out.2 HKZ.out.1 HKZ.out.2).mono ?_
                  rintro e w6 ⟨rfl, hd⟩
                  have HO6 := Lib.hid ((Own.new w3 (c :: q)).step hd)
                  clear hd
                  have hc6 := HO6.out.s.cell
                  go_wp2_with (fail)
                  refine (hp_b (t := [58]) H58.out _).mono ?_
                  rintro e w7 ⟨rfl, rfl⟩
                  go_wp2
                  go_ret3
                  exact ⟨ret_val (by rw [HF.out]; rfl), (Mod.trans Hd3.out HO6.out.m (fun _ h => h.elim))⟩
              · rw [decide_eq_true (show 2 ≤ k by omega), decide_eq_false (show ¬ k ≤ 32 by omega)] at hsc
                have HSH : Hid (schemeF (c :: q) = false) := Lib.hid (by rw [hsc]; simp)
                rcases hmb : mailF (c :: q) with _ | _
                · have HMb := Lib.hid hmb
                  have HF : Hid (autoV (autoF l) = autoV none) := Lib.hid (by rw [HV2.out, link_mail HB.out HSH.out, hmb]; rfl)
                  clear hmb HV2 hsc
                  go_enter Tryd.func12, Tryd.ntmps12
                  go_wp2_with (fail)
                  refine (cp_b (t := [60]) HP.out hmp.out _).mono ?_
                  rintro e w1 ⟨rfl, rfl⟩
                  go_wp2_with (fail)
                  refine (hct _).mono ?_
                  rintro e w2 ⟨rfl, hd⟩
                  have Hd : Hid (Mod (fun _ => False) w w2) := Lib.hid hd.mod
                  clear hd
                  go_wp2_with (fail)
                  refine (cf_b HB.out _).mono ?_
                  rintro e w3 ⟨rfl, hd⟩
                  have Hd3 := Lib.hid (Hd.out.trans hd (fun _ h => h.elim))
                  clear hd Hd
                  go_wp2_with (fail)
                  refine (hi _).mono ?_
                  rintro e w5 ⟨rfl, rfl⟩
                  go_wp2_with (fail)
                  refine (some_n (o := [43, 46, 45]) (Scn.new _ _) HTL.out.2 HKZ.out.1 HKZ.out.2).mono ?_
                  rintro e w6 ⟨rfl, hd⟩
                  have HO6 := Lib.hid ((Own.new w3 (c :: q)).step hd)
                  clear hd
                  have hc6 := HO6.out.s.cell
                  go_wp2_with (fail)
                  refine (mail_b HMb.out m HTL.out.1 _ (mod_cell (Mod.trans Hd3.out HO6.out.m (fun _ h => h.elim)) HM.out)).mono ?_
                  rintro e w9 ⟨rfl, hd⟩
                  have Hd9 := Lib.hid (Mod.trans (Mod.trans Hd3.out HO6.out.m (fun _ h => h.elim)) hd (fun _ h => h.elim))
                  clear hd
                  go_wp2
                  go_ret3
                  exact ⟨ret_val (by rw [HF.out]; rfl), Hd9.out⟩
                · have HMb := Lib.hid hmb
                  have HF : Hid (autoV (autoF l) = autoV (some (mailto ++ (c :: q), (c :: q)))) := Lib.hid (by rw [HV2.out, link_mail HB.out HSH.out, hmb]; rfl)
                  have HADD : Hid ((⟨#[109, 97, 105, 108, 116, 111, 58]⟩ : ByteArray) ++ sv (c :: q) = sv (mailto ++ (c :: q)) ∧ ((sv (c :: q)).size : Int) ≤ 8388608 ∧ (((⟨#[109, 97, 105, 108, 116, 111, 58]⟩ : ByteArray).size : Nat) : Int) ≤ 8388608) := Lib.hid (by
                    refine ⟨?_, by rw [sv_size]; omega, by show ((7 : Nat) : Int) ≤ 8388608; omega⟩
                    apply ByteArray.ext
                    apply Array.toList_inj.1
                    rw [ByteArray.data_append, Array.toList_append]
                    rfl)
                  clear hmb HV2 hsc
                  go_enter Tryd.func12, Tryd.ntmps12
                  go_wp2_with (fail)
                  refine (cp_b (t := [60]) HP.out hmp.out _).mono ?_
                  rintro e w1 ⟨rfl, rfl⟩
                  go_wp2_with (fail)
                  refine (hct _).mono ?_
                  rintro e w2 ⟨rfl, hd⟩
                  have Hd : Hid (Mod (fun _ => False) w w2) := Lib.hid hd.mod
                  clear hd
                  go_wp2_with (fail)
                  refine (cf_b HB.out _).mono ?_
                  rintro e w3 ⟨rfl, hd⟩
                  have Hd3 := Lib.hid (Hd.out.trans hd (fun _ h => h.elim))
                  clear hd Hd
                  go_wp2_with (fail)
                  refine (hi _).mono ?_
                  rintro e w5 ⟨rfl, rfl⟩
                  go_wp2_with (fail)
                  refine (some_n (o := [43, 46, 45]) (Scn.new _ _) HTL.out.2 HKZ.out.1 HKZ.out.2).mono ?_
                  rintro e w6 ⟨rfl, hd⟩
                  have HO6 := Lib.hid ((Own.new w3 (c :: q)).step hd)
                  clear hd
                  have hc6 := HO6.out.s.cell
                  go_wp2_with (fail)
                  refine (mail_b HMb.out m HTL.out.1 _ (mod_cell (Mod.trans Hd3.out HO6.out.m (fun _ h => h.elim)) HM.out)).mono ?_
                  rintro e w9 ⟨rfl, hd⟩
                  have Hd9 := Lib.hid (Mod.trans (Mod.trans Hd3.out HO6.out.m (fun _ h => h.elim)) hd (fun _ h => h.elim))
                  clear hd
                  obtain ⟨hadd, hs2, hs1⟩ := HADD.out
                  go_wp2
                  go_ret3
                  exact ⟨ret_val (by rw [HF.out]; rfl), Hd9.out⟩
            · rw [decide_eq_false (show ¬ 2 ≤ k by omega)] at hsc
              have HSH : Hid (schemeF (c :: q) = false) := Lib.hid (by rw [hsc]; simp)
              rcases hmb : mailF (c :: q) with _ | _
              · have HMb := Lib.hid hmb
                have HF : Hid (autoV (autoF l) = autoV none) := Lib.hid (by rw [HV2.out, link_mail HB.out HSH.out, hmb]; rfl)
                clear hmb HV2 hsc
                go_enter Tryd.func12, Tryd.ntmps12
                go_wp2_with (fail)
                refine (cp_b (t := [60]) HP.out hmp.out _).mono ?_
                rintro e w1 ⟨rfl, rfl⟩
                go_wp2_with (fail)
                refine (hct _).mono ?_
                rintro e w2 ⟨rfl, hd⟩
                have Hd : Hid (Mod (fun _ => False) w w2) := Lib.hid hd.mod
                clear hd
                go_wp2_with (fail)
                refine (cf_b HB.out _).mono ?_
                rintro e w3 ⟨rfl, hd⟩
                have Hd3 := Lib.hid (Hd.out.trans hd (fun _ h => h.elim))
                clear hd Hd
                go_wp2_with (fail)
                refine (hi _).mono ?_
                rintro e w5 ⟨rfl, rfl⟩
                go_wp2_with (fail)
                refine (some_n (o := [43, 46, 45]) (Scn.new _ _) HTL.out.2 HKZ.out.1 HKZ.out.2).mono ?_
                rintro e w6 ⟨rfl, hd⟩
                have HO6 := Lib.hid ((Own.new w3 (c :: q)).step hd)
                clear hd
                have hc6 := HO6.out.s.cell
                go_wp2_with (fail)
                refine (mail_b HMb.out m HTL.out.1 _ (mod_cell (Mod.trans Hd3.out HO6.out.m (fun _ h => h.elim)) HM.out)).mono ?_
                rintro e w9 ⟨rfl, hd⟩
                have Hd9 := Lib.hid (Mod.trans (Mod.trans Hd3.out HO6.out.m (fun _ h => h.elim)) hd (fun _ h => h.elim))
                clear hd
                go_wp2
                go_ret3
                exact ⟨ret_val (by rw [HF.out]; rfl), Hd9.out⟩
              · have HMb := Lib.hid hmb
                have HF : Hid (autoV (autoF l) = autoV (some (mailto ++ (c :: q), (c :: q)))) := Lib.hid (by rw [HV2.out, link_mail HB.out HSH.out, hmb]; rfl)
                have HADD : Hid ((⟨#[109, 97, 105, 108, 116, 111, 58]⟩ : ByteArray) ++ sv (c :: q) = sv (mailto ++ (c :: q)) ∧ ((sv (c :: q)).size : Int) ≤ 8388608 ∧ (((⟨#[109, 97, 105, 108, 116, 111, 58]⟩ : ByteArray).size : Nat) : Int) ≤ 8388608) := Lib.hid (by
                  refine ⟨?_, by rw [sv_size]; omega, by show ((7 : Nat) : Int) ≤ 8388608; omega⟩
                  apply ByteArray.ext
                  apply Array.toList_inj.1
                  rw [ByteArray.data_append, Array.toList_append]
                  rfl)
                clear hmb HV2 hsc
                go_enter Tryd.func12, Tryd.ntmps12
                go_wp2_with (fail)
                refine (cp_b (t := [60]) HP.out hmp.out _).mono ?_
                rintro e w1 ⟨rfl, rfl⟩
                go_wp2_with (fail)
                refine (hct _).mono ?_
                rintro e w2 ⟨rfl, hd⟩
                have Hd : Hid (Mod (fun _ => False) w w2) := Lib.hid hd.mod
                clear hd
                go_wp2_with (fail)
                refine (cf_b HB.out _).mono ?_
                rintro e w3 ⟨rfl, hd⟩
                have Hd3 := Lib.hid (Hd.out.trans hd (fun _ h => h.elim))
                clear hd Hd
                go_wp2_with (fail)
                refine (hi _).mono ?_
                rintro e w5 ⟨rfl, rfl⟩
                go_wp2_with (fail)
                refine (some_n (o := [43, 46, 45]) (Scn.new _ _) HTL.out.2 HKZ.out.1 HKZ.out.2).mono ?_
                rintro e w6 ⟨rfl, hd⟩
                have HO6 := Lib.hid ((Own.new w3 (c :: q)).step hd)
                clear hd
                have hc6 := HO6.out.s.cell
                go_wp2_with (fail)
                refine (mail_b HMb.out m HTL.out.1 _ (mod_cell (Mod.trans Hd3.out HO6.out.m (fun _ h => h.elim)) HM.out)).mono ?_
                rintro e w9 ⟨rfl, hd⟩
                have Hd9 := Lib.hid (Mod.trans (Mod.trans Hd3.out HO6.out.m (fun _ h => h.elim)) hd (fun _ h => h.elim))
                clear hd
                obtain ⟨hadd, hs2, hs1⟩ := HADD.out
                go_wp2
                go_ret3
                exact ⟨ret_val (by rw [HF.out]; rfl), Hd9.out⟩
      · have HB := Lib.hid hb
        have HF : Hid (autoV (autoF l) = autoV none) := Lib.hid (by rw [HV2.out, link_bad hb])
        clear hb HV2
        go_enter Tryd.func12, Tryd.ntmps12
        go_wp2_with (fail)
        refine (cp_b (t := [60]) HP.out hmp.out _).mono ?_
        rintro e w1 ⟨rfl, rfl⟩
        go_wp2_with (fail)
        refine (hct _).mono ?_
        rintro e w2 ⟨rfl, hd⟩
        have Hd : Hid (Mod (fun _ => False) w w2) := Lib.hid hd.mod
        clear hd
        go_wp2_with (fail)
        refine (cf_b HB.out _).mono ?_
        rintro e w3 ⟨rfl, hd⟩
        have Hd3 := Lib.hid (Hd.out.trans hd (fun _ h => h.elim))
        clear hd Hd
        go_wp2
        go_ret3
        exact ⟨ret_val (by rw [HF.out]; rfl), Hd3.out⟩
end Go.Proofs.YtkmidilaabgooaaDoor
